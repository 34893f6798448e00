/- Soundness of the operations that leave t. -/
import Derived.Test.YtmjkgajnpmiomaaGreatDoorLShbC
set_option linter.unusedSimpArgs false
set_option linter.unusedVariables false
namespace Go.Sha
def EnvSim (w:World)(A:Abs)(a:Act)(env:Env):Prop:=∀i v,look env i=some v→Rep w A (a.tmps.getD i undef) v
section
variable {w:World}{A:Abs}
theorem rep_constCell {v:Value}{d:V}(h:constCell v=some d):Rep w A v d∧v.oneCell'=true:=by
 unfold constCell at h
 split at h<;>simp at h<;>subst h<;>refine⟨?_,rfl⟩
 ·exact .bool _
 ·exact .int _ _
 ·rename_i s;exact .str s.data.toList
 ·exact .nilp
 ·exact .nils
 ·exact .nilf
 ·exact .nili
 ·exact .nilm
theorem rep_constCells:∀{vs:List Value}{ds:List V},constCells vs=some ds→vs.length=ds.length∧(∀v∈vs,v.oneCell'=true)∧∀(i:Nat) (v:Value) (c:V),vs[i]?=some v→ds[i]?=some c→Rep w A v c
 |[],ds,h=>by
  simp[constCells]at h;subst h
  exact⟨rfl,by simp,by simp⟩
 |v::vs,ds,h=>by
  simp only[constCells]at h
  split at h
  ·rename_i c cs hc hcs
   simp at h;subst h
   obtain⟨h1,h2,h3⟩:=rep_constCells hcs
   obtain⟨r1,r2⟩:=rep_constCell (w:=w) (A:=A) hc
   refine⟨by simp[h1],by simpa using⟨r2,h2⟩,fun i u c' hu hc'=>?_⟩
   cases i with
   |zero=>simp at hu hc';subst hu hc';exact r1
   |succ i=>simp at hu hc';exact h3 i u c' hu hc'
  ·cases h
theorem EnvSim.mono {w':World}{A':Abs}{a:Act}{env:Env}(h:EnvSim w A a env)(hx:Ext w A w' A'):EnvSim w' A' a env:=fun i v hv=>(h i v hv).mono hx
theorem rep_get {a:Act}{env:Env}(he:EnvSim w A a env){x:Operand}{o:Opd}(hx:opdOf x=some o):Rep w A (a.eval x) (o.get env):=by
 unfold opdOf at hx
 split at hx
 ·simp at hx;subst hx
  rename_i i
  simp only[Opd.get,Act.eval]
  cases h:look env i with
  |none=>simpa [h] using Rep.und _
  |some v=>simpa [h] using he i v h
 ·rename_i cs
  split at hx
  ·rename_i l hl
   simp at hx;subst hx
   obtain⟨h1,h2,h3⟩:=rep_constCells (w:=w) (A:=A) hl
   simp only[Opd.get,Act.eval]
   have:=Rep.agg (w:=w) (A:=A) cs.toList l h1 h2 h3
   simpa using this
  ·cases hx
 ·rename_i v hv
  simp at hx
  obtain⟨d,hd,rfl⟩:=hx
  exact(rep_constCell hd).1
 ·simp at hx;subst hx
  simp only[Opd.get,Act.eval]
  have:=Rep.fn (w:=w) (A:=A) (.func ‹_›) [] [] [] [] rfl rfl (by simp) (by simp)
  simpa using this
 ·cases hx
theorem reps_get {a:Act}{env:Env}(he:EnvSim w A a env):∀{xs:List Operand}{os:List Opd},opdsOf xs=some os→Reps w A (xs.map a.eval) (os.map (·.get env))
 |[],os,h=>by simp[opdsOf]at h;subst h;exact⟨rfl,by simp⟩
 |x::xs,os,h=>by
  simp only[opdsOf]at h
  split at h
  ·rename_i c cs hc hcs
   simp at h;subst h
   obtain⟨h1,h2⟩:=reps_get he hcs
   refine⟨by simpa using h1,fun i v d hv hd=>?_⟩
   cases i with
   |zero=>simp at hv hd;subst hv hd;exact rep_get he hc
   |succ i=>exact h2 i v d (by simpa using hv) (by simpa using hd)
  ·cases h
theorem Rep.bool_inv {v:Value}{b:Bool}(h:Rep w A v (.bool b)):v=.bool b:=by cases h;rfl
theorem Rep.int_inv {v:Value}{k:IntKind}{n:Int}(h:Rep w A v (.int k n)):v=.int k n:=by cases h;rfl
theorem Rep.str_inv {v:Value}{s:List UInt8}(h:Rep w A v (.str s)):v=.string ⟨s.toArray⟩:=by cases h;rfl
theorem Rep.ptr_inv {v:Value}{id off:Nat}(h:Rep w A v (.ptr id off)):id<A.nx∧v=.pointer (some ⟨A.loc id,off,none⟩):=by cases h;exact⟨‹_›,rfl⟩
theorem Rep.agg_inv {v:Value}{cs:List V}(h:Rep w A v (.agg cs)):∃vs:List Value,v=.agg vs.toArray∧vs.length=cs.length∧(∀v∈vs,v.oneCell'=true)∧∀(i:Nat) (v:Value) (c:V),vs[i]?=some v→cs[i]?=some c→Rep w A v c:=by
 cases h;exact⟨_,rfl,‹_›,‹_›,‹_›⟩
theorem Rep.tup_inv {v:Value}{cs:List V}(h:Rep w A v (.tup cs)):∃vs:List Value,v=.tuple vs.toArray∧vs.length=cs.length∧∀(i:Nat) (v:Value) (c:V),vs[i]?=some v→cs[i]?=some c→Rep w A v c:=by
 cases h;exact⟨_,rfl,‹_›,‹_›⟩
theorem Rep.cells_inv {st:St}(hs:Sim w A st){v:Value}{d:V}(h:Rep w A v d)(hu:partOk st d=true) :
  v.cells.size=d.cells.length∧(∀u∈v.cells.toList,u.oneCell'=true)∧∀(i:Nat) (u:Value) (c:V),v.cells[i]?=some u→d.cells[i]?=some c→Rep w A u c:=by
 cases h with
 |und=>simp[partOk]at hu
 |tup=>simp[partOk]at hu
 |op=>simp[partOk]at hu
 |win=>simp[partOk]at hu
 |osl id n v h hn hv =>
  simp only[partOk]at hu
  split at hu
  ·rename_i a ha
   have hk:=hs.arr id a ha
   have e:n=A.ln id:=by rw[hk.ln];exact(by simpa using hu:a.xs.length=n).symm
   have ev:=hv e
   have h1:∃x y z,v=.slice x y z:=by
    rcases hk.row with⟨r,_⟩|⟨g,cap,cur,r,_⟩
    ·exact⟨_,_,_,ev.trans r⟩
    ·exact⟨_,_,_,ev.trans r⟩
   obtain⟨x,y,z,rfl⟩:=h1
   refine⟨rfl,by simp[Value.cells,Value.oneCell'],fun i u c hu hc=>?_⟩
   cases i with
   |zero=>simp[Value.cells,V.cells]at hu hc;subst hu hc;exact .osl id n _ h hn hv
   |succ i=>simp[Value.cells]at hu
  ·cases hu
 |agg vs cs hl h1 hr=>exact⟨by simpa [Value.cells,V.cells] using hl,by simpa [Value.cells] using h1,by simpa [Value.cells,V.cells] using hr⟩
 |_ =>
  refine⟨rfl,by simp[Value.cells,Value.oneCell'],fun i u c hu hc=>?_⟩
  cases i with
  |zero=>simp[Value.cells,V.cells]at hu hc;subst hu hc;(constructor<;>assumption)
  |succ i=>simp[Value.cells]at hu
end
section
variable {P:Program}{w:World}{A:Abs}
def Cells (w:World)(A:Abs)(b o:Nat)(cs:List V):Prop:=∀(j:Nat) (c:V),cs[j]?=some c→∃v,w.cell? ⟨b,o+j,none⟩=some v∧v.oneCell'=true∧Rep w A v c
theorem addr_add (b o n:Nat):(⟨b,o,none⟩:Addr).add n=⟨b,o+n,none⟩:=by
 unfold Addr.add;split
 ·simp[*]
 ·rfl
theorem isAggB_eq {t:TypeId}{x:Bool}(h:isAggB P t=some x):(isAgg t).run P w=.ok x w:=by
 unfold isAggB at h
 unfold isAgg underlying
 split at h<;>simp_all
theorem sizeB_eq {t:TypeId}{n:Nat}(h:sizeB P t=some n):(sizeOf t).run P w=.ok n w:=by
 unfold sizeB at h
 unfold sizeOf typeInfo
 cases hi:P.info? t with
 |none=>simp[hi]at h
 |some i=>simp[hi]at h;simp[hi,h]
theorem cellsB_none {t:TypeId}(h:cellsB P t=some none):isAggB P t=some false:=by
 unfold cellsB at h
 split at h<;>simp_all
theorem cellsB_some {t:TypeId}{n:Nat}(h:cellsB P t=some (some n)):isAggB P t=some true∧sizeB P t=some n:=by
 unfold cellsB at h
 split at h<;>simp_all
theorem run_loadVar_rd {t:TypeId}{n:Option Nat}(ht:cellsB P t=some n){b o off:Nat}{cs:List V}(hc:Cells w A b o cs){d:V}(hd:rd n cs off=some d) :
  ∃u,(loadVar t ⟨b,o+off,none⟩).run P w=.ok u w∧Rep w A u d:=by
 cases n with
 |none =>
  simp only[rd]at hd
  obtain⟨v,h1,h2,h3⟩:=hc off d hd
  refine⟨v,?_,h3⟩
  simp[loadVar,isAggB_eq (cellsB_none ht),h1]
 |some n =>
  simp only[rd]at hd
  split at hd
  ·rename_i hle
   simp at hd;subst hd
   obtain⟨t1,t2⟩:=cellsB_some ht
   let vs:=(List.range n).map fun j=>(w.cell? ⟨b,o+off+j,none⟩).getD undef
   have hl:vs.length=n:=by simp[vs]
   have hv:∀(j:Nat),j<n→∃c v,cs[off+j]?=some c∧w.cell? ⟨b,o+off+j,none⟩=some v∧v.oneCell'=true∧Rep w A v c∧vs[j]?=some v:=by
    intro j hj
    have hlt:off+j<cs.length:=by omega
    obtain⟨v,h1,h2,h3⟩:=hc (off+j) cs[off+j] (List.getElem?_eq_getElem hlt)
    rw[←Nat.add_assoc]at h1
    exact⟨_,v,List.getElem?_eq_getElem hlt,h1,h2,h3,by simp[vs,hj,h1]⟩
   refine⟨.agg vs.toArray,?_,?_⟩
   ·have h:=run_loadCells_list (P:=P) (w:=w) ⟨b,o+off,none⟩ vs (fun j v hj=>by
     have hjn:j<n:=by have:=(List.getElem?_eq_some_iff.1 hj).1;omega
     obtain⟨c,v',_,h1,_,_,h4⟩:=hv j hjn
     rw[addr_add,h1];rw[h4]at hj;exact hj)
    rw[hl]at h
    simp[loadVar,isAggB_eq t1,sizeB_eq t2,h]
   ·refine .agg vs _ (by simp[hl];omega) (fun v hv'=>?_) (fun i v c h1 h2=>?_)
    ·obtain⟨j,hj⟩:=List.mem_iff_getElem?.1 hv'
     have hjn:j<n:=by have:=(List.getElem?_eq_some_iff.1 hj).1;omega
     obtain⟨c,v',_,_,h2,_,h4⟩:=hv j hjn
     rw[h4]at hj;simp at hj;rw[←hj];exact h2
    ·have hjn:i<n:=by have:=(List.getElem?_eq_some_iff.1 h1).1;omega
     obtain⟨c',v',g1,_,_,g3,g4⟩:=hv i hjn
     rw[g4]at h1;simp at h1;rw[←h1]
     rw[List.getElem?_take_of_lt hjn,List.getElem?_drop,g1]at h2
     simp at h2;rw[←h2];exact g3
  ·cases hd
theorem Cells.of_mem {id:Nat}{cs:List V}(h:MemOk w A id cs):Cells w A (A.loc id) 0 cs:=by
 intro j c hj
 obtain⟨vs,T,h1,h2,h3,h4⟩:=h.row
 have hlt:j<vs.size:=by have:=(List.getElem?_eq_some_iff.1 hj).1;omega
 refine⟨vs[j],?_,h3 _ (by simp),h4 j _ _ (by simp[hlt]) hj⟩
 rw[cell_of_row w _ _ vs T _ h1];simp[hlt]
theorem Cells.of_arr {st:St}(hs:Sim w A st){id:Nat}{a:Arr}(ha:look st.arr id=some a){g cap i:Nat}(hg:A.sv id=.slice (some ⟨g,0,none⟩) a.xs.length cap){x:V}(hx:a.xs[i]?=some x) :
  Cells w A g (i*a.es) x.cells:=by
 have hk:=hs.arr id a ha
 rcases hk.row with⟨r,_⟩|⟨g',cap',cur,r1,r2,r3,r4,r5,r6,r7,r8,r10⟩
 ·rw[hg]at r;cases r
 ·rw[hg]at r1;cases r1
  intro j c hj
  obtain⟨v,h1,h0,h2⟩:=r10 i j x c hx hj
  refine⟨v,?_,h0,h2⟩
  rw[cell_of_row w _ _ cur a.e _ r2];exact h1
end
end Go.Sha
