/- Shadow values. -/
import Derived.WalkKit
import Derived.WalkSpells
import Derived.WalkLawsBesides
set_option linter.unusedSimpArgs false
set_option linter.unusedVariables false
namespace Go.Sha
theorem idq {α:Sort _}{a b:α}(h:a=b):a=b:=h
inductive V where
 |und
 |bool (b:Bool)
 |int (k:IntKind) (n:Int)
 |str (s:List UInt8)
 |nilp
 |ptr (id off:Nat)
 |nils
 |sl (xs:List V)
 |clip (xs:List V)
 |osl (id n:Nat)
 |ep (x:V) (off:Nat)
 |op (id n i es off:Nat)
 |win (id n l h es:Nat)
 |agg (cs:List V)
 |tup (vs:List V)
 |fn (f:Fn) (first cap:List V)
 |nilf
 |iface (t:TypeId) (v:V)
 |nili
 |mp (id:Nat)
 |nilm
 |mpc (ks vs:List V)
 deriving Inhabited
def V.cells:V→List V
 | .agg cs=>cs
 |v=>[v]
structure Abs where
 C:Nat→Nat→Prop
 own:Nat→Option Nat
 loc:Nat→Nat
 sv:Nat→Value
 ln:Nat→Nat
 nx:Nat
inductive Rep (w:World) (A:Abs):Value→V→Prop
 |und (v:Value):Rep w A v .und
 |bool (b:Bool):Rep w A (.bool b) (.bool b)
 |int (k:IntKind) (n:Int):Rep w A (.int k n) (.int k n)
 |str (s:List UInt8):Rep w A (.string ⟨s.toArray⟩) (.str s)
 |nilp:Rep w A (.pointer none) .nilp
 |ptr (id off:Nat) (h:id<A.nx):Rep w A (.pointer (some ⟨A.loc id,off,none⟩)) (.ptr id off)
 |nils:Rep w A (.slice none 0 0) .nils
 |sl (xs:List V) (b o cap es:Nat) (cell:Nat→Nat→Value) (hes:∀x∈xs,x.cells.length=es) (hcap:xs.length≤cap) (hm:cap≤maxLen)
   (hC:∀(i j:Nat) (x c:V),xs[i]?=some x→x.cells[j]?=some c→A.C b (o+(i*es+j))∧w.cell? ⟨b,o+(i*es+j),none⟩=some (cell i j)∧(cell i j).oneCell'=true)
   (hr:∀(i j:Nat) (x c:V),xs[i]?=some x→x.cells[j]?=some c→Rep w A (cell i j) c) :
   Rep w A (.slice (some ⟨b,o,none⟩) xs.length cap) (.sl xs)
 |slnil (a:Option Addr):Rep w A (.slice a 0 0) (.sl [])
 |clip (a:Option Addr) (xs:List V) (h:Rep w A (.slice a xs.length xs.length) (.sl xs)):Rep w A (.slice a xs.length xs.length) (.clip xs)
 |osl (id n:Nat) (v:Value) (h:id<A.nx) (hn:n≤A.ln id) (hv:n=A.ln id→v=A.sv id):Rep w A v (.osl id n)
 |ep (x:V) (off b o:Nat) (cell:Nat→Value)
   (hC:∀(j:Nat) (c:V),x.cells[j]?=some c→A.C b (o+j)∧w.cell? ⟨b,o+j,none⟩=some (cell j)∧(cell j).oneCell'=true)
   (hr:∀(j:Nat) (c:V),x.cells[j]?=some c→Rep w A (cell j) c) :
   Rep w A (.pointer (some ⟨b,o+off,none⟩)) (.ep x off)
 |op (id n i es off:Nat) (v:Value) (h:id<A.nx) (hn:n≤A.ln id)
   (hv:n=A.ln id→∀g cap,A.sv id=.slice (some ⟨g,0,none⟩) n cap→v=.pointer (some ⟨g,i*es+off,none⟩)):Rep w A v (.op id n i es off)
 |win (id n l h es:Nat) (v:Value) (hid:id<A.nx) (hn:n≤A.ln id)
   (hv:n=A.ln id→(∀g cap,A.sv id=.slice (some ⟨g,0,none⟩) n cap→v=.slice (if cap=l then some ⟨g,0,none⟩ else some ⟨g,l*es,none⟩) (h-l) (cap-l))∧(A.sv id=.slice none 0 0→v=.slice none 0 0)):Rep w A v (.win id n l h es)
 |agg (vs:List Value) (cs:List V) (hl:vs.length=cs.length) (h1:∀v∈vs,v.oneCell'=true)
   (hr:∀(i:Nat) (v:Value) (c:V),vs[i]?=some v→cs[i]?=some c→Rep w A v c):Rep w A (.agg vs.toArray) (.agg cs)
 |tup (vs:List Value) (cs:List V) (hl:vs.length=cs.length)
   (hr:∀(i:Nat) (v:Value) (c:V),vs[i]?=some v→cs[i]?=some c→Rep w A v c):Rep w A (.tuple vs.toArray) (.tup cs)
 |fn (f:Fn) (vs us:List Value) (cs ds:List V) (hl:vs.length=cs.length) (hk:us.length=ds.length)
   (hr:∀(i:Nat) (v:Value) (c:V),vs[i]?=some v→cs[i]?=some c→Rep w A v c) (hs:∀(i:Nat) (v:Value) (c:V),us[i]?=some v→ds[i]?=some c→Rep w A v c) :
   Rep w A (.func f vs.toArray us.toArray) (.fn f cs ds)
 |nilf:Rep w A .nilFunc .nilf
 |iface (t:TypeId) (v:Value) (d:V) (h:Rep w A v d):Rep w A (.iface t v) (.iface t d)
 |nili:Rep w A .nilIface .nili
 |mp (id:Nat) (h:id<A.nx):Rep w A (.map (some (A.loc id))) (.mp id)
 |nilm:Rep w A (.map none) .nilm
 |mpc (b:Nat) (ms:Array MapEntry) (clock:Nat) (ks vs:List V) (ho:A.C b 0) (hh:w.heap[b]?=some (.map ms clock)) (hl:ms.size=ks.length) (hk:ms.size=vs.length)
   (hr:∀(i:Nat) (m:MapEntry) (c:V),ms[i]?=some m→ks[i]?=some c→Rep w A m.key c) (hs:∀(i:Nat) (m:MapEntry) (c:V),ms[i]?=some m→vs[i]?=some c→Rep w A m.val c):Rep w A (.map (some b)) (.mpc ks vs)
structure Ext (w:World) (A:Abs) (w':World) (A':Abs):Prop where
 nx:A.nx≤A'.nx
 loc:∀id,id<A.nx→A'.loc id=A.loc id
 ln:∀id,id<A.nx→A.ln id≤A'.ln id
 sv:∀id,id<A.nx→A'.ln id=A.ln id→A'.sv id=A.sv id
 C:∀b o,A.C b o→A'.C b o∧w'.cell? ⟨b,o,none⟩=w.cell? ⟨b,o,none⟩
 own:∀b,b<w.heap.size→A.own b=none→A'.own b=none
 size:w.heap.size≤w'.heap.size
 os:w'.os=w.os
 tape:w'.tape=w.tape
 output:w'.output=w.output
 fr:∀b,b<w.heap.size→A.own b=none→w'.heap[b]?=w.heap[b]?
 cold:∀b o,b<w.heap.size→A.own b=none→A'.C b o→A.C b o
 mc:∀b ms c,A.C b 0→w.heap[b]?=some (.map ms c)→w'.heap[b]?=some (.map ms c)
theorem Ext.refl (w:World)(A:Abs):Ext w A w A :=
 ⟨Nat.le_refl _,fun _ _=>rfl,fun _ _=>Nat.le_refl _,fun _ _ _=>rfl,fun _ _ h=>⟨h,rfl⟩,fun _ _ h=>h,Nat.le_refl _,rfl,rfl,rfl,fun _ _ _=>rfl,fun _ _ _ _ h=>h,fun _ _ _ _ h=>h⟩
theorem Ext.trans {w w' w'':World}{A A' A'':Abs}(h:Ext w A w' A')(k:Ext w' A' w'' A''):Ext w A w'' A'' where
 nx:=Nat.le_trans h.nx k.nx
 loc id hi:=(k.loc id (Nat.lt_of_lt_of_le hi h.nx)).trans (h.loc id hi)
 ln id hi:=Nat.le_trans (h.ln id hi) (k.ln id (Nat.lt_of_lt_of_le hi h.nx))
 sv id hi he:=by
  have h1:=h.ln id hi
  have h2:=k.ln id (Nat.lt_of_lt_of_le hi h.nx)
  have e1:A'.ln id=A.ln id:=by omega
  have e2:A''.ln id=A'.ln id:=by omega
  exact(k.sv id (Nat.lt_of_lt_of_le hi h.nx) e2).trans (h.sv id hi e1)
 C b o hc:=by
  obtain⟨h1,h2⟩:=h.C b o hc
  obtain⟨k1,k2⟩:=k.C b o h1
  exact⟨k1,k2.trans h2⟩
 own b hb ho:=k.own b (Nat.lt_of_lt_of_le hb h.size) (h.own b hb ho)
 size:=Nat.le_trans h.size k.size
 os:=k.os.trans h.os
 tape:=k.tape.trans h.tape
 output:=k.output.trans h.output
 fr b hb ho:=(k.fr b (Nat.lt_of_lt_of_le hb h.size) (h.own b hb ho)).trans (h.fr b hb ho)
 cold b o hb ho hc:=h.cold b o hb ho (k.cold b o (Nat.lt_of_lt_of_le hb h.size) (h.own b hb ho) hc)
 mc b ms c hc hh:=k.mc b ms c (h.C b 0 hc).1 (h.mc b ms c hc hh)
theorem Rep.mono {w w':World}{A A':Abs}(hx:Ext w A w' A'){v:Value}{d:V}(h:Rep w A v d):Rep w' A' v d:=by
 induction h with
 |und v=>exact .und v
 |bool b=>exact .bool b
 |int k n=>exact .int k n
 |str s=>exact .str s
 |nilp=>exact .nilp
 |ptr id off h=>rw[←hx.loc id h];exact .ptr id off (Nat.lt_of_lt_of_le h hx.nx)
 |nils=>exact .nils
 |sl xs b o cap es cell hes hcap hm hC hr ih =>
  refine .sl xs b o cap es cell hes hcap hm (fun i j x c hi hj=>?_) ih
  obtain⟨h1,h2,h3⟩:=hC i j x c hi hj
  obtain⟨k1,k2⟩:=hx.C _ _ h1
  exact⟨k1,k2.trans h2,h3⟩
 |slnil a=>exact .slnil a
 |clip a xs h ih=>exact .clip a xs ih
 |osl id n v h hn hv =>
  have:=hx.ln id h
  refine .osl id n v (Nat.lt_of_lt_of_le h hx.nx) (by omega) (fun e=>?_)
  have e1:n=A.ln id:=by omega
  rw[hx.sv id h (by omega)]
  exact hv e1
 |ep x off b o cell hC hr ih =>
  refine .ep x off b o cell (fun j c hj=>?_) ih
  obtain⟨h1,h2,h3⟩:=hC j c hj
  obtain⟨k1,k2⟩:=hx.C _ _ h1
  exact⟨k1,k2.trans h2,h3⟩
 |op id n i es off v h hn hv =>
  have:=hx.ln id h
  refine .op id n i es off v (Nat.lt_of_lt_of_le h hx.nx) (by omega) (fun e g cap hs=>?_)
  have e1:n=A.ln id:=by omega
  rw[hx.sv id h (by omega)]at hs
  exact hv e1 g cap hs
 |win id n l h es v hid hn hv =>
  have:=hx.ln id hid
  refine .win id n l h es v (Nat.lt_of_lt_of_le hid hx.nx) (by omega) (fun e=>?_)
  have e1:n=A.ln id:=by omega
  have e2:=hx.sv id hid (by omega)
  exact⟨fun g cap hs=>(hv e1).1 g cap (by rw[←e2];exact hs),fun hs=>(hv e1).2 (by rw[←e2];exact hs)⟩
 |agg vs cs hl h1 hr ih=>exact .agg vs cs hl h1 ih
 |tup vs cs hl hr ih=>exact .tup vs cs hl ih
 |fn f vs us cs ds hl hk hr hs ih ih2=>exact .fn f vs us cs ds hl hk ih ih2
 |nilf=>exact .nilf
 |iface t v d h ih=>exact .iface t v d ih
 |nili=>exact .nili
 |mp id h=>rw[←hx.loc id h];exact .mp id (Nat.lt_of_lt_of_le h hx.nx)
 |nilm=>exact .nilm
 |mpc b ms clock ks vs ho hh hl hk hr hs ih ih2 =>
  exact .mpc b ms clock ks vs (hx.C b 0 ho).1 (hx.mc b ms clock ho hh) hl hk ih ih2
structure Arr where
 e:TypeId
 es:Nat
 xs:List V
 wr:Bool
 fz:Bool
def look {α:Type}:List (Nat×α)→Nat→Option α
 |[],_=>none
 |(j,a)::r,i=>if j=i then some a else look r i
inductive Ob where
 |map (es:List (V×V))
 |iter (m n:Nat) (seen:List Nat)
structure Ex where
 obj:List (Nat×Ob)
 gl:List (Nat×Obj)
 ty:List (Nat×TypeId)
structure St where
 nx:Nat
 mem:List (Nat×List V)
 arr:List (Nat×Arr)
 x:Ex
def rowAt (w:World)(g:Nat)(e:TypeId)(fz:Bool)(cur:Array Value):Prop :=
 w.heap[g]?=some (.cells cur e (if fz then(cur.size,cur.size+1) else(0,0)))
structure MemOk (w:World) (A:Abs) (id:Nat) (cs:List V):Prop where
 lt:id<A.nx
 row:∃vs T,w.heap[A.loc id]?=some (.cells vs T (0,0))∧vs.size=cs.length∧(∀v∈vs.toList,v.oneCell'=true)∧∀(i:Nat) (v:Value) (c:V),vs[i]?=some v→cs[i]?=some c→Rep w A v c
 own:A.own (A.loc id)=some id
 noC:∀o,¬A.C (A.loc id) o
structure ArrOk (w:World) (A:Abs) (id:Nat) (a:Arr):Prop where
 lt:id<A.nx
 ln:A.ln id=a.xs.length
 es:∀x∈a.xs,x.cells.length=a.es
 row:(A.sv id=.slice none 0 0∧a.xs=[]∧a.fz=false)∨∃g cap cur,A.sv id=.slice (some ⟨g,0,none⟩) a.xs.length cap∧rowAt w g a.e a.fz cur∧a.xs.length≤cap∧cap≤maxLen∧cur.size=cap*a.es ∧
  A.own g=some id∧(∀o,a.xs.length*a.es≤o→¬A.C g o)∧(∀o,o<a.xs.length*a.es→(A.C g o↔a.wr=false)) ∧
  ∀(i j:Nat) (x c:V),a.xs[i]?=some x→x.cells[j]?=some c→∃v,cur[i*a.es+j]?=some v∧v.oneCell'=true∧Rep w A v c
def Ob.at (w:World)(A:Abs)(id:Nat):Ob→Prop
 | .map es=>∃ms clock,w.heap[A.loc id]?=some (.map ms clock)∧A.own (A.loc id)=some id∧ms.size=es.length∧ms.size=clock ∧
   (∀(i:Nat) (m:MapEntry),ms[i]?=some m→m.born=i) ∧
   ∀(i:Nat) (m:MapEntry) (c:V×V),ms[i]?=some m→es[i]?=some c→Rep w A m.key c.1∧Rep w A m.val c.2
 | .iter m n seen=>m<A.nx∧A.own (A.loc id)=some id∧w.heap[A.loc id]?=some (.mapIter (some (A.loc m)) n seen.toArray n)
structure ObOk (w:World) (A:Abs) (id:Nat) (o:Ob):Prop where
 lt:id<A.nx
 row:o.at w A id
 noC:∀g,A.own g=some id→∀k,¬A.C g k
structure TyOk (w:World) (A:Abs) (id:Nat) (T:TypeId):Prop where
 lt:id<A.nx
 own:A.own (A.loc id)=some id
 row:∃vs fz,w.heap[A.loc id]?=some (.cells vs T fz)
structure ExOk (w:World) (A:Abs) (st:St):Prop where
 obj:∀id o,look st.x.obj id=some o→ObOk w A id o∧look st.mem id=none∧look st.arr id=none
 gl:∀p∈st.x.gl,w.heap[p.1]?=some p.2∧A.own p.1=none
 ty:∀id T,look st.x.ty id=some T→TyOk w A id T∧look st.arr id=none
structure Sim (w:World) (A:Abs) (st:St):Prop where
 nx:st.nx=A.nx
 mem:∀id cs,look st.mem id=some cs→MemOk w A id cs
 arr:∀id a,look st.arr id=some a→ArrOk w A id a
 Clt:∀b o,A.C b o→b<w.heap.size
 ownlt:∀b id,A.own b=some id→b<w.heap.size∧id<A.nx
 disj:∀id cs ar,look st.mem id=some cs→look st.arr id=some ar→False
 x:ExOk w A st
def Reps (w:World)(A:Abs)(vs:List Value)(ds:List V):Prop:=vs.length=ds.length∧∀(i:Nat) (v:Value) (c:V),vs[i]?=some v→ds[i]?=some c→Rep w A v c
theorem Reps.mono {w w':World}{A A':Abs}(hx:Ext w A w' A'){vs:List Value}{ds:List V}(h:Reps w A vs ds):Reps w' A' vs ds :=
 ⟨h.1,fun i v c h1 h2=>(h.2 i v c h1 h2).mono hx⟩
theorem Ext.drewN (w:World)(A:Abs)(n:Nat):Ext w A { w with drawn:=n } A :=
 ⟨Nat.le_refl _,fun _ _=>rfl,fun _ _=>Nat.le_refl _,fun _ _ _=>rfl,fun _ _ h=>⟨h,rfl⟩,fun _ _ h=>h,Nat.le_refl _,rfl,rfl,rfl,fun _ _ _=>rfl,fun _ _ _ _ h=>h,fun _ _ _ _ h=>h⟩
theorem MemOk.of_heap {w w':World}{A A':Abs}{id:Nat}{cs:List V}(h:MemOk w A id cs)(hx:Ext w A w' A')(hown:A'.own (A.loc id)=some id)(hheap:w'.heap[A.loc id]?=w.heap[A.loc id]?)
  (hC:∀o,¬A'.C (A.loc id) o):MemOk w' A' id cs where
 lt:=Nat.lt_of_lt_of_le h.lt hx.nx
 row:=by
  obtain⟨vs,T,h1,h2,h3,h4⟩:=h.row
  rw[hx.loc id h.lt]
  exact⟨vs,T,hheap.trans h1,h2,h3,fun i v c hv hc=>(h4 i v c hv hc).mono hx⟩
 own:=by rw[hx.loc id h.lt];exact hown
 noC:=by rw[hx.loc id h.lt];exact hC
theorem ObOk.of_heap {w w':World}{A A':Abs}{id:Nat}{o:Ob}(h:ObOk w A id o)(hx:Ext w A w' A')
  (hg:∀g,A.own g=some id→A'.own g=some id∧w'.heap[g]?=w.heap[g]?) (hC:∀g,A'.own g=some id→∀k,¬A'.C g k):ObOk w' A' id o where
 lt:=Nat.lt_of_lt_of_le h.lt hx.nx
 noC:=hC
 row:=by
  have hl:=hx.loc id h.lt
  have hr:=h.row
  cases o with
  |map es =>
   obtain⟨ms,clock,h1,h2,h3,h4,h5,h6⟩:=hr
   obtain⟨g1,g2⟩:=hg _ h2
   refine⟨ms,clock,by rw[hl,g2];exact h1,by rw[hl];exact g1,h3,h4,h5,fun i m c hm hc=>?_⟩
   obtain⟨k1,k2⟩:=h6 i m c hm hc
   exact⟨k1.mono hx,k2.mono hx⟩
  |iter m n seen =>
   obtain⟨h1,h2,h3⟩:=hr
   obtain⟨g1,g2⟩:=hg _ h2
   exact⟨Nat.lt_of_lt_of_le h1 hx.nx,by rw[hl];exact g1,by rw[hl,g2,hx.loc m h1];exact h3⟩
theorem TyOk.of_heap {w w':World}{A A':Abs}{id:Nat}{T:TypeId}(h:TyOk w A id T)(hx:Ext w A w' A')(hown:A'.own (A.loc id)=some id)
  (hheap:∀vs fz,w.heap[A.loc id]?=some (.cells vs T fz)→∃vs' fz',w'.heap[A.loc id]?=some (.cells vs' T fz')):TyOk w' A' id T:=by
 obtain⟨vs,fz,hr⟩:=h.row
 have hl:=hx.loc id h.lt
 exact⟨Nat.lt_of_lt_of_le h.lt hx.nx,by rw[hl];exact hown,by rw[hl];exact hheap vs fz hr⟩
theorem Ext.gl {w w':World}{A A':Abs}(hx:Ext w A w' A'){b:Nat}{o:Obj}(h:w.heap[b]?=some o∧A.own b=none):w'.heap[b]?=some o∧A'.own b=none:=by
 have hlt:b<w.heap.size:=(Array.getElem?_eq_some_iff.1 h.1).1
 exact⟨(hx.fr b hlt h.2).trans h.1,hx.own b hlt h.2⟩
theorem ExOk.of {w w':World}{A A':Abs}{st st':St}(h:ExOk w A st)(hx:Ext w A w' A')(e:st'.x=st.x)
  (hg:∀id o,look st.x.obj id=some o→(∀g,A.own g=some id→A'.own g=some id∧w'.heap[g]?=w.heap[g]?)∧∀g,A'.own g=some id→∀k,¬A'.C g k)
  (hm:∀id o,look st.x.obj id=some o→look st'.mem id=none∧look st'.arr id=none)
  (hlt:∀b id,A.own b=some id→b<w.heap.size) (ht:∀id T,look st.x.ty id=some T→look st.arr id=none→look st'.arr id=none∧∀vs fz,w.heap[A.loc id]?=some (.cells vs T fz)→∃vs' fz',w'.heap[A.loc id]?=some (.cells vs' T fz'))
  (hf:∀b id,A.own b=some id→look st.arr id=none→A'.own b=some id:=by exact fun _ _ h _=>h):ExOk w' A' st' where
 obj id o ho:=by
  rw[e]at ho
  obtain⟨g1,g2⟩:=hg id o ho
  obtain⟨m1,m2⟩:=hm id o ho
  exact⟨(h.obj id o ho).1.of_heap hx g1 g2,m1,m2⟩
 gl p hp:=by rw[e]at hp;exact hx.gl (h.gl p hp)
 ty id T hl:=by
  rw[e]at hl
  obtain⟨h1,h2⟩:=h.ty id T hl
  obtain⟨h3,h4⟩:=ht id T hl h2
  exact⟨h1.of_heap hx (hf _ _ h1.own h2) h4,h3⟩
theorem ExOk.same {w w':World}{A A':Abs}{st st':St}(h:ExOk w A st)(hx:Ext w A w' A')(e:st'.x=st.x)(how:∀b id,A.own b=some id→b<w.heap.size∧id<A.nx)
  (hh:∀b,b<w.heap.size→w'.heap[b]?=w.heap[b]?) (ho:∀b id,A'.own b=some id→id<A.nx→A.own b=some id) (hC:∀b k,b<w.heap.size→A'.C b k→A.C b k)
  (hm:∀id,id<A.nx→look st.mem id=none→look st'.mem id=none) (ha:∀id,id<A.nx→look st.arr id=none→look st'.arr id=none)
  (hf:∀b id,A.own b=some id→A'.own b=some id:=by exact fun _ _ h=>h):ExOk w' A' st' :=
 h.of hx e (fun id o hl=>by
  have hk:=(h.obj id o hl).1
  refine⟨fun g hg=>?_,fun g hg k hc=>?_⟩
  ·have hb:=(how g id hg).1
   exact⟨hf g id hg,hh g hb⟩
  ·have hg':=ho g id hg hk.lt
   exact hk.noC g hg' k (hC g k (how g id hg').1 hc))
  (fun id o hl=>by
   obtain⟨hk,m1,m2⟩:=h.obj id o hl
   exact⟨hm id hk.lt m1,ha id hk.lt m2⟩)
  (fun b id h=>(how b id h).1) (fun id T hl hn=>by
   have hk:=(h.ty id T hl).1
   exact⟨ha id hk.lt hn,fun vs fz hr=>⟨vs,fz,by rw[hh _ (how _ _ hk.own).1];exact hr⟩⟩) fun b i h _=>hf b i h
inductive VRes where
 |ret (v:V)
 |pan (v:V)
def EndRel (w:World)(A:Abs):Ending→VRes→Prop
 | .returned v,.ret d=>Rep w A v d
 | .panicked ch,.pan d=>∃v,ch=[{ v,recovered:=false }]∧Rep w A v d
 |_,_=>False
def Callable (P:Program)(f:FuncId):Prop:=∃fn,P.funcs[f]?=some fn∧(fn.name == "runtime.NumGoroutine")=false∧fn.body.isNone=false
def VCalls (P:Program)(f:FuncId)(args:List V)(st:St)(R:VRes→St→Prop):Prop :=
 (Callable P f∧∀w A vs,Sim w A st→Reps w A vs args→Calls P f vs.toArray w fun e w'=>∃r A' st',R r st'∧EndRel w' A' e r∧Sim w' A' st'∧Ext w A w' A')
 ∨ ∀w A vs,Sim w A st→Reps w A vs args→∃v w',(callFunc f vs.toArray).run P w=.ok (.value v) w'∧∃r A' st',R r st'∧EndRel w' A' (.returned v) r∧Sim w' A' st'∧Ext w A w' A'
theorem VCalls.mono {P:Program}{f:FuncId}{args:List V}{st:St}{R R':VRes→St→Prop}(h:VCalls P f args st R)(hr:∀r s,R r s→R' r s):VCalls P f args st R':=by
 rcases h with h|h
 ·exact .inl ⟨h.1,fun w A vs hs ha=>(h.2 w A vs hs ha).mono fun _ _ ⟨r,A',s,h1,h2⟩=>⟨r,A',s,hr _ _ h1,h2⟩⟩
 ·exact .inr fun w A vs hs ha=>by
   obtain⟨v,w',h1,r,A',s,h2,h3⟩:=h w A vs hs ha
   exact⟨v,w',h1,r,A',s,hr _ _ h2,h3⟩
def VRet (P:Program)(f:FuncId)(args:List V)(st:St)(r:V)(st':St):Prop:=VCalls P f args st fun x s=>x=.ret r∧s=st'
end Go.Sha
