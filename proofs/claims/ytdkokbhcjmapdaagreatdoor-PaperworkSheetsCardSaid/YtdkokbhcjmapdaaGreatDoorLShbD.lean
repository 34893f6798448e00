/- Soundness of the operations that leave t. -/
import Derived.Test.YtdkokbhcjmapdaaGreatDoorLShbB
import Derived.Laws.StructEq
set_option linter.unusedSimpArgs false
set_option linter.unusedVariables false
namespace Go.Sha
def rd (n:Option Nat)(cs:List V)(off:Nat):Option V:=match n with
 |none=>cs[off]?
 |some n=>if off+n≤cs.length then some (.agg ((cs.drop off).take n)) else none
def partOk (st:St):V→Bool
 | .und=>false
 | .tup _=>false
 | .op ..=>false
 | .osl id n=>match look st.arr id with
  |some a=>a.xs.length == n
  |none=>false
 |_=>true
def fillV (st:St)(cells:List V):List (Nat×Nat×V)→Option (List V)
 |[]=>some cells
 |(off,n,v)::r=>if partOk st v=true∧v.cells.length=n∧off+n≤cells.length then fillV st (cells.take off++v.cells++cells.drop (off+n)) r else none
def bitsV (op:BinOp)(k:IntKind)(a b:Int):Int :=
 let x:=BitVec.ofInt k.bits a
 let y:=BitVec.ofInt k.bits b
 match op with
 | .and=>k.wrap (x &&& y).toNat
 | .or=>k.wrap (x ||| y).toNat
 | .xor=>k.wrap (x ^^^ y).toNat
 |_=>k.wrap (x &&& ~~~y).toNat
def binV:BinOp→V→V→Option V
 | .shl,.int k a,.int _ b=>if b<0 then none else some (.int k (k.wrap (a*2 ^ (min b.toNat k.bits))))
 | .shr,.int k a,.int _ b=>if b<0 then none else some (.int k (a.fdiv (2 ^ (min b.toNat k.bits))))
 | .add,.int k a,.int k' b=>if k=k' then some (.int k (k.wrap (a+b))) else none
 | .sub,.int k a,.int k' b=>if k=k' then some (.int k (k.wrap (a-b))) else none
 | .mul,.int k a,.int k' b=>if k=k' then some (.int k (k.wrap (a*b))) else none
 | .quo,.int k a,.int k' b=>if k=k'∧b≠0 then some (.int k (k.wrap (a.tdiv b))) else none
 | .rem,.int k a,.int k' b=>if k=k'∧b≠0 then some (.int k (a.tmod b)) else none
 | .and,.int k a,.int k' b=>if k=k' then some (.int k (bitsV .and k a b)) else none
 | .or,.int k a,.int k' b=>if k=k' then some (.int k (bitsV .or k a b)) else none
 | .xor,.int k a,.int k' b=>if k=k' then some (.int k (bitsV .xor k a b)) else none
 | .andNot,.int k a,.int k' b=>if k=k' then some (.int k (bitsV .andNot k a b)) else none
 | .eql,.int k a,.int k' b=>if k=k' then some (.bool (a == b)) else none
 | .neq,.int k a,.int k' b=>if k=k' then some (.bool (a != b)) else none
 | .lss,.int k a,.int k' b=>if k=k' then some (.bool (decide (a<b))) else none
 | .leq,.int k a,.int k' b=>if k=k' then some (.bool (decide (a≤b))) else none
 | .gtr,.int k a,.int k' b=>if k=k' then some (.bool (decide (b<a))) else none
 | .geq,.int k a,.int k' b=>if k=k' then some (.bool (decide (b≤a))) else none
 | .add,.str s,.str t=>if s.length+t.length≤9223372036854775807 then some (.str (s++t)) else none
 | .eql,.str s,.str t=>some (.bool (s == t))
 | .neq,.str s,.str t=>some (.bool (s != t))
 | .lss,.str s,.str t=>some (.bool (Op.bytesLess s t))
 | .leq,.str s,.str t=>some (.bool (Op.bytesLess s t||s == t))
 | .gtr,.str s,.str t=>some (.bool (!(Op.bytesLess s t||s == t)))
 | .geq,.str s,.str t=>some (.bool (!Op.bytesLess s t))
 |_,_,_=>none
def eqCell:Kd→V→V→Option Bool
 | .b,.bool a,.bool b=>some (a == b)
 | .i,.int k a,.int k' b=>if k=k' then some (a == b) else none
 | .s,.str a,.str b=>some (a == b)
 |_,_,_=>none
def eqCells:List Kd→List V→List V→Option Bool
 |[],[],[]=>some true
 |k::ks,a::r,b::s=>match eqCell k a b,eqCells ks r s with
  |some x,some y=>some (x&&y)
  |_,_=>none
 |_,_,_=>none
def byteV:V→Option UInt8
 | .int .u8 n=>some (UInt8.ofNat n.toNat)
 |_=>none
def bytesV:List V→Option (List UInt8)
 |[]=>some []
 |v::r=>match byteV v,bytesV r with
  |some b,some l=>some (b::l)
  |_,_=>none
def elemsV (st:St):V→Option (List V)
 | .sl xs=>some xs
 | .clip xs=>some xs
 | .nils=>some []
 | .osl id n=>match look st.arr id with
  |some a=>if a.xs.length=n then some a.xs else none
  |none=>none
 |_=>none
def natV:V→Option Nat
 | .int _ n=>if 0≤n then some n.toNat else none
 |_=>none
def optN (z:Nat):Option V→Option Nat
 |none=>some z
 |some v=>natV v
def boundsV (n:Nat)(lo hi:Option V):Option (Nat×Nat) :=
 match optN 0 lo,optN n hi with
 |some l,some h=>if l≤h∧h≤n then some (l,h) else none
 |_,_=>none
def sliceStr (x:V)(lo hi:Option V):Option V :=
 match x with
 | .str s=>match boundsV s.length lo hi with
  |some (l,h)=>some (.str ((s.take h).drop l))
  |none=>none
 |_=>none
def fixedV (st:St)(es:Nat):V→Option (List V)
 | .sl xs=>if xs.all (fun x=>x.cells.length == es) then some xs else none
 | .clip xs=>if xs.all (fun x=>x.cells.length == es) then some xs else none
 | .nils=>some []
 | .osl id n=>match look st.arr id with
  |some a=>if a.xs.length=n∧a.wr=false∧a.es=es then some a.xs else none
  |none=>none
 |_=>none
def sliceV (st:St)(es:Nat)(x:V)(lo hi mx:Option V):Option V :=
 match fixedV st es x with
 |some xs=>match boundsV xs.length lo hi with
  |some (l,h)=>match mx with
   |none=>some (.sl ((xs.take h).drop l))
   |some v=>if natV v=some h then some (.clip ((xs.take h).drop l)) else none
  |none=>none
 |none=>none
def aliveB (st:St)(id n i:Nat):Bool:=match look st.arr id with
 |some a=>a.xs.length == n&&decide (i<n)
 |none=>false
def pickV (c a b:V):Option V:=match c with
 | .bool t=>some (if t then a else b)
 |_=>none
def loadV (st:St)(n:Option Nat)(x:V):Option V:=match x with
 | .ptr id off=>match look st.mem id with
  |some cs=>rd n cs off
  |none=>none
 | .ep x off=>rd n x.cells off
 | .op id m i es off=>match look st.arr id with
  |some a=>if a.xs.length=m∧a.es=es then match a.xs[i]? with
   |some x=>rd n x.cells off
   |none=>none
   else none
  |none=>none
 |_=>none
def nilcV (x:V):Option V:=match x with
 | .ptr id off=>some (.ptr id off)
 | .ep x off=>some (.ep x off)
 | .fn (.func f) a b=>some (.fn (.func f) a b)
 |_=>none
def eqbV (ne:Bool)(x y:V):Option V:=match x,y with
 | .bool a,.bool b=>some (.bool (if ne then a != b else a == b))
 |_,_=>none
def eqsV (ne:Bool)(ks:List Kd)(x y:V):Option V:=match x,y with
 | .agg a,.agg b=>(eqCells ks a b).map fun r=>.bool (if ne then !r else r)
 |_,_=>none
def unV (op:UnOp)(x:V):Option V:=match op,x with
 | .not,.bool b=>some (.bool (!b))
 | .neg,.int k n=>some (.int k (k.wrap (0-n)))
 |_,_=>none
def fadrV (st:St)(o:Nat)(x:V):Option V:=match x with
 | .ptr id off=>some (.ptr id (off+o))
 | .ep x off=>some (.ep x (off+o))
 | .op id n i es off=>if aliveB st id n i then some (.op id n i es (off+o)) else none
 |_=>none
def fldV (n:Option Nat)(off:Nat)(x:V):Option V:=match x with
 | .agg cs=>rd n cs off
 |_=>none
def epV (es:Nat)(xs:List V)(j:Nat):Option V:=match xs[j]? with
 |some x=>if x.cells.length=es then some (.ep x 0) else none
 |none=>none
def iadrV (st:St)(es:Nat)(x i:V):Option V:=match natV i with
 |some j=>match x with
  | .sl xs=>epV es xs j
  | .clip xs=>epV es xs j
  | .osl id m=>match look st.arr id with
   |some a=>if a.xs.length=m∧a.es=es∧j<m then some (.op id m j es 0) else none
   |none=>none
  |_=>none
 |none=>none
def iadraV (len es:Nat)(x i:V):Option V:=match natV i with
 |some j=>if j<len then match x with
  | .ptr id off=>some (.ptr id (off+j*es))
  | .ep x off=>some (.ep x (off+j*es))
  |_=>none
  else none
 |none=>none
def ichrV (x i:V):Option V:=match natV i,x with
 |some j,.str s=>(s[j]?).map fun b=>.int .u8 b.toNat
 |_,_=>none
def extV (i:Nat)(x:V):Option V:=match x with
 | .tup vs=>vs[i]?
 |_=>none
def lensV (x:V):Option V:=match x with
 | .str s=>some (.int .i64 s.length)
 |_=>none
def lenV (st:St)(x:V):Option V:=(elemsV st x).map fun xs=>.int .i64 xs.length
def cviV (k:IntKind)(x:V):Option V:=match x with
 | .int _ n=>some (.int k (k.wrap n))
 |_=>none
def cvisV (x:V):Option V:=match x with
 | .int _ n=>some (.str (Utf8.encode n).data.toList)
 |_=>none
def cvssV (x:V):Option V:=match x with
 | .str s=>some (.str s)
 |_=>none
def cvbsV (st:St)(x:V):Option V:=match elemsV st x with
 |some xs=>(bytesV xs).map .str
 |none=>none
def minV:V→V→Option V
 | .int k a,.int k' b=>if k=k' then some (.int k (if b<a then b else a)) else none
 |_,_=>none
def maxV:V→V→Option V
 | .int k a,.int k' b=>if k=k' then some (.int k (if b>a then b else a)) else none
 |_,_=>none
def genV:Gen→List V→Option V
 | .mn,[x,y]=>minV x y
 | .mx,[x,y]=>maxV x y
 | .eqi ne,[.nili]=>some (.bool (!ne))
 | .eqi ne,[.iface _ _]=>some (.bool ne)
 | .eqp ne,[.nilp,.nilp]=>some (.bool (!ne))
 | .eqp ne,[.ptr _ _,.nilp]=>some (.bool ne)
 | .eqp ne,[.nilp,.ptr _ _]=>some (.bool ne)
 | .eqp ne,[.ptr i o,.ptr j p]=>if i=j∧o=p then some (.bool (!ne)) else none
 | .asrt T z,[.iface t v]=>some (if t=T then .tup [v,.bool true] else .tup [z,.bool false])
 | .asrt _ z,[.nili]=>some (.tup [z,.bool false])
 | .ia len n es,[.agg cs,i]=>match natV i with
  |some j=>if j<len then rd n cs (j*es) else none
  |none=>none
 |_,_=>none
def evs (op:SOp)(env:Env)(st:St):Option V :=
 match op with
 | .gen g xs=>genV g (xs.map (·.get env))
 | .mv x=>some (x.get env)
 | .pick c a b=>pickV (c.get env) (a.get env) (b.get env)
 | .build z parts=>(fillV st z (parts.map fun p=>(p.1,p.2.1,p.2.2.get env))).map .agg
 | .load n x=>loadV st n (x.get env)
 | .nilc x=>nilcV (x.get env)
 | .bin op x y=>binV op (x.get env) (y.get env)
 | .eqb ne x y=>eqbV ne (x.get env) (y.get env)
 | .eqs ne ks x y=>eqsV ne ks (x.get env) (y.get env)
 | .un op x=>unV op (x.get env)
 | .fadr o x=>fadrV st o (x.get env)
 | .fld n off x=>fldV n off (x.get env)
 | .iadr es x i=>iadrV st es (x.get env) (i.get env)
 | .iadra len es x i=>iadraV len es (x.get env) (i.get env)
 | .ichr x i=>ichrV (x.get env) (i.get env)
 | .slices x lo hi=>sliceStr (x.get env) (lo.map (·.get env)) (hi.map (·.get env))
 | .slice es x lo hi mx=>sliceV st es (x.get env) (lo.map (·.get env)) (hi.map (·.get env)) (mx.map (·.get env))
 | .ext i x=>extV i (x.get env)
 | .lens x=>lensV (x.get env)
 | .len x=>lenV st (x.get env)
 | .mkfn f a b=>some (.fn f (a.map (·.get env)) (b.map (·.get env)))
 | .mkif t x=>some (.iface t (x.get env))
 | .cvi k x=>cviV k (x.get env)
 | .cvis x=>cvisV (x.get env)
 | .cvss x=>cvssV (x.get env)
 | .cvbs x=>cvbsV st (x.get env)
 |_=>none
end Go.Sha
namespace Go.Sha
def EnvSim (w:World)(A:Abs)(a:Act)(env:Env):Prop:=∀i v,look env i=some v→Rep w A (a.tmps.getD i undef) v
section
variable {w:World}{A:Abs}
theorem rep_constCell {v:Value}{d:V}(h:constCell v=some d):Rep w A v d∧v.oneCell'=true:=by
 unfold constCell at h
 split at h<;>simp at h<;>subst h<;>refine⟨?_,rfl⟩
 ·exact .bool _
 ·exact .int _ _
 ·rename_i s;exact .str s.data.toList
 ·exact .nilp
 ·exact .nils
 ·exact .nilf
 ·exact .nili
 ·exact .nilm
theorem rep_constCells:∀{vs:List Value}{ds:List V},constCells vs=some ds→vs.length=ds.length∧(∀v∈vs,v.oneCell'=true)∧∀(i:Nat) (v:Value) (c:V),vs[i]?=some v→ds[i]?=some c→Rep w A v c
 |[],ds,h=>by
  simp[constCells]at h;subst h
  exact⟨rfl,by simp,by simp⟩
 |v::vs,ds,h=>by
  simp only[constCells]at h
  split at h
  ·rename_i c cs hc hcs
   simp at h;subst h
   obtain⟨h1,h2,h3⟩:=rep_constCells hcs
   obtain⟨r1,r2⟩:=rep_constCell (w:=w) (A:=A) hc
   refine⟨by simp[h1],by simpa using⟨r2,h2⟩,fun i u c' hu hc'=>?_⟩
   cases i with
   |zero=>simp at hu hc';subst hu hc';exact r1
   |succ i=>simp at hu hc';exact h3 i u c' hu hc'
  ·cases h
theorem EnvSim.mono {w':World}{A':Abs}{a:Act}{env:Env}(h:EnvSim w A a env)(hx:Ext w A w' A'):EnvSim w' A' a env:=fun i v hv=>(h i v hv).mono hx
theorem rep_get {a:Act}{env:Env}(he:EnvSim w A a env){x:Operand}{o:Opd}(hx:opdOf x=some o):Rep w A (a.eval x) (o.get env):=by
 unfold opdOf at hx
 split at hx
 ·simp at hx;subst hx
  rename_i i
  simp only[Opd.get,Act.eval]
  cases h:look env i with
  |none=>simpa [h] using Rep.und _
  |some v=>simpa [h] using he i v h
 ·rename_i cs
  split at hx
  ·rename_i l hl
   simp at hx;subst hx
   obtain⟨h1,h2,h3⟩:=rep_constCells (w:=w) (A:=A) hl
   simp only[Opd.get,Act.eval]
   have:=Rep.agg (w:=w) (A:=A) cs.toList l h1 h2 h3
   simpa using this
  ·cases hx
 ·rename_i v hv
  simp at hx
  obtain⟨d,hd,rfl⟩:=hx
  exact(rep_constCell hd).1
 ·simp at hx;subst hx
  simp only[Opd.get,Act.eval]
  have:=Rep.fn (w:=w) (A:=A) (.func ‹_›) [] [] [] [] rfl rfl (by simp) (by simp)
  simpa using this
 ·cases hx
theorem reps_get {a:Act}{env:Env}(he:EnvSim w A a env):∀{xs:List Operand}{os:List Opd},opdsOf xs=some os→Reps w A (xs.map a.eval) (os.map (·.get env))
 |[],os,h=>by simp[opdsOf]at h;subst h;exact⟨rfl,by simp⟩
 |x::xs,os,h=>by
  simp only[opdsOf]at h
  split at h
  ·rename_i c cs hc hcs
   simp at h;subst h
   obtain⟨h1,h2⟩:=reps_get he hcs
   refine⟨by simpa using h1,fun i v d hv hd=>?_⟩
   cases i with
   |zero=>simp at hv hd;subst hv hd;exact rep_get he hc
   |succ i=>exact h2 i v d (by simpa using hv) (by simpa using hd)
  ·cases h
theorem Rep.bool_inv {v:Value}{b:Bool}(h:Rep w A v (.bool b)):v=.bool b:=by cases h;rfl
theorem Rep.int_inv {v:Value}{k:IntKind}{n:Int}(h:Rep w A v (.int k n)):v=.int k n:=by cases h;rfl
theorem Rep.str_inv {v:Value}{s:List UInt8}(h:Rep w A v (.str s)):v=.string ⟨s.toArray⟩:=by cases h;rfl
theorem Rep.ptr_inv {v:Value}{id off:Nat}(h:Rep w A v (.ptr id off)):id<A.nx∧v=.pointer (some ⟨A.loc id,off,none⟩):=by cases h;exact⟨‹_›,rfl⟩
theorem Rep.agg_inv {v:Value}{cs:List V}(h:Rep w A v (.agg cs)):∃vs:List Value,v=.agg vs.toArray∧vs.length=cs.length∧(∀v∈vs,v.oneCell'=true)∧∀(i:Nat) (v:Value) (c:V),vs[i]?=some v→cs[i]?=some c→Rep w A v c:=by
 cases h;exact⟨_,rfl,‹_›,‹_›,‹_›⟩
theorem Rep.tup_inv {v:Value}{cs:List V}(h:Rep w A v (.tup cs)):∃vs:List Value,v=.tuple vs.toArray∧vs.length=cs.length∧∀(i:Nat) (v:Value) (c:V),vs[i]?=some v→cs[i]?=some c→Rep w A v c:=by
 cases h;exact⟨_,rfl,‹_›,‹_›⟩
theorem Rep.cells_inv {st:St}(hs:Sim w A st){v:Value}{d:V}(h:Rep w A v d)(hu:partOk st d=true) :
  v.cells.size=d.cells.length∧(∀u∈v.cells.toList,u.oneCell'=true)∧∀(i:Nat) (u:Value) (c:V),v.cells[i]?=some u→d.cells[i]?=some c→Rep w A u c:=by
 cases h with
 |und=>simp[partOk]at hu
 |tup=>simp[partOk]at hu
 |op=>simp[partOk]at hu
 |osl id n v h hn hv =>
  simp only[partOk]at hu
  split at hu
  ·rename_i a ha
   have hk:=hs.arr id a ha
   have e:n=A.ln id:=by rw[hk.ln];exact(by simpa using hu:a.xs.length=n).symm
   have ev:=hv e
   have h1:∃x y z,v=.slice x y z:=by
    rcases hk.row with⟨r,_⟩|⟨g,cap,cur,r,_⟩
    ·exact⟨_,_,_,ev.trans r⟩
    ·exact⟨_,_,_,ev.trans r⟩
   obtain⟨x,y,z,rfl⟩:=h1
   refine⟨rfl,by simp[Value.cells,Value.oneCell'],fun i u c hu hc=>?_⟩
   cases i with
   |zero=>simp[Value.cells,V.cells]at hu hc;subst hu hc;exact .osl id n _ h hn hv
   |succ i=>simp[Value.cells]at hu
  ·cases hu
 |agg vs cs hl h1 hr=>exact⟨by simpa [Value.cells,V.cells] using hl,by simpa [Value.cells] using h1,by simpa [Value.cells,V.cells] using hr⟩
 |_ =>
  refine⟨rfl,by simp[Value.cells,Value.oneCell'],fun i u c hu hc=>?_⟩
  cases i with
  |zero=>simp[Value.cells,V.cells]at hu hc;subst hu hc;(constructor<;>assumption)
  |succ i=>simp[Value.cells]at hu
end
section
variable {P:Program}{w:World}{A:Abs}
def Cells (w:World)(A:Abs)(b o:Nat)(cs:List V):Prop:=∀(j:Nat) (c:V),cs[j]?=some c→∃v,w.cell? ⟨b,o+j,none⟩=some v∧v.oneCell'=true∧Rep w A v c
theorem addr_add (b o n:Nat):(⟨b,o,none⟩:Addr).add n=⟨b,o+n,none⟩:=by
 unfold Addr.add;split
 ·simp[*]
 ·rfl
theorem isAggB_eq {t:TypeId}{x:Bool}(h:isAggB P t=some x):(isAgg t).run P w=.ok x w:=by
 unfold isAggB at h
 unfold isAgg underlying
 split at h<;>simp_all
theorem sizeB_eq {t:TypeId}{n:Nat}(h:sizeB P t=some n):(sizeOf t).run P w=.ok n w:=by
 unfold sizeB at h
 unfold sizeOf typeInfo
 cases hi:P.info? t with
 |none=>simp[hi]at h
 |some i=>simp[hi]at h;simp[hi,h]
theorem cellsB_none {t:TypeId}(h:cellsB P t=some none):isAggB P t=some false:=by
 unfold cellsB at h
 split at h<;>simp_all
theorem cellsB_some {t:TypeId}{n:Nat}(h:cellsB P t=some (some n)):isAggB P t=some true∧sizeB P t=some n:=by
 unfold cellsB at h
 split at h<;>simp_all
theorem run_loadVar_rd {t:TypeId}{n:Option Nat}(ht:cellsB P t=some n){b o off:Nat}{cs:List V}(hc:Cells w A b o cs){d:V}(hd:rd n cs off=some d) :
  ∃u,(loadVar t ⟨b,o+off,none⟩).run P w=.ok u w∧Rep w A u d:=by
 cases n with
 |none =>
  simp only[rd]at hd
  obtain⟨v,h1,h2,h3⟩:=hc off d hd
  refine⟨v,?_,h3⟩
  simp[loadVar,isAggB_eq (cellsB_none ht),h1]
 |some n =>
  simp only[rd]at hd
  split at hd
  ·rename_i hle
   simp at hd;subst hd
   obtain⟨t1,t2⟩:=cellsB_some ht
   let vs:=(List.range n).map fun j=>(w.cell? ⟨b,o+off+j,none⟩).getD undef
   have hl:vs.length=n:=by simp[vs]
   have hv:∀(j:Nat),j<n→∃c v,cs[off+j]?=some c∧w.cell? ⟨b,o+off+j,none⟩=some v∧v.oneCell'=true∧Rep w A v c∧vs[j]?=some v:=by
    intro j hj
    have hlt:off+j<cs.length:=by omega
    obtain⟨v,h1,h2,h3⟩:=hc (off+j) cs[off+j] (List.getElem?_eq_getElem hlt)
    rw[←Nat.add_assoc]at h1
    exact⟨_,v,List.getElem?_eq_getElem hlt,h1,h2,h3,by simp[vs,hj,h1]⟩
   refine⟨.agg vs.toArray,?_,?_⟩
   ·have h:=run_loadCells_list (P:=P) (w:=w) ⟨b,o+off,none⟩ vs (fun j v hj=>by
     have hjn:j<n:=by have:=(List.getElem?_eq_some_iff.1 hj).1;omega
     obtain⟨c,v',_,h1,_,_,h4⟩:=hv j hjn
     rw[addr_add,h1];rw[h4]at hj;exact hj)
    rw[hl]at h
    simp[loadVar,isAggB_eq t1,sizeB_eq t2,h]
   ·refine .agg vs _ (by simp[hl];omega) (fun v hv'=>?_) (fun i v c h1 h2=>?_)
    ·obtain⟨j,hj⟩:=List.mem_iff_getElem?.1 hv'
     have hjn:j<n:=by have:=(List.getElem?_eq_some_iff.1 hj).1;omega
     obtain⟨c,v',_,_,h2,_,h4⟩:=hv j hjn
     rw[h4]at hj;simp at hj;rw[←hj];exact h2
    ·have hjn:i<n:=by have:=(List.getElem?_eq_some_iff.1 h1).1;omega
     obtain⟨c',v',g1,_,_,g3,g4⟩:=hv i hjn
     rw[g4]at h1;simp at h1;rw[←h1]
     rw[List.getElem?_take_of_lt hjn,List.getElem?_drop,g1]at h2
     simp at h2;rw[←h2];exact g3
  ·cases hd
theorem Cells.of_mem {id:Nat}{cs:List V}(h:MemOk w A id cs):Cells w A (A.loc id) 0 cs:=by
 intro j c hj
 obtain⟨vs,T,h1,h2,h3,h4⟩:=h.row
 have hlt:j<vs.size:=by have:=(List.getElem?_eq_some_iff.1 hj).1;omega
 refine⟨vs[j],?_,h3 _ (by simp),h4 j _ _ (by simp[hlt]) hj⟩
 rw[cell_of_row w _ _ vs T _ h1];simp[hlt]
theorem Cells.of_arr {st:St}(hs:Sim w A st){id:Nat}{a:Arr}(ha:look st.arr id=some a){g cap i:Nat}(hg:A.sv id=.slice (some ⟨g,0,none⟩) a.xs.length cap){x:V}(hx:a.xs[i]?=some x) :
  Cells w A g (i*a.es) x.cells:=by
 have hk:=hs.arr id a ha
 rcases hk.row with⟨r,_⟩|⟨g',cap',cur,r1,r2,r3,r4,r5,r6,r7,r8,r10⟩
 ·rw[hg]at r;cases r
 ·rw[hg]at r1;cases r1
  intro j c hj
  obtain⟨v,h1,h0,h2⟩:=r10 i j x c hx hj
  refine⟨v,?_,h0,h2⟩
  rw[cell_of_row w _ _ cur a.e _ r2];exact h1
end
end Go.Sha
