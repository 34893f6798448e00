/- What an operation gives over shadow valu. -/
import Derived.Test.YtmjkgajnpmiomaaGreatDoorLShbB
import Derived.Laws.StructEq
set_option linter.unusedSimpArgs false
set_option linter.unusedVariables false
namespace Go.Sha
def rd (n:Option Nat)(cs:List V)(off:Nat):Option V:=match n with
 |none=>cs[off]?
 |some n=>if off+n≤cs.length then some (.agg ((cs.drop off).take n)) else none
def partOk (st:St):V→Bool
 | .und=>false
 | .tup _=>false
 | .op ..=>false
 | .win ..=>false
 | .osl id n=>match look st.arr id with
  |some a=>a.xs.length == n
  |none=>false
 |_=>true
def fillV (st:St)(cells:List V):List (Nat×Nat×V)→Option (List V)
 |[]=>some cells
 |(off,n,v)::r=>if partOk st v=true∧v.cells.length=n∧off+n≤cells.length then fillV st (cells.take off++v.cells++cells.drop (off+n)) r else none
def bitsV (op:BinOp)(k:IntKind)(a b:Int):Int :=
 let x:=BitVec.ofInt k.bits a
 let y:=BitVec.ofInt k.bits b
 match op with
 | .and=>k.wrap (x &&& y).toNat
 | .or=>k.wrap (x ||| y).toNat
 | .xor=>k.wrap (x ^^^ y).toNat
 |_=>k.wrap (x &&& ~~~y).toNat
def binV:BinOp→V→V→Option V
 | .shl,.int k a,.int _ b=>if b<0 then none else some (.int k (k.wrap (a*2 ^ (min b.toNat k.bits))))
 | .shr,.int k a,.int _ b=>if b<0 then none else some (.int k (a.fdiv (2 ^ (min b.toNat k.bits))))
 | .add,.int k a,.int k' b=>if k=k' then some (.int k (k.wrap (a+b))) else none
 | .sub,.int k a,.int k' b=>if k=k' then some (.int k (k.wrap (a-b))) else none
 | .mul,.int k a,.int k' b=>if k=k' then some (.int k (k.wrap (a*b))) else none
 | .quo,.int k a,.int k' b=>if k=k'∧b≠0 then some (.int k (k.wrap (a.tdiv b))) else none
 | .rem,.int k a,.int k' b=>if k=k'∧b≠0 then some (.int k (a.tmod b)) else none
 | .and,.int k a,.int k' b=>if k=k' then some (.int k (bitsV .and k a b)) else none
 | .or,.int k a,.int k' b=>if k=k' then some (.int k (bitsV .or k a b)) else none
 | .xor,.int k a,.int k' b=>if k=k' then some (.int k (bitsV .xor k a b)) else none
 | .andNot,.int k a,.int k' b=>if k=k' then some (.int k (bitsV .andNot k a b)) else none
 | .eql,.int k a,.int k' b=>if k=k' then some (.bool (a == b)) else none
 | .neq,.int k a,.int k' b=>if k=k' then some (.bool (a != b)) else none
 | .lss,.int k a,.int k' b=>if k=k' then some (.bool (decide (a<b))) else none
 | .leq,.int k a,.int k' b=>if k=k' then some (.bool (decide (a≤b))) else none
 | .gtr,.int k a,.int k' b=>if k=k' then some (.bool (decide (b<a))) else none
 | .geq,.int k a,.int k' b=>if k=k' then some (.bool (decide (b≤a))) else none
 | .add,.str s,.str t=>if s.length+t.length≤9223372036854775807 then some (.str (s++t)) else none
 | .eql,.str s,.str t=>some (.bool (s == t))
 | .neq,.str s,.str t=>some (.bool (s != t))
 | .lss,.str s,.str t=>some (.bool (Op.bytesLess s t))
 | .leq,.str s,.str t=>some (.bool (Op.bytesLess s t||s == t))
 | .gtr,.str s,.str t=>some (.bool (!(Op.bytesLess s t||s == t)))
 | .geq,.str s,.str t=>some (.bool (!Op.bytesLess s t))
 |_,_,_=>none
def eqCell:Kd→V→V→Option Bool
 | .b,.bool a,.bool b=>some (a == b)
 | .i,.int k a,.int k' b=>if k=k' then some (a == b) else none
 | .s,.str a,.str b=>some (a == b)
 |_,_,_=>none
def eqCells:List Kd→List V→List V→Option Bool
 |[],[],[]=>some true
 |k::ks,a::r,b::s=>match eqCell k a b,eqCells ks r s with
  |some x,some y=>some (x&&y)
  |_,_=>none
 |_,_,_=>none
def byteV:V→Option UInt8
 | .int .u8 n=>some (UInt8.ofNat n.toNat)
 |_=>none
def bytesV:List V→Option (List UInt8)
 |[]=>some []
 |v::r=>match byteV v,bytesV r with
  |some b,some l=>some (b::l)
  |_,_=>none
def elemsV (st:St):V→Option (List V)
 | .sl xs=>some xs
 | .clip xs=>some xs
 | .nils=>some []
 | .osl id n=>match look st.arr id with
  |some a=>if a.xs.length=n then some a.xs else none
  |none=>none
 |_=>none
def natV:V→Option Nat
 | .int _ n=>if 0≤n then some n.toNat else none
 |_=>none
def optN (z:Nat):Option V→Option Nat
 |none=>some z
 |some v=>natV v
def boundsV (n:Nat)(lo hi:Option V):Option (Nat×Nat) :=
 match optN 0 lo,optN n hi with
 |some l,some h=>if l≤h∧h≤n then some (l,h) else none
 |_,_=>none
def sliceStr (x:V)(lo hi:Option V):Option V :=
 match x with
 | .str s=>match boundsV s.length lo hi with
  |some (l,h)=>some (.str ((s.take h).drop l))
  |none=>none
 |_=>none
def fixedV (st:St)(es:Nat):V→Option (List V)
 | .sl xs=>if xs.all (fun x=>x.cells.length == es) then some xs else none
 | .clip xs=>if xs.all (fun x=>x.cells.length == es) then some xs else none
 | .nils=>some []
 | .osl id n=>match look st.arr id with
  |some a=>if a.xs.length=n∧a.wr=false∧a.es=es then some a.xs else none
  |none=>none
 |_=>none
def winA (es id n:Nat)(lo hi:Option V):Option Arr→Option V
 |some a=>if a.xs.length=n∧a.wr=true∧a.es=es then(boundsV n lo hi).map fun p=>.win id n p.1 p.2 es else none
 |none=>none
def winV (st:St)(es:Nat)(x:V)(lo hi mx:Option V):Option V:=match x,mx with
 | .osl id n,none=>winA es id n lo hi (look st.arr id)
 |_,_=>none
def sliceV (st:St)(es:Nat)(x:V)(lo hi mx:Option V):Option V :=
 match fixedV st es x with
 |some xs=>match boundsV xs.length lo hi with
  |some (l,h)=>match mx with
   |none=>some (.sl ((xs.take h).drop l))
   |some v=>if natV v=some h then some (.clip ((xs.take h).drop l)) else none
  |none=>none
 |none=>winV st es x lo hi mx
def aliveB (st:St)(id n i:Nat):Bool:=match look st.arr id with
 |some a=>a.xs.length == n&&decide (i<n)
 |none=>false
def pickV (c a b:V):Option V:=match c with
 | .bool t=>some (if t then a else b)
 |_=>none
def loadV (st:St)(n:Option Nat)(x:V):Option V:=match x with
 | .ptr id off=>match look st.mem id with
  |some cs=>rd n cs off
  |none=>none
 | .ep x off=>rd n x.cells off
 | .op id m i es off=>match look st.arr id with
  |some a=>if a.xs.length=m∧a.es=es then match a.xs[i]? with
   |some x=>rd n x.cells off
   |none=>none
   else none
  |none=>none
 |_=>none
def nilcV (x:V):Option V:=match x with
 | .ptr id off=>some (.ptr id off)
 | .ep x off=>some (.ep x off)
 | .fn (.func f) a b=>some (.fn (.func f) a b)
 |_=>none
def eqbV (ne:Bool)(x y:V):Option V:=match x,y with
 | .bool a,.bool b=>some (.bool (if ne then a != b else a == b))
 |_,_=>none
def eqsV (ne:Bool)(ks:List Kd)(x y:V):Option V:=match x,y with
 | .agg a,.agg b=>(eqCells ks a b).map fun r=>.bool (if ne then !r else r)
 |_,_=>none
def unV (op:UnOp)(x:V):Option V:=match op,x with
 | .not,.bool b=>some (.bool (!b))
 | .neg,.int k n=>some (.int k (k.wrap (0-n)))
 |_,_=>none
def fadrV (st:St)(o:Nat)(x:V):Option V:=match x with
 | .ptr id off=>some (.ptr id (off+o))
 | .ep x off=>some (.ep x (off+o))
 | .op id n i es off=>if aliveB st id n i then some (.op id n i es (off+o)) else none
 |_=>none
def fldV (n:Option Nat)(off:Nat)(x:V):Option V:=match x with
 | .agg cs=>rd n cs off
 |_=>none
def epV (es:Nat)(xs:List V)(j:Nat):Option V:=match xs[j]? with
 |some x=>if x.cells.length=es then some (.ep x 0) else none
 |none=>none
def iadrV (st:St)(es:Nat)(x i:V):Option V:=match natV i with
 |some j=>match x with
  | .sl xs=>epV es xs j
  | .clip xs=>epV es xs j
  | .osl id m=>match look st.arr id with
   |some a=>if a.xs.length=m∧a.es=es∧j<m then some (.op id m j es 0) else none
   |none=>none
  |_=>none
 |none=>none
def iadraV (len es:Nat)(x i:V):Option V:=match natV i with
 |some j=>if j<len then match x with
  | .ptr id off=>some (.ptr id (off+j*es))
  | .ep x off=>some (.ep x (off+j*es))
  |_=>none
  else none
 |none=>none
def ichrV (x i:V):Option V:=match natV i,x with
 |some j,.str s=>(s[j]?).map fun b=>.int .u8 b.toNat
 |_,_=>none
def extV (i:Nat)(x:V):Option V:=match x with
 | .tup vs=>vs[i]?
 |_=>none
def lensV (x:V):Option V:=match x with
 | .str s=>some (.int .i64 s.length)
 |_=>none
def lenV (st:St)(x:V):Option V:=(elemsV st x).map fun xs=>.int .i64 xs.length
def cviV (k:IntKind)(x:V):Option V:=match x with
 | .int _ n=>some (.int k (k.wrap n))
 |_=>none
def cvisV (x:V):Option V:=match x with
 | .int _ n=>some (.str (Utf8.encode n).data.toList)
 |_=>none
def cvssV (x:V):Option V:=match x with
 | .str s=>some (.str s)
 |_=>none
def cvbsV (st:St)(x:V):Option V:=match elemsV st x with
 |some xs=>(bytesV xs).map .str
 |none=>none
def minV:V→V→Option V
 | .int k a,.int k' b=>if k=k' then some (.int k (if b<a then b else a)) else none
 |_,_=>none
def maxV:V→V→Option V
 | .int k a,.int k' b=>if k=k' then some (.int k (if b>a then b else a)) else none
 |_,_=>none
def genV:Gen→List V→Option V
 | .mn,[x,y]=>minV x y
 | .mx,[x,y]=>maxV x y
 | .eqi ne,[.nili]=>some (.bool (!ne))
 | .eqi ne,[.iface _ _]=>some (.bool ne)
 | .eqp ne,[.nilp,.nilp]=>some (.bool (!ne))
 | .eqp ne,[.ptr _ _,.nilp]=>some (.bool ne)
 | .eqp ne,[.nilp,.ptr _ _]=>some (.bool ne)
 | .eqp ne,[.ptr i o,.ptr j p]=>if i=j∧o=p then some (.bool (!ne)) else none
 | .asrt T z,[.iface t v]=>some (if t=T then .tup [v,.bool true] else .tup [z,.bool false])
 | .asrt _ z,[.nili]=>some (.tup [z,.bool false])
 | .ia len n es,[.agg cs,i]=>match natV i with
  |some j=>if j<len then rd n cs (j*es) else none
  |none=>none
 |_,_=>none
def evs (op:SOp)(env:Env)(st:St):Option V :=
 match op with
 | .gen g xs=>genV g (xs.map (·.get env))
 | .mv x=>some (x.get env)
 | .pick c a b=>pickV (c.get env) (a.get env) (b.get env)
 | .build z parts=>(fillV st z (parts.map fun p=>(p.1,p.2.1,p.2.2.get env))).map .agg
 | .load n x=>loadV st n (x.get env)
 | .nilc x=>nilcV (x.get env)
 | .bin op x y=>binV op (x.get env) (y.get env)
 | .eqb ne x y=>eqbV ne (x.get env) (y.get env)
 | .eqs ne ks x y=>eqsV ne ks (x.get env) (y.get env)
 | .un op x=>unV op (x.get env)
 | .fadr o x=>fadrV st o (x.get env)
 | .fld n off x=>fldV n off (x.get env)
 | .iadr es x i=>iadrV st es (x.get env) (i.get env)
 | .iadra len es x i=>iadraV len es (x.get env) (i.get env)
 | .ichr x i=>ichrV (x.get env) (i.get env)
 | .slices x lo hi=>sliceStr (x.get env) (lo.map (·.get env)) (hi.map (·.get env))
 | .slice es x lo hi mx=>sliceV st es (x.get env) (lo.map (·.get env)) (hi.map (·.get env)) (mx.map (·.get env))
 | .ext i x=>extV i (x.get env)
 | .lens x=>lensV (x.get env)
 | .len x=>lenV st (x.get env)
 | .mkfn f a b=>some (.fn f (a.map (·.get env)) (b.map (·.get env)))
 | .mkif t x=>some (.iface t (x.get env))
 | .cvi k x=>cviV k (x.get env)
 | .cvis x=>cvisV (x.get env)
 | .cvss x=>cvssV (x.get env)
 | .cvbs x=>cvbsV st (x.get env)
 |_=>none
end Go.Sha
