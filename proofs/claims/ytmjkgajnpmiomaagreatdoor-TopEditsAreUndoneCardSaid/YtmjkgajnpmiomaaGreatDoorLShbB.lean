/- Compiled operations. -/
import Derived.Test.YtmjkgajnpmiomaaGreatDoorLShbA
set_option linter.unusedSimpArgs false
set_option linter.unusedVariables false
namespace Go.Sha
inductive Opd where
 |t (i:Nat)
 |c (v:V)
 deriving Inhabited
abbrev Env:=List (Nat×V)
def Opd.get (env:Env):Opd→V
 | .t i=>(look env i).getD .und
 | .c v=>v
def constCell:Value→Option V
 | .bool b=>some (.bool b)
 | .int k n=>some (.int k n)
 | .string s=>some (.str s.data.toList)
 | .pointer none=>some .nilp
 | .slice none 0 0=>some .nils
 | .nilFunc=>some .nilf
 | .nilIface=>some .nili
 | .map none=>some .nilm
 |_=>none
def constCells:List Value→Option (List V)
 |[]=>some []
 |v::r=>match constCell v,constCells r with
  |some c,some cs=>some (c::cs)
  |_,_=>none
def opdOf:Operand→Option Opd
 | .tmp i=>some (.t i)
 | .const (.agg cs)=>match constCells cs.toList with
  |some l=>some (.c (.agg l))
  |none=>none
 | .const v=>(constCell v).map .c
 | .func f=>some (.c (.fn (.func f) [] []))
 | .global _=>none
def opdsOf:List Operand→Option (List Opd)
 |[]=>some []
 |x::r=>match opdOf x,opdsOf r with
  |some c,some cs=>some (c::cs)
  |_,_=>none
inductive Kd where
 |b
 |i
 |s
 deriving Inhabited
inductive Gen where
 |mn
 |mx
 |eqi (ne:Bool)
 |eqp (ne:Bool)
 |asrt (T:TypeId) (z:V)
 |ia (len:Nat) (n:Option Nat) (es:Nat)
 deriving Inhabited
inductive KT where
 |b
 |i (q:IntKind)
 |s
 |a (ks:List Kd)
inductive ActK where
 |mkmap
 |look (k:KT) (z:V) (ok:Bool)
 |mset (k:KT)
 |mlen
 |newt (T:TypeId) (zero:List V)
 |cvp (T:Option (TypeId×Nat))
 |appstr (e bytes:Nat)
 |usd
 |ustr (e:TypeId)
 |sla (len:Nat)
 |rng
 |ent
 |clr (es:Nat) (y:V)
inductive SOp where
 |act (g:ActK) (xs:List Opd)
 |nilk (ne:Bool) (x:Opd)
 |nxt (x:Opd)
 |gen (g:Gen) (xs:List Opd)
 |mv (x:Opd)
 |pick (c a b:Opd)
 |alloc (T:TypeId) (zero:List V)
 |box (T:TypeId) (x:Opd)
 |build (zero:List V) (parts:List (Nat×Nat×Opd))
 |load (n:Option Nat) (x:Opd)
 |store (n:Nat) (a x:Opd)
 |nilc (x:Opd)
 |bin (op:BinOp) (x y:Opd)
 |eqb (ne:Bool) (x y:Opd)
 |eqs (ne:Bool) (ks:List Kd) (x y:Opd)
 |eqi (ne:Bool) (x y:Opd)
 |un (op:UnOp) (x:Opd)
 |fadr (off:Nat) (x:Opd)
 |fld (n:Option Nat) (off:Nat) (x:Opd)
 |iadr (es:Nat) (x i:Opd)
 |iadra (len es:Nat) (x i:Opd)
 |ichr (x i:Opd)
 |iarr (len es:Nat) (agg:Bool) (x i:Opd)
 |slices (x:Opd) (lo hi:Option Opd)
 |slice (es:Nat) (x:Opd) (lo hi mx:Option Opd)
 |ext (i:Nat) (x:Opd)
 |lens (x:Opd)
 |len (x:Opd)
 |append (e es bytes:Nat) (s x:Opd)
 |mkfn (f:Fn) (first caps:List Opd)
 |mkif (t:TypeId) (x:Opd)
 |cvi (k:IntKind) (x:Opd)
 |cvis (x:Opd)
 |cvss (x:Opd)
 |cvsb (e:TypeId) (x:Opd)
 |cvbs (x:Opd)
 |bslice (e es:Nat) (xs:List Opd)
 |mkslice (e es bytes:Nat) (agg:Bool) (zero:List V) (l c:Opd)
 |call (f:Opd) (args:List Opd)
 |panic (x:Opd)
 deriving Inhabited
structure Ins where
 dst:Option Nat
 op:SOp
 g:Option (Nat×Bool)
 deriving Inhabited
section
variable (P:Program)
def isAggB (t:TypeId):Option Bool:=match P.underlying t with
 |some (.struct _)=>some true
 |some (.array _ _)=>some true
 |some _=>some false
 |none=>none
def sizeB (t:TypeId):Option Nat:=(P.info? t).map (·.size)
def cellsB (t:TypeId):Option (Option Nat):=match isAggB P t,sizeB P t with
 |some true,some n=>some (some n)
 |some false,some _=>some none
 |_,_=>none
def zeroB (t:TypeId):Option (List V):=match(P.info? t).bind (·.zero) with
 |some z=>constCells z.cells.toList
 |none=>none
def fieldB (s:TypeId)(f:Nat):Option Field:=match P.underlying s with
 |some (.struct fs)=>fs[f]?
 |_=>none
def flatFields (g:TypeId→Option (List Kd)):List Field→Nat→Option (List Kd)
 |[],_=>some []
 |f::r,e=>if f.name≠"_"∧f.offset=e then match g f.type with
  |some ks=>match flatFields g r (e+ks.length) with
   |some l=>some (ks++l)
   |none=>none
  |none=>none
  else none
def plainFlat:(depth:Nat)→TypeId→Option (List Kd)
 |0,_=>none
 |d+1,t=>match P.underlying t with
  |some .bool=>if sizeB P t=some 1 then some [.b] else none
  |some (.int _)=>if sizeB P t=some 1 then some [.i] else none
  |some .string=>if sizeB P t=some 1 then some [.s] else none
  |some (.struct fs)=>if P.stoodInHeld t=false then match flatFields (plainFlat d) fs.toList 0 with
   |some ks=>if sizeB P t=some ks.length then some ks else none
   |none=>none
   else none
  |_=>none
def arrKd (n:Nat)(e t:TypeId):Option (List Kd):=match plainFlat P 60 e with
 |some [k]=>if sizeB P t=some n then some (List.replicate n k) else none
 |_=>none
def partsOf (place:Nat→Option (Nat×Nat)):List (Nat×Operand)→Option (List (Nat×Nat×Opd))
 |[]=>some []
 |(i,x)::r=>match place i,opdOf x,partsOf place r with
  |some (off,n),some o,some l=>some ((off,n,o)::l)
  |_,_,_=>none
def isElemByte (e:TypeId):Bool:=match P.underlying e with|some (.int .u8)=>true|_=>false
def optOpd:Option Operand→Option (Option Opd)
 |none=>some none
 |some x=>(opdOf x).map some
def compOp0 (o:Oper):Option SOp :=
 match o.op with
 | .move x=>(opdOf x).map .mv
 | .assign x=>(opdOf x).map .mv
 | .pick c a b=>match opdOf c,opdOf a,opdOf b with
  |some c,some a,some b=>some (.pick c a b)
  |_,_,_=>none
 | .alloc t=>(zeroB P t).map (.alloc t)
 | .box t x=>(opdOf x).map (.box t)
 | .build t parts=>match zeroB P t,P.underlying t with
  |some z,some (.struct fs)=>if fs.toList.all (fun f=>(sizeB P f.type).isSome)=false then none else(partsOf (fun(i:Nat)=>match fs[i]? with|some f=>(sizeB P f.type).map fun n=>(f.offset,n)|none=>none) parts.toList).map (.build z)
  |some z,some (.array _ e)=>match sizeB P e with
   |some n=>(partsOf (fun(i:Nat)=>some (i*n,n)) parts.toList).map (.build z)
   |none=>none
  |_,_=>none
 | .load t x=>match cellsB P t,opdOf x with
  |some n,some x=>some (.load n x)
  |_,_=>none
 | .store t a x=>match sizeB P t,opdOf a,opdOf x with
  |some n,some a,some x=>some (.store n a x)
  |_,_,_=>none
 | .nilCheck x=>(opdOf x).map .nilc
 | .binOp op t x y _=>match opdOf x,opdOf y with
  |some x,some y =>
   if op=.eql∨op=.neq then match P.underlying t with
    |some (.int _)=>some (.bin op x y)
    |some .string=>some (.bin op x y)
    |some .bool=>some (.eqb (op=.neq) x y)
    |some (.struct _)=>if P.eqGuardType P.depth t=false then(plainFlat P 60 t).map fun ks=>.eqs (op=.neq) ks x y else none
    |some (.array n e)=>if P.eqGuardType P.depth t=false then(arrKd P n e t).map fun ks=>.eqs (op=.neq) ks x y else none
    |_=>none
   else some (.bin op x y)
  |_,_=>none
 | .unOp op _ x=>(opdOf x).map (.un op)
 | .fieldAddr s x f=>match fieldB P s f,opdOf x with
  |some fd,some x=>if sizeB P fd.type=some 0∨sizeB P fd.type=none then none else some (.fadr fd.offset x)
  |_,_=>none
 | .field s x f=>match fieldB P s f,opdOf x with
  |some fd,some x=>(cellsB P fd.type).map fun n=>.fld n fd.offset x
  |_,_=>none
 | .indexAddr t x i=>match P.underlying t,opdOf x,opdOf i with
  |some (.slice e),some x,some i=>(sizeB P e).map fun n=>.iadr n x i
  |some (.array len e),some x,some i=>(sizeB P e).map fun n=>.iadra len n x i
  |_,_,_=>none
 | .index t x i=>match P.underlying t,opdOf x,opdOf i with
  |some .string,some x,some i=>some (.ichr x i)
  |_,_,_=>none
 | .slice t x lo hi mx=>match P.underlying t,opdOf x,optOpd lo,optOpd hi,optOpd mx with
  |some .string,some x,some lo,some hi,some none=>some (.slices x lo hi)
  |some (.slice e),some x,some lo,some hi,some mx=>match sizeB P e with
   |some n=>if mx.isSome=true∧hi.isNone=true then none else some (.slice n x lo hi mx)
   |none=>none
  |_,_,_,_,_=>none
 | .extract x i=>(opdOf x).map (.ext i)
 | .makeFunc fn first caps=>match opdsOf first.toList,opdsOf caps.toList with
  |some a,some b=>some (.mkfn fn a b)
  |_,_=>none
 | .makeInterface t x=>match P.underlying t,opdOf x with
  |some (.interface _),_=>none
  |some _,some x=>some (.mkif t x)
  |_,_=>none
 | .convert s d x=>match P.underlying s,P.underlying d,opdOf x with
  |some (.int _),some (.int k),some x=>some (.cvi k x)
  |some (.int _),some .string,some x=>some (.cvis x)
  |some .string,some .string,some x=>some (.cvss x)
  |some .string,some (.slice e),some x=>if isElemByte P e then some (.cvsb e x) else none
  |some (.slice e),some .string,some x=>if isElemByte P e then some (.cvbs x) else none
  |_,_,_=>none
 | .buildSlice t len parts=>match P.underlying t with
  |some (.slice e)=>match sizeB P e,zeroB P e with
   |some n,some z=>if len*n≤2 ^ 24∧0<n∧z.length=n∧parts.toList.map (·.1)=List.range len then(opdsOf (parts.toList.map (·.2))).map (.bslice e n) else none
   |_,_=>none
  |_=>none
 | .makeSlice t l c=>match P.underlying t,opdOf l,opdOf c with
  |some (.slice e),some l,some c=>match sizeB P e,zeroB P e,P.info? e,isAggB P e with
   |some n,some z,some i,some b=>if 0<n∧z.length=n then some (.mkslice e n i.bytes b z l c) else none
   |_,_,_,_=>none
  |_,_,_=>none
 | .call c=>match c.callee with
  | .value f=>match opdOf f,opdsOf c.args.toList with
   |some f,some l=>some (.call f l)
   |_,_=>none
  | .builtin .len=>match c.argTypes.toList,opdsOf c.args.toList with
   |[t],some [x]=>match P.underlying t with
    |some .string=>some (.lens x)
    |some (.slice _)=>some (.len x)
    |_=>none
   |_,_=>none
  | .builtin .append=>match c.argTypes.toList,opdsOf c.args.toList with
   |[t,u],some [s,x]=>if t=u then match P.underlying t with
    |some (.slice e)=>match P.info? e with
     |some i=>match i.zero with
      |some z=>if 0<i.size∧z.cells.size=i.size then some (.append e i.size i.bytes s x) else none
      |none=>none
     |none=>none
    |_=>none
    else none
   |_,_=>none
  |_=>none
 | .panic x=>(opdOf x).map .panic
 |_=>none
end
end Go.Sha
