/- Further operations. -/
import Derived.Test.YtmjkgajnpmiomaaGreatDoorLShbMC
import Derived.Laws.Cover3
set_option linter.unusedSimpArgs false
set_option linter.unusedVariables false
namespace Go.Sha
def isNilS:Opd→Bool
 | .c .nils=>true
 |_=>false
def isNilI:Opd→Bool
 | .c .nili=>true
 |_=>false
def mapB (P:Program)(t:TypeId):Option (KT×TypeId):=match P.underlying t with
 |some (.map k e)=>match P.underlying k with
  |some .bool=>some (.b,e)
  |some (.int q)=>some (.i q,e)
  |some .string=>some (.s,e)
  |some (.struct _)=>match plainFlat P 60 k,isAggB P k with
   |some ks,some true=>some (.a ks,e)
   |_,_=>none
  |_=>none
 |_=>none
def isBld (P:Program)(o:Oper):Bool:=match o.op with
 | .alloc t=>match((P.info? t).map TypeInfo.desc:Option TypeDesc) with
  |some (TypeDesc.named n _)=>n == "strings.Builder"
  |_=>false
 |_=>false
def sized (P:Program)(t:TypeId):Bool:=match P.info? t with
 |some i=>decide (i.size≠0)
 |none=>false
def zeroV (P:Program)(e:TypeId):Option V:=match(P.info? e).bind (·.zero) with
 |some (.agg cs)=>(constCells cs.toList).map .agg
 |some v=>constCell v
 |none=>none
def compX (P:Program)(o:Oper):Option SOp:=match o.op with
 | .binOp op t x y _=>match opdOf x,opdOf y with
  |some u,some v=>if op=.eql∨op=.neq then match P.underlying t with
   |some (.slice _)=>if isNilS v=true then some (.nilk (op=.neq) u) else none
   |some (.interface _)=>if isNilI v=true then(match y with | .const _=>some (.gen (.eqi (op=.neq)) [u])|_=>none) else none
   |some (.pointer e)=>if sized P e=true then some (.gen (.eqp (op=.neq)) [u,v]) else none
   |_=>none
   else none
  |_,_=>none
 | .call c=>match c.callee with
  | .builtin .min=>match opdsOf c.args.toList with
   |some [x,y]=>some (.gen .mn [x,y])
   |_=>none
  | .builtin .max=>match opdsOf c.args.toList with
   |some [x,y]=>some (.gen .mx [x,y])
   |_=>none
  | .builtin .len=>match c.argTypes.toList,opdsOf c.args.toList with
   |[t],some [x]=>match P.underlying t with
    |some (.map _ _)=>some (.act .mlen [x])
    |_=>none
   |_,_=>none
  | .builtin .append=>match c.argTypes.toList,opdsOf c.args.toList with
   |[t,u],some [s,x]=>match P.underlying t,P.underlying u with
    |some (.slice e),some .string=>match P.info? e with
     |some i=>match i.zero with
      |some z=>if i.size=1∧z.cells.size=i.size then some (.act (.appstr e i.bytes) [s,x]) else none
      |none=>none
     |none=>none
    |_,_=>none
   |_,_=>none
  | .builtin .unsafeSliceData=>match opdsOf c.args.toList with
   |some [x]=>some (.act .usd [x])
   |_=>none
  | .builtin .unsafeString=>match c.argTypes.toList,opdsOf c.args.toList with
   |[t,u],some [x,n]=>match P.underlying t with
    |some (.pointer e)=>if P.cellsOf e=1 then some (.act (.ustr e) [x,n]) else none
    |_=>none
   |_,_=>none
  | .builtin .clear=>match c.argTypes.toList,opdsOf c.args.toList with
   |[t],some [x]=>match P.underlying t with
    |some (.slice e)=>match sizeB P e,zeroB P e,isAggB P e with
     |some n,some z,some b=>if 0<n then(elemZ b z).map fun y=>.act (.clr n y) [x] else none
     |_,_,_=>none
    |_=>none
   |_,_=>none
  |_=>none
 | .makeMap _ none=>some (.act .mkmap [])
 | .alloc t=>(zeroB P t).map fun z=>.act (.newt t z) []
 | .convert s d x=>match P.underlying s,P.underlying d,opdOf x with
  |some (.pointer t),some .unsafePointer,some u=>if sized P t=true then some (.act (.cvp none) [u]) else none
  |some .unsafePointer,some (.pointer t),some u=>match sizeB P t with
   |some n=>if liesAt P P.depth t (n / P.cellsOf t) 0 t 1=true then some (.act (.cvp (some (t,n))) [u]) else none
   |none=>none
  |_,_,_=>none
 | .typeAssert x _ t true=>match P.underlying t,opdOf x,zeroV P t with
  |some (.interface _),_,_=>none
  |some _,some u,some z=>some (.gen (.asrt t z) [u])
  |_,_,_=>none
 | .lookup t x i ok=>match mapB P t,opdOf x,opdOf i with
  |some (q,e),some u,some v=>(zeroV P e).map fun y=>.act (.look q y ok) [u,v]
  |_,_,_=>none
 | .mapUpdate t m k x | .insert t m k x=>match mapB P t,opdsOf [m,k,x] with
  |some (q,_),some l=>some (.act (.mset q) l)
  |_,_=>none
 | .index t x i=>match P.underlying t,opdOf x,opdOf i with
  |some (.array len e),some u,some v=>match cellsB P e,sizeB P e with
   |some n,some es=>some (.gen (.ia len n es) [u,v])
   |_,_=>none
  |_,_,_=>none
 | .slice t x (some lo) (some hi) none=>match P.underlying t,opdOf x,opdOf lo,opdOf hi with
  |some (.array len e),some u,some v,some z=>if sizeB P e=some 1∧len≤maxLen then some (.act (.sla len) [u,v,z]) else none
  |_,_,_,_=>none
 | .range t x=>match P.underlying t,opdOf x with
  |some (.map _ _),some u=>some (.act .rng [u])
  |_,_=>none
 | .next x false=>(opdOf x).map .nxt
 | .entry x=>(opdOf x).map fun u=>.act .ent [u]
 |_=>none
def compOp (P:Program)(o:Oper):Option SOp:=if isBld P o=true then compX P o else match compOp0 P o with
 |some s=>some s
 |none=>compX P o
section
variable {P:Program}{w:World}{A:Abs}{st:St}{a:Act}{env:Env}
theorem nonilk {o:Oper}{b:Bool}{x:Opd}(h:compOp0 P o=some (.nilk b x)):False:=by
 unfold compOp0 at h
 repeat' split at h
 all_goals first|(cases h;done)|(obtain⟨y,hy,e⟩:=Option.map_eq_some_iff.1 h;cases e;done)
theorem nonxt {o:Oper}{x:Opd}(h:compOp0 P o=some (.nxt x)):False:=by
 unfold compOp0 at h
 repeat' split at h
 all_goals first|(cases h;done)|(obtain⟨y,hy,e⟩:=Option.map_eq_some_iff.1 h;cases e;done)
theorem Reps.one {vs:List Value}{x:V}(h:Reps w A vs [x]):∃u,vs=[u]∧Rep w A u x:=by
 obtain⟨u,rfl⟩:=List.length_eq_one_iff.1 h.1
 exact⟨u,rfl,h.2 0 u x rfl rfl⟩
theorem Reps.pair {vs:List Value}{x y:V}(h:Reps w A vs [x,y]):∃u v,vs=[u,v]∧Rep w A u x∧Rep w A v y:=by
 obtain⟨hl,h2⟩:=h
 match vs,hl with
 |[u,v],_=>exact⟨u,v,rfl,h2 0 u x rfl rfl,h2 1 v y rfl rfl⟩
inductive IsX (P:Program) (o:Oper):SOp→Prop
 |nilk (op:BinOp) (t e:TypeId) (x y:Operand) (yt:TypeId) (u:Opd) (ho:o.op=.binOp op t x y yt) (hop:op=.eql∨op=.neq) (ht:P.underlying t=some (.slice e)) (hx:opdOf x=some u) (hy:opdOf y=some (.c .nils)):IsX P o (.nilk (op=.neq) u)
 |eqi (op:BinOp) (t:TypeId) (ms) (x:Operand) (y:Value) (yt:TypeId) (u:Opd) (ho:o.op=.binOp op t x (.const y) yt) (hop:op=.eql∨op=.neq) (ht:P.underlying t=some (.interface ms)) (hx:opdOf x=some u) (hy:opdOf (.const y)=some (.c .nili)):IsX P o (.gen (.eqi (op=.neq)) [u])
 |eqp (op:BinOp) (t e:TypeId) (x y:Operand) (yt:TypeId) (u v:Opd) (ho:o.op=.binOp op t x y yt) (hop:op=.eql∨op=.neq) (ht:P.underlying t=some (.pointer e)) (hz:sized P e=true) (hx:opdOf x=some u) (hy:opdOf y=some v):IsX P o (.gen (.eqp (op=.neq)) [u,v])
 |asrt (x:Operand) (xt t:TypeId) (d:TypeDesc) (u:Opd) (z:V) (ho:o.op=.typeAssert x xt t true) (ht:P.underlying t=some d) (hni:∀ms,d≠.interface ms) (hx:opdOf x=some u) (hz:zeroV P t=some z):IsX P o (.gen (.asrt t z) [u])
 |newt (t:TypeId) (z:List V) (ho:o.op=.alloc t) (hz:zeroB P t=some z):IsX P o (.act (.newt t z) [])
 |cvu (s d t:TypeId) (x:Operand) (u:Opd) (ho:o.op=.convert s d x) (h1:P.underlying s=some (.pointer t)) (h2:P.underlying d=some .unsafePointer) (hz:sized P t=true) (hx:opdOf x=some u):IsX P o (.act (.cvp none) [u])
 |cvt (s d t:TypeId) (n:Nat) (x:Operand) (u:Opd) (ho:o.op=.convert s d x) (h1:P.underlying s=some .unsafePointer) (h2:P.underlying d=some (.pointer t)) (hn:sizeB P t=some n) (hz:liesAt P P.depth t (n / P.cellsOf t) 0 t 1=true) (hx:opdOf x=some u):IsX P o (.act (.cvp (some (t,n))) [u])
 |appstr (c:Call) (t tx e:TypeId) (i:TypeInfo) (z:Value) (s x:Opd) (ho:o.op=.call c) (hc:c.callee=.builtin .append) (hts:c.argTypes.toList=[t,tx]) (hx:opdsOf c.args.toList=some [s,x]) (ht:P.underlying t=some (.slice e)) (hu:P.underlying tx=some .string)
   (hi:P.info? e=some i) (hz:i.zero=some z) (h1:i.size=1) (h2:z.cells.size=i.size):IsX P o (.act (.appstr e i.bytes) [s,x])
 |usd (c:Call) (x:Opd) (ho:o.op=.call c) (hc:c.callee=.builtin .unsafeSliceData) (hx:opdsOf c.args.toList=some [x]):IsX P o (.act .usd [x])
 |ustr (c:Call) (t tn e:TypeId) (x n:Opd) (ho:o.op=.call c) (hc:c.callee=.builtin .unsafeString) (hts:c.argTypes.toList=[t,tn]) (hx:opdsOf c.args.toList=some [x,n]) (ht:P.underlying t=some (.pointer e)) (h1:P.cellsOf e=1):IsX P o (.act (.ustr e) [x,n])
 |clr (c:Call) (t e n:Nat) (z:List V) (b:Bool) (y:V) (x:Opd) (ho:o.op=.call c) (hc:c.callee=.builtin .clear) (hts:c.argTypes.toList=[t]) (hx:opdsOf c.args.toList=some [x]) (ht:P.underlying t=some (.slice e)) (hn:sizeB P e=some n) (hz:zeroB P e=some z) (h0:0<n) (hy:elemZ b z=some y):IsX P o (.act (.clr n y) [x])
 |mn (c:Call) (x y:Opd) (ho:o.op=.call c) (hc:c.callee=.builtin .min) (hx:opdsOf c.args.toList=some [x,y]):IsX P o (.gen .mn [x,y])
 |mx (c:Call) (x y:Opd) (ho:o.op=.call c) (hc:c.callee=.builtin .max) (hx:opdsOf c.args.toList=some [x,y]):IsX P o (.gen .mx [x,y])
 |mlen (c:Call) (t k e:TypeId) (x:Opd) (ho:o.op=.call c) (hc:c.callee=.builtin .len) (ht:c.argTypes.toList=[t]) (hx:opdsOf c.args.toList=some [x]) (hm:P.underlying t=some (.map k e)):IsX P o (.act .mlen [x])
 |mkmap (t:TypeId) (ho:o.op=.makeMap t none):IsX P o (.act .mkmap [])
 |look (t:TypeId) (x i:Operand) (ok:Bool) (q:KT) (e:TypeId) (y:V) (u v:Opd) (ho:o.op=.lookup t x i ok) (hm:mapB P t=some (q,e)) (hx:opdOf x=some u) (hi:opdOf i=some v) (hz:zeroV P e=some y):IsX P o (.act (.look q y ok) [u,v])
 |mset (t:TypeId) (m k x:Operand) (q:KT) (e:TypeId) (l:List Opd) (ho:o.op=.mapUpdate t m k x∨o.op=.insert t m k x) (hm:mapB P t=some (q,e)) (hl:opdsOf [m,k,x]=some l):IsX P o (.act (.mset q) l)
 |ia (t:TypeId) (x i:Operand) (len:Nat) (e:TypeId) (n:Option Nat) (es:Nat) (u v:Opd) (ho:o.op=.index t x i) (ht:P.underlying t=some (.array len e)) (hn:cellsB P e=some n) (hz:sizeB P e=some es) (hx:opdOf x=some u) (hi:opdOf i=some v):IsX P o (.gen (.ia len n es) [u,v])
 |sla (t:TypeId) (x lo hi:Operand) (len:Nat) (e:TypeId) (u v z:Opd) (ho:o.op=.slice t x (some lo) (some hi) none) (ht:P.underlying t=some (.array len e)) (hz:sizeB P e=some 1) (hl:len≤maxLen) (hx:opdOf x=some u) (hlo:opdOf lo=some v) (hhi:opdOf hi=some z):IsX P o (.act (.sla len) [u,v,z])
 |rng (t:TypeId) (x:Operand) (k e:TypeId) (u:Opd) (ho:o.op=.range t x) (ht:P.underlying t=some (.map k e)) (hx:opdOf x=some u):IsX P o (.act .rng [u])
 |nxt (x:Operand) (u:Opd) (ho:o.op=.next x false) (hx:opdOf x=some u):IsX P o (.nxt u)
 |ent (x:Operand) (u:Opd) (ho:o.op=.entry x) (hx:opdOf x=some u):IsX P o (.act .ent [u])
theorem isNilS_eq {v:Opd}(h:isNilS v=true):v=.c .nils:=by
 unfold isNilS at h;split at h
 ·rfl
 ·cases h
theorem isNilI_eq {v:Opd}(h:isNilI v=true):v=.c .nili:=by
 unfold isNilI at h;split at h
 ·rfl
 ·cases h
theorem isX {o:Oper}{so:SOp}(h:compX P o=some so):IsX P o so:=by
 unfold compX at h
 split at h
 ·rename_i op t x y yt ho
  split at h
  ·rename_i u v hu hv
   split at h
   ·rename_i hop
    split at h
    ·rename_i e ht
     split at h
     ·rename_i hn
      cases h
      rw[isNilS_eq hn]at hv
      exact .nilk op t e x y yt u ho hop ht hu hv
     ·cases h
    ·rename_i ms ht
     split at h
     ·rename_i hn
      split at h
      ·cases h
       rw[isNilI_eq hn]at hv
       exact .eqi op t ms x _ yt u ho hop ht hu hv
      ·cases h
     ·cases h
    ·rename_i e ht
     split at h
     ·rename_i hz
      cases h
      exact .eqp op t e x y yt u v ho hop ht hz hu hv
     ·cases h
    ·cases h
   ·cases h
  ·cases h
 ·rename_i c ho
  split at h
  ·rename_i hc
   split at h
   ·rename_i x y hx
    cases h;exact .mn c x y ho hc hx
   ·cases h
  ·rename_i hc
   split at h
   ·rename_i x y hx
    cases h;exact .mx c x y ho hc hx
   ·cases h
  ·rename_i hc
   split at h
   ·rename_i t x ht hx
    split at h
    ·rename_i k e hm
     cases h;exact .mlen c t k e x ho hc ht hx hm
    ·cases h
   ·cases h
  ·rename_i hc
   split at h
   ·rename_i t tx s x hts hx
    split at h
    ·rename_i e ht hu
     split at h
     ·rename_i i hi
      split at h
      ·rename_i z hz
       split at h
       ·rename_i hh
        cases h;exact .appstr c t tx e i z s x ho hc hts hx ht hu hi hz hh.1 hh.2
       ·cases h
      ·cases h
     ·cases h
    ·cases h
   ·cases h
  ·rename_i hc
   split at h
   ·rename_i x hx
    cases h;exact .usd c x ho hc hx
   ·cases h
  ·rename_i hc
   split at h
   ·rename_i t tn x n hts hx
    split at h
    ·rename_i e ht
     split at h
     ·rename_i h1
      cases h;exact .ustr c t tn e x n ho hc hts hx ht h1
     ·cases h
    ·cases h
   ·cases h
  ·rename_i hc
   split at h
   ·rename_i t x hts hx
    split at h
    ·rename_i e ht
     split at h
     ·rename_i n z b hn hz hb
      split at h
      ·rename_i h0
       obtain⟨y,hy,rfl⟩:=Option.map_eq_some_iff.1 h
       exact .clr c t e n z b y x ho hc hts hx ht hn hz h0 hy
      ·cases h
     ·cases h
    ·cases h
   ·cases h
  ·cases h
 ·rename_i t ho
  cases h;exact .mkmap t ho
 ·rename_i t ho
  obtain⟨z,hz,e⟩:=Option.map_eq_some_iff.1 h
  cases e
  exact .newt t z ho hz
 ·rename_i s d x ho
  split at h
  ·rename_i t u h1 h2 hx
   split at h
   ·rename_i hz;cases h;exact .cvu s d t x u ho h1 h2 hz hx
   ·cases h
  ·rename_i t u h1 h2 hx
   split at h
   ·rename_i n hn
    split at h
    ·rename_i hz;cases h;exact .cvt s d t n x u ho h1 h2 hn hz hx
    ·cases h
   ·cases h
  ·cases h
 ·rename_i x xt t ho
  split at h
  ·cases h
  ·rename_i d u z hni ht hx hz
   cases h
   exact .asrt x xt t d u z ho ht (fun ms e=>hni ms (by rw[e])) hx hz
  ·cases h
 ·rename_i t x i ok ho
  split at h
  ·rename_i q e u v hm hx hi
   obtain⟨y,hy,e'⟩:=Option.map_eq_some_iff.1 h
   cases e'
   exact .look t x i ok q e y u v ho hm hx hi hy
  ·cases h
 ·rename_i t m k x ho
  split at h
  ·rename_i q e l hm hl
   cases h;exact .mset t m k x q _ l (.inl ho) hm hl
  ·cases h
 ·rename_i t m k x ho
  split at h
  ·rename_i q e l hm hl
   cases h;exact .mset t m k x q _ l (.inr ho) hm hl
  ·cases h
 ·rename_i t x i ho
  split at h
  ·rename_i len e u v ht hx hi
   split at h
   ·rename_i n es hn hz;cases h;exact .ia t x i len e n es u v ho ht hn hz hx hi
   ·cases h
  ·cases h
 ·rename_i t x lo hi ho
  split at h
  ·rename_i len e u v z ht hx hlo hhi
   split at h
   ·rename_i hc;cases h;exact .sla t x lo hi len e u v z ho ht hc.1 hc.2 hx hlo hhi
   ·cases h
  ·cases h
 ·rename_i t x ho
  split at h
  ·rename_i k e u ht hx
   cases h;exact .rng t x k e u ho ht hx
  ·cases h
 ·rename_i x ho
  obtain⟨u,hu,e'⟩:=Option.map_eq_some_iff.1 h
  cases e'
  exact .nxt x u ho hu
 ·rename_i x ho
  obtain⟨u,hu,e'⟩:=Option.map_eq_some_iff.1 h
  cases e'
  exact .ent x u ho hu
 ·cases h
theorem run_eq_nil {t e:TypeId}(ht:P.underlying t=some (.slice e))(b:Option Addr)(n c:Nat):(binOp .eql t (.slice b n c) (.slice none 0 0)).run P w=.ok (.bool b.isNone) w∧(binOp .neq t (.slice b n c) (.slice none 0 0)).run P w=.ok (.bool (!b.isNone)) w:=by
 constructor
 ·show(do pure (Value.bool (←Op.equal t (.slice b n c) (.slice none 0 0))):Sem Value).run P w=_
  simp only[Sem.run_bind,run_equal_slice_nil w t e b n c ht,Result.andThen_ok,Sem.run_pure]
 ·show(do pure (Value.bool (!(←Op.equal t (.slice b n c) (.slice none 0 0)))):Sem Value).run P w=_
  simp only[Sem.run_bind,run_equal_slice_nil w t e b n c ht,Result.andThen_ok,Sem.run_pure]
theorem run_equalIn_iface {t:TypeId}{ms}(d:Nat)(h:P.underlying t=some (.interface ms))(x:Value)(b:Bool)(hx:(x=.nilIface∧b=true)∨((∃u v,x=.iface u v)∧b=false)):(Op.equalIn (d+1) t x .nilIface).run P w=.ok b w:=by
 rcases hx with⟨e1,e2⟩|⟨⟨u,v,e1⟩,e2⟩
 ·rw[e1,e2]
  simp[Op.equalIn,run_underlying h]
 ·rw[e1,e2]
  simp[Op.equalIn,run_underlying h]
theorem run_equal_iface {t:TypeId}{ms}(h:P.underlying t=some (.interface ms))(x:Value)(b:Bool)(hx:(x=.nilIface∧b=true)∨((∃u v,x=.iface u v)∧b=false)):(Op.equal t x .nilIface).run P w=.ok b w:=run_equalIn_iface 9999 h x b hx
theorem run_eqi {t:TypeId}{ms}(h:P.underlying t=some (.interface ms))(x:Value)(b:Bool)(hx:(x=.nilIface∧b=true)∨((∃u v,x=.iface u v)∧b=false)) :
  (binOp .eql t x .nilIface).run P w=.ok (.bool b) w∧(binOp .neq t x .nilIface).run P w=.ok (.bool (!b)) w:=by
 constructor
 ·have e:binOp .eql t x .nilIface=(do pure (Value.bool (←Op.equal t x .nilIface)):Sem Value):=by rcases hx with⟨rfl,rfl⟩|⟨⟨u,v,rfl⟩,rfl⟩<;>rfl
  rw[e]
  simp only[Sem.run_bind,run_equal_iface h x b hx,Result.andThen_ok,Sem.run_pure]
 ·have e:binOp .neq t x .nilIface=(do pure (Value.bool (!(←Op.equal t x .nilIface))):Sem Value):=by rcases hx with⟨rfl,rfl⟩|⟨⟨u,v,rfl⟩,rfl⟩<;>rfl
  rw[e]
  simp only[Sem.run_bind,run_equal_iface h x b hx,Result.andThen_ok,Sem.run_pure]
theorem opdsOf_eval (he:EnvSim w A a env){xs:List Operand}{l:List Opd}(h:opdsOf xs=some l):Reps w A (xs.map a.eval) (l.map (·.get env)):=reps_get he h
theorem mapB_inv {t e:TypeId}{q:KT}(h:mapB P t=some (q,e)):∃k,P.underlying t=some (.map k e)∧KOk P k q:=by
 unfold mapB at h
 split at h
 ·rename_i k e' ht
  split at h
  ·rename_i hk;cases h;exact⟨k,ht,hk⟩
  ·rename_i hk;cases h;exact⟨k,ht,hk⟩
  ·rename_i hk;cases h;exact⟨k,ht,hk⟩
  ·split at h
   ·rename_i h1 h2;cases h;exact⟨k,ht,h1,h2⟩
   ·cases h
  ·cases h
 ·cases h
theorem zeroV_inv {e:TypeId}{y:V}(h:zeroV P e=some y):∃zv,(zeroValue e).run P w=.ok zv w∧Rep w A zv y:=by
 have key:∀zv,(P.info? e).bind (·.zero)=some zv→(zeroValue e).run P w=.ok zv w:=fun zv hzv=>by
  cases hi:P.info? e with
  |none=>simp[hi]at hzv
  |some i=>simp[hi]at hzv;simp[zeroValue,typeInfo,hi,hzv]
 unfold zeroV at h
 split at h
 ·rename_i cs hz
  obtain⟨ys,hy,rfl⟩:=Option.map_eq_some_iff.1 h
  obtain⟨k1,k2,k3⟩:=rep_constCells (w:=w) (A:=A) hy
  have:=Rep.agg cs.toList ys k1 k2 k3
  rw[Array.toArray_toList]at this
  exact⟨_,key _ hz,this⟩
 ·rename_i v _ hz
  exact⟨v,key _ hz,(rep_constCell h).1⟩
 ·cases h
theorem eqp_run {t e:TypeId}(ht:P.underlying t=some (.pointer e))(hz:sized P e=true){x y:Value}{dx dy d:V}{ne:Bool}(rx:Rep w A x dx)(ry:Rep w A y dy)(h:genV (.eqp ne) [dx,dy]=some d) :
  ∃(p q:Option Addr) (b:Bool),x=.pointer p∧y=.pointer q∧d=.bool (b != ne)∧(binOp .eql t x y).run P w=.ok (.bool b) w∧(binOp .neq t x y).run P w=.ok (.bool (!b)) w:=by
 obtain⟨j,hj,hjs⟩:∃j,P.info? e=some j∧j.size≠0:=by
  unfold sized at hz
  split at hz
  ·rename_i j hj;exact⟨j,hj,by simpa using hz⟩
  ·cases hz
 have two:∀(p q:Option Addr) (b:Bool),(Op.equal t (.pointer p) (.pointer q)).run P w=.ok b w→(binOp .eql t (.pointer p) (.pointer q)).run P w=.ok (.bool b) w∧(binOp .neq t (.pointer p) (.pointer q)).run P w=.ok (.bool (!b)) w:=fun p q b hb=>by
  constructor
  ·show(do pure (Value.bool (←Op.equal t (.pointer p) (.pointer q))):Sem Value).run P w=_
   simp only[Sem.run_bind,hb,Result.andThen_ok,Sem.run_pure]
  ·show(do pure (Value.bool (!(←Op.equal t (.pointer p) (.pointer q)))):Sem Value).run P w=_
   simp only[Sem.run_bind,hb,Result.andThen_ok,Sem.run_pure]
 have nilr':∀(k:Nat) (p:Option Addr),(Op.equalIn (k+1) t (.pointer p) (.pointer none)).run P w=.ok p.isNone w:=fun k p=>by
  cases p<;>simp[Op.equalIn,run_underlying ht]
 have nill':∀(k:Nat) (p:Option Addr),(Op.equalIn (k+1) t (.pointer none) (.pointer p)).run P w=.ok p.isNone w:=fun k p=>by
  simp[Op.equalIn,run_underlying ht]
 have same':∀(k:Nat) (p:Addr),(Op.equalIn (k+1) t (.pointer (some p)) (.pointer (some p))).run P w=.ok true w:=fun k p=>by
  simp[Op.equalIn,run_underlying ht,sizeOf,typeInfo,hj,run_sameAddr_same]
 have nilr:∀p:Option Addr,(Op.equal t (.pointer p) (.pointer none)).run P w=.ok p.isNone w:=nilr' 9999
 have nill:∀p:Option Addr,(Op.equal t (.pointer none) (.pointer p)).run P w=.ok p.isNone w:=nill' 9999
 have same:∀p:Addr,(Op.equal t (.pointer (some p)) (.pointer (some p))).run P w=.ok true w:=same' 9999
 cases rx with
 |nilp=>cases ry with
  |nilp=>cases h;exact⟨none,none,true,rfl,rfl,by simp,two none none true (nilr none)⟩
  |ptr id off hid=>cases h;exact⟨none,_,false,rfl,rfl,by simp,two none (some _) false (nill _)⟩
  |_=>cases h
 |ptr id off hid=>cases ry with
  |nilp=>cases h;exact⟨_,none,false,rfl,rfl,by simp,two (some _) none false (nilr _)⟩
  |ptr id' off' hid' =>
   simp only[genV]at h
   split at h
   ·rename_i hc
    obtain⟨rfl,rfl⟩:=hc
    cases h
    exact⟨_,_,true,rfl,rfl,by simp,two _ _ true (same _)⟩
   ·cases h
  |_=>cases h
 |_=>cases h
theorem gives_ia {t e:TypeId}{len:Nat}{n:Option Nat}{es:Nat}(ht:P.underlying t=some (.array len e))(hn:cellsB P e=some n)(hz:sizeB P e=some es){x i:Value}{dx di d:V}(hx:Rep w A x dx)(hi:Rep w A i di)
  (h:genV (.ia len n es) [dx,di]=some d):Gives P w A (Instr.index t x i) d:=by
 cases hx<;>simp only[genV]at h<;>try (cases h;done)
 rename_i vs cs hl ho hr
 split at h
 ·rename_i j hj
  obtain⟨k,rfl⟩:=natV_inv hi hj
  split at h
  ·rename_i hlt
   cases n with
   |none =>
    simp only[rd]at h
    have hlt2:=(List.getElem?_eq_some_iff.1 h).1
    have hlt':j*es<vs.length:=by omega
    exact⟨vs[j*es],by simp[Instr.index,asIntOf,run_underlying ht,hlt,sizeB_eq hz,part,isAggB_eq (cellsB_none hn),hlt'],hr _ _ _ (by simp[hlt']) h⟩
   |some n =>
    simp only[rd]at h
    split at h
    ·rename_i hle
     cases h
     obtain⟨t1,t2⟩:=cellsB_some hn
     refine⟨.agg ((vs.drop (j*es)).take n).toArray,?_,?_⟩
     ·simp[Instr.index,asIntOf,run_underlying ht,hlt,sizeB_eq hz,part,isAggB_eq t1,sizeB_eq t2,List.extract_eq_take_drop]
      rw[hz]at t2;cases t2;simp[isAggB_eq t1,List.extract_eq_take_drop]
     ·refine .agg _ _ (by simp;omega) (fun v hv=>ho v (List.mem_of_mem_drop (List.mem_of_mem_take hv))) (fun i v c hv hc=>?_)
      have hi:i<n:=by have:=(List.getElem?_eq_some_iff.1 hv).1;simp at this;omega
      rw[List.getElem?_take_of_lt hi,List.getElem?_drop]at hv hc
      exact hr _ _ _ hv hc
    ·cases h
  ·cases h
 ·cases h
theorem gen_sound {o:Oper}{g:Gen}{xs:List Opd}{d:V}(hi:IsX P o (.gen g xs))(he:EnvSim w A a env)(hv:genV g (xs.map (·.get env))=some d):GivesV P w A (execOp a.eval o) d:=by
 cases hi with
 |eqi op t ms x y yt u ho hop ht hx hy =>
  have rx:=rep_get (w:=w) (A:=A) he hx
  have ey:y=.nilIface:=by
   have key:∀v:Value,constCell v=some .nili→v=.nilIface:=fun v h=>by
    unfold constCell at h
    split at h<;>first|(cases h;done)|rfl
   cases y with
   |agg cs=>simp only[opdOf]at hy;split at hy<;>simp at hy
   |_=>exact key _ (by simpa [opdOf] using hy)
  subst ey
  unfold execOp
  rw[ho]
  simp only[List.map_cons,List.map_nil]at hv
  generalize u.get env=dx at *
  generalize hax:a.eval x=vx at *
  have ea:a.eval (.const .nilIface)=.nilIface:=rfl
  cases rx with
  |nili =>
   cases hv
   obtain⟨g1,g2⟩:=run_eqi (w:=w) ht .nilIface true (.inl ⟨rfl,rfl⟩)
   rcases hop with rfl|rfl
   ·exact⟨.bool true,by simp[hax,ea,eqGuard,g1],.bool _⟩
   ·exact⟨.bool false,by simp[hax,ea,eqGuard,g2],.bool _⟩
  |iface t' v' d' h' =>
   cases hv
   obtain⟨g1,g2⟩:=run_eqi (w:=w) ht (.iface t' v') false (.inr ⟨⟨_,_,rfl⟩,rfl⟩)
   rcases hop with rfl|rfl
   ·exact⟨.bool false,by simp[hax,ea,eqGuard,g1],.bool _⟩
   ·exact⟨.bool true,by simp[hax,ea,eqGuard,g2],.bool _⟩
  |_=>cases hv
 |eqp op t e x y yt u v ho hop ht hz hx hy =>
  have rx:=rep_get (w:=w) (A:=A) he hx
  have ry:=rep_get (w:=w) (A:=A) he hy
  simp only[List.map_cons,List.map_nil]at hv
  generalize u.get env=dx at *
  generalize v.get env=dy at *
  generalize hax:a.eval x=vx at *
  generalize hay:a.eval y=vy at *
  obtain⟨p,q,b,rfl,rfl,hb,g1,g2⟩:=eqp_run (w:=w) ht hz rx ry hv
  subst hb
  unfold execOp
  rw[ho]
  rcases hop with rfl|rfl
  ·exact⟨.bool b,by simp[hax,hay,eqGuard,g1],by simpa using Rep.bool (w:=w) (A:=A) b⟩
  ·exact⟨.bool (!b),by simp[hax,hay,eqGuard,g2],by simpa using Rep.bool (w:=w) (A:=A) (!b)⟩
 |asrt x xt t dd u z ho ht hni hx hz =>
  have rx:=rep_get (w:=w) (A:=A) he hx
  obtain⟨zv,z1,z2⟩:=zeroV_inv (w:=w) (A:=A) hz
  simp only[List.map_cons,List.map_nil]at hv
  generalize u.get env=dx at *
  generalize hax:a.eval x=vx at *
  unfold execOp
  rw[ho]
  cases rx with
  |nili =>
   cases hv
   refine⟨.tuple #[zv,.bool false],?_,.tup [zv,.bool false] [z,.bool false] rfl (fun i v c h1 h2=>?_)⟩
   ·have:(Instr.typeAssert .nilIface xt t true).run P w=.ok (.tuple #[zv,.bool false]) w:=by
     unfold Instr.typeAssert
     simp only[Sem.run_bind,run_underlying ht,Result.andThen_ok]
     cases dd<;>first|(exact absurd rfl (hni _))|simp[z1]
    simp[hax,this]
   ·match i,h1,h2 with
    |0,h1,h2=>simp at h1 h2;subst h1 h2;exact z2
    |1,h1,h2=>simp at h1 h2;subst h1 h2;exact .bool _
  |iface t' v' d' h' =>
   by_cases e:t'=t
   ·subst e
    simp only[genV,if_true]at hv
    cases hv
    refine⟨.tuple #[v',.bool true],?_,.tup [v',.bool true] [d',.bool true] rfl (fun i v c h1 h2=>?_)⟩
    ·have:(Instr.typeAssert (.iface t' v') xt t' true).run P w=.ok (.tuple #[v',.bool true]) w:=by
      unfold Instr.typeAssert
      simp only[Sem.run_bind,run_underlying ht,Result.andThen_ok]
      cases dd<;>first|(exact absurd rfl (hni _))|simp
     simp[hax,this]
    ·match i,h1,h2 with
     |0,h1,h2=>simp at h1 h2;subst h1 h2;exact h'
     |1,h1,h2=>simp at h1 h2;subst h1 h2;exact .bool _
   ·simp only[genV,if_neg e]at hv
    cases hv
    refine⟨.tuple #[zv,.bool false],?_,.tup [zv,.bool false] [z,.bool false] rfl (fun i v c h1 h2=>?_)⟩
    ·have:(Instr.typeAssert (.iface t' v') xt t true).run P w=.ok (.tuple #[zv,.bool false]) w:=by
      unfold Instr.typeAssert
      simp only[Sem.run_bind,run_underlying ht,Result.andThen_ok]
      cases dd<;>first|(exact absurd rfl (hni _))|simp[z1,e]
     simp[hax,this]
    ·match i,h1,h2 with
     |0,h1,h2=>simp at h1 h2;subst h1 h2;exact z2
     |1,h1,h2=>simp at h1 h2;subst h1 h2;exact .bool _
  |_=>cases hv
 |mn c x y ho hc hx =>
  obtain⟨u,v,e,r1,r2⟩:=(opdsOf_eval (w:=w) (A:=A) he hx).pair
  simp only[List.map_cons,List.map_nil,genV]at hv
  unfold minV at hv
  split at hv
  ·rename_i k a1 k' b1 e1 e2
   split at hv
   ·rename_i hk
    cases hv
    simp only[e1]at r1
    simp only[e2]at r2
    cases r1;cases r2
    subst hk
    refine⟨.int k (if b1<a1 then b1 else a1),?_,.int _ _⟩
    unfold execOp
    rw[ho]
    have ea:(c.args.map a.eval).toList=[.int k a1,.int k b1]:=by rw[Array.toList_map];exact e
    simp only[resolve,hc,Sem.run_bind,Sem.run_pure,Result.andThen_ok,invoke,builtin,Builtin.min_,ea,List.foldlM_cons,List.foldlM_nil,Builtin.min2]
   ·cases hv
  ·cases hv
 |mx c x y ho hc hx =>
  obtain⟨u,v,e,r1,r2⟩:=(opdsOf_eval (w:=w) (A:=A) he hx).pair
  simp only[List.map_cons,List.map_nil,genV]at hv
  unfold maxV at hv
  split at hv
  ·rename_i k a1 k' b1 e1 e2
   split at hv
   ·rename_i hk
    cases hv
    simp only[e1]at r1
    simp only[e2]at r2
    cases r1;cases r2
    subst hk
    refine⟨.int k (if b1>a1 then b1 else a1),?_,.int _ _⟩
    unfold execOp
    rw[ho]
    have ea:(c.args.map a.eval).toList=[.int k a1,.int k b1]:=by rw[Array.toList_map];exact e
    simp only[resolve,hc,Sem.run_bind,Sem.run_pure,Result.andThen_ok,invoke,builtin,Builtin.max_,ea,List.foldlM_cons,List.foldlM_nil,Builtin.max2]
   ·cases hv
  ·cases hv
 |ia t x i len e n es u v ho ht hn hz hx hi =>
  unfold execOp
  rw[ho]
  simp only[List.map_cons,List.map_nil]at hv
  exact(gives_ia ht hn hz (rep_get he hx) (rep_get he hi) hv).v
theorem appstr_inv {e b:Nat}{s x:V}{r:V×St}(h:actV (.appstr e b) [s,x] st=some r):∃l,x=.str l∧appstrV st e b s l=some r:=by
 cases x<;>first|exact⟨_,rfl,h⟩|cases h
theorem does_clr (hs:Sim w A st){t e n ty:Nat}{z:List V}{b:Bool}{y:V}(ht:P.underlying t=some (.slice e))(hn:sizeB P e=some n)(hz:zeroB P e=some z)(h0:0<n)(hy:elemZ b z=some y){x:Value}{dx d:V}{st':St}
  (rx:Rep w A x dx) (h:clrV n y st dx=some (d,st')):∃w',(Builtin.clear_ #[t] ty #[x]).run P w=.ok (.tuple #[]) w'∧Rep w' A (.tuple #[]) d∧Sim w' A st'∧Ext w A w' A:=by
 unfold clrV at h
 split at h
 ·rename_i id m l hh es
  cases har:look st.arr id with
  |none=>rw[har]at h;cases h
  |some r =>
   rw[har]at h
   simp only[clrA]at h
   split at h
   ·rename_i hc
    obtain⟨c1,c2,c3,rfl,c5,c6,c7⟩:=hc
    cases h
    have hk:=hs.arr id r har
    obtain⟨i,hi,hin⟩:∃i,P.info? e=some i∧i.size=es:=by
     unfold sizeB at hn
     obtain⟨i,hi,e⟩:=Option.map_eq_some_iff.1 hn
     exact⟨i,hi,e⟩
    have hrt:∀w,Rep w A (.tuple #[]) (.tup []):=fun w=>Rep.tup [] [] rfl (by simp)
    have hycells:=elemZ_cells hy
    cases rx with
    |win _ _ _ _ _ _ q1 q2 q3 =>
     obtain⟨w1,w2⟩:=q3 (by rw[hk.ln,c1])
     rcases Nat.eq_or_lt_of_le c6 with hlh|hlh
     ·-- nothing
      subst hlh
      have he:r.xs.take l++List.replicate (l-l) y++r.xs.drop l=r.xs:=by simp
      have hst:({ st with arr:=updA st.arr id { r with xs:=r.xs.take l++List.replicate (l-l) y++r.xs.drop l } }:St)=st:=by
       rw[he,show({ r with xs:=r.xs }:Arr)=r from rfl,updA_same har]
      refine⟨w,?_,hrt w,by rw[hst];exact hs,Ext.refl w A⟩
      rcases hk.row with⟨p1,_⟩|⟨g,cap,cur,p1,_⟩
      ·rw[w2 p1];simp[Builtin.clear_,run_underlying ht]
      ·rw[w1 g cap (by rw[p1,c1]),Nat.sub_self]
       split<;>simp[Builtin.clear_,run_underlying ht]
     ·rcases hk.row with⟨_,p2,_⟩|⟨g,cap,cur,p1,p2,p3,p4,p5,p6,p7,p8,p9⟩
      ·rw[p2]at c1;simp at c1;omega
      ·rw[c1]at p3
       rw[w1 g cap (by rw[p1,c1]),if_neg (by omega)]
       unfold zeroB at hz
       split at hz
       ·rename_i zv hzv
        rw[hi]at hzv
        simp at hzv
        obtain⟨k1,k2,k3⟩:=rep_constCells (w:=w) (A:=A) hz
        have hzl:zv.cells.size=es:=by
         have:z.length=es:=by rw[←hycells];exact c5
         simpa [this] using k1
        have hv:∀w,(zeroValue e).run P w=.ok zv w:=fun w=>by simp[zeroValue,typeInfo,hi,hzv]
        have hrow:=p2
        unfold rowAt at hrow
        rw[c3]at p5 p9
        have hfit:l*es+(hh-l)*es≤cur.size:=by
         rw[p5,←Nat.add_mul];exact Nat.mul_le_mul_right _ (by omega)
        obtain⟨new,hrun,s1,s2,s3,s4⟩:=run_clear_row (P:=P) hrow (by split;exact .inr (Nat.le_refl _);exact .inl rfl) ht hv hzl k2 (l*es) (hh-l) (by omega) hfit
        have hlen:(r.xs.take l++List.replicate (hh-l) y++r.xs.drop hh).length=r.xs.length:=by simp;omega
        have hxes:∀x∈r.xs,x.cells.length=es:=fun x hx=>(hk.es x hx).trans c3
        obtain⟨hx,hsim⟩:=hs.setAll har c2 p1 p2 p6 (by rw[c1];exact p3) p4 (by rw[p5,c3]) (new:=new) s1 (ys:=r.xs.take l++List.replicate (hh-l) y++r.xs.drop hh) hlen (fun v hv=>by
         rcases List.mem_append.1 hv with hv|hv
         ·rcases List.mem_append.1 hv with hv|hv
          ·exact hk.es v (List.mem_of_mem_take hv)
          ·rw[List.eq_of_mem_replicate hv,c3];exact c5
         ·exact hk.es v (List.mem_of_mem_drop hv)) (fun a j v c ha hcc=>by
         rw[c3]
         have le:∀p q:Nat,p<q→j<es→p*es+j<q*es:=fun p q hpq hj=>by
          have:=Nat.mul_le_mul_right es (show p+1≤q from hpq);rw[Nat.add_mul,Nat.one_mul]at this;omega
         have ge:∀p q:Nat,q≤p→q*es≤p*es:=fun p q hpq=>Nat.mul_le_mul_right es hpq
         have e1:(hh-l)*es=hh*es-l*es:=Nat.sub_mul ..
         rw[List.append_assoc]at ha
         by_cases g1:a<l
         ·rw[List.getElem?_append_left (by simp;omega),List.getElem?_take_of_lt g1]at ha
          have hj:j<es:=by rw[←hxes v (List.mem_of_getElem? ha)];exact(List.getElem?_eq_some_iff.1 hcc).1
          rw[s2 _ (le a l g1 hj)]
          exact p9 a j v c ha hcc
         ·rw[List.getElem?_append_right (by simp;omega),List.length_take,show a-min l r.xs.length=a-l by omega]at ha
          by_cases g2:a<hh
          ·rw[List.getElem?_append_left (by simp;omega),List.getElem?_replicate,if_pos (by omega)]at ha
           cases ha
           have hj:j<es:=by rw[←c5];exact(List.getElem?_eq_some_iff.1 hcc).1
           have h1:=ge a l (by omega)
           have h2:=le a hh g2 hj
           have h3:=s3 (a*es+j-l*es) (by omega)
           rw[show l*es+(a*es+j-l*es)=a*es+j by omega,show(a*es+j-l*es) % es=j by
            rw[show a*es+j-l*es=(a-l)*es+j by rw[Nat.sub_mul];omega,Nat.mul_comm,Nat.mul_add_mod,Nat.mod_eq_of_lt hj]]at h3
           have hjz:j<zv.cells.size:=by omega
           rw[getElem!_pos zv.cells j hjz]at h3
           rw[hycells]at hcc
           exact⟨_,h3,k2 _ (by simp),k3 j _ c (by simp[hjz]) hcc⟩
          ·rw[List.getElem?_append_right (by simp;omega),List.getElem?_drop,List.length_replicate,show hh+(a-l-(hh-l))=a by omega]at ha
           have h1:=ge a hh (by omega)
           have h2:=ge hh l (by omega)
           rw[s4 _ (by omega)]
           exact p9 a j v c ha hcc)
        exact⟨_,hrun _ _,hrt _,hsim,hx⟩
       ·cases hz
   ·cases h
 ·cases h
theorem act_sound {o:Oper}{g:ActK}{xs:List Opd}(hi:IsX P o (.act g xs))(hs:Sim w A st)(he:EnvSim w A a env){d:V}{st':St}(h:actV g (xs.map (·.get env)) st=some (d,st')):Does P w A (execOp a.eval o) d st':=by
 cases hi with
 |mlen c t k e x ho hc ht hx hm =>
  obtain⟨u,e1,r1⟩:=(opdsOf_eval (w:=w) (A:=A) he hx).one
  obtain⟨v,g1,g2,rfl⟩:=does_mlen (ty:=o.type) hs hm r1 h
  refine⟨.value v,w,A,?_,.inl ⟨v,rfl,g2⟩,hs,Ext.refl w A⟩
  unfold execOp
  rw[ho]
  have ea:c.args.map a.eval=#[u]:=by
   have:(c.args.map a.eval).toList=[u]:=by rw[Array.toList_map];exact e1
   rw[←Array.toArray_toList (xs:=c.args.map a.eval),this]
  have et:c.argTypes=#[t]:=by rw[←Array.toArray_toList (xs:=c.argTypes),ht]
  simp only[resolve,hc,Sem.run_bind,Sem.run_pure,Result.andThen_ok,invoke,builtin,ea,et,g1]
 |mkmap t ho =>
  cases h
  unfold execOp
  rw[ho]
  exact does_mkmap hs t
 |newt t z ho hz =>
  cases h
  unfold execOp
  rw[ho]
  exact does_newt hs hz
 |cvu s d' t x u ho h1 h2 hz hx =>
  obtain⟨j,hj,hjs⟩:∃j,P.info? t=some j∧j.size≠0:=by
   unfold sized at hz
   split at hz
   ·rename_i j hj;exact⟨j,hj,by simpa using hz⟩
   ·cases hz
  obtain⟨v,g1,g2,rfl⟩:=does_cvu hs h1 h2 hj hjs (rep_get he hx) h
  refine⟨.value v,w,A,?_,.inl ⟨v,rfl,g2⟩,hs,Ext.refl w A⟩
  unfold execOp
  rw[ho]
  simp[g1]
 |cvt s d' t n x u ho h1 h2 hn hz hx =>
  obtain⟨j,hj⟩:∃j,P.info? t=some j:=by
   unfold sizeB at hn
   obtain⟨j,hj,_⟩:=Option.map_eq_some_iff.1 hn
   exact⟨j,hj⟩
  obtain⟨v,g1,g2,rfl⟩:=does_cvt hs h1 h2 hj hz (rep_get he hx) h
  refine⟨.value v,w,A,?_,.inl ⟨v,rfl,g2⟩,hs,Ext.refl w A⟩
  unfold execOp
  rw[ho]
  simp[g1]
 |appstr c t tx e i z s x ho hc hts hx ht hu hi hz h1 h2 =>
  obtain⟨u,v,ea,r1,r2⟩:=(opdsOf_eval (w:=w) (A:=A) he hx).pair
  obtain⟨l,hl,h⟩:=appstr_inv (by simpa using h)
  have r2':Rep w A v (x.get env):=r2
  rw[hl]at r2'
  have hv:=r2'.str_inv
  subst hv
  obtain⟨u',w',A',g1,g2,g3,g4⟩:=appstr_sound (P:=P) (ty:=o.type) ht hu hi hz h1 h2 hs r1 h
  refine⟨.value u',w',A',?_,.inl ⟨u',rfl,g2⟩,g3,g4⟩
  unfold execOp
  rw[ho]
  have ea':c.args.map a.eval=#[u,.string ⟨l.toArray⟩]:=by
   have:(c.args.map a.eval).toList=[u,.string ⟨l.toArray⟩]:=by rw[Array.toList_map];exact ea
   rw[←Array.toArray_toList (xs:=c.args.map a.eval),this]
  have et:c.argTypes=#[t,tx]:=by rw[←Array.toArray_toList (xs:=c.argTypes),hts]
  simp only[resolve,hc,Sem.run_bind,Sem.run_pure,Result.andThen_ok,invoke,builtin,ea',et,g1]
 |usd c x ho hc hx =>
  obtain⟨u,e1,r1⟩:=(opdsOf_eval (w:=w) (A:=A) he hx).one
  obtain⟨v,g1,g2,rfl⟩:=does_usd (P:=P) hs c.argTypes o.type r1 h
  refine⟨.value v,w,A,?_,.inl ⟨v,rfl,g2⟩,hs,Ext.refl w A⟩
  unfold execOp
  rw[ho]
  have ea:c.args.map a.eval=#[u]:=by
   have:(c.args.map a.eval).toList=[u]:=by rw[Array.toList_map];exact e1
   rw[←Array.toArray_toList (xs:=c.args.map a.eval),this]
  simp only[resolve,hc,Sem.run_bind,Sem.run_pure,Result.andThen_ok,invoke,builtin,ea,g1]
 |clr c t e n z b y x ho hc hts hx ht hn hz h0 hy =>
  obtain⟨u,e1,r1⟩:=(opdsOf_eval (w:=w) (A:=A) he hx).one
  have h':clrV n y st (x.get env)=some (d,st'):=h
  obtain⟨w',g1,g2,g3,g4⟩:=does_clr (P:=P) (ty:=o.type) hs ht hn hz h0 hy r1 h'
  refine⟨.value (.tuple #[]),w',A,?_,.inl ⟨_,rfl,g2⟩,g3,g4⟩
  unfold execOp
  rw[ho]
  have ea:c.args.map a.eval=#[u]:=by
   have:(c.args.map a.eval).toList=[u]:=by rw[Array.toList_map];exact e1
   rw[←Array.toArray_toList (xs:=c.args.map a.eval),this]
  have et:c.argTypes=#[t]:=by rw[←Array.toArray_toList (xs:=c.argTypes),hts]
  simp only[resolve,hc,Sem.run_bind,Sem.run_pure,Result.andThen_ok,invoke,builtin,ea,et,g1]
 |ustr c t tn e x n ho hc hts hx ht h1 =>
  obtain⟨u,v,ea,r1,r2⟩:=(opdsOf_eval (w:=w) (A:=A) he hx).pair
  have h':ustrV st e (x.get env) (n.get env)=some (d,st'):=h
  obtain⟨u',w',A',g1,g2,g3,g4⟩:=does_ustr (P:=P) (it:=tn) (ty:=o.type) hs ht h1 r1 r2 h'
  refine⟨.value u',w',A',?_,.inl ⟨u',rfl,g2⟩,g3,g4⟩
  unfold execOp
  rw[ho]
  have ea':c.args.map a.eval=#[u,v]:=by
   have:(c.args.map a.eval).toList=[u,v]:=by rw[Array.toList_map];exact ea
   rw[←Array.toArray_toList (xs:=c.args.map a.eval),this]
  have et:c.argTypes=#[t,tn]:=by rw[←Array.toArray_toList (xs:=c.argTypes),hts]
  simp only[resolve,hc,Sem.run_bind,Sem.run_pure,Result.andThen_ok,invoke,builtin,ea',et,g1]
 |look t x i ok q e y u v ho hm hx hi hz =>
  obtain⟨k,h1,h2⟩:=mapB_inv hm
  obtain⟨zv,z1,z2⟩:=zeroV_inv (w:=w) (A:=A) hz
  unfold execOp
  rw[ho]
  exact does_look hs h1 h2 z1 z2 (rep_get he hx) (rep_get he hi) ok h
 |mset t m k x q e _ ho hm hl =>
  obtain⟨k',h1,h2⟩:=mapB_inv hm
  have hr:=opdsOf_eval (w:=w) (A:=A) he hl
  have hll:(xs.map (·.get env)).length=3:=hr.1.symm
  obtain⟨l1,l2,l3,e1⟩:∃x y z,xs.map (·.get env)=[x,y,z]:=by
   generalize xs.map (·.get env)=ys at hll
   match ys,hll with
   |[x,y,z],_=>exact⟨x,y,z,rfl⟩
  rw[e1]at hr h
  have:=does_mset hs h1 h2 (hr.2 0 _ _ rfl rfl) (hr.2 1 _ _ rfl rfl) (hr.2 2 _ _ rfl rfl) h
  unfold execOp
  rcases ho with ho|ho<;>(rw[ho];exact this)
 |sla t x lo hi len e u v z ho ht hz hl hx hlo hhi =>
  unfold execOp
  rw[ho]
  exact does_sla hs ht hz hl (rep_get he hx) (rep_get he hlo) (rep_get he hhi) h
 |rng t x k e u ho ht hx =>
  unfold execOp
  rw[ho]
  exact does_rng hs ht (rep_get he hx) h
 |ent x u ho hx =>
  unfold execOp
  rw[ho]
  obtain⟨e1,hg⟩:=run_ent (P:=P) hs (rep_get he hx) h
  subst e1
  exact hg.v.does hs
theorem compOp_cases {o:Oper}{so:SOp}(h:compOp P o=some so):compOp0 P o=some so∨IsX P o so:=by
 unfold compOp at h
 split at h
 ·exact .inr (isX h)
 ·split at h
  ·rename_i s hs;cases h;exact .inl hs
  ·exact .inr (isX h)
theorem evs_sound {o:Oper}{so:SOp}{d:V}(hc:compOp P o=some so)(hs:Sim w A st)(he:EnvSim w A a env)(hv:evs so env st=some d):GivesV P w A (execOp a.eval o) d:=by
 rcases compOp_cases hc with h|h
 ·exact evs_sound0 h hs he hv
 ·cases so with
  |gen g xs=>exact gen_sound h he hv
  |act g xs=>cases hv
  |nilk ne x=>cases hv
  |nxt x=>cases hv
  |_=>cases h
theorem stv_sound {o:Oper}{so:SOp}{d:V}{st':St}(hc:compOp P o=some so)(hs:Sim w A st)(he:EnvSim w A a env)(h:stv so env st=some (d,st')):Does P w A (execOp a.eval o) d st':=by
 rcases compOp_cases hc with h'|h'
 ·exact stv_sound0 h' hs he h
 ·cases so with
  |gen g xs =>
   obtain⟨v,hv,e⟩:=Option.map_eq_some_iff.1 (show(evs (.gen g xs) env st).map (fun v=>(v,st))=some (d,st') from h)
   cases e
   exact(gen_sound h' he hv).does hs
  |act g xs=>exact act_sound h' hs he h
  |nilk ne x=>cases h
  |nxt x=>cases h
  |_=>cases h'
def nilK (st:St)(k:Bool→Prop):V→Prop
 | .nils=>k true
 | .sl []=>k true∧k false
 | .sl (_::_)=>k false
 | .clip []=>k true∧k false
 | .clip (_::_)=>k false
 | .osl id n=>match look st.arr id with
  |some a=>a.xs.length=n∧if n=0 then k true∧k false else k false
  |none=>False
 |_=>False
theorem sl_isNone {v:Value}{xs:List V}(h:Rep w A v (.sl xs)):∃b n c,v=.slice b n c∧(xs≠[]→b.isNone=false):=by
 cases h with
 |sl _ b o cap es cell h1 h2 h3 h4 h5=>exact⟨_,_,_,rfl,fun _=>rfl⟩
 |slnil a=>exact⟨_,_,_,rfl,fun h=>absurd rfl h⟩
theorem nilk_sound {o:Oper}{ne:Bool}{x:Opd}(hc:compOp P o=some (.nilk ne x))(hs:Sim w A st)(he:EnvSim w A a env){k:Bool→Prop}(h:nilK st k (x.get env)) :
  ∃b:Bool,(execOp a.eval o).run P w=.ok (.value (.bool (b != ne))) w∧k b:=by
 rcases compOp_cases hc with h'|h'
 ·exact(nonilk h').elim
 ·cases h' with
  |nilk op t e y z yt u ho hop ht hx hy =>
   have rx:=rep_get (w:=w) (A:=A) he hx
   have rz:=rep_get (w:=w) (A:=A) he hy
   have ez:a.eval z=.slice none 0 0:=by
    generalize a.eval z=vz at rz ⊢
    have:Opd.get env (.c .nils)=.nils:=rfl
    rw[this]at rz
    cases rz;rfl
   have main:∀(b:Option Addr) (n c:Nat),a.eval y=.slice b n c→(execOp a.eval o).run P w=.ok (.value (.bool (b.isNone != decide (op=.neq)))) w:=by
    intro b n c hv
    obtain⟨g1,g2⟩:=run_eq_nil (w:=w) ht b n c
    unfold execOp
    rw[ho]
    rcases hop with rfl|rfl
    ·simp[hv,ez,eqGuard,g1]
    ·simp[hv,ez,eqGuard,g2]
   have both:k true∧k false→∀(b:Option Addr) (n c:Nat),a.eval y=.slice b n c→∃b:Bool,(execOp a.eval o).run P w=.ok (.value (.bool (b != decide (op=.neq)))) w∧k b:=fun h b n c hv =>
    ⟨b.isNone,main b n c hv,by cases b.isNone;exact h.2;exact h.1⟩
   have slc:∀xs,Rep w A (a.eval y) (.sl xs)→(xs=[]→k true∧k false)→(xs≠[]→k false)→∃b:Bool,(execOp a.eval o).run P w=.ok (.value (.bool (b != decide (op=.neq)))) w∧k b:=fun xs hr h1 h2=>by
    obtain⟨b,n,c,hv,hn⟩:=sl_isNone hr
    by_cases hxs:xs=[]
    ·exact both (h1 hxs) b n c hv
    ·exact⟨b.isNone,main b n c hv,by rw[hn hxs];exact h2 hxs⟩
   generalize hd:x.get env=d at rx h
   cases d with
   |nils =>
    generalize hv:a.eval y=vy at rx
    cases rx
    exact⟨true,main none 0 0 hv,h⟩
   |sl xs=>cases xs with
    |nil=>exact slc [] rx (fun _=>h) (fun h=>absurd rfl h)
    |cons z zs=>exact slc _ rx (fun h=>by cases h) (fun _=>h)
   |clip xs =>
    have rx':Rep w A (a.eval y) (.sl xs):=by
     generalize a.eval y=vy at rx ⊢
     cases rx with|clip b xs h=>exact h
    cases xs with
    |nil=>exact slc [] rx' (fun _=>h) (fun h=>absurd rfl h)
    |cons z zs=>exact slc _ rx' (fun h=>by cases h) (fun _=>h)
   |osl id n =>
    have hform:∀ar,look st.arr id=some ar→ar.xs.length=n→∃b c,a.eval y=.slice b n c∧(n≠0→b.isNone=false):=fun ar har hn=>by
     obtain⟨e1,hk⟩:=osl_alive hs har hn rx
     rcases hk.row with⟨r,r',_⟩|⟨g,cap,cur,r1,_⟩
     ·rw[r']at hn
      refine⟨none,0,?_,fun h=>?_⟩
      ·rw[e1,r,←hn];rfl
      ·exact absurd (by rw[←hn];rfl) h
     ·exact⟨_,cap,by rw[e1,r1,hn],fun _=>rfl⟩
    simp only[nilK]at h
    split at h
    ·rename_i ar har
     obtain⟨hn,hk⟩:=h
     obtain⟨b,c,hv,hb⟩:=hform ar har hn
     split at hk
     ·exact both hk b n c hv
     ·rename_i hn0
      exact⟨b.isNone,main b n c hv,by rw[hb hn0];exact hk⟩
    ·exact h.elim
   |_=>exact h.elim
theorem nxt_sound {o:Oper}{x:Opd}(hc:compOp P o=some (.nxt x))(hs:Sim w A st)(he:EnvSim w A a env){k:V→St→Prop}(h:nxtK st k (x.get env)) :
  ∃d st',Does P w A (execOp a.eval o) d st'∧k d st':=by
 rcases compOp_cases hc with h'|h'
 ·exact(nonxt h').elim
 ·cases h' with
  |nxt y u ho hx =>
   unfold execOp
   rw[ho]
   exact run_nxt hs (rep_get he hx) h _
theorem evq_sound {o:Oper}{so:SOp}{d:V}(hc:compOp P o=some so)(hs:Sim w A st)(he:EnvSim w A a env)(h:evq so env st=some d):∃u w' A',(execOp a.eval o).run P w=.ok (.value u) w'∧Rep w' A' u d∧Sim w' A' st∧Ext w A w' A':=by
 cases so with
 |bslice e es xs =>
  have hc:compOp0 P o=some (.bslice e es xs):=by
   rcases compOp_cases hc with hc|hc
   ·exact hc
   ·cases hc
  simp only[evq,bslQ]at h
  split at h
  ·rename_i ys hys
   split at h
   ·rename_i hall
    cases h
    have hall':∀y∈ys,partOk st y=true∧y.cells.length=es:=by simpa using hall
    obtain⟨m1,m2⟩:=mapO_spec hys
    obtain⟨s,cur,e1,e2,e3,e4,e5⟩:=bsl_run hc hs he (by simpa using m1) (fun k x y hx hy v hv=>snapA_rep hs hv (m2 k x y hx hy)) hall'
    rw[e1]
    obtain⟨nx,w',A',g1,g2,g3,g4⟩:=does_addC (P:=P) (w0:=w) hs ⟨rfl,rfl,rfl,rfl⟩ (fun y hy=>(hall' y hy).2) e2 e3 e4 e5
    rcases g2 with⟨u,rfl,g2⟩|⟨_,g2⟩
    ·exact⟨u,w',A',g1,g2,g3,g4⟩
    ·cases g2
   ·cases h
  ·cases h
 |_ =>
  obtain⟨u,h1,h2⟩:=evs_sound hc hs he h
  exact⟨u,w,A,h1,h2,hs,Ext.refl w A⟩
end
end Go.Sha
