/- Operations that change the state. -/
import Derived.Test.YtmjkgajnpmiomaaGreatDoorLShbH
set_option linter.unusedSimpArgs false
set_option linter.unusedVariables false
namespace Go.Sha
def mapO (f:V→Option V):List V→Option (List V)
 |[]=>some []
 |x::r=>match f x,mapO f r with
  |some y,some ys=>some (y::ys)
  |_,_=>none
def snap1 (st:St):V→Option V
 | .osl id n=>match look st.arr id with
  |some a=>if a.xs.length=n∧a.wr=false then some (.sl a.xs) else none
  |none=>none
 | .nils=>some (.sl [])
 | .clip xs=>some (.sl xs)
 |v=>some v
def snapA (st:St):V→Option V
 | .agg cs=>(mapO (snap1 st) cs).map .agg
 |v=>snap1 st v
def snapV (st:St):V→Option V
 | .tup vs=>(mapO (snapA st) vs).map .tup
 |v=>snapA st v
def updM (l:List (Nat×List V))(i:Nat)(cs:List V):List (Nat×List V) :=
 match l with
 |[]=>[]
 |(j,c)::r=>if j=i then(j,cs)::r else(j,c)::updM r i cs
def updA (l:List (Nat×Arr))(i:Nat)(a:Arr):List (Nat×Arr) :=
 match l with
 |[]=>[]
 |(j,c)::r=>if j=i then(j,a)::r else(j,c)::updA r i a
def delA (l:List (Nat×Arr))(i:Nat):List (Nat×Arr):=match l with
 |[]=>[]
 |(j,c)::r=>if j=i then delA r i else(j,c)::delA r i
def V.isAgg:V→Bool
 | .agg _=>true
 |_=>false
def V.recell (x:V)(cs:List V):Option V:=match x with
 | .agg _=>some (.agg cs)
 |_=>match cs with
  |[c]=>if c.isAgg then none else some c
  |_=>none
def storeV (st:St)(n:Nat)(a x:V):Option St :=
 if partOk st x=true∧x.cells.length=n then match a with
  | .ptr id off=>match look st.mem id with
   |some cs=>if off+n≤cs.length then some { st with mem:=updM st.mem id (cs.take off++x.cells++cs.drop (off+n)) } else none
   |none=>none
  | .op id m i es off=>match look st.arr id with
   |some r=>if r.xs.length=m∧r.es=es∧r.wr=true∧off+n≤es then match r.xs[i]?,snapA st x with
    |some y,some x'=>(y.recell (y.cells.take off++x'.cells++y.cells.drop (off+n))).map fun y'=>{ st with arr:=updA st.arr id { r with xs:=r.xs.set i y' } }
    |_,_=>none
    else none
   |none=>none
  |_=>none
 else none
def roomV (n bytes:Nat):Bool:=decide (n≤maxLen)&&decide (n*bytes≤140737488355328)
def appA (st:St)(e es bytes id n:Nat)(ys:List V):Option Arr→Option (V×St)
 |some r=>if r.xs.length=n∧r.e=e∧r.es=es∧r.fz=false∧roomV (n+ys.length) bytes=true then
   some (.osl id (n+ys.length),{ st with arr:=updA st.arr id { r with xs:=r.xs++ys } }) else none
 |none=>none
def appG (st:St)(e es bytes:Nat)(ys:List V):V→Option (V×St)
 | .osl id n=>appA st e es bytes id n ys (look st.arr id)
 | .nils=>if roomV ys.length bytes=true then
   some (.osl st.nx ys.length,{ st with nx:=st.nx+1,arr:=(st.nx,{ e:=e,es:=es,xs:=ys,wr:=false,fz:=false })::st.arr }) else none
 | .clip xs=>if roomV (xs.length+ys.length) bytes=true∧xs.all (fun y=>y.cells.length == es)=true∧0<ys.length then
   some (.osl st.nx (xs.length+ys.length),{ st with nx:=st.nx+1,arr:=(st.nx,{ e:=e,es:=es,xs:=xs++ys,wr:=false,fz:=false })::st.arr }) else none
 |_=>none
def appendV (st:St)(e es bytes:Nat)(s x:V):Option (V×St) :=
 match(elemsV st x) with
 |some ys=>match mapO (snapA st) ys with
  |some ys=>if ys.all (fun y=>y.cells.length == es)=true then appG st e es bytes ys s else none
  |none=>none
 |none=>none
def bV (b:UInt8):V:=.int .u8 b.toNat
def appstrV (st:St)(e bytes:Nat)(s:V)(b:List UInt8):Option (V×St):=match s,b with
 | .nils,[]=>some (.nils,st)
 |s,b=>appG st e 1 bytes (b.map bV) s
def cvuV (st:St):V→Option (V×St)
 | .nilp=>some (.nilp,st)
 | .ptr id off=>match look st.mem id with
  |some cs=>if off<cs.length then some (.ptr id off,st) else none
  |none=>none
 |_=>none
def cvtV (st:St)(T:TypeId)(n:Nat):V→Option (V×St)
 | .nilp=>some (.nilp,st)
 | .ptr id 0=>match look st.x.ty id,look st.mem id with
  |some T',some cs=>if T'=T∧cs.length=n then some (.ptr id 0,st) else none
  |_,_=>none
 |_=>none
def usdV (st:St):V→Option (V×St)
 | .nils=>some (.nilp,st)
 | .osl id n=>match look st.arr id with
  |some r=>if r.xs.length=n∧0<n∧r.es=1 then some (.op id n 0 1 0,st) else none
  |none=>none
 |_=>none
def byteU:V→Option UInt8
 | .int .u8 n=>if 0≤n∧n<256 then some n.toNat.toUInt8 else none
 |_=>none
def bytesU:List V→Option (List UInt8)
 |[]=>some []
 |x::r=>match byteU x,bytesU r with
  |some b,some bs=>some (b::bs)
  |_,_=>none
def ustrV (st:St)(e:TypeId):V→V→Option (V×St)
 | .nilp,.int .i64 n=>if n=0 then some (.str [],st) else none
 | .op id m 0 1 0,.int .i64 n=>match look st.arr id with
  |some r=>if r.xs.length=m∧n=m∧0<m∧r.e=e∧r.es=1∧r.fz=false∧r.wr=false then match bytesU r.xs with
   |some bs=>some (.str bs,⟨st.nx,st.mem,delA st.arr id,st.x⟩)
   |none=>none
   else none
  |none=>none
 |_,_=>none
def newArr (st:St)(e es:Nat)(xs:List V)(wr fz:Bool):V×St :=
 (.osl st.nx xs.length,{ st with nx:=st.nx+1,arr:=(st.nx,{ e:=e,es:=es,xs:=xs,wr:=wr,fz:=fz })::st.arr })
def elemZ (b:Bool)(z:List V):Option V:=if b then some (.agg z) else match z with
 |[x]=>if x.isAgg then none else some x
 |_=>none
def sameS:V→V→Option Bool
 | .int k a,.int k' b=>if k=k' then some (a == b) else none
 | .str a,.str b=>some (a == b)
 | .bool a,.bool b=>some (a == b)
 |_,_=>none
def sameC:List V→List V→Option Bool
 |[],[]=>some true
 |x::a,y::b=>match sameS x y,sameC a b with
  |some p,some q=>some (p&&q)
  |_,_=>none
 |_,_=>none
def sameV:V→V→Option Bool
 | .agg a,.agg b=>sameC a b
 | .int k a,.int k' b=>if k=k' then some (a == b) else none
 | .str a,.str b=>some (a == b)
 | .bool a,.bool b=>some (a == b)
 |_,_=>none
def findV (k:V):List (V×V)→Nat→Option (Option (Nat×V))
 |[],_=>some none
 |e::es,i=>match sameV k e.1 with
  |some true=>some (some (i,e.2))
  |some false=>findV k es (i+1)
  |none=>none
def kdV:Kd→V→Bool
 | .b,.bool _=>true
 | .i,.int _ _=>true
 | .s,.str _=>true
 |_,_=>false
def kdsV:List Kd→List V→Bool
 |[],[]=>true
 |k::ks,c::cs=>kdV k c&&kdsV ks cs
 |_,_=>false
def keyV:KT→V→Bool
 | .a ks,.agg cs=>kdsV ks cs
 | .i q,.int k _=>decide (k=q)
 | .s,.str _=>true
 | .b,.bool _=>true
 |_,_=>false
def mapOf (st:St):V→Option (List (V×V))
 | .mp id=>match look st.x.obj id with
  |some (.map es)=>some es
  |_=>none
 | .nilm=>some []
 | .mpc ks vs=>if ks.length=vs.length then some (ks.zip vs) else none
 |_=>none
def updO (l:List (Nat×Ob))(i:Nat)(o:Ob):List (Nat×Ob):=match l with
 |[]=>[]
 |(j,c)::r=>if j=i then(j,o)::r else(j,c)::updO r i o
def putM (es:List (V×V))(k v:V):Option (Nat×V)→List (V×V)
 |some (i,_)=>es.set i (k,v)
 |none=>es++[(k,v)]
def delM (l:List (Nat×List V))(i:Nat):List (Nat×List V):=match l with
 |[]=>[]
 |(j,c)::r=>if j=i then delM r i else(j,c)::delM r i
def slaV (st:St)(len:Nat):V→V→V→Option (V×St)
 | .ptr id 0,lo,hi=>match look st.mem id with
  |some cs=>if cs.length=len∧(cs.all fun c=>!c.isAgg)=true then match boundsV len (some lo) (some hi) with
   |some (l,h)=>some (.sl ((cs.take h).drop l),⟨st.nx,delM st.mem id,st.arr,st.x⟩)
   |none=>none
   else none
  |none=>none
 | .ep (.agg cs) 0,lo,hi=>if cs.length=len∧(cs.all fun c=>!c.isAgg)=true then(boundsV len (some lo) (some hi)).map fun p=>(.sl ((cs.take p.2).drop p.1),st) else none
 |_,_,_=>none
def rngV (st:St):V→Option (V×St)
 | .mp id=>match look st.x.obj id with
  |some (.map es)=>some (.ptr st.nx 0,⟨st.nx+1,st.mem,st.arr,⟨(st.nx,.iter id es.length [])::st.x.obj,st.x.gl,st.x.ty⟩⟩)
  |_=>none
 |_=>none
def entV (st:St):V→Option (V×St)
 | .ptr i 0=>match look st.x.obj i with
  |some (.iter m n seen)=>match seen.getLast?,look st.x.obj m with
   |some j,some (.map es)=>if es.length=n then(es[j]?).map fun e=>(.tup [e.1,e.2],st) else none
   |_,_=>none
  |_=>none
 |_=>none
def clrA (es:Nat)(y:V)(id n l h es':Nat)(st:St):Option Arr→Option (V×St)
 |some r=>if r.xs.length=n∧r.wr=true∧r.es=es∧es'=es∧y.cells.length=es∧l≤h∧h≤n then some (.tup [],{ st with arr:=updA st.arr id { r with xs:=r.xs.take l++List.replicate (h-l) y++r.xs.drop h } }) else none
 |none=>none
def clrV (es:Nat)(y:V)(st:St):V→Option (V×St)
 | .win id n l h es'=>clrA es y id n l h es' st (look st.arr id)
 |_=>none
def actV (g:ActK)(xs:List V)(st:St):Option (V×St):=match g,xs with
 | .mkmap,[]=>some (.mp st.nx,⟨st.nx+1,st.mem,st.arr,⟨(st.nx,.map [])::st.x.obj,st.x.gl,st.x.ty⟩⟩)
 | .look q z ok,[m,k]=>match mapOf st m with
  |some es=>if keyV q k=true then match findV k es 0 with
   |some (some (_,v))=>some (if ok=true then .tup [v,.bool true] else v,st)
   |some none=>some (if ok=true then .tup [z,.bool false] else z,st)
   |none=>none
   else none
  |none=>none
 | .mset q,[m,k,v]=>match m with
  | .mp id=>match look st.x.obj id with
   |some (.map es)=>if keyV q k=true then match findV k es 0 with
    |some r=>some (.und,⟨st.nx,st.mem,st.arr,⟨updO st.x.obj id (.map (putM es k v r)),st.x.gl,st.x.ty⟩⟩)
    |none=>none
    else none
   |_=>none
  |_=>none
 | .mlen,[m]=>match mapOf st m with
  |some es=>some (.int .i64 es.length,st)
  |none=>none
 | .newt T z,[]=>some (.ptr st.nx 0,⟨st.nx+1,(st.nx,z)::st.mem,st.arr,⟨st.x.obj,st.x.gl,(st.nx,T)::st.x.ty⟩⟩)
 | .cvp none,[x]=>cvuV st x
 | .clr es y,[x]=>clrV es y st x
 | .cvp (some (T,n)),[x]=>cvtV st T n x
 | .appstr e bytes,[s,.str b]=>appstrV st e bytes s b
 | .usd,[x]=>usdV st x
 | .ustr e,[x,n]=>ustrV st e x n
 | .sla len,[x,lo,hi]=>slaV st len x lo hi
 | .rng,[m]=>rngV st m
 | .ent,[x]=>entV st x
 |_,_=>none
def stv (op:SOp)(env:Env)(st:St):Option (V×St) :=
 match op with
 | .act g xs=>actV g (xs.map (·.get env)) st
 | .alloc _ z=>some (.ptr st.nx 0,{ st with nx:=st.nx+1,mem:=(st.nx,z)::st.mem })
 | .box _ x=>if partOk st (x.get env)=true then some (.ptr st.nx 0,{ st with nx:=st.nx+1,mem:=(st.nx,(x.get env).cells)::st.mem }) else none
 | .store n a x=>(storeV st n (a.get env) (x.get env)).map fun s=>(.und,s)
 | .append e es bytes s x=>appendV st e es bytes (s.get env) (x.get env)
 | .bslice e es xs=>match mapO (snapA st) (xs.map (·.get env)) with
  |some ys=>if ys.all (fun y=>partOk st y&&y.cells.length == es)=true then some (newArr st e es ys false false) else none
  |none=>none
 | .mkslice e es bytes b z l c=>match natV (l.get env),natV (c.get env),elemZ b z with
  |some l,some c,some y=>if l≤c∧roomV c bytes=true∧y.cells.length=es then some (newArr st e es (List.replicate l y) true false) else none
  |_,_,_=>none
 | .cvsb e x=>match x.get env with
  | .str s=>if s.length≤maxLen then some (newArr st e 1 (s.map fun b=>.int .u8 b.toNat) true true) else none
  |_=>none
 |op=>(evs op env st).map fun v=>(v,st)
def bslQ (st:St)(es:Nat)(xs:List V):Option V:=match mapO (snapA st) xs with
 |some ys=>if ys.all (fun y=>partOk st y&&y.cells.length == es)=true then some (.sl ys) else none
 |none=>none
def evq (op:SOp)(env:Env)(st:St):Option V:=match op with
 | .bslice _ es xs=>bslQ st es (xs.map (·.get env))
 |op=>evs op env st
section
variable {P:Program}{w:World}{A:Abs}{st:St}{a:Act}{env:Env}
theorem look_updM {l:List (Nat×List V)}{i j:Nat}{cs:List V}:look (updM l i cs) j=if j=i then(look l i).map (fun _=>cs) else look l j:=by
 induction l with
 |nil=>simp[updM,look]
 |cons p r ih =>
  obtain⟨k,c⟩:=p
  simp only[updM]
  by_cases h:k=i
  ·subst h;simp only[if_true,look]
   by_cases h2:k=j
   ·subst h2;simp
   ·rw[if_neg h2,if_neg (Ne.symm h2),if_neg h2]
  ·simp only[if_neg h,look]
   by_cases h2:k=j
   ·subst h2;rw[if_pos rfl,if_neg h,if_pos rfl]
   ·rw[if_neg h2,ih,if_neg h2]
theorem look_updA {l:List (Nat×Arr)}{i j:Nat}{cs:Arr}:look (updA l i cs) j=if j=i then(look l i).map (fun _=>cs) else look l j:=by
 induction l with
 |nil=>simp[updA,look]
 |cons p r ih =>
  obtain⟨k,c⟩:=p
  simp only[updA]
  by_cases h:k=i
  ·subst h;simp only[if_true,look]
   by_cases h2:k=j
   ·subst h2;simp
   ·rw[if_neg h2,if_neg (Ne.symm h2),if_neg h2]
  ·simp only[if_neg h,look]
   by_cases h2:k=j
   ·subst h2;rw[if_pos rfl,if_neg h,if_pos rfl]
   ·rw[if_neg h2,ih,if_neg h2]
theorem snap1_rep (hs:Sim w A st){v:Value}{d d':V}(h:Rep w A v d)(hd:snap1 st d=some d'):Rep w A v d':=by
 cases h with
 |osl id n v h1 h2 h3 =>
  simp only[snap1]at hd
  split at hd
  ·rename_i ar har
   split at hd
   ·rename_i hc
    cases hd
    exact(fixed_sl (es:=ar.es) hs (.osl id n v h1 h2 h3) (by simp[fixedV,har,hc.1,hc.2])).1
   ·cases hd
  ·cases hd
 |nils=>cases hd;exact .slnil _
 |clip b xs h=>cases hd;exact h
 |_=>cases hd;(constructor<;>assumption)
theorem mapO_spec {f:V→Option V}:∀{xs ys:List V},mapO f xs=some ys→ys.length=xs.length∧∀(i:Nat) (x y:V),xs[i]?=some x→ys[i]?=some y→f x=some y
 |[],ys,h=>by simp[mapO]at h;subst h;simp
 |x::xs,ys,h=>by
  simp only[mapO]at h
  split at h
  ·rename_i y zs h1 h2
   cases h
   obtain⟨a1,a2⟩:=mapO_spec h2
   refine⟨by simp[a1],fun i u v hu hv=>?_⟩
   cases i with
   |zero=>simp at hu hv;subst hu hv;exact h1
   |succ i=>exact a2 i u v (by simpa using hu) (by simpa using hv)
  ·cases h
theorem snapA_rep (hs:Sim w A st){v:Value}{d d':V}(h:Rep w A v d)(hd:snapA st d=some d'):Rep w A v d':=by
 unfold snapA at hd
 split at hd
 ·obtain⟨ys,hy,rfl⟩:=Option.map_eq_some_iff.1 hd
  obtain⟨vs,rfl,h1,h2,h3⟩:=h.agg_inv
  obtain⟨a1,a2⟩:=mapO_spec hy
  refine .agg vs ys (by omega) h2 (fun i v c hv hc=>?_)
  rename_i cs
  have hlt:i<cs.length:=by have:=(List.getElem?_eq_some_iff.1 hc).1;omega
  exact snap1_rep hs (h3 i v cs[i] hv (by simp[hlt])) (a2 i _ _ (by simp[hlt]) hc)
 ·exact snap1_rep hs h hd
theorem snapV_rep (hs:Sim w A st){v:Value}{d d':V}(h:Rep w A v d)(hd:snapV st d=some d'):Rep w A v d':=by
 unfold snapV at hd
 split at hd
 ·obtain⟨ys,hy,rfl⟩:=Option.map_eq_some_iff.1 hd
  obtain⟨vs,rfl,h1,h3⟩:=h.tup_inv
  obtain⟨a1,a2⟩:=mapO_spec hy
  refine .tup vs ys (by omega) (fun i v c hv hc=>?_)
  rename_i cs
  have hlt:i<cs.length:=by have:=(List.getElem?_eq_some_iff.1 hc).1;omega
  exact snapA_rep hs (h3 i v cs[i] hv (by simp[hlt])) (a2 i _ _ (by simp[hlt]) hc)
 ·exact snapA_rep hs h hd
def Abs.newMem (A:Abs)(b:Nat):Abs :=
 { A with own:=fun k=>if k=b then some A.nx else A.own k,loc:=fun i=>if i=A.nx then b else A.loc i,nx:=A.nx+1 }
theorem Ext.newMem (hs:Sim w A st)(o:Obj):Ext w A (w.alloc o) (A.newMem w.heap.size) where
 nx:=Nat.le_succ _
 loc id h:=by simp only[Abs.newMem];rw[if_neg (by omega)]
 ln _ _:=Nat.le_refl _
 sv _ _ _:=rfl
 C b o' h:=⟨h,World.cell?_alloc_lt _ _ _ (hs.Clt b o' h)⟩
 own b h ho:=by simp only[Abs.newMem];rw[if_neg (by omega)];exact ho
 size:=by simp
 os:=rfl
 tape:=rfl
 output:=rfl
 fr b h _:=heap_alloc_old w o h
 cold _ _ _ _ h:=h
 mc b ms c _ h:=by rw[heap_alloc_old w o (Array.getElem?_eq_some_iff.1 h).1];exact h
theorem Sim.newMem (hs:Sim w A st){vs:List Value}{cs:List V}(T:TypeId)(hl:vs.length=cs.length)(h1:∀v∈vs,v.oneCell'=true)(hr:∀(i:Nat) (v:Value) (c:V),vs[i]?=some v→cs[i]?=some c→Rep w A v c) :
  Sim (w.alloc (.cells vs.toArray T)) (A.newMem w.heap.size) { st with nx:=st.nx+1,mem:=(st.nx,cs)::st.mem }:=by
 have hx:Ext w A (w.alloc (.cells vs.toArray T)) (A.newMem w.heap.size):=Ext.newMem hs _
 have oldown:∀b id,A.own b=some id→(A.newMem w.heap.size).own b=some id:=fun b id h=>by
  have:=(hs.ownlt b id h).1
  simp only[Abs.newMem];rw[if_neg (by omega)];exact h
 refine⟨by simp[Abs.newMem,hs.nx],fun id cs' h=>?_,fun id ar h=>?_,fun b o h=>?_,fun b id h=>?_,fun id cs' ar h1 h2=>?_,
  hs.x.same hx rfl hs.ownlt (fun b h=>heap_alloc_old w _ h) (fun b id h hlt=>by
   simp only[Abs.newMem]at h
   split at h
   ·cases h;omega
   ·exact h) (fun _ _ _ h=>h) (fun id hlt h=>by simp only[look];rw[if_neg (by have:=hs.nx;omega)];exact h) (fun _ _ h=>h) oldown⟩
 ·simp only[look]at h
  split at h
  ·rename_i e;cases h;subst e
   have e1:(A.newMem w.heap.size).loc st.nx=w.heap.size:=by simp[Abs.newMem,hs.nx]
   refine⟨by simp[Abs.newMem,hs.nx],⟨vs.toArray,T,?_,by simpa using hl,by simpa using h1,fun i v c hv hc=>(hr i v c (by simpa using hv) hc).mono hx⟩,?_,fun o=>?_⟩
   ·rw[e1];exact heap_alloc_new w _
   ·rw[e1];simp[Abs.newMem,hs.nx]
   ·rw[e1];exact fun h=>Nat.lt_irrefl _ (hs.Clt _ _ h)
  ·have hk:=hs.mem id cs' h
   have hb:=(hs.ownlt _ _ hk.own).1
   exact hk.of_heap hx (oldown _ _ hk.own) (heap_alloc_old w _ hb) hk.noC
 ·have hk:=hs.arr id ar h
  refine⟨Nat.lt_of_lt_of_le hk.lt hx.nx,hk.ln,hk.es,?_⟩
  rcases hk.row with r|⟨g,cap,cur,r1,r2,r3,r4,r5,r6,r7,r8,r10⟩
  ·exact .inl r
  ·have hb:=(hs.ownlt _ _ r6).1
   refine .inr ⟨g,cap,cur,r1,?_,r3,r4,r5,oldown _ _ r6,r7,r8,fun i j x c hi hj=>?_⟩
   ·unfold rowAt at r2 ⊢;rw[heap_alloc_old w _ hb];exact r2
   ·obtain⟨v,q1,q2,q3⟩:=r10 i j x c hi hj
    exact⟨v,q1,q2,q3.mono hx⟩
 ·have:=hs.Clt b o h;simp;omega
 ·simp only[Abs.newMem]at h ⊢
  split at h
  ·rename_i e;cases h;subst e;simp
  ·have:=hs.ownlt b id h;simp;omega
 ·simp only[look]at h1
  split at h1
  ·rename_i e;subst e
   have:=(hs.arr _ ar h2).lt;have:=hs.nx;omega
  ·exact hs.disj id cs' ar h1 h2
end
end Go.Sha
