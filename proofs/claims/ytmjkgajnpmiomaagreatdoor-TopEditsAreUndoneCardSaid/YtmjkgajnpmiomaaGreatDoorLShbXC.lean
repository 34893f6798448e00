/- Rules for values. -/
import Derived.Test.YtmjkgajnpmiomaaGreatDoorLShbXB
set_option linter.unusedSimpArgs false
set_option linter.unusedVariables false
namespace Go.Sha
theorem get_t {env:Env}{i:Nat}:Opd.get env (.t i)=(look env i).getD .und:=idq rfl
theorem get_c {env:Env}{v:V}:Opd.get env (.c v)=v:=idq rfl
theorem look_cons {α:Type}{k j:Nat}{v:α}{l:List (Nat×α)}:look ((k,v)::l) j=if k=j then some v else look l j:=idq rfl
def wantB (b:Bool):Option V→Option Bool
 |some (.bool t)=>some (t == b)
 |some (.tup [])=>some false
 |_=>none
theorem natV_nn {k:IntKind}{n:Int}(h:0≤n):natV (.int k n)=some n.toNat:=by simp[natV,h]
theorem natV_cast {k:IntKind}{n:Nat}:natV (.int k (n:Int))=some n:=by simp[natV]
theorem natV_add {k:IntKind}{a b:Nat}:natV (.int k ((a:Int)+(b:Int)))=some (a+b):=by rw[←Int.natCast_add];exact natV_cast
theorem natV_add1 {k:IntKind}{a:Nat}:natV (.int k ((a:Int)+1))=some (a+1):=natV_add (b:=1)
theorem binV_add {k:IntKind}{a b:Int}:binV .add (.int k a) (.int k b)=some (.int k (k.wrap (a+b))):=by simp[binV]
theorem binV_sub {k:IntKind}{a b:Int}:binV .sub (.int k a) (.int k b)=some (.int k (k.wrap (a-b))):=by simp[binV]
theorem binV_mul {k:IntKind}{a b:Int}:binV .mul (.int k a) (.int k b)=some (.int k (k.wrap (a*b))):=by simp[binV]
theorem binV_eql {k:IntKind}{a b:Int}:binV .eql (.int k a) (.int k b)=some (.bool (a == b)):=by simp[binV]
theorem binV_neq {k:IntKind}{a b:Int}:binV .neq (.int k a) (.int k b)=some (.bool (a != b)):=by simp[binV]
theorem binV_lss {k:IntKind}{a b:Int}:binV .lss (.int k a) (.int k b)=some (.bool (decide (a<b))):=by simp[binV]
theorem binV_leq {k:IntKind}{a b:Int}:binV .leq (.int k a) (.int k b)=some (.bool (decide (a≤b))):=by simp[binV]
theorem binV_gtr {k:IntKind}{a b:Int}:binV .gtr (.int k a) (.int k b)=some (.bool (decide (b<a))):=by simp[binV]
theorem binV_geq {k:IntKind}{a b:Int}:binV .geq (.int k a) (.int k b)=some (.bool (decide (b≤a))):=by simp[binV]
theorem binV_quo {k:IntKind}{a b:Int}:binV .quo (.int k a) (.int k b)=dn (b≠0) (some (.int k (k.wrap (a.tdiv b)))):=by unfold dn;by_cases h:b=0<;>simp[binV,h]
theorem binV_shl {k k2:IntKind}{a b:Int}:binV .shl (.int k a) (.int k2 b)=if b<0 then none else some (.int k (k.wrap (a*2 ^ (min b.toNat k.bits)))):=by simp[binV]
theorem binV_shr {k k2:IntKind}{a b:Int}:binV .shr (.int k a) (.int k2 b)=if b<0 then none else some (.int k (a.fdiv (2 ^ (min b.toNat k.bits)))):=by simp[binV]
theorem binV_cat {s t:List UInt8}:binV .add (.str s) (.str t)=if s.length+t.length≤9223372036854775807 then some (.str (s++t)) else none:=idq rfl
theorem binV_seql {s t:List UInt8}:binV .eql (.str s) (.str t)=some (.bool (s == t)):=idq rfl
theorem binV_sneq {s t:List UInt8}:binV .neq (.str s) (.str t)=some (.bool (s != t)):=idq rfl
theorem pickV_b {t:Bool}{a b:V}:pickV (.bool t) a b=some (if t=true then a else b):=by cases t<;>rfl
theorem mapO_n {f:V→Option V}:mapO f []=some []:=idq rfl
def consO:Option V→Option (List V)→Option (List V)
 |some y,some ys=>some (y::ys)
 |_,_=>none
theorem mapO_c {f:V→Option V}{x:V}{r:List V}:mapO f (x::r)=consO (f x) (mapO f r):=by simp only[mapO];unfold consO;rfl
theorem consO_s {y:V}{ys:List V}:consO (some y) (some ys)=some (y::ys):=idq rfl
def and2:Option Bool→Option Bool→Option Bool
 |some x,some y=>some (x&&y)
 |_,_=>none
theorem and2_s {x y:Bool}:and2 (some x) (some y)=some (x&&y):=idq rfl
theorem eqCells_n:eqCells [] [] []=some true:=idq rfl
theorem eqCells_c {k:Kd}{ks:List Kd}{a b:V}{r s:List V}:eqCells (k::ks) (a::r) (b::s)=and2 (eqCell k a b) (eqCells ks r s):=by
 simp only[eqCells];unfold and2;cases eqCell k a b<;>cases eqCells ks r s<;>rfl
theorem eqCell_i {k:IntKind}{a b:Int}:eqCell .i (.int k a) (.int k b)=some (a == b):=by simp[eqCell]
theorem eqCell_s {a b:List UInt8}:eqCell .s (.str a) (.str b)=some (a == b):=idq rfl
theorem bdL_map' {α:Type}{n:Nat}{f:α→V}{l:List α}:V.bdL n (l.map f)=l.all fun x=>(f x).bd n:=by
 induction l with
 |nil=>rfl
 |cons x l ih=>simp only[List.map_cons,V.bdL,List.all_cons,ih]
theorem all_true {α:Type}{l:List α}:(l.all fun _=>true)=true:=by induction l<;>simp_all
theorem beqN (n:Nat):(n == n)=true:=beq_self_eq_true n
theorem iadr_map {α:Type}[Inhabited α]{f:α→V}{l:List α}{st:St}{es:Nat}{k:IntKind}{n:Int}(he:∀x,(f x).cells.length=es) :
  iadrV st es (.sl (l.map f)) (.int k n)=dn (0≤n∧n<l.length) (some (.ep (f (l.getD n.toNat default)) 0)):=by
 unfold dn
 by_cases h0:0≤n
 ·obtain⟨j,rfl⟩:=Int.eq_ofNat_of_zero_le h0
  simp only[iadrV,natV,h0,if_true,true_and,epV,Int.toNat_natCast]
  by_cases h:j<l.length
  ·rw[if_pos (by omega),List.getElem?_map,List.getElem?_eq_getElem h]
   simp[he,h]
  ·rw[if_neg (by omega),List.getElem?_map,List.getElem?_eq_none (by omega)];rfl
 ·simp[iadrV,natV,h0]
theorem iadr_sl {l:List V}{st:St}{es:Nat}{k:IntKind}{n:Int} :
  iadrV st es (.sl l) (.int k n)=dn (0≤n∧n<l.length∧(l.getD n.toNat .und).cells.length=es) (some (.ep (l.getD n.toNat .und) 0)):=by
 unfold dn
 by_cases h0:0≤n
 ·obtain⟨j,rfl⟩:=Int.eq_ofNat_of_zero_le h0
  simp only[iadrV,natV,h0,if_true,true_and,epV,Int.toNat_natCast]
  by_cases h:j<l.length
  ·rw[List.getElem?_eq_getElem h,List.getD_eq_getElem?_getD,List.getElem?_eq_getElem h]
   have:(j:Int)<l.length:=by omega
   simp[this]
  ·rw[if_neg (by omega),List.getElem?_eq_none (by omega)]
 ·simp[iadrV,natV,h0]
theorem ichr_str {s:List UInt8}{k:IntKind}{n:Int}:ichrV (.str s) (.int k n)=dn (0≤n∧n<s.length) (some (.int .u8 (s.getD n.toNat 0).toNat)):=by
 unfold dn
 by_cases h0:0≤n
 ·obtain⟨j,rfl⟩:=Int.eq_ofNat_of_zero_le h0
  simp only[ichrV,natV,h0,if_true,true_and,Int.toNat_natCast]
  by_cases h:j<s.length
  ·rw[if_pos (by omega),List.getD_eq_getElem?_getD,List.getElem?_eq_getElem h];rfl
  ·rw[if_neg (by omega),List.getElem?_eq_none (by omega)];rfl
 ·simp[ichrV,natV,h0]
theorem bounds_v {n:Nat}{k k':IntKind}{a b:Int}:boundsV n (some (.int k a)) (some (.int k' b))=dn (0≤a∧a≤b∧b≤n) (some (a.toNat,b.toNat)):=by
 unfold dn
 simp only[boundsV,optN,natV]
 by_cases h0:0≤a<;>by_cases h1:0≤b<;>simp only[h0,h1,if_true,if_false,true_and,false_and]
 ·by_cases h2:a≤b∧b≤n
  ·rw[if_pos h2,if_pos (by omega)]
  ·rw[if_neg h2,if_neg (by omega)]
 ·rw[if_neg (by omega)]
theorem bounds_n {n:Nat}{k:IntKind}{a:Int}:boundsV n (some (.int k a)) none=dn (0≤a∧a≤n) (some (a.toNat,n)):=by
 unfold dn
 simp only[boundsV,optN,natV]
 by_cases h0:0≤a<;>simp only[h0,if_true,if_false,true_and,false_and]
 by_cases h2:a≤n
 ·rw[if_pos h2,if_pos (by omega)]
 ·rw[if_neg h2,if_neg (by omega)]
theorem bounds_0 {n:Nat}{k:IntKind}{b:Int}:boundsV n none (some (.int k b))=dn (0≤b∧b≤n) (some (0,b.toNat)):=by
 unfold dn
 simp only[boundsV,optN,natV]
 by_cases h1:0≤b<;>simp only[h1,if_true,if_false,true_and,false_and]
 by_cases h2:b≤n
 ·rw[if_pos h2,if_pos (by omega)]
 ·rw[if_neg h2,if_neg (by omega)]
theorem slice_str {s:List UInt8}{lo hi:Option V}:sliceStr (.str s) lo hi=(boundsV s.length lo hi).map fun p=>.str ((s.take p.2).drop p.1):=by
 simp only[sliceStr];cases boundsV s.length lo hi<;>rfl
theorem slice_sl {st:St}{es:Nat}{xs:List V}{lo hi:Option V}:sliceV st es (.sl xs) lo hi none=dn ((xs.all fun x=>x.cells.length == es)=true) ((boundsV xs.length lo hi).map fun p=>.sl ((xs.take p.2).drop p.1)):=by
 unfold dn
 by_cases h:(xs.all fun x=>x.cells.length == es)=true
 ·simp only[sliceV,fixedV,h,if_true];cases boundsV xs.length lo hi<;>rfl
 ·simp only[sliceV,fixedV,h,if_false,Bool.false_eq_true,winV]
theorem getD_app {α:Type}{l r:List α}{x d:α}:(l++x::r).getD l.length d=x:=by simp[List.getD_eq_getElem?_getD]
theorem iwrap {n:Int}(h1:-9223372036854775808≤n)(h2:n≤9223372036854775807):IntKind.i64.wrap n=n:=by
 simp only[IntKind.wrap,IntKind.bits,IntKind.signed]
 simp
 split<;>omega
theorem ce_bool {b:Bool}:V.cells (.bool b)=[.bool b]:=idq rfl
theorem snap1_bool {st:St}{b:Bool}:snap1 st (.bool b)=some (.bool b):=idq rfl
theorem snapA_bool {st:St}{b:Bool}:snapA st (.bool b)=some (.bool b):=idq rfl
theorem snapV_bool {st:St}{b:Bool}:snapV st (.bool b)=some (.bool b):=idq rfl
theorem shutA_bool {st:St}{b:Bool}:shutA st (.bool b)=.bool b:=idq rfl
theorem shutV_bool {st:St}{b:Bool}:shutV st (.bool b)=.bool b:=idq rfl
theorem po_bool {st:St}{b:Bool}:partOk st (.bool b)=true:=idq rfl
theorem ce_int {k:IntKind}{n:Int}:V.cells (.int k n)=[.int k n]:=idq rfl
theorem snap1_int {st:St}{k:IntKind}{n:Int}:snap1 st (.int k n)=some (.int k n):=idq rfl
theorem snapA_int {st:St}{k:IntKind}{n:Int}:snapA st (.int k n)=some (.int k n):=idq rfl
theorem snapV_int {st:St}{k:IntKind}{n:Int}:snapV st (.int k n)=some (.int k n):=idq rfl
theorem shut1_int {st:St}{k:IntKind}{n:Int}:shut1 st (.int k n)=.int k n:=idq rfl
theorem shutA_int {st:St}{k:IntKind}{n:Int}:shutA st (.int k n)=.int k n:=idq rfl
theorem shutV_int {st:St}{k:IntKind}{n:Int}:shutV st (.int k n)=.int k n:=idq rfl
theorem po_int {st:St}{k:IntKind}{n:Int}:partOk st (.int k n)=true:=idq rfl
theorem ce_str {s:List UInt8}:V.cells (.str s)=[.str s]:=idq rfl
theorem snap1_str {st:St}{s:List UInt8}:snap1 st (.str s)=some (.str s):=idq rfl
theorem snapA_str {st:St}{s:List UInt8}:snapA st (.str s)=some (.str s):=idq rfl
theorem shut1_str {st:St}{s:List UInt8}:shut1 st (.str s)=.str s:=idq rfl
theorem shutA_str {st:St}{s:List UInt8}:shutA st (.str s)=.str s:=idq rfl
theorem shutV_str {st:St}{s:List UInt8}:shutV st (.str s)=.str s:=idq rfl
theorem po_str {st:St}{s:List UInt8}:partOk st (.str s)=true:=idq rfl
theorem ce_ptr {i o:Nat}:V.cells (.ptr i o)=[.ptr i o]:=idq rfl
theorem snapA_ptr {st:St}{i o:Nat}:snapA st (.ptr i o)=some (.ptr i o):=idq rfl
theorem po_ptr {st:St}{i o:Nat}:partOk st (.ptr i o)=true:=idq rfl
theorem ce_sl {xs:List V}:V.cells (.sl xs)=[.sl xs]:=idq rfl
theorem snap1_sl {st:St}{xs:List V}:snap1 st (.sl xs)=some (.sl xs):=idq rfl
theorem snapA_sl {st:St}{xs:List V}:snapA st (.sl xs)=some (.sl xs):=idq rfl
theorem shut1_sl {st:St}{xs:List V}:shut1 st (.sl xs)=.sl xs:=idq rfl
theorem shutA_sl {st:St}{xs:List V}:shutA st (.sl xs)=.sl xs:=idq rfl
theorem shutV_sl {st:St}{xs:List V}:shutV st (.sl xs)=.sl xs:=idq rfl
theorem po_sl {st:St}{xs:List V}:partOk st (.sl xs)=true:=idq rfl
theorem ce_osl {i n:Nat}:V.cells (.osl i n)=[.osl i n]:=idq rfl
theorem snapA_ep {st:St}{x:V}{o:Nat}:snapA st (.ep x o)=some (.ep x o):=idq rfl
theorem ce_agg {cs:List V}:V.cells (.agg cs)=cs:=idq rfl
theorem po_agg {st:St}{cs:List V}:partOk st (.agg cs)=true:=idq rfl
theorem ce_fn {f:Fn}{a b:List V}:V.cells (.fn f a b)=[.fn f a b]:=idq rfl
theorem snap1_fn {st:St}{f:Fn}{a b:List V}:snap1 st (.fn f a b)=some (.fn f a b):=idq rfl
theorem snapA_fn {st:St}{f:Fn}{a b:List V}:snapA st (.fn f a b)=some (.fn f a b):=idq rfl
theorem po_fn {st:St}{f:Fn}{a b:List V}:partOk st (.fn f a b)=true:=idq rfl
theorem ce_mp {i:Nat}:V.cells (.mp i)=[.mp i]:=idq rfl
theorem po_mp {st:St}{i:Nat}:partOk st (.mp i)=true:=idq rfl
theorem shut1_nilm {st:St} :shut1 st (.nilm)=.nilm:=idq rfl
theorem ce_mpc {a b:List V}:V.cells (.mpc a b)=[.mpc a b]:=idq rfl
theorem snap1_mpc {st:St}{a b:List V}:snap1 st (.mpc a b)=some (.mpc a b):=idq rfl
theorem shut1_mpc {st:St}{a b:List V}:shut1 st (.mpc a b)=.mpc a b:=idq rfl
theorem po_mpc {st:St}{a b:List V}:partOk st (.mpc a b)=true:=idq rfl
theorem snap1_nils {st:St}:snap1 st .nils=some (.sl []):=idq rfl
theorem snapA_nils {st:St}:snapA st .nils=some (.sl []):=idq rfl
theorem shut1_nils {st:St}:shut1 st .nils=.sl []:=idq rfl
theorem shutA_nils {st:St}:shutA st .nils=.sl []:=idq rfl
theorem snapA_agg {st:St}{cs:List V}:snapA st (.agg cs)=(mapO (snap1 st) cs).map .agg:=idq rfl
theorem snapV_agg {st:St}{cs:List V}:snapV st (.agg cs)=(mapO (snap1 st) cs).map .agg:=idq rfl
theorem snapV_tup {st:St}{cs:List V}:snapV st (.tup cs)=(mapO (snapA st) cs).map .tup:=idq rfl
theorem shutA_agg {st:St}{cs:List V}:shutA st (.agg cs)=.agg (cs.map (shut1 st)):=idq rfl
theorem shutV_agg {st:St}{cs:List V}:shutV st (.agg cs)=.agg (cs.map (shut1 st)):=idq rfl
theorem shutV_tup {st:St}{cs:List V}:shutV st (.tup cs)=.tup (cs.map (shutA st)):=idq rfl
def snapO (n:Nat):Option Arr→Option V
 |some a=>if a.xs.length=n∧a.wr=false then some (.sl a.xs) else none
 |none=>none
def shutO (i n:Nat):Option Arr→V
 |some a=>if a.xs.length=n then .sl a.xs else .osl i n
 |none=>.osl i n
def shutM (i:Nat):Option Ob→V
 |some (.map es)=>.mpc (es.map (·.1)) (es.map (·.2))
 |_=>.mp i
section
variable {st:St}{i n:Nat}
theorem snapO_s {a:Arr}:snapO n (some a)=if a.xs.length=n∧a.wr=false then some (.sl a.xs) else none:=idq rfl
theorem shutO_s {a:Arr}:shutO i n (some a)=if a.xs.length=n then .sl a.xs else .osl i n:=idq rfl
theorem shutM_s {es:List (V×V)}:shutM i (some (.map es))=.mpc (es.map (·.1)) (es.map (·.2)):=idq rfl
theorem snap1_osl:snap1 st (.osl i n)=snapO n (look st.arr i):=by unfold snap1 snapO;rfl
theorem snapA_osl:snapA st (.osl i n)=snapO n (look st.arr i):=snap1_osl
theorem snapV_osl:snapV st (.osl i n)=snapO n (look st.arr i):=snap1_osl
theorem shut1_osl:shut1 st (.osl i n)=shutO i n (look st.arr i):=by unfold shut1 shutO;rfl
theorem shutA_osl:shutA st (.osl i n)=shutO i n (look st.arr i):=shut1_osl
theorem shutV_osl:shutV st (.osl i n)=shutO i n (look st.arr i):=shut1_osl
theorem shut1_mp:shut1 st (.mp i)=shutM i (look st.x.obj i):=by unfold shut1 shutM;rfl
def partA (n:Nat):Option Arr→Bool
 |some a=>a.xs.length == n
 |none=>false
theorem partA_s {a:Arr}:partA n (some a)=(a.xs.length == n):=idq rfl
theorem po_osl:partOk st (.osl i n)=partA n (look st.arr i):=by unfold partOk partA;rfl
def loadM (n:Option Nat)(off:Nat):Option (List V)→Option V
 |some cs=>rd n cs off
 |none=>none
theorem loadM_s {m:Option Nat}{o:Nat}{cs:List V}:loadM m o (some cs)=rd m cs o:=idq rfl
theorem load_ptr {m:Option Nat}{o:Nat}:loadV st m (.ptr i o)=loadM m o (look st.mem i):=by unfold loadV loadM;rfl
theorem load_ep {m:Option Nat}{o:Nat}{x:V}:loadV st m (.ep x o)=rd m x.cells o:=idq rfl
theorem rd_n {cs:List V}{o:Nat}:rd none cs o=cs[o]?:=idq rfl
theorem rd_s {m o:Nat}{cs:List V}:rd (some m) cs o=if o+m≤cs.length then some (.agg ((cs.drop o).take m)) else none:=idq rfl
def loadA (n:Option Nat)(m i es off:Nat):Option Arr→Option V
 |some a=>if a.xs.length=m∧a.es=es then match a.xs[i]? with
  |some x=>rd n x.cells off
  |none=>none
  else none
 |none=>none
theorem load_op {q:Option Nat}{m es o:Nat}:loadV st q (.op i m n es o)=loadA q m n es o (look st.arr i):=by unfold loadV loadA;rfl
theorem loadA_s {q:Option Nat}{m es o:Nat}{a:Arr}:loadA q m n es o (some a)=dn (a.xs.length=m∧a.es=es∧n<a.xs.length) (rd q (a.xs.getD n .und).cells o):=by
 unfold dn loadA
 by_cases h:a.xs.length=m∧a.es=es
 ·by_cases h2:n<a.xs.length
  ·have:=h.1
   simp only[h,h2,List.getD_eq_getElem?_getD,List.getElem?_eq_getElem h2,Option.getD_some,and_self,if_true]
   rw[if_pos ⟨trivial,trivial,by omega⟩]
  ·simp[h,List.getElem?_eq_none (Nat.le_of_not_lt h2)];intro h3;omega
 ·simp only[h,if_false];rw[if_neg (fun hh=>h ⟨hh.1,hh.2.1⟩)]
def stoM (st:St)(id off n:Nat)(x:List V):Option (List V)→Option St
 |some cs=>if off+n≤cs.length then some ⟨st.nx,updM st.mem id (cs.take off++x++cs.drop (off+n)),st.arr,st.x⟩ else none
 |none=>none
theorem stoM_s {o m:Nat}{x cs:List V}:stoM st i o m x (some cs)=if o+m≤cs.length then some ⟨st.nx,updM st.mem i (cs.take o++x++cs.drop (o+m)),st.arr,st.x⟩ else none:=idq rfl
theorem sto_ptr {m o:Nat}{x:V}:storeV st m (.ptr i o) x=if partOk st x=true∧x.cells.length=m then stoM st i o m x.cells (look st.mem i) else none:=by unfold storeV stoM;rfl
def stoB (st:St)(n id i off:Nat)(r:Arr):Option V→Option V→Option St
 |some y,some x'=>(y.recell (y.cells.take off++x'.cells++y.cells.drop (off+n))).map fun y'=>⟨st.nx,st.mem,updA st.arr id ⟨r.e,r.es,r.xs.set i y',r.wr,r.fz⟩,st.x⟩
 |_,_=>none
def stoA (st:St)(n id m i es off:Nat)(x:V):Option Arr→Option St
 |some r=>if r.xs.length=m∧r.es=es∧r.wr=true∧off+n≤es then stoB st n id i off r r.xs[i]? (snapA st x) else none
 |none=>none
theorem stoA_s {a b c m es o:Nat}{x:V}{r:Arr}:stoA st m a b c es o x (some r)=if r.xs.length=b∧r.es=es∧r.wr=true∧o+m≤es then stoB st m a c o r r.xs[c]? (snapA st x) else none:=idq rfl
theorem stoB_s {m o:Nat}{r:Arr}{x y:V}:stoB st m i n o r (some y) (some x)=(y.recell (y.cells.take o++x.cells++y.cells.drop (o+m))).map fun y'=>⟨st.nx,st.mem,updA st.arr i ⟨r.e,r.es,r.xs.set n y',r.wr,r.fz⟩,st.x⟩:=idq rfl
theorem sto_op {a b c m es o:Nat}{x:V}:storeV st m (.op a b c es o) x=if partOk st x=true∧x.cells.length=m then stoA st m a b c es o x (look st.arr a) else none:=by
 unfold storeV stoA stoB;rfl
def elsO (n:Nat):Option Arr→Option (List V)
 |some a=>if a.xs.length=n then some a.xs else none
 |none=>none
theorem elsO_s {a:Arr}:elsO n (some a)=if a.xs.length=n then some a.xs else none:=idq rfl
theorem els_osl:elemsV st (.osl i n)=elsO n (look st.arr i):=by unfold elemsV elsO;rfl
theorem els_sl {xs:List V}:elemsV st (.sl xs)=some xs:=idq rfl
theorem els_nils:elemsV st .nils=some []:=idq rfl
theorem len_eq {x:V}:lenV st x=(elemsV st x).map fun xs=>.int .i64 xs.length:=idq rfl
theorem lens_s {s:List UInt8}:lensV (.str s)=some (.int .i64 s.length):=idq rfl
def iadO (es j id:Nat)(m:Nat):Option Arr→Option V
 |some a=>if a.xs.length=m∧a.es=es∧j<m then some (.op id m j es 0) else none
 |none=>none
def iadN (st:St)(es id m:Nat):Option Nat→Option V
 |some j=>iadO es j id m (look st.arr id)
 |none=>none
theorem iadN_s {es j m:Nat}:iadN st es i m (some j)=iadO es j i m (look st.arr i):=idq rfl
theorem iadO_s {es j m:Nat}{a:Arr}:iadO es j i m (some a)=if a.xs.length=m∧a.es=es∧j<m then some (.op i m j es 0) else none:=idq rfl
theorem iadr_osl {es m:Nat}{x:V}:iadrV st es (.osl i m) x=iadN st es i m (natV x):=by unfold iadrV iadN iadO;cases natV x<;>rfl
def iaaN (len es id off:Nat):Option Nat→Option V
 |some j=>if j<len then some (.ptr id (off+j*es)) else none
 |none=>none
theorem iaaN_s {len es j o:Nat}:iaaN len es i o (some j)=if j<len then some (.ptr i (o+j*es)) else none:=idq rfl
theorem iadra_ptr {len es o:Nat}{x:V}:iadraV len es (.ptr i o) x=iaaN len es i o (natV x):=by unfold iadraV iaaN;cases natV x<;>rfl
def iaeN (len es:Nat)(y:V)(off:Nat):Option Nat→Option V
 |some j=>if j<len then some (.ep y (off+j*es)) else none
 |none=>none
theorem iaeN_s {len es j o:Nat}{y:V}:iaeN len es y o (some j)=if j<len then some (.ep y (o+j*es)) else none:=idq rfl
theorem iadra_ep {len es o:Nat}{x y:V}:iadraV len es (.ep y o) x=iaeN len es y o (natV x):=by unfold iadraV iaeN;cases natV x<;>rfl
theorem nilc_ptr {o:Nat}:nilcV (.ptr i o)=some (.ptr i o):=idq rfl
theorem nilc_ep {x:V}{o:Nat}:nilcV (.ep x o)=some (.ep x o):=idq rfl
theorem eqb_b {ne x y:Bool}:eqbV ne (.bool x) (.bool y)=some (.bool (if ne then x != y else x == y)):=idq rfl
theorem eqs_a {ne:Bool}{ks:List Kd}{a b:List V}:eqsV ne ks (.agg a) (.agg b)=(eqCells ks a b).map fun r=>.bool (if ne then !r else r):=idq rfl
theorem un_not {b:Bool}:unV .not (.bool b)=some (.bool (!b)):=idq rfl
theorem fad_ptr {o q:Nat}:fadrV st o (.ptr i q)=some (.ptr i (q+o)):=idq rfl
theorem fad_ep {o q:Nat}{x:V}:fadrV st o (.ep x q)=some (.ep x (q+o)):=idq rfl
def aliA (n i:Nat):Option Arr→Bool
 |some a=>a.xs.length == n&&decide (i<n)
 |none=>false
theorem aliA_s {m:Nat}{a:Arr}:aliA n m (some a)=(a.xs.length == n&&decide (m<n)):=idq rfl
theorem fad_op {o m j es q:Nat}:fadrV st o (.op i m j es q)=if aliA m j (look st.arr i)=true then some (.op i m j es (q+o)) else none:=by unfold fadrV aliveB aliA;rfl
theorem fld_a {m:Option Nat}{o:Nat}{cs:List V}:fldV m o (.agg cs)=rd m cs o:=idq rfl
theorem ext_t {vs:List V}:extV i (.tup vs)=vs[i]?:=idq rfl
theorem cvi_i {k k2:IntKind}{m:Int}:cviV k (.int k2 m)=some (.int k (k.wrap m)):=idq rfl
theorem gen_mx {k:IntKind}{a b:Int}:genV .mx [.int k a,.int k b]=some (.int k (if b>a then b else a)):=by simp[genV,maxV]
def iaN (len:Nat)(n:Option Nat)(es:Nat)(cs:List V):Option Nat→Option V
 |some j=>if j<len then rd n cs (j*es) else none
 |none=>none
theorem iaN_s {len es j:Nat}{m:Option Nat}{cs:List V}:iaN len m es cs (some j)=if j<len then rd m cs (j*es) else none:=idq rfl
theorem gen_ia {len es:Nat}{m:Option Nat}{cs:List V}{x:V}:genV (.ia len m es) [.agg cs,x]=iaN len m es cs (natV x):=by simp only[genV];unfold iaN;rfl
theorem act_mk:actV .mkmap [] st=some (.mp st.nx,⟨st.nx+1,st.mem,st.arr,⟨(st.nx,.map [])::st.x.obj,st.x.gl,st.x.ty⟩⟩):=idq rfl
def lookB (st:St)(z:V)(ok:Bool):Option (Option (Nat×V))→Option (V×St)
 |some (some (_,v))=>some (if ok=true then .tup [v,.bool true] else v,st)
 |some none=>some (if ok=true then .tup [z,.bool false] else z,st)
 |none=>none
def lookA (st:St)(q:KT)(z:V)(ok:Bool)(k:V):Option (List (V×V))→Option (V×St)
 |some es=>if keyV q k=true then lookB st z ok (findV k es 0) else none
 |none=>none
theorem act_look {q:KT}{z m k:V}{ok:Bool}:actV (.look q z ok) [m,k] st=lookA st q z ok k (mapOf st m):=by
 simp only[actV];unfold lookA lookB;rfl
theorem lookA_s {q:KT}{z k:V}{ok:Bool}{es:List (V×V)}:lookA st q z ok k (some es)=if keyV q k=true then lookB st z ok (findV k es 0) else none:=idq rfl
def mapD:Option Ob→Option (List (V×V))
 |some (.map es)=>some es
 |_=>none
theorem mapD_s {es:List (V×V)}:mapD (some (.map es))=some es:=idq rfl
theorem mapOf_mp:mapOf st (.mp i)=mapD (look st.x.obj i):=by
 simp only[mapOf];cases h:look st.x.obj i with
 |none=>rfl
 |some o=>cases o<;>rfl
theorem mapOf_mpc {es:List (V×V)}:mapOf st (.mpc (es.map (·.1)) (es.map (·.2)))=some es:=by
 have:(es.map (·.1)).zip (es.map (·.2))=es:=by induction es with|nil=>rfl|cons p r ih=>simp[ih]
 simp[mapOf,this]
def msetB (st:St)(id:Nat)(es:List (V×V))(k v:V):Option (Option (Nat×V))→Option (V×St)
 |some r=>some (.und,⟨st.nx,st.mem,st.arr,⟨updO st.x.obj id (.map (putM es k v r)),st.x.gl,st.x.ty⟩⟩)
 |none=>none
def msetA (st:St)(q:KT)(id:Nat)(k v:V):Option (List (V×V))→Option (V×St)
 |some es=>if keyV q k=true then msetB st id es k v (findV k es 0) else none
 |none=>none
theorem act_mset {q:KT}{k v:V}:actV (.mset q) [.mp i,k,v] st=msetA st q i k v (mapD (look st.x.obj i)):=by
 simp only[actV]
 cases h:look st.x.obj i with
 |none=>rfl
 |some o=>cases o<;>simp only[mapD,msetA,msetB]<;>rfl
theorem msetA_s {q:KT}{k v:V}{es:List (V×V)}:msetA st q i k v (some es)=if keyV q k=true then msetB st i es k v (findV k es 0) else none:=idq rfl
theorem key_i {q:IntKind}{m:Int}:keyV (.i q) (.int q m)=true:=by simp[keyV]
theorem key_s {x:List UInt8}:keyV .s (.str x)=true:=idq rfl
theorem sla_ep {len:Nat}{cs:List V}{lo hi:V}:slaV st len (.ep (.agg cs) 0) lo hi=if cs.length=len∧(cs.all fun c=>!c.isAgg)=true then(boundsV len (some lo) (some hi)).map fun p=>(.sl ((cs.take p.2).drop p.1),st) else none:=idq rfl
attribute [push_cast] sla_ep
theorem act_sla {len:Nat}{x lo hi:V}:actV (.sla len) [x,lo,hi] st=slaV st len x lo hi:=idq rfl
theorem box_eq {x:V}:boxV st x=if partOk st x=true then some (.ptr st.nx 0,⟨st.nx+1,(st.nx,x.cells)::st.mem,st.arr,st.x⟩) else none:=idq rfl
def bslO (st:St)(e es:Nat):Option (List V)→Option (V×St)
 |some ys=>if(ys.all fun y=>partOk st y&&y.cells.length == es)=true then some (.osl st.nx ys.length,⟨st.nx+1,st.mem,(st.nx,⟨e,es,ys,false,false⟩)::st.arr,st.x⟩) else none
 |none=>none
theorem bsl_eq {e es:Nat}{xs:List V}:bsliceV e es xs st=bslO st e es (mapO (snapA st) xs):=by unfold bsliceV bslO newArr;rfl
def bslP (st:St)(es:Nat):Option (List V)→Option V
 |some ys=>if(ys.all fun y=>partOk st y&&y.cells.length == es)=true then some (.sl ys) else none
 |none=>none
theorem bslQ_eq {es:Nat}{xs:List V}:bslQ st es xs=bslP st es (mapO (snapA st) xs):=by unfold bslQ bslP;rfl
theorem bslP_s {es:Nat}{ys:List V}:bslP st es (some ys)=if(ys.all fun y=>partOk st y&&y.cells.length == es)=true then some (.sl ys) else none:=idq rfl
theorem bslO_s {e es:Nat}{ys:List V}:bslO st e es (some ys)=if(ys.all fun y=>partOk st y&&y.cells.length == es)=true then some (.osl st.nx ys.length,⟨st.nx+1,st.mem,(st.nx,⟨e,es,ys,false,false⟩)::st.arr,st.x⟩) else none:=idq rfl
theorem cvsb_s {e:TypeId}{s:List UInt8}:cvsbV e (.str s) st=if s.length≤maxLen then some (.osl st.nx (s.map bV).length,⟨st.nx+1,st.mem,(st.nx,⟨e,1,s.map bV,true,true⟩)::st.arr,st.x⟩) else none:=idq rfl
def appS (st:St)(e es b:Nat)(s:V):Option (List V)→Option (V×St)
 |some ys=>if(ys.all fun y=>y.cells.length == es)=true then appG st e es b ys s else none
 |none=>none
def appY (st:St)(e es b:Nat)(s:V):Option (List V)→Option (V×St)
 |some ys=>appS st e es b s (mapO (snapA st) ys)
 |none=>none
theorem app_eq {e es b:Nat}{s x:V}:appendV st e es b s x=appY st e es b s (elemsV st x):=by
 unfold appendV appY appS
 cases elemsV st x with
 |none=>rfl
 |some ys=>simp only;cases mapO (snapA st) ys<;>rfl
theorem appY_s {e es b:Nat}{s:V}{ys:List V}:appY st e es b s (some ys)=appS st e es b s (mapO (snapA st) ys):=idq rfl
theorem appS_s {e es b:Nat}{s:V}{ys:List V}:appS st e es b s (some ys)=if(ys.all fun y=>y.cells.length == es)=true then appG st e es b ys s else none:=idq rfl
theorem appG_osl {e es b:Nat}{ys:List V}:appG st e es b ys (.osl i n)=appA st e es b i n ys (look st.arr i):=idq rfl
theorem appA_s {e es b:Nat}{ys:List V}{r:Arr}:appA st e es b i n ys (some r)=if r.xs.length=n∧r.e=e∧r.es=es∧r.fz=false∧roomV (n+ys.length) b=true then
  some (.osl i (n+ys.length),⟨st.nx,st.mem,updA st.arr i ⟨r.e,r.es,r.xs++ys,r.wr,r.fz⟩,st.x⟩) else none:=idq rfl
theorem fill_n {cs:List V}:fillV st cs []=some cs:=idq rfl
theorem fill_c {cs:List V}{o m:Nat}{v:V}{r:List (Nat×Nat×V)}:fillV st cs ((o,m,v)::r)=if partOk st v=true∧v.cells.length=m∧o+m≤cs.length then fillV st (cs.take o++v.cells++cs.drop (o+m)) r else none:=idq rfl
end
theorem roomV_lit {n b:Nat}(h:n*b≤140737488355328)(h2:n≤140737488355328):roomV n b=true:=by
 simp[roomV,h];unfold maxLen;omega
theorem take_map' {α β:Type}{f:α→β}{l:List α}{n:Nat}:(l.map f).take n=(l.take n).map f:=List.map_take.symm
theorem drop_map' {α β:Type}{f:α→β}{l:List α}{n:Nat}:(l.map f).drop n=(l.drop n).map f:=List.map_drop.symm
theorem slice_map {α:Type}{f:α→V}{l:List α}{st:St}{es:Nat}{lo hi:Option V}(he:∀x,(f x).cells.length=es):sliceV st es (.sl (l.map f)) lo hi none=(boundsV l.length lo hi).map fun p=>.sl (((l.take p.2).drop p.1).map f):=by
 have h:((l.map f).all fun x=>x.cells.length == es)=true:=by simp[he]
 rw[slice_sl,h,List.length_map];simp only[take_map',drop_map',dn,if_true]
theorem iadr_cons {l:List V}{a:V}{st:St}{es:Nat}{k:IntKind}{n:Int}:iadrV st es (.sl (a::l)) (.int k n)=dn (0≤n∧n<((a::l).length:Nat)∧((a::l).getD n.toNat .und).cells.length=es) (some (.ep ((a::l).getD n.toNat .und) 0)):=iadr_sl
attribute [push_cast] slice_map iadr_cons
attribute [push_cast] get_t get_c look_cons natV_nn natV_cast natV_add natV_add1 binV_add binV_sub binV_mul binV_eql binV_neq binV_lss binV_leq binV_gtr binV_geq binV_quo binV_shl binV_shr binV_cat binV_seql binV_sneq pickV_b ichr_str bounds_v bounds_n bounds_0 slice_str getD_app iadr_map mapO_n mapO_c consO_s and2_s eqCells_n eqCells_c eqCell_i eqCell_s bdL_map' all_true beqN ce_bool snap1_bool snapA_bool snapV_bool shutA_bool shutV_bool po_bool ce_int snap1_int snapA_int snapV_int shut1_int shutA_int shutV_int po_int ce_str snap1_str snapA_str shut1_str shutA_str shutV_str po_str ce_ptr snapA_ptr po_ptr ce_sl snap1_sl snapA_sl shut1_sl shutA_sl shutV_sl po_sl ce_osl snapA_ep ce_agg po_agg ce_fn snap1_fn snapA_fn po_fn ce_mp po_mp shut1_nilm ce_mpc snap1_mpc shut1_mpc po_mpc snap1_nils snapA_nils shut1_nils shutA_nils snapA_agg snapV_agg snapV_tup shutA_agg shutV_agg shutV_tup snapO_s shutO_s shutM_s snap1_osl snapA_osl snapV_osl shut1_osl shutA_osl shutV_osl shut1_mp partA_s po_osl loadM_s load_ptr load_ep rd_n rd_s load_op loadA_s stoM_s sto_ptr stoA_s stoB_s sto_op elsO_s els_osl els_sl els_nils len_eq lens_s iadN_s iadO_s iadr_osl iaaN_s iadra_ptr iaeN_s iadra_ep nilc_ptr nilc_ep eqb_b eqs_a un_not fad_ptr fad_ep aliA_s fad_op fld_a ext_t cvi_i gen_mx iaN_s gen_ia act_mk act_look lookA_s mapD_s mapOf_mp mapOf_mpc act_mset msetA_s key_i key_s act_sla box_eq bsl_eq bslO_s bslQ_eq bslP_s cvsb_s app_eq appY_s appS_s appG_osl appA_s fill_n fill_c updM updA updO snapL keepL belowL cutS cutB envB headS V.recell V.bd V.bdL Ob.bd elemZ picks valD SOp.quiet List.length_cons List.length_nil List.length_map List.length_append List.length_replicate List.map_cons List.map_nil List.nil_append List.append_nil List.cons_append List.append_assoc List.take_succ_cons List.take_zero List.drop_succ_cons List.drop_zero List.take_nil List.drop_nil List.reverse_cons List.reverse_nil List.getElem?_cons_zero List.getElem?_cons_succ List.getElem?_map List.getElem?_nil List.all_cons List.all_nil List.all_map List.headD_cons List.tail_cons Option.getD_some Option.getD_none Option.map_some Option.map_none if_true if_false Bool.false_eq_true Bool.not_true Bool.not_false Bool.and_self Bool.true_and Bool.and_true Bool.and_false Bool.false_and Bool.or_true Bool.true_or Bool.or_false Bool.false_or and_self and_true true_and cond_true cond_false beq_true beq_false Bool.bne_false Bool.bne_true decide_true decide_false decide_eq_true_eq Nat.add_zero Nat.zero_add beq_iff_eq bne_iff_ne ne_eq not_true_eq_false not_false_eq_true Bool.not_eq_true' Bool.not_eq_true Bool.and_eq_true Bool.or_eq_true decide_eq_false_iff_not beq_eq_false_iff_ne implies_true forall_const Bool.decide_eq_true Bool.decide_eq_false Int.toNat_natCast Int.natCast_nonneg take_map' drop_map'
theorem iwrap_pred {j:Nat}(h:j<140737488355328):IntKind.i64.wrap ((j:Int)-1)=(j:Int)-1:=by
 unfold IntKind.wrap
 simp[IntKind.bits,IntKind.signed]
 omega
theorem toNat_pred {j:Nat}:((j:Int)-1).toNat=j-1:=by omega
attribute [push_cast] iwrap toNat_pred List.getD_cons_zero List.getD_cons_succ
def stN (g:List (Nat×Obj))(n:Nat):St:=⟨n,[],[],⟨[],g,[]⟩⟩
@[push_cast]theorem stN_eq {g:List (Nat×Obj)}{n:Nat}:stN g n=⟨n,[],[],⟨[],g,[]⟩⟩:=idq rfl
def stO (g:List (Nat×Obj))(e es:Nat)(xs:List V):St:=⟨1,[],[(0,⟨e,es,xs,true,true⟩)],⟨[],g,[]⟩⟩
@[push_cast]theorem stO_eq {g:List (Nat×Obj)}{e es:Nat}{xs:List V}:stO g e es xs=⟨1,[],[(0,⟨e,es,xs,true,true⟩)],⟨[],g,[]⟩⟩:=idq rfl
theorem getD_drop {α β:Type}{f:α→β}{l r:List α}{q:α}{j:Nat}(hd:l.drop j=q::r):∀d,(l.map f).getD j d=f q:=fun d=>by
 have h:l[j]?=some q:=by have:=congrArg (·[0]?) hd;simpa using this
 rw[List.getD_eq_getElem?_getD,List.getElem?_map,h];rfl
theorem mgO {β:Type}{c d:Prop}[Decidable c][Decidable d]{x y:β}:(if c then x else if d then x else y)=if c∨d then x else y:=by by_cases h:c<;>by_cases h':d<;>simp[h,h']
def lpE (s:St)(e:Env)(k:Nat)(v:Int):Option (VX×Env×St):=if v=0 then some (.exit 0,e,s) else some (.ret,[(k,.int .i64 v)],s)
theorem lpE_ite {s:St}{e:Env}{k:Nat}{a b:Int}{c:Prop}[Decidable c]:lpE s e k (if c then a else b)=if c then lpE s e k a else lpE s e k b:=by split<;>rfl
theorem lpE_0 {s:St}{e:Env}{k:Nat}:lpE s e k 0=some (.exit 0,e,s):=idq rfl
theorem lpE_n {s:St}{e:Env}{k:Nat}{v:Int}(h:¬v=0):lpE s e k v=some (.ret,[(k,.int .i64 v)],s):=if_neg h
def lpX (i:Nat)(s:St)(e:Env)(k:Nat)(v:Int):Option (VX×Env×St):=if v=0 then some (.exit i,e,s) else some (.ret,[(k,.int .i64 v)],s)
theorem lpX_ite {i:Nat}{s:St}{e:Env}{k:Nat}{a b:Int}{c:Prop}[Decidable c]:lpX i s e k (if c then a else b)=if c then lpX i s e k a else lpX i s e k b:=by split<;>rfl
theorem lpX_0 {i:Nat}{s:St}{e:Env}{k:Nat}:lpX i s e k 0=some (.exit i,e,s):=idq rfl
theorem lpX_n {i:Nat}{s:St}{e:Env}{k:Nat}{v:Int}(h:¬v=0):lpX i s e k v=some (.ret,[(k,.int .i64 v)],s):=if_neg h
attribute [simp] lpX_0 lpX_n
attribute [push_cast] lpX_ite lpX_0 lpX_n
def lpI (s:St)(e:Env)(k:Nat)(v:Int):Option (VX×Env×St):=if v=-1 then some (.exit 0,e,s) else some (.ret,[(k,.int .i64 v)],s)
theorem lpI_ite {s:St}{e:Env}{k:Nat}{a b:Int}{c:Prop}[Decidable c]:lpI s e k (if c then a else b)=if c then lpI s e k a else lpI s e k b:=by split<;>rfl
theorem lpI_n {s:St}{e:Env}{k j:Nat}:lpI s e k (j:Int)=some (.ret,[(k,.int .i64 j)],s):=if_neg (by omega)
theorem lpI_1 {s:St}{e:Env}{k:Nat}:lpI s e k (-1)=some (.exit 0,e,s):=idq rfl
def lpB (s:St)(e:Env)(k:Nat)(v b:Bool):Option (VX×Env×St):=if v=true then some (.ret,[(k,.bool b)],s) else some (.exit 0,e,s)
theorem lpB_ite {s:St}{e:Env}{k:Nat}{a b d:Bool}{c:Prop}[Decidable c]:lpB s e k (if c then a else b) d=if c then lpB s e k a d else lpB s e k b d:=by split<;>rfl
theorem lpB_t {s:St}{e:Env}{k:Nat}{d:Bool}:lpB s e k true d=some (.ret,[(k,.bool d)],s):=idq rfl
theorem lpB_f {s:St}{e:Env}{k:Nat}{d:Bool}:lpB s e k false d=some (.exit 0,e,s):=idq rfl
theorem lps:(∀{s:St}{e:Env}{k:Nat}{a b:Int}{c:Prop} [Decidable c],lpE s e k (if c then a else b)=if c then lpE s e k a else lpE s e k b)∧(∀{s:St}{e:Env}{k:Nat},lpE s e k 0=some (.exit 0,e,s))∧(∀{s:St}{e:Env}{k:Nat}{v:Int},¬v=0→lpE s e k v=some (.ret,[(k,.int .i64 v)],s)) ∧
 (∀{i:Nat}{s:St}{e:Env}{k:Nat}{a b:Int}{c:Prop} [Decidable c],lpX i s e k (if c then a else b)=if c then lpX i s e k a else lpX i s e k b)∧(∀{i:Nat}{s:St}{e:Env}{k:Nat},lpX i s e k 0=some (.exit i,e,s))∧(∀{i:Nat}{s:St}{e:Env}{k:Nat}{v:Int},¬v=0→lpX i s e k v=some (.ret,[(k,.int .i64 v)],s)) ∧
 (∀{s:St}{e:Env}{k:Nat}{a b:Int}{c:Prop} [Decidable c],lpI s e k (if c then a else b)=if c then lpI s e k a else lpI s e k b)∧(∀{s:St}{e:Env}{k j:Nat},lpI s e k (j:Int)=some (.ret,[(k,.int .i64 j)],s))∧(∀{s:St}{e:Env}{k:Nat},lpI s e k (-1)=some (.exit 0,e,s)) ∧
 (∀{s:St}{e:Env}{k:Nat}{a b d:Bool}{c:Prop} [Decidable c],lpB s e k (if c then a else b) d=if c then lpB s e k a d else lpB s e k b d)∧(∀{s:St}{e:Env}{k:Nat}{d:Bool},lpB s e k true d=some (.ret,[(k,.bool d)],s))∧(∀{s:St}{e:Env}{k:Nat}{d:Bool},lpB s e k false d=some (.exit 0,e,s)) :=
 ⟨lpE_ite,lpE_0,fun h=>lpE_n h,lpX_ite,lpX_0,fun h=>lpX_n h,lpI_ite,lpI_n,lpI_1,lpB_ite,lpB_t,lpB_f⟩
theorem iw1 {j:Nat}(h:j<140737488355328):IntKind.i64.wrap ((j:Int)+1)=((j+1:Nat):Int):=iwrap (by omega) (by omega)
attribute [push_cast] eq_self iff_self
attribute [simp] V.bd V.bdL bdL_map'
theorem ite0 {v:Int}:(if v=0 then 0 else v)=v:=by split<;>simp_all
theorem ite1 {v:Int}:(if v=-1 then -1 else v)=v:=by split<;>simp_all
attribute [simp] lpE_0 lpE_n lpI_n lpI_1 lpB_t lpB_f
theorem ite0' {v:Int}:(if ¬v=0 then v else 0)=v:=by split<;>simp_all
attribute [push_cast] ite0' lpE_ite lpE_0 lpE_n lpI_ite lpI_n lpI_1 lpB_ite lpB_t lpB_f ite0 ite1
theorem bdL_app {n:Nat}{a b:List V}:V.bdL n (a++b)=(V.bdL n a&&V.bdL n b):=by
 induction a with
 |nil=>rfl
 |cons x r ih=>simp only[List.cons_append,V.bdL,ih,Bool.and_assoc]
theorem lt_irr {n:Nat}:(n<n)=False:=eq_false (Nat.lt_irrefl n)
attribute [push_cast] bdL_app lt_irr
theorem ne_1a {n:Nat}:(n+1=n)=False:=eq_false (by omega)
theorem ne_1b {n:Nat}:(n=n+1)=False:=eq_false (by omega)
theorem ne_2a {n:Nat}:(n+1+1=n)=False:=eq_false (by omega)
theorem ne_2b {n:Nat}:(n=n+1+1)=False:=eq_false (by omega)
theorem ne_3a {n:Nat}:(n+1+1+1=n)=False:=eq_false (by omega)
theorem ne_3b {n:Nat}:(n=n+1+1+1)=False:=eq_false (by omega)
theorem ne_4a {n:Nat}:(n+1+1+1+1=n)=False:=eq_false (by omega)
theorem ne_4b {n:Nat}:(n=n+1+1+1+1)=False:=eq_false (by omega)
theorem ne_5a {n:Nat}:(n+1+1+1+1+1=n)=False:=eq_false (by omega)
theorem ne_5b {n:Nat}:(n=n+1+1+1+1+1)=False:=eq_false (by omega)
theorem ne_6a {n:Nat}:(n+1+1+1+1+1+1=n)=False:=eq_false (by omega)
theorem ne_6b {n:Nat}:(n=n+1+1+1+1+1+1)=False:=eq_false (by omega)
attribute [push_cast] ne_1a ne_1b ne_2a ne_2b ne_3a ne_3b ne_4a ne_4b ne_5a ne_5b ne_6a ne_6b
theorem nlt_1a {n:Nat}:(n+1<n)=False:=eq_false (by omega)
theorem nlt_1b {n:Nat}:(n<n+1)=True:=eq_true (by omega)
theorem nle_1b {n:Nat}:(n≤n+1)=True:=eq_true (by omega)
theorem nlt_2a {n:Nat}:(n+1+1<n)=False:=eq_false (by omega)
theorem nlt_2b {n:Nat}:(n<n+1+1)=True:=eq_true (by omega)
theorem nle_2b {n:Nat}:(n≤n+1+1)=True:=eq_true (by omega)
theorem nlt_3a {n:Nat}:(n+1+1+1<n)=False:=eq_false (by omega)
theorem nlt_3b {n:Nat}:(n<n+1+1+1)=True:=eq_true (by omega)
theorem nle_3b {n:Nat}:(n≤n+1+1+1)=True:=eq_true (by omega)
theorem nlt_4b {n:Nat}:(n<n+1+1+1+1)=True:=eq_true (by omega)
theorem nle_4b {n:Nat}:(n≤n+1+1+1+1)=True:=eq_true (by omega)
theorem nlt_5b {n:Nat}:(n<n+1+1+1+1+1)=True:=eq_true (by omega)
theorem nle_5b {n:Nat}:(n≤n+1+1+1+1+1)=True:=eq_true (by omega)
theorem nlt_6b {n:Nat}:(n<n+1+1+1+1+1+1)=True:=eq_true (by omega)
theorem nle_6b {n:Nat}:(n≤n+1+1+1+1+1+1)=True:=eq_true (by omega)
attribute [push_cast] nlt_1a nlt_1b nle_1b nlt_2a nlt_2b nle_2b nlt_3a nlt_3b nle_3b nlt_4b nle_4b nlt_5b nle_5b nlt_6b nle_6b
end Go.Sha
