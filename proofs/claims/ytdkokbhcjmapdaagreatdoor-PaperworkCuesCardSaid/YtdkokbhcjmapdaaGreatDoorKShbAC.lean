/- What comes in as data, as Lean structures. -/
import Derived.Test.YtdkokbhcjmapdaaGreatDoorKShbAA
set_option linter.unusedSimpArgs false
set_option linter.unusedVariables false
namespace Go.Sha
theorem OkCs.nil_inv {vs:List V}(h:OkCs [] vs):vs=[]:=List.eq_nil_of_length_eq_zero h.1
theorem OkCs.cons_inv {s:CSh}{sh:List CSh}{vs:List V}(h:OkCs (s::sh) vs):∃v r,vs=v::r∧OkC s v∧OkCs sh r:=by
 match vs,h with
 |v::r,h=>exact⟨v,r,rfl,h.2 0 s v rfl rfl,by simpa using h.1,fun i s c hs hc=>h.2 (i+1) s c hs hc⟩
theorem OkC.int_inv {k:IntKind}{v:V}(h:OkC (.int k) v):∃n,v=.int k n∧(Lit.int k n).wf=true:=by cases h;exact⟨_,rfl,by assumption⟩
theorem OkC.i64_inv {v:V}(h:OkC (.int .i64) v):∃n,v=.int .i64 n∧-9223372036854775808≤n∧n≤9223372036854775807:=by
 obtain⟨n,rfl,hw⟩:=h.int_inv
 exact⟨n,rfl,by simpa [Lit.wf,IntKind.min,IntKind.max,IntKind.bits,IntKind.signed] using hw⟩
theorem OkC.bool_inv {v:V}(h:OkC .bool v):∃b,v=.bool b:=by cases h;exact⟨_,rfl⟩
theorem OkC.str_inv {v:V}(h:OkC .str v):∃s:List UInt8,v=.str s∧s.length≤140737488351232:=by cases h;exact⟨_,rfl,by assumption⟩
theorem OkC.agg_inv {α:Type}{b:Nat}{e:List CSh}{f:α→V}{p:α→Prop}{v:V}(h:OkC (.sl true b e) v)(hb:0<b)(hf:∀vs,OkCs e vs→∃x,V.agg vs=f x∧p x) :
  ∃l:List α,v=.sl (l.map f)∧l.length≤140737488351232∧∀x∈l,p x:=by
 cases h with
 |sl _ _ _ xs hl h1 h2 =>
  obtain⟨l,rfl,hp⟩:=exists_map (f:=f) (p:=p) (xs:=xs) fun x hx=>by
   obtain⟨a1,a2⟩:=h1 x hx
   cases x with
   |agg vs =>
    obtain⟨y,e,hy⟩:=hf vs ⟨a2,fun i s c hs hc=>h2 _ hx i s c hs hc⟩
    exact⟨y,e,hy⟩
   |_=>cases a1
  refine⟨l,rfl,?_,hp⟩
  rw[List.length_map]at hl
  exact Nat.le_trans (Nat.le_mul_of_pos_right _ hb) hl
theorem OkC.one_inv {α:Type}{b:Nat}{s:CSh}{f:α→V}{p:α→Prop}{v:V}(h:OkC (.sl false b [s]) v)(hb:0<b)(hf:∀v,OkC s v→∃x,v=f x∧p x) :
  ∃l:List α,v=.sl (l.map f)∧l.length≤140737488351232∧∀x∈l,p x:=by
 cases h with
 |sl _ _ _ xs hl h1 h2 =>
  obtain⟨l,rfl,hp⟩:=exists_map (f:=f) (p:=p) (xs:=xs) fun x hx=>by
   obtain⟨a1,a2⟩:=h1 x hx
   refine hf x (h2 x hx 0 s x rfl ?_)
   cases x<;>first|rfl|cases a1
  refine⟨l,rfl,?_,hp⟩
  rw[List.length_map]at hl
  exact Nat.le_trans (Nat.le_mul_of_pos_right _ hb) hl
theorem map_inj {α:Type}{f:α→V}(h:∀{x y:α},f x=f y→x=y):∀{l m:List α},l.map f=m.map f→l=m
 |[],[],_=>rfl
 |[],_::_,e=>by cases e
 |_::_,[],e=>by cases e
 |x::l,y::m,e=>by
  rw[List.map_cons,List.map_cons,List.cons.injEq]at e
  rw[h e.1,map_inj h e.2]
section
open Go.ChangeShapes Go.WideShapes Go.ChangeAt Go.RowKit
variable {H:Type}{enc:TypeId×Value→H}{P:Program}{w:World}
theorem arg_agg {n:Nat}{t:TypeId}{cs:Array Value}{d:DataW H}{ps:List MemPlace}{sh:List CSh}(h:DataW.Trod enc P w 0 (fun _=>true) true t (.agg cs) d ps)(hsh:shOf P n t=some sh)
  (hw:∀k∈d.weights P t,k≤reachBytes):∃vs,OkCs sh vs∧Rep w (abs0 w) (.agg cs) (.agg vs):=by
 obtain⟨fuel,hf⟩:=h
 obtain⟨vs,h1,h2,h3⟩:=trod_sh n fuel t _ _ _ hf hsh hw
 refine⟨vs,h1,?_⟩
 have:=Rep.agg (w:=w) (A:=abs0 w) cs.toList vs h2.1 h3 h2.2
 rwa [Array.toArray_toList]at this
end
end Go.Sha
