/- Numbers below a bound. -/
import Derived.Test.YtmjkgajnpmiomaaGreatDoorLShbPA
set_option linter.unusedSimpArgs false
set_option linter.unusedVariables false
namespace Go.Sha
mutual
def V.bd (n:Nat):V→Bool
 | .ptr id _=>decide (id<n)
 | .osl id _=>decide (id<n)
 | .op id _ _ _ _=>decide (id<n)
 | .win id _ _ _ _=>decide (id<n)
 | .sl xs=>V.bdL n xs
 | .clip xs=>V.bdL n xs
 | .ep x _=>V.bd n x
 | .agg cs=>V.bdL n cs
 | .tup vs=>V.bdL n vs
 | .fn _ a b=>V.bdL n a&&V.bdL n b
 | .iface _ v=>V.bd n v
 | .mp id=>decide (id<n)
 | .mpc ks vs=>V.bdL n ks&&V.bdL n vs
 |_=>true
def V.bdL (n:Nat):List V→Bool
 |[]=>true
 |v::r=>V.bd n v&&V.bdL n r
end
theorem bdL_iff {n:Nat}:∀{l:List V},V.bdL n l=true↔∀v∈l,v.bd n=true
 |[]=>by simp[V.bdL]
 |v::r=>by simp[V.bdL,bdL_iff (l:=r)]
theorem bd_cells {n:Nat}{v c:V}(h:v.bd n=true)(hc:c∈v.cells):c.bd n=true:=by
 cases v<;>simp only[V.cells,List.mem_singleton]at hc
 all_goals first
  |(subst hc;exact h)
  |(simp only[V.bd]at h;exact bdL_iff.1 h c hc)
def Abs.cut (A:Abs)(n:Nat):Abs:={ A with own:=fun b=>match A.own b with|some id=>if id<n then some id else none|none=>none,nx:=n }
section
variable {w:World}{A:Abs}
theorem bd_of_cells {n:Nat}{v:V}(h:∀c∈v.cells,c.bd n=true):v.bd n=true:=by
 cases v with
 |agg cs=>simp only[V.bd];exact bdL_iff.2 h
 |_=>exact h _ (by simp[V.cells])
theorem Rep.bd {v:Value}{d:V}(h:Rep w A v d):d.bd A.nx=true:=by
 induction h with
 |ptr id off h=>simpa [V.bd] using h
 |sl xs b o cap es cell hes hcap hm hC hr ih =>
  simp only[V.bd]
  refine bdL_iff.2 (fun x hx=>bd_of_cells (fun c hc=>?_))
  obtain⟨i,hi⟩:=List.mem_iff_getElem?.1 hx
  obtain⟨j,hj⟩:=List.mem_iff_getElem?.1 hc
  exact ih i j x c hi hj
 |clip a xs h ih=>exact ih
 |osl id m v h hn hv=>simpa [V.bd] using h
 |ep x off b o cell hC hr ih =>
  simp only[V.bd]
  refine bd_of_cells (fun c hc=>?_)
  obtain⟨j,hj⟩:=List.mem_iff_getElem?.1 hc
  exact ih j c hj
 |op id m i es off v h hn hv=>simpa [V.bd] using h
 |win id m l h es v h1 hn hv=>simpa [V.bd] using h1
 |agg vs cs hl h1 hr ih =>
  simp only[V.bd]
  refine bdL_iff.2 (fun c hc=>?_)
  obtain⟨i,hi⟩:=List.mem_iff_getElem?.1 hc
  have hlt:i<vs.length:=by have:=(List.getElem?_eq_some_iff.1 hi).1;omega
  exact ih i vs[i] c (List.getElem?_eq_getElem hlt) hi
 |tup vs cs hl hr ih =>
  simp only[V.bd]
  refine bdL_iff.2 (fun c hc=>?_)
  obtain⟨i,hi⟩:=List.mem_iff_getElem?.1 hc
  have hlt:i<vs.length:=by have:=(List.getElem?_eq_some_iff.1 hi).1;omega
  exact ih i vs[i] c (List.getElem?_eq_getElem hlt) hi
 |fn f vs us cs ds hl hk hr hs ih ih2 =>
  simp only[V.bd,Bool.and_eq_true]
  refine⟨bdL_iff.2 (fun c hc=>?_),bdL_iff.2 (fun c hc=>?_)⟩
  ·obtain⟨i,hi⟩:=List.mem_iff_getElem?.1 hc
   have hlt:i<vs.length:=by have:=(List.getElem?_eq_some_iff.1 hi).1;omega
   exact ih i vs[i] c (List.getElem?_eq_getElem hlt) hi
  ·obtain⟨i,hi⟩:=List.mem_iff_getElem?.1 hc
   have hlt:i<us.length:=by have:=(List.getElem?_eq_some_iff.1 hi).1;omega
   exact ih2 i us[i] c (List.getElem?_eq_getElem hlt) hi
 |iface t v d h ih=>exact ih
 |mp id h=>simpa [V.bd] using h
 |mpc b ms clock ks vs ho hh hl hk hr hs ih ih2 =>
  simp only[V.bd,Bool.and_eq_true]
  refine⟨bdL_iff.2 (fun c hc=>?_),bdL_iff.2 (fun c hc=>?_)⟩
  ·obtain⟨i,hi⟩:=List.mem_iff_getElem?.1 hc
   have hlt:i<ms.size:=by have:=(List.getElem?_eq_some_iff.1 hi).1;omega
   exact ih i ms[i] c (Array.getElem?_eq_getElem hlt) hi
  ·obtain⟨i,hi⟩:=List.mem_iff_getElem?.1 hc
   have hlt:i<ms.size:=by have:=(List.getElem?_eq_some_iff.1 hi).1;omega
   exact ih2 i ms[i] c (Array.getElem?_eq_getElem hlt) hi
 |slnil=>rfl
 |_=>rfl
theorem Rep.cut {n:Nat}{v:Value}{d:V}(h:Rep w A v d):d.bd n=true→Rep w (A.cut n) v d:=by
 induction h with
 |und v=>exact fun _=>.und v
 |bool b=>exact fun _=>.bool b
 |int k n=>exact fun _=>.int k n
 |str s=>exact fun _=>.str s
 |nilp=>exact fun _=>.nilp
 |ptr id off h=>intro hb;exact .ptr (A:=A.cut n) id off (show id<n by simpa [V.bd] using hb)
 |nils=>exact fun _=>.nils
 |sl xs b o cap es cell hes hcap hm hC hr ih =>
  intro hb
  simp only[V.bd]at hb
  exact .sl xs b o cap es cell hes hcap hm hC (fun i j x c hi hj=>ih i j x c hi hj (bd_cells (bdL_iff.1 hb x (List.mem_of_getElem? hi)) (List.mem_of_getElem? hj)))
 |slnil a=>exact fun _=>.slnil a
 |clip a xs h ih=>intro hb;exact .clip a xs (ih hb)
 |osl id m v h hn hv=>intro hb;exact .osl (A:=A.cut n) id m v (show id<n by simpa [V.bd] using hb) hn hv
 |ep x off b o cell hC hr ih =>
  intro hb
  simp only[V.bd]at hb
  exact .ep x off b o cell hC (fun j c hj=>ih j c hj (bd_cells hb (List.mem_of_getElem? hj)))
 |op id m i es off v h hn hv=>intro hb;exact .op (A:=A.cut n) id m i es off v (show id<n by simpa [V.bd] using hb) hn hv
 |win id m l h es v h1 hn hv=>intro hb;exact .win (A:=A.cut n) id m l h es v (show id<n by simpa [V.bd] using hb) hn hv
 |agg vs cs hl h1 hr ih =>
  intro hb
  simp only[V.bd]at hb
  exact .agg vs cs hl h1 (fun i v c hv hc=>ih i v c hv hc (bdL_iff.1 hb c (List.mem_of_getElem? hc)))
 |tup vs cs hl hr ih =>
  intro hb
  simp only[V.bd]at hb
  exact .tup vs cs hl (fun i v c hv hc=>ih i v c hv hc (bdL_iff.1 hb c (List.mem_of_getElem? hc)))
 |fn f vs us cs ds hl hk hr hs ih ih2 =>
  intro hb
  simp only[V.bd,Bool.and_eq_true]at hb
  exact .fn f vs us cs ds hl hk (fun i v c hv hc=>ih i v c hv hc (bdL_iff.1 hb.1 c (List.mem_of_getElem? hc))) (fun i v c hv hc=>ih2 i v c hv hc (bdL_iff.1 hb.2 c (List.mem_of_getElem? hc)))
 |nilf=>exact fun _=>.nilf
 |iface t v d h ih=>intro hb;exact .iface t v d (ih hb)
 |nili=>exact fun _=>.nili
 |mp id h=>intro hb;exact .mp (A:=A.cut n) id (show id<n by simpa [V.bd] using hb)
 |nilm=>exact fun _=>.nilm
 |mpc b ms clock ks vs ho hh hl hk hr hs ih ih2 =>
  intro hb
  simp only[V.bd,Bool.and_eq_true]at hb
  exact .mpc (A:=A.cut n) b ms clock ks vs ho hh hl hk (fun i v c hv hc=>ih i v c hv hc (bdL_iff.1 hb.1 c (List.mem_of_getElem? hc))) (fun i v c hv hc=>ih2 i v c hv hc (bdL_iff.1 hb.2 c (List.mem_of_getElem? hc)))
def Ob.bd (n:Nat):Ob→Bool
 | .map es=>es.all fun p=>p.1.bd n&&p.2.bd n
 | .iter m _ _=>decide (m<n)
theorem Abs.cut_own {A:Abs}{n b id:Nat}(h:(A.cut n).own b=some id):A.own b=some id∧id<n:=by
 simp only[Abs.cut]at h
 split at h
 ·rename_i id' h'
  split at h
  ·rename_i hlt;cases h;exact⟨h',hlt⟩
  ·cases h
 ·cases h
theorem ObOk.cut {n id:Nat}{o:Ob}(h:ObOk w A id o)(hn:id<n)(hb:o.bd n=true):ObOk w (A.cut n) id o:=by
 have hown:∀b,A.own b=some id→(A.cut n).own b=some id:=fun b h=>by simp[Abs.cut,h,hn]
 refine⟨hn,?_,fun g hg=>h.noC g (Abs.cut_own hg).1⟩
 have hr:=h.row
 cases o with
 |map es =>
  obtain⟨ms,clock,h1,h2,h3,h4,h5,h6⟩:=hr
  refine⟨ms,clock,h1,hown _ h2,h3,h4,h5,fun i m c hm hc=>?_⟩
  obtain⟨k1,k2⟩:=h6 i m c hm hc
  have:=List.all_eq_true.1 hb c (List.mem_of_getElem? hc)
  simp only[Bool.and_eq_true]at this
  exact⟨k1.cut this.1,k2.cut this.2⟩
 |iter m k seen =>
  obtain⟨h1,h2,h3⟩:=hr
  exact⟨of_decide_eq_true hb,hown _ h2,h3⟩
def Sub {α:Type}(n:Nat)(l l':List (Nat×α)):Prop:=∀id x,look l' id=some x→id<n∧look l id=some x
structure ExSub (n:Nat) (x x':Ex):Prop where
 obj:Sub n x.obj x'.obj
 gl:x'.gl=x.gl
 ty:Sub n x.ty x'.ty
structure Weak (n:Nat) (st st':St):Prop where
 nx:st'.nx=n
 le:n≤st.nx
 mem:Sub n st.mem st'.mem
 arr:Sub n st.arr st'.arr
 bdm:∀id cs,look st'.mem id=some cs→V.bdL n cs=true
 bda:∀id a,look st'.arr id=some a→V.bdL n a.xs=true
 x:ExSub n st.x st'.x
 bdx:∀id o,look st'.x.obj id=some o→o.bd n=true
theorem Sim.cut {st st':St}{n:Nat}(hs:Sim w A st)(hw:Weak n st st'):Sim w (A.cut n) st':=by
 have hown:∀b id,A.own b=some id→id<n→(A.cut n).own b=some id:=fun b id h hlt=>by simp[Abs.cut,h,hlt]
 refine⟨hw.nx,fun id cs h=>?_,fun id a h=>?_,hs.Clt,fun b id h=>?_,fun id cs ar h1 h2=>hs.disj id cs ar (hw.mem id cs h1).2 (hw.arr id ar h2).2,⟨fun id o h=>?_,fun p hp=>?_,fun id T h=>?_⟩⟩
 ·obtain⟨hlt,hl⟩:=hw.mem id cs h
  have hk:=hs.mem id cs hl
  obtain⟨vs,T,h1,h2,h3,h4⟩:=hk.row
  exact⟨hlt,⟨vs,T,h1,h2,h3,fun i v c hv hc=>(h4 i v c hv hc).cut (bdL_iff.1 (hw.bdm id cs h) c (List.mem_of_getElem? hc))⟩,hown _ _ hk.own hlt,hk.noC⟩
 ·obtain⟨hlt,hl⟩:=hw.arr id a h
  have hk:=hs.arr id a hl
  refine⟨hlt,hk.ln,hk.es,?_⟩
  rcases hk.row with r|⟨g,cap,cur,r1,r2,r3,r4,r5,r6,r7,r8,r10⟩
  ·exact .inl r
  ·refine .inr ⟨g,cap,cur,r1,r2,r3,r4,r5,hown _ _ r6 hlt,r7,r8,fun i j x c hi hj=>?_⟩
   obtain⟨v,q1,q2,q3⟩:=r10 i j x c hi hj
   exact⟨v,q1,q2,q3.cut (bd_cells (bdL_iff.1 (hw.bda id a h) x (List.mem_of_getElem? hi)) (List.mem_of_getElem? hj))⟩
 ·obtain⟨h',hlt⟩:=Abs.cut_own h
  exact⟨(hs.ownlt b id h').1,hlt⟩
 ·obtain⟨hlt,hl⟩:=hw.x.obj id o h
  obtain⟨hk,m1,m2⟩:=hs.x.obj id o hl
  refine⟨hk.cut hlt (hw.bdx id o h),?_,?_⟩
  ·cases e:look st'.mem id with
   |none=>rfl
   |some c=>rw[(hw.mem id c e).2]at m1;cases m1
  ·cases e:look st'.arr id with
   |none=>rfl
   |some c=>rw[(hw.arr id c e).2]at m2;cases m2
 ·rw[hw.x.gl]at hp
  obtain⟨g1,g2⟩:=hs.x.gl p hp
  exact⟨g1,by simp[Abs.cut,g2]⟩
 ·obtain⟨hlt,hl⟩:=hw.x.ty id T h
  obtain⟨hk,hn⟩:=hs.x.ty id T hl
  refine⟨⟨hlt,hown _ _ hk.own hlt,hk.row⟩,?_⟩
  cases e:look st'.arr id with
  |none=>rfl
  |some c=>rw[(hw.arr id c e).2]at hn;cases hn
theorem Ext.cut {w0:World}{A0:Abs}{n:Nat}(hx:Ext w0 A0 w A)(h0:∀b id,A0.own b=some id→id<A0.nx)(hn:A0.nx≤n):Ext w0 A0 w (A.cut n) where
 nx:=hn
 loc:=hx.loc
 ln:=hx.ln
 sv:=hx.sv
 C:=hx.C
 own b hb ho:=by simp only[Abs.cut];rw[hx.own b hb ho]
 size:=hx.size
 os:=hx.os
 tape:=hx.tape
 output:=hx.output
 fr:=hx.fr
 cold:=hx.cold
 mc:=hx.mc
def WeakEnv (n:Nat)(env env':Env):Prop:=∀i v,look env' i=some v→v.bd n=true∧look env i=some v
theorem EnvSim.cut {a:Act}{env env':Env}{n:Nat}(he:EnvSim w A a env)(h:WeakEnv n env env'):EnvSim w (A.cut n) a env' :=
 fun i v hv=>(he i v (h i v hv).2).cut (h i v hv).1
structure St.Wf (st:St):Prop where
 mem:∀id cs,look st.mem id=some cs→id<st.nx∧V.bdL st.nx cs=true
 arr:∀id a,look st.arr id=some a→id<st.nx∧V.bdL st.nx a.xs=true
 disj:∀id cs ar,look st.mem id=some cs→look st.arr id=some ar→False
 x:∀id o,look st.x.obj id=some o→id<st.nx∧o.bd st.nx=true
 t:∀id T,look st.x.ty id=some T→id<st.nx
theorem Sub.refl {α:Type}{n:Nat}{l:List (Nat×α)}(h:∀id x,look l id=some x→id<n):Sub n l l:=fun id x hx=>⟨h id x hx,hx⟩
theorem Sub.drop {α:Type}{n k:Nat}{x:α}{l l':List (Nat×α)}(hk:n≤k)(h:Sub n l l'):Sub n ((k,x)::l) l':=fun id y hy=>by
 obtain⟨h1,h2⟩:=h id y hy
 refine⟨h1,?_⟩
 simp only[look]
 rw[if_neg (by omega)];exact h2
theorem ExSub.drop {n k:Nat}{o:Ob}{l:List (Nat×Ob)}{g:List (Nat×Obj)}{t:List (Nat×TypeId)}{x':Ex}(hk:n≤k)(h:ExSub n ⟨l,g,t⟩ x'):ExSub n ⟨(k,o)::l,g,t⟩ x':=⟨h.obj.drop hk,h.gl,h.ty⟩
end
end Go.Sha
