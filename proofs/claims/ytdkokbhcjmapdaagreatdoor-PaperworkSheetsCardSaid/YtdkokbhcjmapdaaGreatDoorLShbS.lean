/- Functions. -/
import Derived.Test.YtdkokbhcjmapdaaGreatDoorLShbPA
set_option linter.unusedSimpArgs false
set_option linter.unusedVariables false
namespace Go.Sha
mutual
def V.bd (n:Nat):V→Bool
 | .ptr id _=>decide (id<n)
 | .osl id _=>decide (id<n)
 | .op id _ _ _ _=>decide (id<n)
 | .sl xs=>V.bdL n xs
 | .clip xs=>V.bdL n xs
 | .ep x _=>V.bd n x
 | .agg cs=>V.bdL n cs
 | .tup vs=>V.bdL n vs
 | .fn _ a b=>V.bdL n a&&V.bdL n b
 | .iface _ v=>V.bd n v
 | .mp id=>decide (id<n)
 | .mpc ks vs=>V.bdL n ks&&V.bdL n vs
 |_=>true
def V.bdL (n:Nat):List V→Bool
 |[]=>true
 |v::r=>V.bd n v&&V.bdL n r
end
theorem bdL_iff {n:Nat}:∀{l:List V},V.bdL n l=true↔∀v∈l,v.bd n=true
 |[]=>by simp[V.bdL]
 |v::r=>by simp[V.bdL,bdL_iff (l:=r)]
theorem bdL_append {n:Nat}{l r:List V}:V.bdL n (l++r)=(V.bdL n l&&V.bdL n r):=by
 induction l with
 |nil=>simp[V.bdL]
 |cons v l ih=>simp[V.bdL,ih,Bool.and_assoc]
theorem bd_cells {n:Nat}{v c:V}(h:v.bd n=true)(hc:c∈v.cells):c.bd n=true:=by
 cases v<;>simp only[V.cells,List.mem_singleton]at hc
 all_goals first
  |(subst hc;exact h)
  |(simp only[V.bd]at h;exact bdL_iff.1 h c hc)
def Abs.cut (A:Abs)(n:Nat):Abs:={ A with own:=fun b=>match A.own b with|some id=>if id<n then some id else none|none=>none,nx:=n }
section
variable {w:World}{A:Abs}
theorem bd_of_cells {n:Nat}{v:V}(h:∀c∈v.cells,c.bd n=true):v.bd n=true:=by
 cases v with
 |agg cs=>simp only[V.bd];exact bdL_iff.2 h
 |_=>exact h _ (by simp[V.cells])
theorem Rep.bd {v:Value}{d:V}(h:Rep w A v d):d.bd A.nx=true:=by
 induction h with
 |ptr id off h=>simpa [V.bd] using h
 |sl xs b o cap es cell hes hcap hm hC hr ih =>
  simp only[V.bd]
  refine bdL_iff.2 (fun x hx=>bd_of_cells (fun c hc=>?_))
  obtain⟨i,hi⟩:=List.mem_iff_getElem?.1 hx
  obtain⟨j,hj⟩:=List.mem_iff_getElem?.1 hc
  exact ih i j x c hi hj
 |clip a xs h ih=>exact ih
 |osl id m v h hn hv=>simpa [V.bd] using h
 |ep x off b o cell hC hr ih =>
  simp only[V.bd]
  refine bd_of_cells (fun c hc=>?_)
  obtain⟨j,hj⟩:=List.mem_iff_getElem?.1 hc
  exact ih j c hj
 |op id m i es off v h hn hv=>simpa [V.bd] using h
 |agg vs cs hl h1 hr ih =>
  simp only[V.bd]
  refine bdL_iff.2 (fun c hc=>?_)
  obtain⟨i,hi⟩:=List.mem_iff_getElem?.1 hc
  have hlt:i<vs.length:=by have:=(List.getElem?_eq_some_iff.1 hi).1;omega
  exact ih i vs[i] c (List.getElem?_eq_getElem hlt) hi
 |tup vs cs hl hr ih =>
  simp only[V.bd]
  refine bdL_iff.2 (fun c hc=>?_)
  obtain⟨i,hi⟩:=List.mem_iff_getElem?.1 hc
  have hlt:i<vs.length:=by have:=(List.getElem?_eq_some_iff.1 hi).1;omega
  exact ih i vs[i] c (List.getElem?_eq_getElem hlt) hi
 |fn f vs us cs ds hl hk hr hs ih ih2 =>
  simp only[V.bd,Bool.and_eq_true]
  refine⟨bdL_iff.2 (fun c hc=>?_),bdL_iff.2 (fun c hc=>?_)⟩
  ·obtain⟨i,hi⟩:=List.mem_iff_getElem?.1 hc
   have hlt:i<vs.length:=by have:=(List.getElem?_eq_some_iff.1 hi).1;omega
   exact ih i vs[i] c (List.getElem?_eq_getElem hlt) hi
  ·obtain⟨i,hi⟩:=List.mem_iff_getElem?.1 hc
   have hlt:i<us.length:=by have:=(List.getElem?_eq_some_iff.1 hi).1;omega
   exact ih2 i us[i] c (List.getElem?_eq_getElem hlt) hi
 |iface t v d h ih=>exact ih
 |mp id h=>simpa [V.bd] using h
 |mpc b ms clock ks vs ho hh hl hk hr hs ih ih2 =>
  simp only[V.bd,Bool.and_eq_true]
  refine⟨bdL_iff.2 (fun c hc=>?_),bdL_iff.2 (fun c hc=>?_)⟩
  ·obtain⟨i,hi⟩:=List.mem_iff_getElem?.1 hc
   have hlt:i<ms.size:=by have:=(List.getElem?_eq_some_iff.1 hi).1;omega
   exact ih i ms[i] c (Array.getElem?_eq_getElem hlt) hi
  ·obtain⟨i,hi⟩:=List.mem_iff_getElem?.1 hc
   have hlt:i<ms.size:=by have:=(List.getElem?_eq_some_iff.1 hi).1;omega
   exact ih2 i ms[i] c (Array.getElem?_eq_getElem hlt) hi
 |slnil=>rfl
 |_=>rfl
theorem Rep.cut {n:Nat}{v:Value}{d:V}(h:Rep w A v d):d.bd n=true→Rep w (A.cut n) v d:=by
 induction h with
 |und v=>exact fun _=>.und v
 |bool b=>exact fun _=>.bool b
 |int k n=>exact fun _=>.int k n
 |str s=>exact fun _=>.str s
 |nilp=>exact fun _=>.nilp
 |ptr id off h=>intro hb;exact .ptr (A:=A.cut n) id off (show id<n by simpa [V.bd] using hb)
 |nils=>exact fun _=>.nils
 |sl xs b o cap es cell hes hcap hm hC hr ih =>
  intro hb
  simp only[V.bd]at hb
  exact .sl xs b o cap es cell hes hcap hm hC (fun i j x c hi hj=>ih i j x c hi hj (bd_cells (bdL_iff.1 hb x (List.mem_of_getElem? hi)) (List.mem_of_getElem? hj)))
 |slnil a=>exact fun _=>.slnil a
 |clip a xs h ih=>intro hb;exact .clip a xs (ih hb)
 |osl id m v h hn hv=>intro hb;exact .osl (A:=A.cut n) id m v (show id<n by simpa [V.bd] using hb) hn hv
 |ep x off b o cell hC hr ih =>
  intro hb
  simp only[V.bd]at hb
  exact .ep x off b o cell hC (fun j c hj=>ih j c hj (bd_cells hb (List.mem_of_getElem? hj)))
 |op id m i es off v h hn hv=>intro hb;exact .op (A:=A.cut n) id m i es off v (show id<n by simpa [V.bd] using hb) hn hv
 |agg vs cs hl h1 hr ih =>
  intro hb
  simp only[V.bd]at hb
  exact .agg vs cs hl h1 (fun i v c hv hc=>ih i v c hv hc (bdL_iff.1 hb c (List.mem_of_getElem? hc)))
 |tup vs cs hl hr ih =>
  intro hb
  simp only[V.bd]at hb
  exact .tup vs cs hl (fun i v c hv hc=>ih i v c hv hc (bdL_iff.1 hb c (List.mem_of_getElem? hc)))
 |fn f vs us cs ds hl hk hr hs ih ih2 =>
  intro hb
  simp only[V.bd,Bool.and_eq_true]at hb
  exact .fn f vs us cs ds hl hk (fun i v c hv hc=>ih i v c hv hc (bdL_iff.1 hb.1 c (List.mem_of_getElem? hc))) (fun i v c hv hc=>ih2 i v c hv hc (bdL_iff.1 hb.2 c (List.mem_of_getElem? hc)))
 |nilf=>exact fun _=>.nilf
 |iface t v d h ih=>intro hb;exact .iface t v d (ih hb)
 |nili=>exact fun _=>.nili
 |mp id h=>intro hb;exact .mp (A:=A.cut n) id (show id<n by simpa [V.bd] using hb)
 |nilm=>exact fun _=>.nilm
 |mpc b ms clock ks vs ho hh hl hk hr hs ih ih2 =>
  intro hb
  simp only[V.bd,Bool.and_eq_true]at hb
  exact .mpc (A:=A.cut n) b ms clock ks vs ho hh hl hk (fun i v c hv hc=>ih i v c hv hc (bdL_iff.1 hb.1 c (List.mem_of_getElem? hc))) (fun i v c hv hc=>ih2 i v c hv hc (bdL_iff.1 hb.2 c (List.mem_of_getElem? hc)))
def Ob.bd (n:Nat):Ob→Bool
 | .map es=>es.all fun p=>p.1.bd n&&p.2.bd n
 | .iter m _ _=>decide (m<n)
theorem Abs.cut_own {A:Abs}{n b id:Nat}(h:(A.cut n).own b=some id):A.own b=some id∧id<n:=by
 simp only[Abs.cut]at h
 split at h
 ·rename_i id' h'
  split at h
  ·rename_i hlt;cases h;exact⟨h',hlt⟩
  ·cases h
 ·cases h
theorem ObOk.cut {n id:Nat}{o:Ob}(h:ObOk w A id o)(hn:id<n)(hb:o.bd n=true):ObOk w (A.cut n) id o:=by
 have hown:∀b,A.own b=some id→(A.cut n).own b=some id:=fun b h=>by simp[Abs.cut,h,hn]
 refine⟨hn,?_,fun g hg=>h.noC g (Abs.cut_own hg).1⟩
 have hr:=h.row
 cases o with
 |map es =>
  obtain⟨ms,clock,h1,h2,h3,h4,h5,h6⟩:=hr
  refine⟨ms,clock,h1,hown _ h2,h3,h4,h5,fun i m c hm hc=>?_⟩
  obtain⟨k1,k2⟩:=h6 i m c hm hc
  have:=List.all_eq_true.1 hb c (List.mem_of_getElem? hc)
  simp only[Bool.and_eq_true]at this
  exact⟨k1.cut this.1,k2.cut this.2⟩
 |iter m k seen =>
  obtain⟨h1,h2,h3⟩:=hr
  exact⟨of_decide_eq_true hb,hown _ h2,h3⟩
def Sub {α:Type}(n:Nat)(l l':List (Nat×α)):Prop:=∀id x,look l' id=some x→id<n∧look l id=some x
structure ExSub (n:Nat) (x x':Ex):Prop where
 obj:Sub n x.obj x'.obj
 gl:x'.gl=x.gl
 ty:Sub n x.ty x'.ty
structure Weak (n:Nat) (st st':St):Prop where
 nx:st'.nx=n
 le:n≤st.nx
 mem:Sub n st.mem st'.mem
 arr:Sub n st.arr st'.arr
 bdm:∀id cs,look st'.mem id=some cs→V.bdL n cs=true
 bda:∀id a,look st'.arr id=some a→V.bdL n a.xs=true
 x:ExSub n st.x st'.x
 bdx:∀id o,look st'.x.obj id=some o→o.bd n=true
theorem Sim.cut {st st':St}{n:Nat}(hs:Sim w A st)(hw:Weak n st st'):Sim w (A.cut n) st':=by
 have hown:∀b id,A.own b=some id→id<n→(A.cut n).own b=some id:=fun b id h hlt=>by simp[Abs.cut,h,hlt]
 refine⟨hw.nx,fun id cs h=>?_,fun id a h=>?_,hs.Clt,fun b id h=>?_,fun id cs ar h1 h2=>hs.disj id cs ar (hw.mem id cs h1).2 (hw.arr id ar h2).2,⟨fun id o h=>?_,fun p hp=>?_,fun id T h=>?_⟩⟩
 ·obtain⟨hlt,hl⟩:=hw.mem id cs h
  have hk:=hs.mem id cs hl
  obtain⟨vs,T,h1,h2,h3,h4⟩:=hk.row
  exact⟨hlt,⟨vs,T,h1,h2,h3,fun i v c hv hc=>(h4 i v c hv hc).cut (bdL_iff.1 (hw.bdm id cs h) c (List.mem_of_getElem? hc))⟩,hown _ _ hk.own hlt,hk.noC⟩
 ·obtain⟨hlt,hl⟩:=hw.arr id a h
  have hk:=hs.arr id a hl
  refine⟨hlt,hk.ln,hk.es,?_⟩
  rcases hk.row with r|⟨g,cap,cur,r1,r2,r3,r4,r5,r6,r7,r8,r10⟩
  ·exact .inl r
  ·refine .inr ⟨g,cap,cur,r1,r2,r3,r4,r5,hown _ _ r6 hlt,r7,r8,fun i j x c hi hj=>?_⟩
   obtain⟨v,q1,q2,q3⟩:=r10 i j x c hi hj
   exact⟨v,q1,q2,q3.cut (bd_cells (bdL_iff.1 (hw.bda id a h) x (List.mem_of_getElem? hi)) (List.mem_of_getElem? hj))⟩
 ·obtain⟨h',hlt⟩:=Abs.cut_own h
  exact⟨(hs.ownlt b id h').1,hlt⟩
 ·obtain⟨hlt,hl⟩:=hw.x.obj id o h
  obtain⟨hk,m1,m2⟩:=hs.x.obj id o hl
  refine⟨hk.cut hlt (hw.bdx id o h),?_,?_⟩
  ·cases e:look st'.mem id with
   |none=>rfl
   |some c=>rw[(hw.mem id c e).2]at m1;cases m1
  ·cases e:look st'.arr id with
   |none=>rfl
   |some c=>rw[(hw.arr id c e).2]at m2;cases m2
 ·rw[hw.x.gl]at hp
  obtain⟨g1,g2⟩:=hs.x.gl p hp
  exact⟨g1,by simp[Abs.cut,g2]⟩
 ·obtain⟨hlt,hl⟩:=hw.x.ty id T h
  obtain⟨hk,hn⟩:=hs.x.ty id T hl
  refine⟨⟨hlt,hown _ _ hk.own hlt,hk.row⟩,?_⟩
  cases e:look st'.arr id with
  |none=>rfl
  |some c=>rw[(hw.arr id c e).2]at hn;cases hn
theorem Ext.cut {w0:World}{A0:Abs}{n:Nat}(hx:Ext w0 A0 w A)(h0:∀b id,A0.own b=some id→id<A0.nx)(hn:A0.nx≤n):Ext w0 A0 w (A.cut n) where
 nx:=hn
 loc:=hx.loc
 ln:=hx.ln
 sv:=hx.sv
 C:=hx.C
 own b hb ho:=by simp only[Abs.cut];rw[hx.own b hb ho]
 size:=hx.size
 os:=hx.os
 tape:=hx.tape
 output:=hx.output
 fr:=hx.fr
 cold:=hx.cold
 mc:=hx.mc
def WeakEnv (n:Nat)(env env':Env):Prop:=∀i v,look env' i=some v→v.bd n=true∧look env i=some v
theorem EnvSim.cut {a:Act}{env env':Env}{n:Nat}(he:EnvSim w A a env)(h:WeakEnv n env env'):EnvSim w (A.cut n) a env' :=
 fun i v hv=>(he i v (h i v hv).2).cut (h i v hv).1
structure St.Wf (st:St):Prop where
 mem:∀id cs,look st.mem id=some cs→id<st.nx∧V.bdL st.nx cs=true
 arr:∀id a,look st.arr id=some a→id<st.nx∧V.bdL st.nx a.xs=true
 disj:∀id cs ar,look st.mem id=some cs→look st.arr id=some ar→False
 x:∀id o,look st.x.obj id=some o→id<st.nx∧o.bd st.nx=true
 t:∀id T,look st.x.ty id=some T→id<st.nx
theorem Sim.wf {st:St}(hs:Sim w A st):st.Wf:=by
 refine⟨fun id cs h=>?_,fun id a h=>?_,hs.disj,fun id o h=>?_,fun id T h=>?_⟩
 ·have hk:=hs.mem id cs h
  rw[hs.nx]
  obtain⟨vs,T,h1,h2,h3,h4⟩:=hk.row
  refine⟨hk.lt,bdL_iff.2 (fun c hc=>?_)⟩
  obtain⟨i,hi⟩:=List.mem_iff_getElem?.1 hc
  have hlt:i<vs.size:=by have:=(List.getElem?_eq_some_iff.1 hi).1;omega
  exact(h4 i vs[i] c (Array.getElem?_eq_getElem hlt) hi).bd
 ·have hk:=hs.arr id a h
  rw[hs.nx]
  refine⟨hk.lt,?_⟩
  rcases hk.row with⟨_,r,_⟩|⟨g,cap,cur,r1,r2,r3,r4,r5,r6,r7,r8,r10⟩
  ·rw[r];rfl
  ·refine bdL_iff.2 (fun x hx=>bd_of_cells (fun c hc=>?_))
   obtain⟨i,hi⟩:=List.mem_iff_getElem?.1 hx
   obtain⟨j,hj⟩:=List.mem_iff_getElem?.1 hc
   obtain⟨v,_,_,q⟩:=r10 i j x c hi hj
   exact q.bd
 ·have hk:=(hs.x.obj id o h).1
  rw[hs.nx]
  refine⟨hk.lt,?_⟩
  have hr:=hk.row
  cases o with
  |map es =>
   obtain⟨ms,clock,h1,h2,h3,h4,h5,h6⟩:=hr
   refine List.all_eq_true.2 (fun c hc=>?_)
   obtain⟨i,hi⟩:=List.mem_iff_getElem?.1 hc
   have hlt:i<ms.size:=by have:=(List.getElem?_eq_some_iff.1 hi).1;omega
   obtain⟨k1,k2⟩:=h6 i ms[i] c (Array.getElem?_eq_getElem hlt) hi
   rw[k1.bd,k2.bd];rfl
  |iter m n seen=>exact decide_eq_true hr.1
 ·rw[hs.nx];exact(hs.x.ty id T h).1.lt
theorem Sub.refl {α:Type}{n:Nat}{l:List (Nat×α)}(h:∀id x,look l id=some x→id<n):Sub n l l:=fun id x hx=>⟨h id x hx,hx⟩
theorem Sub.drop {α:Type}{n k:Nat}{x:α}{l l':List (Nat×α)}(hk:n≤k)(h:Sub n l l'):Sub n ((k,x)::l) l':=fun id y hy=>by
 obtain⟨h1,h2⟩:=h id y hy
 refine⟨h1,?_⟩
 simp only[look]
 rw[if_neg (by omega)];exact h2
theorem ExSub.drop {n k:Nat}{o:Ob}{l:List (Nat×Ob)}{g:List (Nat×Obj)}{t:List (Nat×TypeId)}{x':Ex}(hk:n≤k)(h:ExSub n ⟨l,g,t⟩ x'):ExSub n ⟨(k,o)::l,g,t⟩ x':=⟨h.obj.drop hk,h.gl,h.ty⟩
end
end Go.Sha
namespace Go.Sha
section
variable {P:Program}{N:Fr}
def seqPost (K:Env→St→Prop)(Q:Post):Post
 | .normal,env,st=>K env st
 |x,env,st=>Q x env st
def blockPost (id:Nat)(Q:Post):Post
 | .exit id',env,st=>if id'=id then Q .normal env st else Q (.exit id') env st
 |x,env,st=>Q x env st
theorem W_skip {env:Env}{st:St}{Q:Post}(h:Q .normal env st):W P N .skip env st Q :=
 fun w A a hs he hN hd=>wp_skip ⟨A,env,st,h,hs,he,hN,hd,Ext.refl w A⟩
theorem W_exit {id:Nat}{env:Env}{st:St}{Q:Post}(h:Q (.exit id) env st):W P N (.exit id) env st Q :=
 fun w A a hs he hN hd=>wp_exit ⟨A,env,st,h,hs,he,hN,hd,Ext.refl w A⟩
theorem W_ret {env:Env}{st:St}{Q:Post}(h:Q .ret env st):W P N .ret env st Q :=
 fun w A a hs he hN hd=>wp_ret ⟨A,env,st,h,hs,he,hN,hd,Ext.refl w A⟩
theorem W_seq {x y:Code}{env:Env}{st:St}{Q:Post}(h:W P N x env st (seqPost (fun e s=>W P N y e s Q) Q)):W P N (.seq x y) env st Q:=by
 intro w A a hs he hN hd
 refine wp_seq (Code.wp_mono (fun e a' w' hq=>?_) (h w A a hs he hN hd))
 cases e with
 |normal =>
  obtain⟨A',env',st',h1,h2,h3,h4,h5,h6⟩:=hq
  exact Code.wp_mono (lift_mono h6 (fun _ _ _ h=>h)) (h1 w' A' a' h2 h3 h4 h5)
 |exit id=>exact hq
 |goto l=>exact hq
 |ret=>exact hq
 |panic ch=>exact hq
 |outgrown=>exact hq
theorem W_cond {c:Operand}{x y:Code}{o:Opd}(ho:opdOf c=some o){env:Env}{st:St}{Q:Post}{t:Bool}(hc:o.get env=.bool t)(h1:t=true→W P N x env st Q)(h2:t=false→W P N y env st Q):W P N (.cond c x y) env st Q:=by
 intro w A a hs he hN hd
 have hr:=rep_get (w:=w) (A:=A) he ho
 rw[hc]at hr
 exact wp_cond_split hr.bool_inv (fun ht=>h1 ht w A a hs he hN hd) (fun ht=>h2 ht w A a hs he hN hd)
theorem W_block {id:Nat}{x:Code}{env:Env}{st:St}{Q:Post}(h:W P N x env st (blockPost id Q)):W P N (.block id x) env st Q:=by
 intro w A a hs he hN hd
 refine wp_block (Code.wp_mono (fun e a' w' hq=>?_) (h w A a hs he hN hd))
 cases e with
 |normal=>exact hq
 |exit id' =>
  simp only[Exit.inBlock]
  obtain⟨A',env',st',h1,h2,h3,h4,h5,h6⟩:=hq
  simp only[blockPost]at h1
  split
  ·rename_i e;rw[if_pos e]at h1;exact⟨A',env',st',h1,h2,h3,h4,h5,h6⟩
  ·rename_i e;rw[if_neg e]at h1;exact⟨A',env',st',h1,h2,h3,h4,h5,h6⟩
 |goto l=>exact hq
 |ret=>exact hq
 |panic ch=>exact hq
 |outgrown=>exact hq
theorem exists_least (p:Nat→Prop)(h:∃n,p n):∃n,p n∧∀m,p m→n≤m:=by
 obtain⟨n,hn⟩:=h
 induction n using Nat.strongRecOn with
 |_ n ih =>
  by_cases h':∃m,m<n∧p m
  ·obtain⟨m,h1,h2⟩:=h';exact ih m h1 h2
  ·exact⟨n,hn,fun m hm=>by rcases Nat.lt_or_ge m n with h|h;(exact absurd ⟨m,h,hm⟩ h');exact h⟩
def Again (nx:Nat)(I:Nat→Env→St→Prop)(n:Nat)(env:Env)(st:St):Prop:=∃m env' st',m<n∧I m env' st'∧WeakEnv nx env env'∧Weak nx st st'
theorem W_loop {x:Code}{env:Env}{st:St}{Q:Post}(I:Nat→Env→St→Prop)(nx:Nat)(hnx:st.nx≤nx)(hI:∀n e s,I n e s→s.nx=nx)(h0:∃n env' st',I n env' st'∧WeakEnv nx env env'∧Weak nx st st')
  (round:∀n e s,I n e s→W P N x e s (seqPost (Again nx I n) Q)):W P N (.loop x) env st Q:=by
 intro w A a hs he hN hd
 let Inv (n:Nat) (a':Act) (w':World):Prop:=∃A' e s,I n e s∧Sim w' A' s∧EnvSim w' A' a' e∧a'.tmps.size=N.n∧a'.defers=N.D∧Ext w A w' A'
 have hown0:∀b id,A.own b=some id→id<A.nx:=fun b id h=>(hs.ownlt b id h).2
 have μspec:∀(a':Act) (w':World),(∃n,Inv n a' w')→∃n,Inv n a' w'∧∀m,Inv m a' w'→n≤m:=fun a' w' h=>exists_least _ h
 let μ (a':Act) (w':World):Nat:=open Classical in if h:∃n,Inv n a' w' then Classical.choose (μspec a' w' h) else 0
 have μmin:∀a' w' n,Inv n a' w'→Inv (μ a' w') a' w'∧μ a' w'≤n:=by
  intro a' w' n hn
  have hex:∃n,Inv n a' w':=⟨n,hn⟩
  have hμ:μ a' w'=Classical.choose (μspec a' w' hex):=by simp only[μ];rw[dif_pos hex]
  obtain⟨h1,h2⟩:=Classical.choose_spec (μspec a' w' hex)
  rw[hμ]
  exact⟨h1,h2 n hn⟩
 refine wp_loop (fun a' w'=>∃n,Inv n a' w') μ ?_ ?_
 ·obtain⟨n,env',st',h1,h2,h3⟩:=h0
  exact⟨n,A.cut nx,env',st',h1,hs.cut h3,he.cut h2,hN,hd,(Ext.refl w A).cut hown0 (by rw[←hs.nx];exact hnx)⟩
 ·rintro a' w' ⟨n,hn⟩
  obtain⟨⟨A',e,s,q1,q2,q3,q4,q5,q6⟩,_⟩:=μmin a' w' n hn
  refine Code.wp_mono (fun ex a2 w2 hq=>?_) (round _ e s q1 w' A' a' q2 q3 q4 q5)
  cases ex with
  |normal =>
   obtain⟨A2,e2,s2,⟨m,e3,s3,r1,r2,r3,r4⟩,r5,r6,r7,r8,r9⟩:=hq
   have hinv:Inv m a2 w2:=⟨A2.cut nx,e3,s3,r2,r5.cut r4,r6.cut r3,r7,r8,(q6.trans r9).cut hown0 (by rw[←hs.nx];exact hnx)⟩
   have:=μmin a2 w2 m hinv
   exact⟨⟨m,hinv⟩,by omega⟩
  |exit id=>exact lift_mono q6 (fun _ _ _ h=>h) (.exit id) a2 w2 hq
  |goto l=>exact hq.elim
  |ret=>exact lift_mono q6 (fun _ _ _ h=>h) .ret a2 w2 hq
  |panic ch=>exact lift_mono q6 (fun _ _ _ h=>h) (.panic ch) a2 w2 hq
  |outgrown=>exact hq.elim
theorem W_mono {x:Code}{env:Env}{st:St}{Q Q':Post}(h:W P N x env st Q)(hq:∀x e s,Q x e s→Q' x e s):W P N x env st Q' :=
 fun w A a hs he hN hd=>Code.wp_mono (lift_mono (Ext.refl w A) hq) (h w A a hs he hN hd)
end
inductive Nd where
 |skip
 |reg (l:List Ins)
 |dreg (m:Nat) (l:List Ins)
 |sreg (m:Nat) (l:List Ins)
 |greg (fs:List (List Bool)) (l:List Ins)
 |seq (a b:Nat)
 |cond (c:Opd) (a b:Nat)
 |block (id a:Nat)
 |loop (a:Nat)
 |exit (id:Nat)
 |ret
 |bad
 deriving Inhabited
section
variable {P:Program}{N:Fr}
end
end Go.Sha
namespace Go.Sha
inductive Res where
 |tmp (t:Nat)
 |cell (t:Nat) (n:Option Nat)
structure FT where
 N:Nat
 np:Nat
 res:List Res
 T:List Nd
def resB (P:Program):List ResultVar→Option (List Res)
 |[]=>some []
 | .tmp t::r=>(resB P r).map (.tmp t::·)
 | .cell t ty::r=>match cellsB P ty,resB P r with
  |some n,some l=>some (.cell t n::l)
  |_,_=>none
def resV (env:Env)(st:St):List Res→Option (List V)
 |[]=>some []
 | .tmp t::r=>match look env t,resV env st r with
  |some v,some l=>some (v::l)
  |_,_=>none
 | .cell t n::r=>match loadV st n ((look env t).getD .und),resV env st r with
  |some v,some l=>some (v::l)
  |_,_=>none
def resOne:List V→V
 |[v]=>v
 |l=>.tup l
def argEnv:Nat→List V→Env
 |_,[]=>[]
 |k,a::r=>(k,a)::argEnv (k+1) r
section
variable {P:Program}
theorem look_argEnv:∀(args:List V) (k i:Nat) (v:V),look (argEnv k args) i=some v→k≤i∧args[i-k]?=some v
 |[],k,i,v,h=>by simp[argEnv,look]at h
 |a::r,k,i,v,h=>by
  simp only[argEnv,look]at h
  split at h
  ·rename_i e;subst e;cases h;simp
  ·obtain⟨h1,h2⟩:=look_argEnv r (k+1) i v h
   refine⟨by omega,?_⟩
   rw[show i-k=(i-(k+1))+1 by omega];simpa using h2
def resSem (tmps:Array Value):ResultVar→Sem Value
 | .tmp t=>pure (tmps.getD t undef)
 | .cell x t=>do loadVar t (←asAddr (tmps.getD x undef))
theorem results_eq (fn:Func)(tmps:Array Value):results fn tmps=(do let vs ←fn.results.mapM (resSem tmps);pure (if h:vs.size=1 then vs[0] else .tuple vs)):=by
 unfold results
 congr 2
theorem run_resVar {w:World}{A:Abs}{st:St}{a:Act}{env:Env}(hs:Sim w A st)(he:EnvSim w A a env):∀{rs:List ResultVar}{res:List Res}{ds:List V},resB P rs=some res→resV env st res=some ds →
  ∃vs:List Value,(rs.mapM (resSem a.tmps)).run P w=.ok vs w∧Reps w A vs ds
 |[],res,ds,h1,h2=>by
  simp[resB]at h1;subst h1
  simp[resV]at h2;subst h2
  exact⟨[],rfl,rfl,by simp⟩
 | .tmp t::rs,res,ds,h1,h2=>by
  simp only[resB]at h1
  obtain⟨l,hl,rfl⟩:=Option.map_eq_some_iff.1 h1
  simp only[resV]at h2
  split at h2
  ·rename_i v l' hv hl'
   cases h2
   obtain⟨vs,g1,g2,g3⟩:=run_resVar hs he hl hl'
   refine⟨a.tmps.getD t undef::vs,?_,by simp[g2],fun i u c hu hc=>?_⟩
   ·simp only[List.mapM_cons,resSem,Sem.run_bind,Sem.run_pure,Result.andThen_ok,g1]
   ·cases i with
    |zero=>rw[List.getElem?_cons_zero]at hu hc;cases hu;cases hc;exact he t v hv
    |succ i=>exact g3 i u c (by simpa using hu) (by simpa using hc)
  ·cases h2
 | .cell x t::rs,res,ds,h1,h2=>by
  simp only[resB]at h1
  split at h1
  ·rename_i n l hn hl
   cases h1
   simp only[resV]at h2
   split at h2
   ·rename_i v l' hv hl'
    cases h2
    obtain⟨vs,g1,g2,g3⟩:=run_resVar hs he hl hl'
    have hr:Rep w A (a.tmps.getD x undef) ((look env x).getD .und):=by
     cases h:look env x with
     |none=>exact .und _
     |some d=>exact he x d h
    obtain⟨u,hu1,hu2⟩:=gives_load (P:=P) hn hs hr hv
    have hrun:(do loadVar t (←asAddr (a.tmps.getD x undef)):Sem Value).run P w=.ok u w:=by
     generalize a.tmps.getD x undef=p at hu1 ⊢
     unfold Instr.loadAt Instr.sureAddr at hu1
     cases p with
     |pointer q=>cases q with
      |some ad=>simpa [asAddr] using hu1
      |none=>simp at hu1
     |_=>simp at hu1
    refine⟨u::vs,?_,by simp[g2],fun i u' c hu hc=>?_⟩
    ·have hrun':(resSem a.tmps (.cell x t)).run P w=.ok u w:=hrun
     simp only[List.mapM_cons,Sem.run_bind,hrun',Result.andThen_ok,g1,Sem.run_pure]
    ·cases i with
     |zero=>simp at hu hc;subst hu hc;exact hu2
     |succ i=>exact g3 i u' c (by simpa using hu) (by simpa using hc)
   ·cases h2
  ·cases h1
theorem run_results {w:World}{A:Abs}{st:St}{a:Act}{env:Env}{fn:Func}(hs:Sim w A st)(he:EnvSim w A a env){res:List Res}{ds:List V}(h1:resB P fn.results.toList=some res)(h2:resV env st res=some ds) :
  ∃v,(results fn a.tmps).run P w=.ok v w∧Rep w A v (resOne ds):=by
 obtain⟨vs,g1,g2,g3⟩:=run_resVar hs he h1 h2
 refine⟨if h:vs.toArray.size=1 then vs.toArray[0] else .tuple vs.toArray,?_,?_⟩
 ·rw[results_eq,Array.mapM_eq_mapM_toList]
  simp only[Sem.run_bind,Sem.run_map,g1,Result.andThen_ok,Sem.run_pure]
 ·split
  ·rename_i h
   have hl:vs.length=1:=by simpa using h
   obtain⟨v,rfl⟩:=List.length_eq_one_iff.1 hl
   obtain⟨d,rfl⟩:=List.length_eq_one_iff.1 (g2.symm.trans hl)
   exact g3 0 v d rfl rfl
  ·rename_i h
   have:resOne ds=.tup ds:=by
    unfold resOne
    split
    ·simp at g2;simp[g2]at h
    ·rfl
   rw[this]
   exact .tup vs ds g2 g3
end
end Go.Sha
