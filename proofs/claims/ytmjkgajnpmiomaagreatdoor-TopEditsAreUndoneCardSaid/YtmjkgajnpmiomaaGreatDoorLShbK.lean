/- Appends. -/
import Derived.Test.YtmjkgajnpmiomaaGreatDoorLShbJ
set_option linter.unusedSimpArgs false
set_option linter.unusedVariables false
namespace Go.Sha
section
variable {P:Program}{w:World}{A:Abs}{st:St}{a:Act}{env:Env}
def Abs.regrow (A:Abs)(id b n:Nat)(v:Value)(fix:Bool)(m:Nat):Abs :=
 { A with C:=fun k o=>A.C k o∨(fix=true∧k=b∧o<m),own:=fun k=>if k=b then some id else A.own k,sv:=fun i=>if i=id then v else A.sv i,ln:=fun i=>if i=id then n else A.ln i }
theorem snapA_cells {x y:V}(h:snapA st x=some y):y.cells.length=x.cells.length∧∀(j:Nat) (c c':V),x.cells[j]?=some c→y.cells[j]?=some c'→snap1 st c=some c':=by
 cases x with
 |agg cs =>
  simp only[snapA]at h
  obtain⟨ys,hy,rfl⟩:=Option.map_eq_some_iff.1 h
  exact mapO_spec hy
 |_ =>
  have h':=h
  simp only[snapA,snap1]at h'
  have hy:y.cells=[y]:=by
   first
    |(cases h';rfl)
    |(split at h'<;>first|(cases h';done)|(split at h'<;>first|(cases h';rfl)|(cases h';done)))
  rw[hy]
  refine⟨rfl,fun j c c' h1 h2=>?_⟩
  cases j with
  |zero=>simp[V.cells]at h1 h2;subst h1 h2;exact h
  |succ j=>simp at h2
theorem append_source (hs:Sim w A st){x:Value}{dx:V}(hx:Rep w A x dx){ys0 ys:List V}(h1:elemsV st dx=some ys0)(h2:mapO (snapA st) ys0=some ys){es:Nat}(h3:∀y∈ys,y.cells.length=es) :
  ∃b cap,x=.slice b ys.length cap∧(b=none→ys=[])∧∀ad,b=some ad→∃cs:List Value,cs.length=ys.length*es∧(∀(j:Nat) (v:Value),cs[j]?=some v→w.cell? (ad.add j)=some v)∧(∀v∈cs,v.oneCell'=true) ∧
   ∀(i j:Nat) (x c:V),ys[i]?=some x→x.cells[j]?=some c→∃v,cs[i*es+j]?=some v∧Rep w A v c:=by
 obtain⟨l1,l2⟩:=mapO_spec h2
 have hes0:∀y∈ys0,y.cells.length=es:=by
  intro y hy
  obtain⟨i,hi⟩:=List.mem_iff_getElem?.1 hy
  have hlt:i<ys.length:=by have:=(List.getElem?_eq_some_iff.1 hi).1;omega
  have:=(snapA_cells (l2 i y ys[i] hi (by simp[hlt]))).1
  rw[←this];exact h3 _ (List.getElem_mem hlt)
 obtain⟨b,cap,rfl,_,g1,g2⟩:=slice_read hs hx h1 hes0
 refine⟨b,cap,by rw[l1],fun h=>by have:=g1 h;subst this;exact List.eq_nil_of_length_eq_zero (by simpa using l1),fun ad had=>?_⟩
 obtain⟨cs,c1,c2,c3,c4⟩:=g2 ad had
 refine⟨cs,by rw[l1];exact c1,c2,c3,fun i j y c hi hj=>?_⟩
 have hlt:i<ys0.length:=by have:=(List.getElem?_eq_some_iff.1 hi).1;omega
 obtain⟨q1,q2⟩:=snapA_cells (l2 i ys0[i] y (by simp[hlt]) hi)
 have hj':j<(ys0[i]).cells.length:=by have:=(List.getElem?_eq_some_iff.1 hj).1;omega
 obtain⟨v,v1,v2⟩:=c4 i j ys0[i] (ys0[i]).cells[j] (by simp[hlt]) (by simp[hj'])
 exact⟨v,v1,snap1_rep hs v2 (q2 j _ c (by simp[hj']) hj)⟩
theorem idx_lt {xs:List V}{es i j:Nat}{x c:V}(hes:∀y∈xs,y.cells.length=es)(hi:xs[i]?=some x)(hj:x.cells[j]?=some c):i*es+j<xs.length*es:=by
 have h1:=(List.getElem?_eq_some_iff.1 hi).1
 have h2:=(List.getElem?_eq_some_iff.1 hj).1
 rw[hes x (List.mem_of_getElem? hi)]at h2
 calc i*es+j<i*es+es:=by omega
  _=(i+1)*es:=by rw[Nat.add_mul];omega
  _≤_:=Nat.mul_le_mul_right _ h1
theorem cells_append {xs ys:List V}{es:Nat}(hx:∀y∈xs,y.cells.length=es)(olds news:List Value)(hl:olds.length=xs.length*es)
  (ho:∀(i j:Nat) (x c:V),xs[i]?=some x→x.cells[j]?=some c→∃v,olds[i*es+j]?=some v∧v.oneCell'=true∧Rep w A v c)
  (hn:∀(i j:Nat) (x c:V),ys[i]?=some x→x.cells[j]?=some c→∃v,news[i*es+j]?=some v∧v.oneCell'=true∧Rep w A v c) :
  ∀(i j:Nat) (x c:V),(xs++ys)[i]?=some x→x.cells[j]?=some c→∃v,(olds++news)[i*es+j]?=some v∧v.oneCell'=true∧Rep w A v c:=by
 intro i j x c hi hj
 rcases Nat.lt_or_ge i xs.length with h|h
 ·rw[List.getElem?_append_left h]at hi
  obtain⟨v,v1,v2⟩:=ho i j x c hi hj
  exact⟨v,by rw[List.getElem?_append_left (by rw[hl];exact idx_lt hx hi hj)];exact v1,v2⟩
 ·rw[List.getElem?_append_right h]at hi
  obtain⟨v,v1,v2⟩:=hn (i-xs.length) j x c hi hj
  have:xs.length*es≤i*es:=Nat.mul_le_mul_right _ h
  refine⟨v,?_,v2⟩
  rw[List.getElem?_append_right (by omega),hl,show i*es+j-xs.length*es=(i-xs.length)*es+j by rw[Nat.sub_mul];omega]
  exact v1
theorem look_some_arr {id:Nat}{r:Arr}{l:List (Nat×Arr)}{new:Arr}(h:look l id=some r)(i:Nat)(r':Arr)(hl:look (updA l id new) i=some r'):(i=id∧r'=new)∨(i≠id∧look l i=some r'):=by
 rw[look_updA]at hl
 by_cases e:i=id
 ·subst e;simp[h]at hl;exact .inl ⟨rfl,hl.symm⟩
 ·rw[if_neg e]at hl;exact .inr ⟨e,hl⟩
theorem Sim.regrow (hs:Sim w A st){id:Nat}{r:Arr}(hid:look st.arr id=some r){w':World}{b cap:Nat}{cur:Array Value}{xs:List V}(hfz:r.fz=false)
  (hx:Ext w A w' (A.regrow id b xs.length (.slice (some ⟨b,0,none⟩) xs.length cap) (!r.wr) (xs.length*r.es)))
  (hb:A.own b=some id∨b=w.heap.size) (hrow:w'.heap[b]?=some (.cells cur r.e (0,0)))
  (hother:∀k,k<w.heap.size→k≠b→w'.heap[k]?=w.heap[k]?) (hwr:r.wr=true→∀o,¬A.C b o) (hCb:∀o,A.C b o→o<xs.length*r.es)
  (hes:∀x∈xs,x.cells.length=r.es) (hcap:xs.length≤cap) (hm:cap≤maxLen) (hsz:cur.size=cap*r.es)
  (hr:∀(i j:Nat) (x c:V),xs[i]?=some x→x.cells[j]?=some c→∃v,cur[i*r.es+j]?=some v∧v.oneCell'=true∧Rep w A v c) :
  Sim w' (A.regrow id b xs.length (.slice (some ⟨b,0,none⟩) xs.length cap) (!r.wr) (xs.length*r.es)) { st with arr:=updA st.arr id { r with xs:=xs } }:=by
 have hk0:=hs.arr id r hid
 have hbsz:b<w'.heap.size:=(Array.getElem?_eq_some_iff.1 hrow).1
 have ne:∀g i,A.own g=some i→i≠id→g≠b:=fun g i h hi e=>by
  subst e
  rcases hb with hb|hb
  ·rw[hb]at h;cases h;exact hi rfl
  ·have:=(hs.ownlt _ _ h).1;omega
 have oldown:∀g i,A.own g=some i→i≠id→(A.regrow id b xs.length (.slice (some ⟨b,0,none⟩) xs.length cap) (!r.wr) (xs.length*r.es)).own g=some i:=fun g i h hi=>by
  simp only[Abs.regrow];rw[if_neg (ne g i h hi)];exact h
 have oldC:∀g o,g≠b→((A.regrow id b xs.length (.slice (some ⟨b,0,none⟩) xs.length cap) (!r.wr) (xs.length*r.es)).C g o↔A.C g o):=fun g o h =>
  ⟨fun h'=>by rcases h' with h'|⟨_,h',_⟩;exact h';exact absurd h' h,.inl⟩
 refine⟨hs.nx,fun i cs' h=>?_,fun i ar h=>?_,fun g o h=>?_,fun g i h=>?_,fun i cs' ar h1 h2=>?_,
  hs.x.of hx rfl (fun i o ho=>by
   obtain⟨hk,m1,m2⟩:=hs.x.obj i o ho
   have hi:i≠id:=fun e=>by rw[e,hid]at m2;cases m2
   refine⟨fun g hg=>⟨oldown g i hg hi,hother g (hs.ownlt _ _ hg).1 (ne g i hg hi)⟩,fun g hg k hc=>?_⟩
   simp only[Abs.regrow]at hg
   split at hg
   ·cases hg;exact hi rfl
   ·rename_i hgb
    exact hk.noC g hg k ((oldC g k hgb).1 hc)) (fun i o ho=>by
   obtain⟨_,m1,m2⟩:=hs.x.obj i o ho
   refine⟨m1,?_⟩
   cases h:look (updA st.arr id { r with xs:=xs }) i with
   |none=>rfl
   |some c =>
    rcases look_some_arr hid i c h with⟨rfl,_⟩|⟨_,h⟩
    ·rw[hid]at m2;cases m2
    ·rw[h]at m2;cases m2) (fun b i h=>(hs.ownlt b i h).1) (fun i T hi hn=>by
   have hne:i≠id:=fun e=>by rw[e,hid]at hn;cases hn
   have hk:=(hs.x.ty i T hi).1
   refine⟨?_,fun vs fz h=>⟨vs,fz,by rw[hother _ (hs.ownlt _ _ hk.own).1 (ne _ i hk.own hne)];exact h⟩⟩
   cases h:look (updA st.arr id { r with xs:=xs }) i with
   |none=>rfl
   |some c =>
    rcases look_some_arr hid i c h with⟨rfl,_⟩|⟨_,h⟩
    ·exact absurd rfl hne
    ·rw[h]at hn;cases hn) (fun g i h hn=>oldown g i h fun e=>by rw[e,hid]at hn;cases hn)⟩
 ·have hk:=hs.mem i cs' h
  have hi:i≠id:=fun e=>hs.disj _ _ _ h (e▸hid)
  have hg:=ne _ _ hk.own hi
  exact hk.of_heap hx (oldown _ _ hk.own hi) (hother _ (hs.ownlt _ _ hk.own).1 hg) (fun o h=>hk.noC o ((oldC _ _ hg).1 h))
 ·rcases look_some_arr hid i ar h with⟨rfl,rfl⟩|⟨hi,h⟩
  ·refine⟨hk0.lt,by simp[Abs.regrow],hes,.inr ⟨b,cap,cur,by simp[Abs.regrow],?_,hcap,hm,hsz,by simp[Abs.regrow],fun o ho h=>?_,fun o ho=>?_,fun i j x c hi hj=>?_⟩⟩
   ·unfold rowAt;simp only[hfz];exact hrow
   ·rcases h with h|⟨_,_,h⟩
    ·have:=hCb o h;simp at ho;omega
    ·simp at ho;omega
   ·simp at ho
    constructor
    ·intro h
     cases hw:r.wr with
     |false=>rfl
     |true =>
      rcases h with h|⟨h,_⟩
      ·exact absurd h (hwr hw o)
      ·rw[hw]at h;cases h
    ·intro h;exact .inr ⟨by simp at h;simp[h],rfl,ho⟩
   ·obtain⟨v,q1,q2,q3⟩:=hr i j x c hi hj
    exact⟨v,q1,q2,q3.mono hx⟩
  ·have hk:=hs.arr i ar h
   exact hk.of_heap hx (by simp only[Abs.regrow];rw[if_neg hi]) (fun g hg=>by
    have h2:=ne _ _ hg hi
    exact⟨oldown _ _ hg hi,hother _ (hs.ownlt _ _ hg).1 h2,fun o=>oldC _ _ h2⟩)
 ·rcases h with h|⟨_,h,_⟩
  ·have:=hs.Clt g o h;have:=hx.size;omega
  ·rw[h];exact hbsz
 ·simp only[Abs.regrow]at h ⊢
  split at h
  ·rename_i e1;cases h;subst e1;exact⟨hbsz,hk0.lt⟩
  ·have:=hs.ownlt g i h;have:=hx.size;omega
 ·rcases look_some_arr hid i ar h2 with⟨rfl,rfl⟩|⟨hi,h2⟩
  ·exact hs.disj _ _ _ h1 hid
  ·exact hs.disj _ _ _ h1 h2
theorem Ext.regrow {w':World}(hs:Sim w A st){id b n:Nat}{v:Value}{fix:Bool}{m:Nat}(hid:id<A.nx)(hn:A.ln id≤n)(hv:n=A.ln id→v=A.sv id)
  (hC:∀g o,A.C g o→w'.cell? ⟨g,o,none⟩=w.cell? ⟨g,o,none⟩) (hb:A.own b=some id∨w.heap.size≤b) (hsz:w.heap.size≤w'.heap.size) (h0:w'.os=w.os∧w'.tape=w.tape∧w'.output=w.output)
  (hother:∀k,k<w.heap.size→A.own k=none→w'.heap[k]?=w.heap[k]?) (hmc:∀(k:Nat) ms c,w.heap[k]?=some (.map ms c)→w'.heap[k]?=some (.map ms c)):Ext w A w' (A.regrow id b n v fix m) where
 nx:=Nat.le_refl _
 loc _ _:=rfl
 ln i h:=by simp only[Abs.regrow];split;(rename_i e;subst e;exact hn);exact Nat.le_refl _
 sv i h he:=by
  simp only[Abs.regrow]at he ⊢
  split
  ·rename_i e;subst e;rw[if_pos rfl]at he;exact hv he
  ·rfl
 C g o h:=⟨.inl h,hC g o h⟩
 own g h ho:=by
  simp only[Abs.regrow]
  split
  ·rename_i e;subst e
   rcases hb with hb|hb
   ·rw[ho]at hb;cases hb
   ·omega
  ·exact ho
 size:=hsz
 os:=h0.1
 tape:=h0.2.1
 output:=h0.2.2
 fr:=hother
 cold g o hg ho hc:=hc.elim (fun h=>h) fun h=>by
  rcases hb with hb|hb
  ·have:=h.2.1;subst this;rw[ho]at hb;cases hb
  ·have:=h.2.1;omega
 mc k ms c _ h:=hmc k ms c h
end
end Go.Sha
namespace Go.Sha
section
variable {P:Program}{w:World}{A:Abs}{st:St}{a:Act}{env:Env}
theorem Ext.newNil (A:Abs):Ext w A w (A.newArr w.heap.size 0 (.slice none 0 0) false 0) where
 nx:=Nat.le_succ _
 loc _ _:=rfl
 ln id h:=by simp only[Abs.newArr];rw[if_neg (by omega)];exact Nat.le_refl _
 sv id h _:=by simp only[Abs.newArr];rw[if_neg (by omega)]
 C b o' h:=⟨.inl h,rfl⟩
 own b h ho:=by simp only[Abs.newArr];rw[if_neg (by omega)];exact ho
 size:=Nat.le_refl _
 os:=rfl
 tape:=rfl
 output:=rfl
 fr _ _ _:=rfl
 cold b o hb _ hc:=hc.elim (fun h=>h) fun h=>by cases h.1
 mc _ _ _ _ h:=h
def Abs.newNil (A:Abs):Abs:={ A with sv:=fun i=>if i=A.nx then .slice none 0 0 else A.sv i,ln:=fun i=>if i=A.nx then 0 else A.ln i,nx:=A.nx+1 }
theorem Ext.newNil' (w:World)(A:Abs):Ext w A w A.newNil where
 nx:=Nat.le_succ _
 loc _ _:=rfl
 ln id h:=by simp only[Abs.newNil];rw[if_neg (by omega)];exact Nat.le_refl _
 sv id h _:=by simp only[Abs.newNil];rw[if_neg (by omega)]
 C b o' h:=⟨h,rfl⟩
 own b h ho:=ho
 size:=Nat.le_refl _
 os:=rfl
 tape:=rfl
 output:=rfl
 fr _ _ _:=rfl
 cold _ _ _ _ h:=h
 mc _ _ _ _ h:=h
theorem Sim.newNil (hs:Sim w A st)(e es:Nat)(wr:Bool):Sim w A.newNil { st with nx:=st.nx+1,arr:=(st.nx,{ e:=e,es:=es,xs:=[],wr:=wr,fz:=false })::st.arr }:=by
 have hx:=Ext.newNil' w A
 refine⟨by simp[Abs.newNil,hs.nx],fun id cs' h=>?_,fun id ar h=>?_,hs.Clt,fun b id h=>?_,fun id cs' ar h1 h2=>?_,
  hs.x.same hx rfl hs.ownlt (fun _ _=>rfl) (fun _ _ h _=>h) (fun _ _ _ h=>h) (fun _ _ h=>h) (fun id hlt h=>by simp only[look];rw[if_neg (by have:=hs.nx;omega)];exact h)⟩
 ·have hk:=hs.mem id cs' h
  exact hk.of_heap hx hk.own rfl hk.noC
 ·simp only[look]at h
  split at h
  ·rename_i e1;cases h;subst e1
   exact⟨by simp[Abs.newNil,hs.nx],by simp[Abs.newNil,hs.nx],by simp,.inl ⟨by simp[Abs.newNil,hs.nx],rfl,rfl⟩⟩
  ·have hk:=hs.arr id ar h
   exact hk.of_heap hx (by have:=hk.lt;simp only[Abs.newNil];rw[if_neg (by omega)]) (fun g hg=>⟨hg,rfl,fun _=>Iff.rfl⟩)
 ·have:=hs.ownlt b id h;simp only[Abs.newNil];omega
 ·simp only[look]at h2
  split at h2
  ·rename_i e1;subst e1
   have:=(hs.mem _ cs' h1).lt;have:=hs.nx;omega
  ·exact hs.disj id cs' ar h1 h2
theorem run_append_empty {t ty e:TypeId}{i:TypeInfo}(ht:P.underlying t=some (.slice e))(hi:P.info? e=some i)(w:World){base b:Option Addr}{n cap c:Nat}(h:n≤cap) :
  (Builtin.append_ #[t,t] ty #[.slice base n cap,.slice b 0 c]).run P w=.ok (.slice base n cap) w:=by
 cases base<;>cases b<;>simp[Builtin.append_,run_underlying ht,sizeOf,typeInfo,hi,Builtin.lenOf,Builtin.firstCells,h,storeCells,loadCells,loadCellsFrom]
theorem updA_same:∀{l:List (Nat×Arr)}{id:Nat}{r:Arr},look l id=some r→updA l id r=l
 |[],_,_,h=>by simp[look]at h
 |(j,c)::l,id,r,h=>by
  simp only[look,updA]at h ⊢
  split at h
  ·rename_i e;cases h;rw[if_pos e]
  ·rename_i e;rw[if_neg e,updA_same h]
theorem regrow_new (hs:Sim w A st){id:Nat}{r:Arr}(hid:look st.arr id=some r)(hfz:r.fz=false){xs:List V}(hlt:r.xs.length<xs.length){q:Array Value}{cap:Nat}(h1:q.size=cap*r.es)(h2:xs.length≤cap)(h3:cap≤maxLen)
  (hes:∀y∈xs,y.cells.length=r.es) (hr:∀(i' j:Nat) (x c:V),xs[i']?=some x→x.cells[j]?=some c→∃v,q[i'*r.es+j]?=some v∧v.oneCell'=true∧Rep w A v c) :
  ∃A',Rep (w.drew.alloc (.cells q r.e)) A' (.slice (some ⟨w.heap.size,0,none⟩) xs.length cap) (.osl id xs.length)∧Sim (w.drew.alloc (.cells q r.e)) A' { st with arr:=updA st.arr id { r with xs:=xs } }∧Ext w A (w.drew.alloc (.cells q r.e)) A':=by
 have hk:=hs.arr id r hid
 have hx:Ext w A (w.drew.alloc (.cells q r.e)) (A.regrow id w.heap.size xs.length (.slice (some ⟨w.heap.size,0,none⟩) xs.length cap) (!r.wr) (xs.length*r.es)) :=
  Ext.regrow hs hk.lt (by rw[hk.ln];omega) (fun e=>by rw[hk.ln]at e;omega) (fun g o h=>by
   rw[World.cell?_alloc_lt _ _ _ (by exact hs.Clt g o h)];rfl) (.inr (Nat.le_refl _)) (by simp) ⟨rfl,rfl,rfl⟩ (fun k hk' _=>by
   rw[heap_alloc_old w.drew _ (by exact hk')];rfl) (fun k ms c h=>by rw[heap_alloc_old w.drew _ (by exact(Array.getElem?_eq_some_iff.1 h).1)];exact h)
 refine⟨_,?_,Sim.regrow hs hid hfz hx (.inr rfl) (heap_alloc_new w.drew _) (fun k hk' _=>by rw[heap_alloc_old w.drew _ (by exact hk')];rfl) (fun _ o h=>Nat.lt_irrefl _ (hs.Clt _ _ h)) (fun o h=>absurd (hs.Clt _ _ h) (Nat.lt_irrefl _)) hes h2 h3 h1 hr,hx⟩
 exact .osl _ _ _ hk.lt (by simp[Abs.regrow]) (fun _=>by simp[Abs.regrow])
structure AppSrc (P:Program) (w:World) (t tx ty e:TypeId) (i:TypeInfo) (z x:Value) (m:Nat) (news:List Value):Prop where
 len:news.length=m*i.size
 one:∀v∈news,v.oneCell'=true
 empty:m=0→∀(base:Option Addr) (n cap:Nat),n≤cap→(Builtin.append_ #[t,tx] ty #[.slice base n cap,x]).run P w=.ok (.slice base n cap) w
 nil:0<m→(m:Int)≤9223372036854775807→m*i.bytes≤281474976710656→(Builtin.append_ #[t,tx] ty #[.slice none 0 0,x]).run P w =
  .ok (.slice (some ⟨w.heap.size,0,none⟩) m (grownCap w m 0 e)) (w.drew.alloc (.cells (news.toArray++Builtin.zeroCells z.cells (grownCap w m 0 e-m)) e))
 room:0<m→∀(g sLen sCap:Nat) (cur:Array Value),w.heap[g]?=some (.cells cur e (0,0))→sLen+m≤sCap→sLen*i.size+news.length≤cur.size →
  (Builtin.append_ #[t,tx] ty #[.slice (some ⟨g,0,none⟩) sLen sCap,x]).run P w=.ok (.slice (some ⟨g,0,none⟩) (sLen+m) sCap) (w.setRow g (cur.toList.take (sLen*i.size)++news++cur.toList.drop (sLen*i.size+news.length)).toArray)
 grow:0<m→∀(b:Addr) (sLen sCap:Nat) (olds:List Value),olds.length=sLen*i.size→(∀j v,olds[j]?=some v→w.cell? (b.add j)=some v)→sCap<sLen+m→((sLen+m:Nat):Int)≤9223372036854775807 →
  Builtin.nextslicecap (sLen+m) sCap*i.bytes≤281474976710656→(Builtin.append_ #[t,tx] ty #[.slice (some b) sLen sCap,x]).run P w =
   .ok (.slice (some ⟨w.heap.size,0,none⟩) (sLen+m) (grownCap w (sLen+m) sCap e)) (w.drew.alloc (.cells (olds.toArray++news.toArray++Builtin.zeroCells z.cells (grownCap w (sLen+m) sCap e-(sLen+m))) e))
theorem appG_sound {t tx ty e:TypeId}{i:TypeInfo}{z:Value}(hz:i.zero=some z)(hsz:0<i.size)(hzs:z.cells.size=i.size)(hs:Sim w A st){ys:List V}{news:List Value}{x:Value}(src:AppSrc P w t tx ty e i z x ys.length news)
  (n4:∀(i' j:Nat) (x c:V),ys[i']?=some x→x.cells[j]?=some c→∃v,news[i'*i.size+j]?=some v∧v.oneCell'=true∧Rep w A v c) (h3':∀y∈ys,y.cells.length=i.size)
  {s:Value}{ds d:V}{st':St} (rs:Rep w A s ds) (h:appG st e i.size i.bytes ys ds=some (d,st')) :
  ∃u w' A',(Builtin.append_ #[t,tx] ty #[s,x]).run P w=.ok u w'∧Rep w' A' u d∧Sim w' A' st'∧Ext w A w' A':=by
 have n1:=src.len
 have n3:=src.one
 have fresh:∀(olds:List Value) (xs:List V) (old:Nat),olds.length=xs.length*i.size→(∀y∈xs,y.cells.length=i.size)→(∀(i' j:Nat) (x c:V),xs[i']?=some x→x.cells[j]?=some c→∃v,olds[i'*i.size+j]?=some v∧v.oneCell'=true∧Rep w A v c) →
   ∀news:List Value,news.length=ys.length*i.size→(∀(i' j:Nat) (x c:V),ys[i']?=some x→x.cells[j]?=some c→∃v,news[i'*i.size+j]?=some v∧v.oneCell'=true∧Rep w A v c) →
   ∀q,q=(olds.toArray++news.toArray++Builtin.zeroCells z.cells (grownCap w (xs.length+ys.length) old e-(xs.length+ys.length))) →
   q.size=grownCap w (xs.length+ys.length) old e*i.size∧(∀y∈xs++ys,y.cells.length=i.size)∧∀(i' j:Nat) (x c:V),(xs++ys)[i']?=some x→x.cells[j]?=some c→∃v,q[i'*i.size+j]?=some v∧v.oneCell'=true∧Rep w A v c:=by
  intro olds xs old ho hx hor news hn hnr q hq
  have hge:=grownCap_ge w (xs.length+ys.length) old e
  have hes:∀y∈xs++ys,y.cells.length=i.size:=fun y hy=>(List.mem_append.1 hy).elim (hx y) (h3' y)
  refine⟨?_,hes,fun i' j y c hy hc=>?_⟩
  ·subst hq
   simp only[Array.size_append,List.size_toArray,size_zeroCells,hzs,ho,hn,←Nat.add_mul]
   congr 1;omega
  ·obtain⟨v,v1,v2⟩:=cells_append hx olds news ho hor hnr i' j y c hy hc
   refine⟨v,?_,v2⟩
   subst hq
   have hlt:=(List.getElem?_eq_some_iff.1 v1).1
   rw[Array.getElem?_append_left (by simpa using hlt)]
   simpa using v1
 unfold appG at h
 split at h
 ·-- owned
  rename_i id n
  unfold appA at h
  split at h
  ·rename_i r hr
   split at h
   ·rename_i hc
    obtain⟨c1,c2,c3,c4,c5⟩:=hc
    simp only[roomV,Bool.and_eq_true,decide_eq_true_eq]at c5
    obtain⟨c5,c6⟩:=c5
    cases h
    obtain⟨hsv,hk⟩:=osl_alive hs hr c1 rs
    subst hsv
    subst c1
    by_cases hm0:ys.length=0
    ·have hys:ys=[]:=List.eq_nil_of_length_eq_zero hm0
     subst hys
     have hsame:({ st with arr:=updA st.arr id { r with xs:=r.xs++[] } }:St)=st:=by
      simp only[List.append_nil];rw[updA_same hr]
     have hcap:∃b' cap',A.sv id=.slice b' r.xs.length cap'∧r.xs.length≤cap':=by
      rcases hk.row with⟨r1,r2,_⟩|⟨g,cap,cur,r1,_,r3,_⟩
      ·rw[r2];exact⟨_,_,r1,Nat.le_refl _⟩
      ·exact⟨_,_,r1,r3⟩
     obtain⟨b',cap',e1,e2⟩:=hcap
     refine⟨A.sv id,w,A,?_,?_,?_,Ext.refl w A⟩
     ·rw[e1];exact src.empty rfl _ _ _ e2
     ·exact .osl _ _ _ hk.lt (by rw[hk.ln];simp) (fun _=>rfl)
     ·rw[hsame];exact hs
    ·skip
     rcases hk.row with⟨r1,r2,r3⟩|⟨g,cap,cur,r1,r2,r3,r4,r5,r6,r7,r8,r10⟩
     ·-- nil: a new block
      have hrun:=src.nil (by omega) (by simp only[maxLen]at c5;omega) (by rw[r2]at c6;simp at c6;omega)
      obtain⟨f1,f2,f3⟩:=fresh [] [] 0 (by simp) (by simp) (by simp) news n1 n4 _ rfl
      simp only[List.length_nil,Nat.zero_add,List.nil_append]at f1 f2 f3
      subst c2
      obtain⟨A',g1,g2,g3⟩:=regrow_new hs hr c4 (xs:=r.xs++ys) (q:=news.toArray++Builtin.zeroCells z.cells (grownCap w ys.length 0 r.e-ys.length)) (cap:=grownCap w ys.length 0 r.e)
       (by simp;omega) (by rw[c3];simpa using f1) (by rw[r2];simpa using grownCap_ge w ys.length 0 r.e) (grownCap_le_maxLen w _ _ _ (by rw[r2]at c5;simpa using c5))
       (by rw[c3,r2];simpa using f2) (by rw[c3,r2];simpa using f3)
      rw[r1]
      refine⟨_,_,A',hrun,?_,g2,g3⟩
      rw[List.length_append]at g1
      rw[r2]at g1 ⊢
      simpa using g1
     ·have olds:cur.toList.take (r.xs.length*i.size)=cur.toList.take (r.xs.length*i.size):=rfl
      have holen:(cur.toList.take (r.xs.length*i.size)).length=r.xs.length*i.size:=by
       rw[List.length_take,Array.length_toList,r5,c3]
       exact Nat.min_eq_left (Nat.mul_le_mul_right _ r3)
      have hoget:∀(j:Nat),j<r.xs.length*i.size→(cur.toList.take (r.xs.length*i.size))[j]?=cur[j]?:=fun j hj=>by
       rw[List.getElem?_take_of_lt hj];simp
      have hor:∀(i' j:Nat) (x c:V),r.xs[i']?=some x→x.cells[j]?=some c→∃v,(cur.toList.take (r.xs.length*i.size))[i'*i.size+j]?=some v∧v.oneCell'=true∧Rep w A v c:=fun i' j x c hi' hj=>by
       have hlt:=idx_lt (fun y hy=>(hk.es y hy).trans c3) hi' hj
       rw[hoget _ hlt,←c3]
       exact r10 i' j x c hi' hj
      subst c2
      have hg:w.heap[g]?=some (.cells cur r.e (0,0)):=by unfold rowAt at r2;rw[c4]at r2;exact r2
      by_cases hroom:r.xs.length+ys.length≤cap
      ·-- in place
       have hfit:r.xs.length*i.size+news.length≤cur.size:=by rw[n1,r5,c3,←Nat.add_mul];exact Nat.mul_le_mul_right _ hroom
       have hrun:=src.room (by omega) g r.xs.length cap cur hg hroom hfit
       have hnew:∀o,A.C g o→(cur.toList.take (r.xs.length*i.size)++news++cur.toList.drop (r.xs.length*i.size+news.length)).toArray[o]?=cur[o]?:=fun o ho=>by
        have:o<r.xs.length*i.size:=by
         rcases Nat.lt_or_ge o (r.xs.length*i.size) with h|h
         ·exact h
         ·exact absurd ho (r7 o (by rw[c3];exact h))
        rw[List.getElem?_toArray,List.append_assoc,List.getElem?_append_left (by rw[holen];exact this),hoget o this]
       have hx0:Ext w A (w.setRow g (cur.toList.take (r.xs.length*i.size)++news++cur.toList.drop (r.xs.length*i.size+news.length)).toArray) A:=Ext.setRow hg r6 hnew
       have hx:Ext w A (w.setRow g (cur.toList.take (r.xs.length*i.size)++news++cur.toList.drop (r.xs.length*i.size+news.length)).toArray) (A.regrow id g (r.xs++ys).length (.slice (some ⟨g,0,none⟩) (r.xs++ys).length cap) (!r.wr) ((r.xs++ys).length*r.es)) :=
        Ext.regrow hs hk.lt (by rw[hk.ln];simp) (fun e'=>by rw[hk.ln]at e';simp at e';exact absurd (by rw[e'];rfl) hm0) (fun g' o h=>(hx0.C g' o h).2) (.inl r6) hx0.size ⟨rfl,rfl,rfl⟩ hx0.fr (fun k ms c h=>by rw[setRow_other w g k _ (fun e=>by rw[e,hg]at h;cases h)];exact h)
       refine⟨.slice (some ⟨g,0,none⟩) (r.xs.length+ys.length) cap,_,_,?_,?_,Sim.regrow hs hr c4 hx (.inl r6) (setRow_heap w g cur _ r.e _ hg) (fun k _ hk'=>setRow_other w g k _ hk') (fun hw o h=>?_) (fun o h=>?_) (fun y hy=>?_) (by simpa using hroom) r4 ?_ ?_,hx⟩
       ·rw[r1];exact hrun
       ·have:=Rep.osl (w:=(w.setRow g (cur.toList.take (r.xs.length*i.size)++news++cur.toList.drop (r.xs.length*i.size+news.length)).toArray)) (A:=A.regrow id g (r.xs++ys).length (.slice (some ⟨g,0,none⟩) (r.xs++ys).length cap) (!r.wr) ((r.xs++ys).length*r.es)) id (r.xs++ys).length (.slice (some ⟨g,0,none⟩) (r.xs++ys).length cap) hk.lt (by simp[Abs.regrow]) (fun _=>by simp[Abs.regrow])
        simp only[List.length_append]at this ⊢;exact this
       ·rcases Nat.lt_or_ge o (r.xs.length*r.es) with h'|h'
        ·have:=(r8 o h').1 h;rw[hw]at this;cases this
        ·exact r7 o h' h
       ·rcases Nat.lt_or_ge o (r.xs.length*r.es) with h'|h'
        ·exact Nat.lt_of_lt_of_le h' (Nat.mul_le_mul_right _ (by simp))
        ·exact absurd h (r7 o h')
       ·rcases List.mem_append.1 hy with hy|hy
        ·exact hk.es y hy
        ·rw[c3];exact h3' y hy
       ·simp only[List.size_toArray,List.length_append,List.length_drop,Array.length_toList,holen]
        omega
       ·intro i' j y c' hy hc'
        obtain⟨v,v1,v2⟩:=cells_append (fun y hy=>(hk.es y hy).trans c3) _ news holen hor n4 i' j y c' hy hc'
        refine⟨v,?_,v2⟩
        have hlt:=(List.getElem?_eq_some_iff.1 v1).1
        rw[c3,List.getElem?_toArray,List.getElem?_append_left hlt]
        exact v1
      ·-- a new block
       have holds:∀(j:Nat) (v:Value),(cur.toList.take (r.xs.length*i.size))[j]?=some v→w.cell? ((⟨g,0,none⟩:Addr).add j)=some v:=fun j v hv=>by
        have hlt:=(List.getElem?_eq_some_iff.1 hv).1
        rw[holen]at hlt
        rw[addr_add,Nat.zero_add,cell_of_row w g j cur r.e _ hg,←hoget j hlt];exact hv
       have hrun:=src.grow (by omega) ⟨g,0,none⟩ r.xs.length cap _ holen holds (by omega) (by simp only[maxLen]at c5;omega) (growslice_fits (by omega) c6)
       obtain⟨f1,f2,f3⟩:=fresh _ r.xs cap holen (fun y hy=>(hk.es y hy).trans c3) hor news n1 n4 _ rfl
       obtain⟨A',g1,g2,g3⟩:=regrow_new hs hr c4 (xs:=r.xs++ys) (cap:=grownCap w (r.xs.length+ys.length) cap r.e) (by simp;omega) (by rw[c3];exact f1) (by simpa using grownCap_ge w (r.xs.length+ys.length) cap r.e) (grownCap_le_maxLen w _ _ _ c5)
        (by rw[c3];exact f2) (by rw[c3];exact f3)
       rw[r1]
       refine⟨_,_,A',hrun,?_,g2,g3⟩
       rw[List.length_append]at g1
       exact g1
   ·cases h
  ·cases h
 ·-- nil
  split at h
  ·rename_i hc
   simp only[roomV,Bool.and_eq_true,decide_eq_true_eq]at hc
   cases h
   cases rs with
   |nils =>
    by_cases hm0:ys.length=0
    ·have hys:ys=[]:=List.eq_nil_of_length_eq_zero hm0
     subst hys
     refine⟨_,w,A.newNil,src.empty rfl _ _ _ (Nat.le_refl _),?_,Sim.newNil hs e i.size false,Ext.newNil' w A⟩
     exact .osl _ _ _ (by simp[Abs.newNil,hs.nx]) (by simp[Abs.newNil,hs.nx]) (fun _=>by simp[Abs.newNil,hs.nx])
    ·skip
     have hrun:=src.nil (by omega) (by have:=hc.1;simp only[maxLen]at this;omega) (by omega)
     obtain⟨f1,f2,f3⟩:=fresh [] [] 0 (by simp) (by simp) (by simp) news n1 n4 _ rfl
     simp only[List.length_nil,Nat.zero_add,List.nil_append]at f1 f2 f3
     refine⟨_,_,_,hrun,?_,Sim.newArr (w0:=w.drew) (wr:=false) (fz:=false) (cap:=grownCap w ys.length 0 e) hs ⟨rfl,rfl,rfl,rfl⟩ f2 (grownCap_ge w ys.length 0 e) (grownCap_le_maxLen w _ _ _ hc.1) (by simpa using f1) (by simpa using f3),Ext.newArr (w0:=w.drew) hs ⟨rfl,rfl,rfl,rfl⟩ _ _ _ _ _⟩
     rw[hs.nx];exact Rep.newArr
  ·cases h
 ·-- clipped
  rename_i xs
  split at h
  ·rename_i hc
   obtain⟨hc,hc2,hc3⟩:=hc
   simp only[roomV,Bool.and_eq_true,decide_eq_true_eq]at hc
   have hc2':∀y∈xs,y.cells.length=i.size:=by simpa using hc2
   cases h
   cases rs with
   |clip b' _ hb' =>
    obtain⟨b2,cap2,e1,e2,e3,e4⟩:=slice_read hs hb' rfl hc2'
    injection e1 with e1 _ e1c
    subst e1
    cases b' with
    |none =>
     have hx0:=e3 rfl
     subst hx0
     have hrun:=src.nil hc3 (by have:=hc.1;simp only[maxLen]at this;simp at this;omega) (by have:=hc.2;simp at this;omega)
     obtain⟨f1,f2,f3⟩:=fresh [] [] 0 (by simp) (by simp) (by simp) news n1 n4 _ rfl
     simp only[List.length_nil,Nat.zero_add,List.nil_append]at f1 f2 f3 hc ⊢
     refine⟨_,_,_,hrun,?_,Sim.newArr (w0:=w.drew) (wr:=false) (fz:=false) (cap:=grownCap w ys.length 0 e) hs ⟨rfl,rfl,rfl,rfl⟩ f2 (grownCap_ge w ys.length 0 e) (grownCap_le_maxLen w _ _ _ hc.1) (by simpa using f1) (by simpa using f3),Ext.newArr (w0:=w.drew) hs ⟨rfl,rfl,rfl,rfl⟩ _ _ _ _ _⟩
     rw[hs.nx];exact Rep.newArr
    |some ad' =>
     obtain⟨olds,o1,o2,o3,o4⟩:=e4 ad' rfl
     have hrun:=src.grow (by omega) ad' xs.length xs.length olds o1 o2 (by omega) (by have:=hc.1;simp only[maxLen]at this;omega) (growslice_fits (by omega) hc.2)
     obtain⟨f1,f2,f3⟩:=fresh olds xs xs.length o1 hc2' (fun i' j x c hx hc'=>by
      obtain⟨v,v1,v2⟩:=o4 i' j x c hx hc'
      exact⟨v,v1,o3 v (List.mem_of_getElem? v1),v2⟩) news n1 n4 _ rfl
     have hlen:(xs++ys).length=xs.length+ys.length:=List.length_append
     refine⟨_,_,_,hrun,?_,Sim.newArr (w0:=w.drew) (xs:=xs++ys) (wr:=false) (fz:=false) (cap:=grownCap w (xs.length+ys.length) xs.length e) hs ⟨rfl,rfl,rfl,rfl⟩ f2 (by rw[hlen];exact grownCap_ge w _ _ e) (grownCap_le_maxLen w _ _ _ hc.1) (by simpa using f1) (by simpa using f3),Ext.newArr (w0:=w.drew) hs ⟨rfl,rfl,rfl,rfl⟩ _ _ _ _ _⟩
     rw[hs.nx,←hlen];exact Rep.newArr
  ·cases h
 ·cases h
theorem append_sound {t ty e:TypeId}{i:TypeInfo}{z:Value}(ht:P.underlying t=some (.slice e))(hi:P.info? e=some i)(hz:i.zero=some z)(hsz:0<i.size)(hzs:z.cells.size=i.size)(hs:Sim w A st)
  {s x:Value}{ds dx d:V}{st':St} (rs:Rep w A s ds) (rx:Rep w A x dx) (h:appendV st e i.size i.bytes ds dx=some (d,st')) :
  ∃u w' A',(Builtin.append_ #[t,t] ty #[s,x]).run P w=.ok u w'∧Rep w' A' u d∧Sim w' A' st'∧Ext w A w' A':=by
 unfold appendV at h
 split at h
 ·rename_i ys0 h1
  split at h
  ·rename_i ys h2
   split at h
   ·rename_i h3
    have h3':∀y∈ys,y.cells.length=i.size:=by simpa using h3
    obtain⟨b,c,rfl,s1,s2⟩:=append_source hs rx h1 h2 h3'
    obtain⟨news,src,n4⟩:∃news,AppSrc P w t t ty e i z (.slice b ys.length c) ys.length news∧∀(i' j:Nat) (x c:V),ys[i']?=some x→x.cells[j]?=some c→∃v,news[i'*i.size+j]?=some v∧v.oneCell'=true∧Rep w A v c:=by
     cases b with
     |none =>
      have hys:=s1 rfl
      subst hys
      exact⟨[],⟨by simp,by simp,fun _ base n cap hc=>run_append_empty ht hi w hc,fun h=>absurd h (Nat.lt_irrefl 0),fun h=>absurd h (Nat.lt_irrefl 0),fun h=>absurd h (Nat.lt_irrefl 0)⟩,fun i' j x c hx=>by simp at hx⟩
     |some ad =>
      obtain⟨cs,q1,q2,q3,q4⟩:=s2 ad rfl
      refine⟨cs,⟨q1,q3,fun h0 base n cap hc=>?_,fun a b c'=>run_append_nil (P:=P) w t ty e i z ht hi hz ad ys.length c cs q1 q2 a b c',
       fun _ g sLen sCap cur hg hroom hfit=>run_append_room (P:=P) w t ty e i ht hi g sLen sCap cur hg ad ys.length c cs q1 q2 q3 hroom hfit,
       fun _ b sLen sCap olds o1 o2 a b' c'=>run_append_grow (P:=P) w t ty e i z ht hi hz b sLen sCap olds o1 o2 ad ys.length c cs q1 q2 a b' c'⟩,fun i' j y c hy hc=>?_⟩
      ·rw[h0];exact run_append_empty ht hi w hc
      ·obtain⟨v,v1,v2⟩:=q4 i' j y c hy hc
       exact⟨v,v1,q3 v (List.mem_of_getElem? v1),v2⟩
    exact appG_sound hz hsz hzs hs src n4 h3' rs h
   ·cases h
  ·cases h
 ·cases h
end
end Go.Sha
