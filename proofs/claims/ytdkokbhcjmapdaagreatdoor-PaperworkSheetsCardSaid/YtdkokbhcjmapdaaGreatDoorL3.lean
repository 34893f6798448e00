/- tracking.value's contract over shadow values. The contracts of this seat's table hold. The contracts with the examples' show hold. From what a card lists of the package's variables to what the walks a .. -/
import Derived.Test.YtdkokbhcjmapdaaGreatDoorL2
import Derived.Test.YtdkokbhcjmapdaaGreatDoorL1
import Derived.Test.YtdkokbhcjmapdaaGreatDoorLShbEK
import Derived.Test.YtdkokbhcjmapdaaGreatDoorLShbZ
import Derived.Lib.AppendIntMem
import Derived.Test.YtdkokbhcjmapdaaGreatDoorLShbXI
import Derived.Test.YtdkokbhcjmapdaaGreatDoorRows
import Derived.Test.YtdkokbhcjmapdaaGreatDoorLShbAE
import Derived.Test.YtdkokbhcjmapdaaGreatDoorLShbYB
import Derived.Test.YtdkokbhcjmapdaaGreatDoorProg
import Derived.KernelRfl
import Derived.Lib.ItoaLen
import Derived.Test.YtdkokbhcjmapdaaGreatDoorLShbXJ
import Derived.Lib.CountLaws
import Derived.Lib.IndexLaws
import Derived.Test.YtdkokbhcjmapdaaGreatDoorLShbAC
import Derived.Test.YtdkokbhcjmapdaaGreatDoorCards
import Derived.SizedLaws
import Derived.WalkKit
import Derived.ProofKit
import Derived.OpenShut
import Derived.ChangeMaps5
import Derived.LaidLaws
import Derived.LaidHandle
import Derived.Lay
import Derived.SevenTiedAt
set_option linter.unusedSimpArgs false
set_option linter.unusedVariables false
namespace Go.Proofs.YtdkokbhcjmapdaaGreatDoor
open Go.Sha Go.RowKit
set_option maxRecDepth 100000
theorem calls_of {P:Program}{f:FuncId}{fn:Func}(hf:P.funcs[f]?=some fn)(hname:(fn.name == "runtime.NumGoroutine")=false)(hb:fn.body.isNone=false){ds:List V}{st':St}{r:V}(h:VRet P f ds st0 r st'){w:World}{vs:List Value}(ha:Reps w (abs0 w) vs ds) :
  Calls P f vs.toArray w fun e w'=>(∃v A',e=.returned v∧Rep w' A' v r)∧Below w.heap.size w w':=by
 refine(VCalls.calls hf hname hb h (sim0 w) ha).mono fun e w' ⟨r',A',s,⟨hr,_⟩,he,_,hx⟩=>?_
 subst hr
 cases e with
 |returned v=>exact⟨⟨v,A',rfl,he⟩,⟨hx.os,hx.tape,hx.output,hx.size,fun i hi=>hx.fr i hi rfl⟩⟩
 |panicked ch=>exact he.elim
 |outgrown=>exact he.elim
theorem rdL_map {α:Type}{f:V→Option α}{g:α→V}(h:∀v x,f v=some x→v=g x):∀{l:List V}{xs:List α},rdL f l=some xs→l=xs.map g
 |[],xs,e=>by cases e;rfl
 |v::r,xs,e=>by
  rw[rdL]at e
  split at e
  ·rename_i x l h1 h2
   cases e
   rw[List.map_cons,←rdL_map h h2,←h v x h1]
  ·cases e
theorem rdMov_v (v:V)(x:Mov)(h:rdMov v=some x):v=x.v:=by
 unfold rdMov at h;split at h
 ·cases h;rfl
 ·cases h
theorem rdTim_v (v:V)(x:Tim)(h:rdTim v=some x):v=x.v:=by
 unfold rdTim at h;split at h
 ·cases h;rfl
 ·cases h
theorem rdCu_v (v:V)(x:Cu)(h:rdCu v=some x):v=x.v:=by
 unfold rdCu at h;split at h
 ·split at h
  ·rename_i h1 h2
   cases h
   rw[rdL_map rdMov_v h1,rdL_map rdTim_v h2]
  ·cases h
 ·cases h
theorem rep_sl {w:World}{A:Abs}{v:Value}{l:List V}(h:Rep w A v (.sl l)):∃a n k,v=.slice a n k:=by
 cases h with
 |sl=>exact⟨_,_,_,rfl⟩
 |slnil a=>exact⟨_,_,_,rfl⟩
theorem cues_at {w:World}{A:Abs}{v:Value}{l:List Cu}(h:Rep w A v (.sl (l.map Cu.v)))(hne:l≠[]) :
  ∃b o cap,∃cell:Nat→Nat→Value,v=.slice (some ⟨b,o,none⟩) l.length cap∧∀j x,l[j]?=some x→∀k c,x.v.cells[k]?=some c→A.C b (o+(j*9+k))∧w.cell? ⟨b,o+(j*9+k),none⟩=some (cell j k)∧Rep w A (cell j k) c:=by
 generalize hd:V.sl (l.map Cu.v)=d at h
 cases h with
 |sl ys b o cap es cell hes hcap hm hC hr =>
  cases hd
  have e1:es=9:=by
   obtain⟨x,hx⟩:=List.exists_mem_of_ne_nil _ hne
   exact(hes x.v (List.mem_map.2 ⟨x,hx,rfl⟩)).symm.trans rfl
  subst e1
  refine⟨b,o,cap,cell,by rw[List.length_map],fun j x hj k c hk=>?_⟩
  have hj':(l.map Cu.v)[j]?=some x.v:=by rw[List.getElem?_map,hj];rfl
  obtain⟨g1,g2,_⟩:=hC j k _ c hj' hk
  exact⟨g1,g2,hr j k _ c hj' hk⟩
 |slnil a=>cases l with|nil=>exact absurd rfl hne|cons x l=>cases hd
 |_=>cases hd
theorem agg9 {w:World}{A:Abs}{c:Cu}{a2 a3:Option Addr}{n2 k2 n3 k3:Nat}(h2:Rep w A (.slice a2 n2 k2) (.sl (c.moves.map Mov.v)))(h3:Rep w A (.slice a3 n3 k3) (.sl (c.parts.map Tim.v))) :
  Rep w A (.agg #[.string ⟨c.num.toArray⟩,.string ⟨c.label.toArray⟩,.slice a2 n2 k2,.slice a3 n3 k3,.bool c.block,.bool c.mark,.int .i64 c.follow,.string ⟨c.link.toArray⟩,.int .i64 c.loops]) c.v:=by
 refine Rep.agg [.string ⟨c.num.toArray⟩,.string ⟨c.label.toArray⟩,.slice a2 n2 k2,.slice a3 n3 k3,.bool c.block,.bool c.mark,.int .i64 c.follow,.string ⟨c.link.toArray⟩,.int .i64 c.loops] _ rfl (fun v hv=>?_) (fun i v d h4 h5=>?_)
 ·simp at hv;rcases hv with rfl|rfl|rfl|rfl|rfl|rfl|rfl|rfl|rfl<;>rfl
 ·match i,h4,h5 with
  |0,h4,h5=>simp at h4 h5;subst h4 h5;exact .str _
  |1,h4,h5=>simp at h4 h5;subst h4 h5;exact .str _
  |2,h4,h5=>simp at h4 h5;subst h4 h5;exact h2
  |3,h4,h5=>simp at h4 h5;subst h4 h5;exact h3
  |4,h4,h5=>simp at h4 h5;subst h4 h5;exact .bool _
  |5,h4,h5=>simp at h4 h5;subst h4 h5;exact .bool _
  |6,h4,h5=>simp at h4 h5;subst h4 h5;exact .int _ _
  |7,h4,h5=>simp at h4 h5;subst h4 h5;exact .str _
  |8,h4,h5=>simp at h4 h5;subst h4 h5;exact .int _ _
  |n+9,h4,h5=>simp at h4
theorem prm_inv {w:World}{A:Abs}{v:Value}{a b:Int}(h:Rep w A v (.agg [.int .i64 a,.int .i64 b])):v=.agg #[.int .i64 a,.int .i64 b]:=by
 obtain⟨vs,rfl,hl,_,hr⟩:=h.agg_inv
 match vs,hl,hr with
 |[x,y],_,hr =>
  have e1:=(hr 0 x _ rfl rfl).int_inv
  have e2:=(hr 1 y _ rfl rfl).int_inv
  subst e1 e2;rfl
theorem prm_rep {w:World}{A:Abs}{a b:Int}:Rep w A (.agg #[.int .i64 a,.int .i64 b]) (.agg [.int .i64 a,.int .i64 b]):=by
 refine Rep.agg [.int .i64 a,.int .i64 b] _ rfl (fun v hv=>?_) (fun i v d h4 h5=>?_)
 ·simp at hv;rcases hv with rfl|rfl<;>rfl
 ·match i,h4,h5 with
  |0,h4,h5=>simp at h4 h5;subst h4 h5;exact .int _ _
  |1,h4,h5=>simp at h4 h5;subst h4 h5;exact .int _ _
  |n+2,h4,h5=>simp at h4
theorem valF_at {l:List Cu}{q:Prm}:∀{a k:Nat},k≤a→(∀j,j<k→movF (l.getD (a-j) default).moves q=none∧(l.getD (a-j) default).block=false)→valF l q a=valF l q (a-k)
 |a,0,_,_=>rfl
 |0,k+1,h,_=>by omega
 |a+1,k+1,h,hj=>by
  obtain⟨h1,h2⟩:=hj 0 (by omega)
  simp only[Nat.sub_zero]at h1 h2
  rw[valF,h1,h2]
  simp only[Bool.false_eq_true,if_false]
  rw[valF_at (a:=a) (k:=k) (by omega) (fun j hjk=>by have:=hj (j+1) (by omega);rwa [show a+1-(j+1)=a-j by omega]at this)]
  congr 1;omega
theorem callable191:Callable Tryz.prog 191:=⟨_,Tryz.func191,by kernel_rfl,by kernel_rfl⟩
theorem v191 (x y:Int)(l:List Cu)(a:Nat)(q:Prm)(st:St)(ha:a<l.length)(hl:l.length≤1000000)(hq:okP q=true)(hm:∀c∈l,okMs c.moves=true)(hml:∀c∈l,c.moves.length<140737488355328) :
  VRet Tryz.prog 191 [.agg [.int .i64 x,.int .i64 y,.sl (l.map Cu.v)],.int .i64 a,.agg [.int .i64 q.chan,.int .i64 q.attr]] st (valF l q a).v st:=by
 refine VRet_of_below callable191 (fun w A vs hw hv=>?_)
 obtain⟨u0,u1,u2,rfl,r0,r1,r2⟩:∃u0 u1 u2,vs=[u0,u1,u2]∧Rep w A u0 (.agg [.int .i64 x,.int .i64 y,.sl (l.map Cu.v)])∧Rep w A u1 (.int .i64 a)∧Rep w A u2 (.agg [.int .i64 q.chan,.int .i64 q.attr]):=by
  obtain⟨hlen,hr⟩:=hv
  match vs,hlen,hr with
  |[u0,u1,u2],_,hr=>exact⟨u0,u1,u2,rfl,hr 0 _ _ rfl rfl,hr 1 _ _ rfl rfl,hr 2 _ _ rfl rfl⟩
 obtain rfl:=r1.int_inv
 obtain rfl:=prm_inv r2
 obtain⟨us,rfl,hus,_,hur⟩:=r0.agg_inv
 obtain⟨t0,t1,t2,rfl⟩:∃t0 t1 t2,us=[t0,t1,t2]:=by
  match us,hus with
  |[t0,t1,t2],_=>exact⟨t0,t1,t2,rfl⟩
 have hne:l≠[]:=by intro e;rw[e]at ha;simp at ha
 obtain⟨b,o,cap,cell,rfl,hc⟩:=cues_at (hur 2 _ _ rfl rfl) hne
 have hget:∀j,j<l.length→l[j]?=some (l.getD j default):=fun j hj=>by rw[List.getD_eq_getElem?_getD,List.getElem?_eq_getElem hj];rfl
 have hb:b<w.heap.size:=hw.Clt _ _ (hc a _ (hget a ha) 0 _ rfl).1
 have hs:∀j,∃a2:Option Addr,∃n2 k2:Nat,∃a3:Option Addr,∃n3 k3:Nat,(j<l.length→w.cell? ⟨b,o+j*9+2,none⟩=some (.slice a2 n2 k2)∧w.cell? ⟨b,o+j*9+3,none⟩=some (.slice a3 n3 k3))∧Rep w A (.slice a2 n2 k2) (.sl ((l.getD j default).moves.map Mov.v))∧Rep w A (.slice a3 n3 k3) (.sl ((l.getD j default).parts.map Tim.v)):=fun j=>by
  by_cases hj:j<l.length
  ·obtain⟨_,g2,g3⟩:=hc j _ (hget j hj) 2 _ rfl
   obtain⟨_,g4,g5⟩:=hc j _ (hget j hj) 3 _ rfl
   obtain⟨a2,n2,k2,e2⟩:=rep_sl g3
   obtain⟨a3,n3,k3,e3⟩:=rep_sl g5
   rw[e2]at g2 g3
   rw[e3]at g4 g5
   exact⟨a2,n2,k2,a3,n3,k3,fun _=>⟨by rw[Nat.add_assoc];exact g2,by rw[Nat.add_assoc];exact g4⟩,g3,g5⟩
  ·have e:l.getD j default=default:=by rw[List.getD_eq_getElem?_getD,List.getElem?_eq_none (by omega)];rfl
   rw[e]
   exact⟨none,0,0,none,0,0,fun h=>absurd h hj,.slnil _,.slnil _⟩
 obtain⟨a2,hs⟩:=Classical.axiomOfChoice hs
 obtain⟨n2,hs⟩:=Classical.axiomOfChoice hs
 obtain⟨k2,hs⟩:=Classical.axiomOfChoice hs
 obtain⟨a3,hs⟩:=Classical.axiomOfChoice hs
 obtain⟨n3,hs⟩:=Classical.axiomOfChoice hs
 obtain⟨k3,hs⟩:=Classical.axiomOfChoice hs
 have hok:∀j,okMs (l.getD j default).moves=true∧(l.getD j default).moves.length<140737488355328:=fun j=>by
  by_cases hj:j<l.length
  ·have:=List.mem_of_getElem? (hget j hj)
   exact⟨hm _ this,hml _ this⟩
  ·have e:l.getD j default=default:=by rw[List.getD_eq_getElem?_getD,List.getElem?_eq_none (by omega)];rfl
   rw[e];exact⟨rfl,by decide⟩
 have hmove:∀j W,Below w.heap.size w W→Calls Tryz.prog 248 #[.agg #[.string ⟨(l.getD j default).num.toArray⟩,.string ⟨(l.getD j default).label.toArray⟩,.slice (a2 j) (n2 j) (k2 j),.slice (a3 j) (n3 j) (k3 j),.bool (l.getD j default).block,.bool (l.getD j default).mark,.int .i64 (l.getD j default).follow,.string ⟨(l.getD j default).link.toArray⟩,.int .i64 (l.getD j default).loops],.agg #[.int .i64 q.chan,.int .i64 q.attr]] W fun e W' =>
   e=.returned (.tuple #[.agg #[.int .i64 ((movF (l.getD j default).moves q).getD ⟨-1,0⟩).pal,.int .i64 ((movF (l.getD j default).moves q).getD ⟨-1,0⟩).lev],.bool (movF (l.getD j default).moves q).isSome])∧Below W.heap.size W W':=fun j W hB=>by
  obtain⟨_,g2,g3⟩:=hs j
  have hx:=Ext.below hw hB
  have hwW:=hw.below hB
  have h0:Reps W A [.agg #[.string ⟨(l.getD j default).num.toArray⟩,.string ⟨(l.getD j default).label.toArray⟩,.slice (a2 j) (n2 j) (k2 j),.slice (a3 j) (n3 j) (k3 j),.bool (l.getD j default).block,.bool (l.getD j default).mark,.int .i64 (l.getD j default).follow,.string ⟨(l.getD j default).link.toArray⟩,.int .i64 (l.getD j default).loops],.agg #[.int .i64 q.chan,.int .i64 q.attr]] [(l.getD j default).v,q.v] :=
   ⟨rfl,fun i v c h1 h2=>by
    match i,h1,h2 with
    |0,h1,h2=>simp at h1 h2;subst h1 h2;exact agg9 (g2.mono hx) (g3.mono hx)
    |1,h1,h2=>simp at h1 h2;subst h1 h2;exact prm_rep
    |n+2,h1,h2=>simp at h1⟩
  have h1:=h0.data (B:=abs0 W) (fun b o h=>hwW.Clt b o h) (by simp[V.bdL,Cu.bd,Prm.bd])
  have hV:VRet Tryz.prog 248 [(l.getD j default).v,q.v] st0 (.tup [((movF (l.getD j default).moves q).getD ⟨-1,0⟩).v,.bool (movF (l.getD j default).moves q).isSome]) st0:=run_sound mixed HN0_ok _ _ _ _ _ (f248 (hok j).1 hq (hok j).2)
  refine(calls_of Tryz.func248 (by kernel_rfl) (by kernel_rfl) hV h1).mono fun e W' ⟨⟨v,A',he,hr⟩,hb⟩=>⟨?_,hb⟩
  obtain⟨ws,rfl,hws,hwr⟩:=hr.tup_inv
  obtain⟨y0,y1,rfl⟩:∃y0 y1,ws=[y0,y1]:=by
   match ws,hws with
   |[y0,y1],_=>exact⟨y0,y1,rfl⟩
  obtain rfl:=prm_inv (hwr 0 _ _ rfl rfl)
  obtain rfl:=(hwr 1 _ _ rfl rfl).bool_inv
  exact he
 have hhome:∀W,Calls Tryz.prog 249 #[] W fun e W'=>e=.returned (.agg #[.int .i64 (-1),.int .i64 0])∧Below W.heap.size W W':=fun W=>by
  have hV:VRet Tryz.prog 249 [] st0 (.agg [.int .i64 (-1),.int .i64 0]) st0:=run_sound mixed HN0_ok _ _ _ _ _ f249
  refine(calls_of (vs:=[]) (w:=W) Tryz.func249 (by kernel_rfl) (by kernel_rfl) hV ⟨rfl,fun i v c h1 h2=>by simp at h1⟩).mono fun e W' ⟨⟨v,A',he,hr⟩,hb⟩=>⟨?_,hb⟩
  rw[prm_inv hr]at he;exact he
 have hbox:∀j,j<l.length→Box9 (fun x=>.string ⟨(l.getD x default).num.toArray⟩) (fun x=>.string ⟨(l.getD x default).label.toArray⟩) (fun x=>.slice (a2 x) (n2 x) (k2 x)) (fun x=>.slice (a3 x) (n3 x) (k3 x)) (fun x=>(l.getD x default).block) (fun x=>.bool (l.getD x default).mark) (fun x=>.int .i64 (l.getD x default).follow) (fun x=>.string ⟨(l.getD x default).link.toArray⟩) (fun x=>.int .i64 (l.getD x default).loops) w b (o+j*9) j:=fun j hj=>by
  have hg:=hget j hj
  obtain⟨_,e0,d0⟩:=hc j _ hg 0 _ rfl
  obtain⟨_,e1,d1⟩:=hc j _ hg 1 _ rfl
  obtain⟨_,e4,d4⟩:=hc j _ hg 4 _ rfl
  obtain⟨_,e5,d5⟩:=hc j _ hg 5 _ rfl
  obtain⟨_,e6,d6⟩:=hc j _ hg 6 _ rfl
  obtain⟨_,e7,d7⟩:=hc j _ hg 7 _ rfl
  obtain⟨_,e8,d8⟩:=hc j _ hg 8 _ rfl
  rw[d0.str_inv]at e0
  rw[d1.str_inv]at e1
  rw[d4.bool_inv]at e4
  rw[d5.bool_inv]at e5
  rw[d6.int_inv]at e6
  rw[d7.str_inv]at e7
  rw[d8.int_inv]at e8
  obtain⟨e2,e3⟩:=(hs j).1 hj
  simp only[←Nat.add_assoc,Nat.add_zero]at e0 e1 e4 e5 e6 e7 e8
  exact⟨e0,e1,e2,e3,e4,e5,e6,e7,e8⟩
 refine(value_calls w b o l.length cap a (fun x=>⟨(l.getD x default).num.toArray⟩) (fun x=>⟨(l.getD x default).label.toArray⟩) (fun x=>⟨(l.getD x default).link.toArray⟩) a2 a3 n2 k2 n3 k3 (fun x=>(l.getD x default).mark) (fun x=>(l.getD x default).follow) (fun x=>(l.getD x default).loops) (fun x=>(l.getD x default).block) t0 t1 (.int .i64 q.chan) (.int .i64 q.attr)
  (fun x=>((movF (l.getD x default).moves q).getD ⟨-1,0⟩).pal) (fun x=>((movF (l.getD x default).moves q).getD ⟨-1,0⟩).lev) (fun x=>(movF (l.getD x default).moves q).isSome) (by omega) hb ha hbox hmove hhome).mono fun e W' ⟨he,hB⟩=>?_
 have hmem:∀{k j:Nat},j<k→(a-j)∈dnL a k:=fun {k j} hj=>by unfold dnL;exact List.mem_map.2 ⟨j,List.mem_range.2 hj,rfl⟩
 rcases he with⟨k,h1,h2,h3,h4,rfl⟩|⟨k,h1,h2,h3,h4,rfl⟩
 ·refine⟨_,rfl,fun w' A'=>?_,hB⟩
  have hk0:0<k:=by rcases h3 with h3|h3<;>omega
  have hn:∀j,j<k→movF (l.getD (a-j) default).moves q=none:=fun j hj=>by
   have:=h2 _ (hmem hj)
   cases hx:movF (l.getD (a-j) default).moves q with
   |none=>rfl
   |some v=>rw[hx]at this;simp at this
  have e1:=valF_at (l:=l) (q:=q) (a:=a) (k:=k-1) (by omega) (fun j hj=>⟨hn j (by omega),by have:=h4 (j+1) (by omega) (by omega);rwa [show a+1-(j+1)=a-j by omega]at this⟩)
  have e2:valF l q (a-(k-1))=⟨-1,0⟩:=by
   have hz:=hn (k-1) (by omega)
   cases hy:a-(k-1) with
   |zero=>rw[valF];rw[hy]at hz;rw[hz];rfl
   |succ y =>
    rw[hy]at hz
    rw[valF,hz]
    rcases h3 with h3|⟨_,h3⟩
    ·omega
    ·rw[show a+1-k=y+1 by omega]at h3
     simp only[h3,if_true]
  rw[e1,e2]
  exact prm_rep
 ·refine⟨_,rfl,fun w' A'=>?_,hB⟩
  have hn:∀j,j<k→movF (l.getD (a-j) default).moves q=none:=fun j hj=>by
   have:=h2 _ (hmem hj)
   cases hx:movF (l.getD (a-j) default).moves q with
   |none=>rfl
   |some v=>rw[hx]at this;simp at this
  have e1:=valF_at (l:=l) (q:=q) (a:=a) (k:=k) (by omega) (fun j hj=>⟨hn j hj,by have:=h4 (j+1) (by omega) (by omega);rwa [show a+1-(j+1)=a-j by omega]at this⟩)
  rw[e1]
  obtain⟨v,hv⟩:=Option.isSome_iff_exists.1 h3
  have e2:valF l q (a-k)=v:=by
   cases hy:a-k with
   |zero=>rw[valF];rw[hy]at hv;rw[hv];rfl
   |succ y=>rw[hy]at hv;rw[valF,hv]
  rw[e2]
  simp only[hv,Option.getD_some]
  exact prm_rep
end Go.Proofs.YtdkokbhcjmapdaaGreatDoor

namespace Go.Proofs.YtdkokbhcjmapdaaGreatDoor
open Go.Sha Go.RowKit
open Go.Lib (below_grow)
set_option maxRecDepth 100000
variable {g:List (Nat×Obj)}{n:Nat}
theorem intsB_eq {k:IntKind}:∀{zs:List Int}{vs:List Value},intsB k zs vs=true→vs=zs.map fun z=>Value.int k z
 |[],[],_=>rfl
 |[],_::_,h=>by cases h
 |z::zs,v::vs,h=>by
  unfold intsB at h
  split at h
  ·rename_i h1 h2;cases h1
  ·rename_i z' zs' j n' r h1 h2
   cases h1;cases h2
   simp only[Bool.and_eq_true,decide_eq_true_eq]at h
   obtain⟨⟨h3,h4⟩,h5⟩:=h
   subst h3;subst h4
   rw[intsB_eq h5];rfl
  ·cases h
 |z::zs,[],h=>by unfold intsB at h;cases h
theorem tab_at {gl:List (Nat×Obj)}{v:Nat}{k:IntKind}{zs:List Int}(h:gl.any (tabB v k zs)=true):∃T fz,(v,Obj.cells (zs.map fun z=>Value.int k z).toArray T fz)∈gl:=by
 obtain⟨p,hp,hh⟩:=List.any_eq_true.1 h
 obtain⟨i,o⟩:=p
 simp only[tabB,Bool.and_eq_true,decide_eq_true_eq]at hh
 obtain⟨hi,hh⟩:=hh
 subst hi
 split at hh
 ·rename_i cs T fz
  have:=intsB_eq hh
  refine⟨T,fz,?_⟩
  rw[←this]
  exact hp
 ·cases hh
theorem tab_is {w:World}{A:Abs}{st:St}(hw:Sim w A st){v:Nat}{name:String}{k:IntKind}{zs:List Int}(hn:Tryz.prog.globalNamed name=some v)(h:st.x.gl.any (tabB v k zs)=true):Lib.TabIs Tryz.prog w name k zs:=by
 obtain⟨T,fz,hm⟩:=tab_at h
 have:=(hw.x.gl _ hm).1
 simp only[Lib.TabIs,World.var?,hn,Option.bind_some,this]
theorem callable73:Callable Tryz.prog 73:=⟨_,Tryz.func73,by kernel_rfl,by kernel_rfl⟩
theorem v73 {n:Int}(h0:-9223372036854775808≤n)(h1:n≤9223372036854775807){st:St}(hG:glB st.x.gl=true):VRet Tryz.prog 73 [.int .i64 n] st (.str (Lib.itoa n)) st:=by
 simp only[glB,Bool.and_eq_true]at hG
 refine VRet_of_below callable73 (fun w A vs hw ha=>?_)
 obtain⟨u,rfl,h2⟩:=ha.one
 have e1:=h2.int_inv
 subst e1
 refine(Tryz.strconv_Itoa n h0 h1 w (tab_is hw (by kernel_rfl) hG.1)).mono fun e w' ⟨he,k,os,hw'⟩=>?_
 subst he
 exact⟨_,rfl,fun _ _=>.str _,by rw[hw'];exact below_grow _ w (Nat.le_refl _) k os⟩
theorem callable62:Callable Tryz.prog 62:=⟨_,Tryz.func62,by kernel_rfl,by kernel_rfl⟩
theorem v62 {s:List UInt8}{n:Int}(h0:0≤n)(hn:n≤1000000)(h1:s.length*n.toNat≤1000000){st:St}:VRet Tryz.prog 62 [.str s,.int .i64 n] st (.str (Lib.repeatL s n.toNat)) st:=by
 refine VRet_of_below callable62 (fun w A vs hw ha=>?_)
 obtain⟨hl,ha⟩:=ha
 match vs,hl with
 |[u,v],_ =>
 have e1:=(ha 0 u _ rfl rfl).str_inv
 have e2:=(ha 1 v _ rfl rfl).int_inv
 subst e1;subst e2
 obtain⟨m,rfl⟩:∃m:Nat,n=m:=⟨n.toNat,by omega⟩
 rw[Int.toNat_natCast]at h1 ⊢
 refine(Tryz.strings_Repeat ⟨s.toArray⟩ m w (by omega) (by simp[ByteArray.size];omega)).mono fun e w' ⟨he,hb⟩=>?_
 subst he
 exact⟨_,rfl,fun _ _=>.str _,hb⟩
theorem callable54:Callable Tryz.prog 54:=⟨_,Tryz.func54,by kernel_rfl,by kernel_rfl⟩
theorem strsV_map:∀{l:List V}{ss:List (List UInt8)},strsV l=some ss→l=ss.map .str
 |[],ss,h=>by cases h;rfl
 |v::r,ss,h=>by
  unfold strsV at h
  split at h
  ·rename_i h1;cases h1
  ·rename_i s r' h1
   cases h1
   obtain⟨x,hx,rfl⟩:=Option.map_eq_some_iff.1 h
   rw[strsV_map hx];rfl
  ·cases h
theorem v54 {ss:List (List UInt8)}{t:List UInt8}(hn:ss.length≤1000000)(hl:(Lib.join ss t).length≤100000000000){st:St}:VRet Tryz.prog 54 [.sl (ss.map .str),.str t] st (.str (Lib.join ss t)) st:=by
 refine VRet_of_below callable54 (fun w A vs hw ha=>?_)
 obtain⟨hlen,ha⟩:=ha
 match vs,hlen with
 |[u,v],_ =>
 have h1:=ha 0 u _ rfl rfl
 have e2:=(ha 1 v _ rfl rfl).str_inv
 subst e2
 have hbytes:(ss.map fun l=>(⟨l.toArray⟩:ByteArray)).map (·.data.toList)=ss:=by simp[Function.comp_def]
 generalize hd:V.sl (ss.map .str)=d at h1
 cases h1 with
 |sl ys b o cap es cell hes hcap hm hC hr =>
  cases hd
  cases hss:ss with
  |nil =>
   subst hss
   refine(Tryz.strings_Join_none _ cap ⟨t.toArray⟩ w).mono fun e w' ⟨he,hb⟩=>?_
   subst he;subst hb
   exact⟨_,rfl,fun _ _=>.str _,Below.refl _ _⟩
  |cons x r =>
   rw[←hss]
   have e1:es=1:=(hes (.str x) (by rw[hss];simp)).symm.trans rfl
   subst e1
   have hbk:b<w.heap.size:=by
    have hx0:(ss.map V.str)[0]?=some (.str x):=by rw[hss];rfl
    exact hw.Clt _ _ (hC 0 0 _ _ hx0 rfl).1
   have:=Tryz.strings_Join b o cap (ss.map fun l=>(⟨l.toArray⟩:ByteArray)) ⟨t.toArray⟩ w (fun j y hj=>?_) hbk (by rw[List.length_map];omega) (by rw[List.length_map];rw[List.length_map]at hcap;exact hcap) (by rw[hbytes];show(Lib.join ss t).length≤_;omega)
   ·rw[hbytes,List.length_map]at this
    rw[List.length_map]
    refine this.mono fun e w' ⟨he,hb⟩=>?_
    subst he
    exact⟨_,rfl,fun _ _=>.str _,hb⟩
   ·rw[List.getElem?_map]at hj
    obtain⟨l,hl1,rfl⟩:=Option.map_eq_some_iff.1 hj
    have hjx:(ss.map V.str)[j]?=some (.str l):=by rw[List.getElem?_map,hl1];rfl
    obtain⟨_,g2,_⟩:=hC j 0 _ _ hjx rfl
    have g3:=hr j 0 _ _ hjx rfl
    rw[g3.str_inv]at g2
    simpa using g2
 |slnil a =>
  have hss:ss=[]:=by
   cases ss with
   |nil=>rfl
   |cons x r=>cases hd
  subst hss
  refine(Tryz.strings_Join_none _ _ ⟨t.toArray⟩ w).mono fun e w' ⟨he,hb⟩=>?_
  subst he;subst hb
  exact⟨_,rfl,fun _ _=>.str _,Below.refl _ _⟩
 |_=>cases hd
theorem weak_back {st:St}(h:st.Wf){a:Arr}:Weak st.nx ⟨st.nx+1,st.mem,(st.nx,a)::st.arr,st.x⟩ st where
 nx:=rfl
 le:=Nat.le_succ _
 mem id cs hl:=⟨(h.mem id cs hl).1,hl⟩
 arr id a' hl:=⟨(h.arr id a' hl).1,by
  have:=(h.arr id a' hl).1
  simp only[Sha.look];rw[if_neg (by omega)];exact hl⟩
 bdm id cs hl:=(h.mem id cs hl).2
 bda id a' hl:=(h.arr id a' hl).2
 x:=⟨fun id o hl=>⟨(h.x id o hl).1,hl⟩,rfl,fun id T hl=>⟨h.t id T hl,hl⟩⟩
 bdx id o hl:=(h.x id o hl).2
theorem fresh_sl {w:World}{A:Abs}{st:St}(hw:Sim w A st)(l:List (List UInt8))(hl:l.length≤1000000):∃r A' st',(r=.ret (.sl (l.map .str))∧st'=st)∧EndRel (w.alloc (.cells (l.map fun l=>Value.string ⟨l.toArray⟩).toArray 9)) A' (.returned (.slice (some ⟨w.heap.size,0,none⟩) l.length l.length)) r∧Sim (w.alloc (.cells (l.map fun l=>Value.string ⟨l.toArray⟩).toArray 9)) A' st'∧Ext w A (w.alloc (.cells (l.map fun l=>Value.string ⟨l.toArray⟩).toArray 9)) A':=by
 have h1:=Sim.newArr (w0:=w) (cur:=(l.map fun l=>Value.string ⟨l.toArray⟩).toArray) (xs:=l.map V.str) (e:=9) (es:=1) (cap:=l.length) (wr:=false) (fz:=false) hw ⟨rfl,rfl,rfl,rfl⟩ (fun x hx=>by obtain⟨y,_,rfl⟩:=List.mem_map.1 hx;rfl) (by rw[List.length_map];exact Nat.le_refl _) (by unfold maxLen;omega) (by simp) (fun i j x c hi hj=>by
  rw[List.getElem?_map]at hi
  obtain⟨y,hy,rfl⟩:=Option.map_eq_some_iff.1 hi
  cases j with
  |zero=>simp[V.cells]at hj;subst hj;exact⟨_,by simp[hy],rfl,.str _⟩
  |succ j=>simp[V.cells]at hj)
 have hx:=Ext.newArr (w0:=w) hw ⟨rfl,rfl,rfl,rfl⟩ (.cells (l.map fun l=>Value.string ⟨l.toArray⟩).toArray 9) (l.map V.str).length (.slice (some ⟨w.heap.size,0,none⟩) (l.map V.str).length l.length) (!false) ((l.map V.str).length*1)
 have hR:Rep (w.alloc (.cells (l.map fun l=>Value.string ⟨l.toArray⟩).toArray 9)) (A.newArr w.heap.size (l.map V.str).length (.slice (some ⟨w.heap.size,0,none⟩) (l.map V.str).length l.length) (!false) ((l.map V.str).length*1)) (.slice (some ⟨w.heap.size,0,none⟩) (l.map V.str).length l.length) (.osl A.nx (l.map V.str).length):=Rep.newArr
 have hS:=snapA_rep h1 hR (d':=.sl (l.map V.str)) (by rw[←hw.nx];simp[snapA_osl,Sha.look,snapO])
 have hown0:∀b id,A.own b=some id→id<A.nx:=fun b id h=>(hw.ownlt b id h).2
 refine⟨_,_,_,⟨rfl,rfl⟩,?_,h1.cut (weak_back hw.wf),hx.cut hown0 (by rw[←hw.nx];exact Nat.le_refl _)⟩
 have:=hS.cut (n:=st.nx) (by simp[V.bd,bdL_map'])
 rw[List.length_map]at this ⊢
 exact this
theorem cntF_le:∀(l:List UInt8) (b:Bool),Lib.cntF b l≤l.length
 |[],_=>Nat.le_refl _
 |x::l,b=>by
  have:=cntF_le l (Lib.isSp x)
  unfold Lib.cntF
  rw[List.length_cons]
  split<;>omega
theorem callable201:Callable Tryz.prog 201:=⟨_,Tryz.func201,by kernel_rfl,by kernel_rfl⟩
theorem v201 {s:List UInt8}(h1:s.length≤1000)(h2:∀b∈s,b.toNat<128){st:St}(hG:glB st.x.gl=true):VRet Tryz.prog 201 [.str s] st (.sl ((Lib.fields s).map .str)) st:=by
 simp only[glB,Bool.and_eq_true]at hG
 refine .inl ⟨callable201,fun w A vs hw ha=>?_⟩
 obtain⟨u,rfl,h3⟩:=ha.one
 have e1:=h3.str_inv
 subst e1
 refine(Tryz.strings_Fields ⟨s.toArray⟩ w (by simp[ByteArray.size];omega) (fun j b hj=>h2 b (List.mem_of_getElem? hj)) (tab_is hw (by kernel_rfl) hG.2)).mono fun e w' ⟨he,hb⟩=>?_
 subst he
 change w'=w.alloc (.cells ((Lib.fields s).map fun l=>Value.string ⟨l.toArray⟩).toArray 9) at hb
 subst hb
 exact fresh_sl hw (Lib.fields s) (by rw[Lib.fields_length];have:=cntF_le s true;omega)
def oddR (r:Nat):Bool:=decide (r<32)||decide (126<r)
theorem pred129 (w:World):PredAt Tryz.prog 176 #[] encR oddR w:=fun W r _=>by
 unfold FnGives
 by_cases h1:r<32<;>by_cases h2:126<r
 all_goals
  have z1:(r:Int)<32↔r<32:=by omega
  have z2:(126:Int)<(r:Int)↔126<r:=by omega
  go_enter Tryz.func176,Tryz.ntmps176
  go_wp2
  all_goals first|(exfalso;omega)|(go_ret;exact⟨by simp[oddR,h1,h2],0,rfl⟩)
theorem v239' (s:List UInt8)(st:St):VRet Tryz.prog 239 [.str s,.fn (.func 176) [] [],.bool true] st (.int .i64 (Lib.idxFunc oddR true ⟨s.toArray⟩)) st:=by
 refine VRet_of_below callable239 (fun w A vs hw ha=>?_)
 obtain⟨hl,ha⟩:=ha
 match vs,hl with
 |[v0,v1,v2],_ =>
 have e0:=(ha 0 v0 _ rfl rfl).str_inv
 have r1:=ha 1 v1 _ rfl rfl
 have e2:=(ha 2 v2 _ rfl rfl).bool_inv
 have e1:v1=.func (.func 176) #[] #[]:=by
  cases r1 with
  |fn _ vs us _ _ e1 e2 _ _ =>
   have h1:vs=[]:=List.eq_nil_of_length_eq_zero e1
   have h2:us=[]:=List.eq_nil_of_length_eq_zero e2
   rw[h1,h2]
 subst e0;subst e1;subst e2
 refine(Tryz.strings_indexFunc 176 #[] (enters_of Tryz.func176 (by kernel_rfl) rfl) oddR true ⟨s.toArray⟩ w (pred129 w)).mono fun e w' ⟨he,hb⟩=>?_
 subst he
 exact⟨_,rfl,fun w' A'=>.int _ _,hb⟩
theorem odd_from (s:ByteArray):∀(f pos:Nat),s.size≤pos+f→Lib.idxFuncFrom oddR true s f pos=match(s.data.toList.drop pos).findIdx? (fun b=>!plainB b) with|some i=>((pos+i:Nat):Int)|none=>-1
 |0,pos,h=>by
  rw[List.drop_eq_nil_of_le (by rw[Array.length_toList];exact h)];rfl
 |f+1,pos,h=>by
  unfold Lib.idxFuncFrom
  by_cases hp:pos<s.size
  ·have hp':pos<s.data.toList.length:=by rw[Array.length_toList];exact hp
   have hb:s.data.toList[pos]'hp'=s[pos]'hp:=rfl
   rw[if_pos hp,List.drop_eq_getElem_cons hp',List.findIdx?_cons,hb]
   by_cases ha:(s[pos]'hp).toNat<128
   ·rw[decode_ascii s pos hp ha]
    have ih:=odd_from s f (pos+1) (by omega)
    cases hd:plainB (s[pos]'hp) with
    |true =>
     have:¬oddR (s[pos]'hp).toNat=true:=by
      simp only[plainB,Bool.and_eq_true,decide_eq_true_eq]at hd
      simp only[oddR,Bool.or_eq_true,decide_eq_true_eq];omega
     rw[if_neg this,ih]
     simp only[Bool.not_true,Bool.false_eq_true,if_false]
     cases(s.data.toList.drop (pos+1)).findIdx? (fun b=>!plainB b) with
     |none=>rfl
     |some i=>show((pos+1+i:Nat):Int)=((pos+(i+1):Nat):Int);rw[show pos+1+i=pos+(i+1) by omega]
    |false =>
     have:oddR (s[pos]'hp).toNat=true:=by
      simp only[plainB,Bool.and_eq_false_iff,decide_eq_false_iff_not]at hd
      simp only[oddR,Bool.or_eq_true,decide_eq_true_eq];omega
     rw[if_pos this]
     simp
   ·obtain⟨h1,h2⟩:=decode_high s pos hp (by omega)
    have:oddR (Utf8.decode s pos).1=true:=by
     simp only[oddR,Bool.or_eq_true,decide_eq_true_eq];omega
    have hd:plainB (s[pos]'hp)=false:=by
     simp only[plainB,Bool.and_eq_false_iff,decide_eq_false_iff_not];omega
    rw[if_pos this,hd]
    simp
  ·rw[if_neg hp,List.drop_eq_nil_of_le (by rw[Array.length_toList];exact Nat.le_of_not_lt hp)];rfl
theorem odd_idx (s:List UInt8):Lib.idxFunc oddR true ⟨s.toArray⟩=oddI s:=by
 have:=odd_from ⟨s.toArray⟩ s.length 0 (by simp[ByteArray.size])
 have e:Lib.idxFunc oddR true ⟨s.toArray⟩=Lib.idxFuncFrom oddR true ⟨s.toArray⟩ s.length 0:=by simp[Lib.idxFunc,ByteArray.size]
 rw[e,this]
 unfold oddI
 simp only[List.drop_zero]
 cases s.findIdx? (fun b=>!plainB b) with
 |none=>rfl
 |some i=>simp
def q239':List V→Option VRes
 |[.str s,.fn (.func 176) [] [],.bool true]=>some (.ret (.int .i64 (Lib.idxFunc oddR true ⟨s.toArray⟩)))
 |_=>none
def HL1:EvF:=⟨[],fun f args st=>(bif Nat.beq f 239 then q239' args else none).map fun r=>(r,st)⟩
@[push_cast]theorem HL1_raw:HL1.raw=[]:=idq rfl
theorem HL1_ok:ESound Tryz.prog HL1:=fun f args st r s h=>by
 obtain⟨z,hz,e⟩:=Option.map_eq_some_iff.1 h
 cases e
 by_cases h3:f=239
 ·subst h3
  rw[show Nat.beq 239 239=true from rfl,cond_true]at hz
  unfold q239' at hz
  split at hz<;>cases hz
  exact v239' _ _
 rw[show Nat.beq f 239=false from Bool.eq_false_iff.2 fun e=>h3 (Nat.eq_of_beq_eq_true e),cond_false]at hz
 cases hz
theorem v177 {s:List UInt8}{st:St}:VRet Tryz.prog 177 [.str s,.fn (.func 176) [] []] st (.int .i64 (oddI s)) st:=by
 have h:∀st,run Tryz.prog HL1 239 [.str s,.fn (.func 176) [] [],.bool true] st=some (.ret (.int .i64 (Lib.idxFunc oddR true ⟨s.toArray⟩)),st):=fun st=>run_H rfl
 have h2:run Tryz.prog HL1 177 [.str s,.fn (.func 176) [] []] st=some (.ret (.int .i64 (oddI s)),st):=by
  rw[run_shut F177 rfl rfl rfl]
  push_cast[h,odd_idx]
 exact run_sound mixed HL1_ok _ _ _ _ _ h2
theorem HH_ok:ESound Tryz.prog HH:=fun f args st r s h=>by
 simp only[HH]at h
 by_cases h1:f=126
 ·subst h1
  rw[show Nat.beq 126 126=true from rfl,cond_true]at h
  unfold hSort at h
  split at h
  ·rename_i id n
   unfold hSortA at h
   split at h
   ·rename_i r0 hr
    split at h
    ·rename_i hc
     cases h
     obtain⟨c1,c2,c3,c4,c5⟩:=hc
     subst c1
     exact v126 hr c3 c4 c2 c5
    ·cases h
   ·cases h
  ·cases h
 rw[show Nat.beq f 126=false from Bool.eq_false_iff.2 fun e=>h1 (Nat.eq_of_beq_eq_true e),cond_false]at h
 obtain⟨z,hz,e⟩:=Option.map_eq_some_iff.1 h
 cases e
 by_cases h1:f=117
 ·subst h1
  rw[show Nat.beq 117 117=true from rfl,cond_true]at hz
  unfold hCut at hz
  split at hz
  ·split at hz
   ·rename_i hl;cases hz;exact run_sound mixed HL0_ok _ _ _ _ _ (k117 hl)
   ·cases hz
  ·cases hz
 rw[show Nat.beq f 117=false from Bool.eq_false_iff.2 fun e=>h1 (Nat.eq_of_beq_eq_true e),cond_false]at hz
 by_cases h1:f=121
 ·subst h1
  rw[show Nat.beq 121 121=true from rfl,cond_true]at hz
  unfold hSuf at hz
  split at hz
  ·split at hz
   ·rename_i hl;cases hz;exact run_sound mixed HL0_ok _ _ _ _ _ (k121 hl.1 hl.2)
   ·cases hz
  ·cases hz
 rw[show Nat.beq f 121=false from Bool.eq_false_iff.2 fun e=>h1 (Nat.eq_of_beq_eq_true e),cond_false]at hz
 by_cases h1:f=186
 ·subst h1
  rw[show Nat.beq 186 186=true from rfl,cond_true]at hz
  unfold hAny at hz
  split at hz
  ·cases hz;exact run_sound mixed HL0_ok _ _ _ _ _ k186
  ·cases hz
 rw[show Nat.beq f 186=false from Bool.eq_false_iff.2 fun e=>h1 (Nat.eq_of_beq_eq_true e),cond_false]at hz
 by_cases h1:f=378
 ·subst h1
  rw[show Nat.beq 378 378=true from rfl,cond_true]at hz
  unfold hAtoi at hz
  split at hz
  ·split at hz
   ·rename_i hl;cases hz;exact v378 _ _ hl.1 hl.2.1 hl.2.2
   ·cases hz
  ·cases hz
 rw[show Nat.beq f 378=false from Bool.eq_false_iff.2 fun e=>h1 (Nat.eq_of_beq_eq_true e),cond_false]at hz
 by_cases h1:f=327
 ·subst h1
  rw[show Nat.beq 327 327=true from rfl,cond_true]at hz
  unfold hTrim at hz
  split at hz
  ·split at hz
   ·rename_i hl
    obtain⟨e1,e2⟩:=hl
    subst e1
    cases hz;exact run_sound mixed HL0_ok _ _ _ _ _ (k327 e2)
   ·cases hz
  ·cases hz
 rw[show Nat.beq f 327=false from Bool.eq_false_iff.2 fun e=>h1 (Nat.eq_of_beq_eq_true e),cond_false]at hz
 by_cases h1:f=73
 ·subst h1
  rw[show Nat.beq 73 73=true from rfl,cond_true]at hz
  unfold hItoa at hz
  split at hz
  ·split at hz
   ·rename_i hl
    simp only[Bool.and_eq_true,decide_eq_true_eq]at hl
    cases hz;exact v73 hl.1.1 hl.1.2 hl.2
   ·cases hz
  ·cases hz
 rw[show Nat.beq f 73=false from Bool.eq_false_iff.2 fun e=>h1 (Nat.eq_of_beq_eq_true e),cond_false]at hz
 by_cases h1:f=62
 ·subst h1
  rw[show Nat.beq 62 62=true from rfl,cond_true]at hz
  unfold hRep at hz
  split at hz
  ·split at hz
   ·rename_i hl
    simp only[Bool.and_eq_true,decide_eq_true_eq]at hl
    cases hz;exact v62 hl.1.1 hl.1.2 hl.2
   ·cases hz
  ·cases hz
 rw[show Nat.beq f 62=false from Bool.eq_false_iff.2 fun e=>h1 (Nat.eq_of_beq_eq_true e),cond_false]at hz
 by_cases h1:f=54
 ·subst h1
  rw[show Nat.beq 54 54=true from rfl,cond_true]at hz
  unfold hJoin at hz
  split at hz
  ·split at hz
   ·rename_i ss hs
    split at hz
    ·rename_i hl
     simp only[Bool.and_eq_true,decide_eq_true_eq]at hl
     cases hz;exact strsV_map hs▸v54 hl.1 hl.2
    ·cases hz
   ·cases hz
  ·cases hz
 rw[show Nat.beq f 54=false from Bool.eq_false_iff.2 fun e=>h1 (Nat.eq_of_beq_eq_true e),cond_false]at hz
 by_cases h1:f=201
 ·subst h1
  rw[show Nat.beq 201 201=true from rfl,cond_true]at hz
  unfold hFields at hz
  split at hz
  ·split at hz
   ·rename_i hl
    simp only[Bool.and_eq_true,decide_eq_true_eq,List.all_eq_true]at hl
    cases hz;exact v201 hl.1.1 hl.1.2 hl.2
   ·cases hz
  ·cases hz
 rw[show Nat.beq f 201=false from Bool.eq_false_iff.2 fun e=>h1 (Nat.eq_of_beq_eq_true e),cond_false]at hz
 by_cases h1:f=243
 ·subst h1
  rw[show Nat.beq 243 243=true from rfl,cond_true]at hz
  unfold hIdx at hz
  split at hz
  ·cases hz;exact v243 _ _ _
  ·cases hz
 rw[show Nat.beq f 243=false from Bool.eq_false_iff.2 fun e=>h1 (Nat.eq_of_beq_eq_true e),cond_false]at hz
 by_cases h1:f=177
 ·subst h1
  rw[show Nat.beq 177 177=true from rfl,cond_true]at hz
  unfold hOdd at hz
  split at hz
  ·cases hz;exact v177
  ·cases hz
 rw[show Nat.beq f 177=false from Bool.eq_false_iff.2 fun e=>h1 (Nat.eq_of_beq_eq_true e),cond_false]at hz
 by_cases h1:f=191
 ·subst h1
  rw[show Nat.beq 191 191=true from rfl,cond_true]at hz
  unfold hVal at hz
  split at hz
  ·rename_i x y cs a c d
   split at hz
   ·rename_i l hl
    split at hz
    ·rename_i hc
     simp only[Bool.and_eq_true,decide_eq_true_eq,List.all_eq_true]at hc
     obtain⟨⟨⟨⟨c1,c2⟩,c3⟩,c4⟩,c5⟩:=hc
     cases hz
     have ea:a=(a.toNat:Int):=by omega
     have:=v191 x y l a.toNat ⟨c,d⟩ st (by omega) c3 c4 (fun z hz=>(c5 z hz).1) (fun z hz=>by have:=(c5 z hz).2;omega)
     rw[←ea,←rdL_map rdCu_v hl]at this
     exact this
    ·cases hz
   ·cases hz
  ·cases hz
 rw[show Nat.beq f 191=false from Bool.eq_false_iff.2 fun e=>h1 (Nat.eq_of_beq_eq_true e),cond_false]at hz
 cases hz
end Go.Proofs.YtdkokbhcjmapdaaGreatDoor

namespace Go.Proofs.YtdkokbhcjmapdaaGreatDoor
open Go.Sha
set_option maxRecDepth 100000
theorem thS_C:shoC thS=0:=by kernel_rfl
theorem thS_par:parS thS=[⟨1,0⟩,⟨1,1⟩,⟨2,0⟩,⟨2,1⟩]:=by
 rw[parS,if_pos thS_C,par_eq (fix_chan thS_C)];kernel_rfl
theorem thS_ok:thS.ok:=by
 refine⟨by decide,⟨by decide,by simp[thS,theatre]⟩,⟨by decide,?_,?_⟩,⟨by decide,?_⟩,⟨by decide,by simp[thS,theatre]⟩,⟨by decide,?_⟩,⟨by decide,?_⟩,⟨by decide,by simp[thS,theatre]⟩,⟨by decide,by simp[thS,theatre]⟩⟩
 ·intro q hq;simp[thS,theatre]at hq;subst hq;exact⟨by decide,by simp,by decide⟩
 ·intro q hq;simp[thS,theatre]at hq;subst hq;exact⟨by decide,fun z hz=>by simp at hz;rcases hz with rfl|rfl<;>exact⟨by decide,by simp⟩,by decide⟩
 ·intro q hq;simp[thS,theatre]at hq;rcases hq with rfl|rfl<;>decide
 ·intro q hq;simp[thS,theatre]at hq;subst hq;decide
 ·intro q hq;simp[thS]at hq;subst hq;exact⟨by decide,fun z hz=>by simp at hz;subst hz;exact⟨by decide,by decide,by decide,by decide,by decide⟩⟩
theorem HK_ok:ESound Tryz.prog HK:=fun f args st r s h=>by
 simp only[HK]at h
 by_cases h1:f=178
 ·subst h1
  rw[show Nat.beq 178 178=true from rfl,cond_true]at h
  obtain⟨z,hz,e⟩:=Option.map_eq_some_iff.1 h
  cases e
  unfold hNoE at hz
  split at hz
  ·cases hz;exact noEscape_v Tryz.func178 (by kernel_rfl) (by kernel_rfl) (by kernel_rfl) (by kernel_rfl) _ _
  ·cases hz
 rw[show Nat.beq f 178=false from Bool.eq_false_iff.2 fun e=>h1 (Nat.eq_of_beq_eq_true e),cond_false]at h
 by_cases h1:f=67
 ·subst h1
  rw[show Nat.beq 67 67=true from rfl,cond_true]at h
  obtain⟨z,hz,e⟩:=Option.map_eq_some_iff.1 h
  cases e
  unfold hPar at hz
  split at hz
  ·split at hz
   ·rename_i hb
    cases V.beq_eq _ _ hb
    cases hz
    have:=v67 HH_ok thS_ok (st:=st)
    rw[thS_par,thS_C]at this
    exact this
   ·cases hz
  ·cases hz
 rw[show Nat.beq f 67=false from Bool.eq_false_iff.2 fun e=>h1 (Nat.eq_of_beq_eq_true e),cond_false]at h
 exact HH_ok _ _ _ _ _ h
end Go.Proofs.YtdkokbhcjmapdaaGreatDoor

namespace Go.Proofs.YtdkokbhcjmapdaaGreatDoor
set_option maxRecDepth 100000
open Go.Sha Go.ChangeShapes Go.WideShapes Go.ChangeAt Go.RowKit
theorem laid_glK {laid:List (String×DataW Unit)}{W:World}(hn:(laid.all fun x=>x.2.handleName?.isNone)=true)(m2:("strings.asciiSpace",Rows.laid_strings_asciiSpace)∈laid)(m3:("internal/strconv.uint64pow10",Rows.laid_internal_strconv_uint64pow10)∈laid)
  (h:laidMetH Tryz.prog laid W) (hs:W.ShapedOpen Tryz.prog):∃v,∀p∈glK v,W.heap[p.1]?=some p.2:=by
 rw[MakeChecks.laidMetH_plain _ _ _ hn]at h
 obtain⟨ps,hv,_⟩:=h
 obtain⟨g2,t2,cs2,T2,fz2,f2,p2,a2,b2,c2,d2⟩:=vars_read hv _ _ m2
 obtain⟨g3,t3,cs3,T3,fz3,f3,p3,a3,b3,c3,d3⟩:=vars_read hv _ _ m3
 obtain⟨m,hm⟩:=int_of_shape (zero:=#[.int .i64 0]) (g:=1) (t:=3) (k:=.i64) hs (of_decide_eq_true (by kernel_rfl)) (by kernel_rfl) rfl (by kernel_rfl) (by kernel_rfl) Tryz.underlying3
 have q2:(Rows.laid_strings_asciiSpace:DataW Unit)=Lib.tabData .u8 Lib.asciiSpaceTab:=by kernel_rfl
 have q3:(Rows.laid_internal_strconv_uint64pow10:DataW Unit)=Lib.tabData .u64 Lib.pow10Tab:=by kernel_rfl
 rw[q2]at d2
 rw[q3]at d3
 have k2:Tryz.prog.globalNamed "strings.asciiSpace"=some 0:=by kernel_rfl
 have k3:Tryz.prog.globalNamed "internal/strconv.uint64pow10"=some 3:=by kernel_rfl
 obtain rfl:=Option.some.inj (k2.symm.trans a2)
 obtain rfl:=Option.some.inj (k3.symm.trans a3)
 have u2:(match(Tryz.prog.globals[0]?).map (·.type) with|some t=>(match Tryz.prog.underlying t with|some (.array m e)=>decide (m=256)&&(match Tryz.prog.underlying e with|some (.int k')=>decide (k'=.u8)|_=>false)&&decide (Tryz.prog.cellsOf e=1)&&decide (Tryz.prog.cellsOf t=256)|_=>false)|none=>false)=true:=by kernel_rfl
 have u3:(match(Tryz.prog.globals[3]?).map (·.type) with|some t=>(match Tryz.prog.underlying t with|some (.array m e)=>decide (m=20)&&(match Tryz.prog.underlying e with|some (.int k')=>decide (k'=.u64)|_=>false)&&decide (Tryz.prog.cellsOf e=1)&&decide (Tryz.prog.cellsOf t=20)|_=>false)|none=>false)=true:=by kernel_rfl
 rw[b2]at u2
 rw[b3]at u3
 have e2:=tab_read u2 d2
 have e3:=tab_read u3 d3
 subst e2;subst e3
 refine⟨⟨T3,T2,3,fz3,fz2,(0,0),m⟩,fun p hp=>?_⟩
 simp only[glK,List.mem_cons,List.not_mem_nil,or_false]at hp
 rcases hp with rfl|rfl|rfl
 ·exact c3
 ·exact c2
 ·exact hm
end Go.Proofs.YtdkokbhcjmapdaaGreatDoor

namespace Go.Proofs.YtdkokbhcjmapdaaGreatDoor
open Go.Sha
set_option maxRecDepth 100000
variable {g:List (Nat×Obj)}{n:Nat}
def stL (g:List (Nat×Obj))(n:Nat)(out:Row):St:=⟨n+1,[],[(n,⟨9,1,out.map .str,false,false⟩)],⟨[],g,[]⟩⟩
@[push_cast]theorem stL_eq {out:Row}:stL g n out=⟨n+1,[],[(n,⟨9,1,out.map .str,false,false⟩)],⟨[],g,[]⟩⟩:=idq rfl
end Go.Proofs.YtdkokbhcjmapdaaGreatDoor

namespace Go.Proofs.YtdkokbhcjmapdaaGreatDoor
open Go.Sha
set_option maxRecDepth 10000
def B99_0:Cd:=(.g [.b 13 .lss 12 11] (.join [1,5,10,11,12] (.i 13 .skip (.exit [5] 0)) (.join [1,5,10,11,12] (.block 1 (.g [.r 14 9 10 12,.d 15 9 14,.s 7 (.alloc 70 [(.str []),(.str []),.nils,.nils,(.bool false),(.bool false),.i 0,(.str []),.i 0]),.w 9 7 15] (.z [7] (.g [.m 16 1,.d 17 9 7,.s 18 (.call (.t 16) [.t 17])] (.i 18 (.reg [.m 19 5,.a 20 0 7,.l 21 20,.s 22 (.bslice 9 1 [.t 21]),.s 23 (.append 9 1 16 (.t 19) (.t 22)),.m 5 23]) .skip))))) (.reg [.v 24 .add 12 1,.m 12 24]))))
theorem F99:compF Tryz.prog 99=some ⟨26,[.tmp 4],(.g [.q 2 182 0,.s 4 (.mv (.c .nils))] (.z [2] (.g [.s 5 (.mv (.c .nils))] (.join [5] (.g [.a 8 0 2,.a 9 2 8,.l 10 9,.u 11 10,.c 12 0] (.block 0 (.loop [1,5,10,11,12] [(5,(9,1))] B99_0))) (.g [.m 25 5,.m 4 25] (.ret [4]))))))⟩:=by kernel_rfl
theorem F100:compF Tryz.prog 100=some ⟨12,[.tmp 3],(.g [.q 2 70 0,.k 3 false] (.z [2] (.join [3] (.reg [.l 4 1,.v 5 .gtr 4 0,.m 6 5,.ay 7 2 2 6,.ly 8 7 6,.y 9 (.mkfn (.func 102) [] [.t 1]) 6,.y 10 (.f 101 [.t 8,.t 9]) 6,.e 11 6 10,.m 3 11]) (.ret [3]))))⟩:=by kernel_rfl
theorem F102:compF Tryz.prog 102=some ⟨9,[.tmp 3],(.g [.q 2 124 0,.k 3 false] (.z [2] (.g [.a 4 2 2,.a 5 0 4,.l 6 5,.l 7 1,.b 8 .eql 6 7,.m 3 8] (.ret [3]))))⟩:=by kernel_rfl
theorem F53:compF Tryz.prog 53=some ⟨16,[.tmp 4,.tmp 5],(.g [.q 2 57 0,.q 3 3 1,.s 4 (.mv (.c .nils)),.c 5 0] (.z [2,3] (.join [2,3] (.g [.d 7 3 2,.f 8 98 7,.m 6 8] (.g [.m 9 6,.v 10 .neq 9 0] (.i 10 (.g [.m 11 6,.s 4 (.mv (.c .nils)),.m 5 11] (.ret [4,5])) .skip))) (.g [.d 12 3 2,.s 13 (.build [.i 0,.i 0,.nils] [(0,3,(.t 12))]),.s 14 (.mkfn (.func 100) [] [.t 3]),.g' 15 99 13 14,.m 4 15,.c 5 0] (.ret [4,5])))))⟩:=by kernel_rfl
theorem F33:compF Tryz.prog 33=some ⟨5,[.tmp 2],(.g [.s 2 (.mv (.w []))] (.g [.m 3 0,.f 4 73 3,.m 2 4] (.ret [2])))⟩:=by kernel_rfl
def B16_0:Cd:=(.g [.b 47 .lss 46 45] (.join [1,5,7,8,10,24,25,26,31,32,33,44,45,46] (.i 47 .skip (.exit [1,5,7,8,24,25,26,31,32,33] 4)) (.join [1,5,7,8,10,24,25,26,31,32,33,44,45,46] (.block 5 (.g [.r 48 1 44 46,.l 49 48,.m 14 49] (.reg [.m 50 8,.a 51 0 10,.l 52 51,.f 53 33 52,.s 54 (.bin .add (.t 53) (.w [32,47,32])),.m 55 14,.b 56 .add 54 55,.s 57 (.bslice 9 1 [.t 56]),.s 58 (.append 9 1 16 (.t 50) (.t 57)),.m 8 58]))) (.reg [.v 59 .add 46 1,.m 46 59]))))
def B16_1:Cd:=(.g [.b 34 .lss 33 32] (.join [1,5,7,8,24,25,26,31,32,33] (.i 34 .skip (.exit [1,5,7,8,24,25,26] 2)) (.join [1,5,7,8,24,25,26,31,32,33] (.block 3 (.g [.r 35 3 31 33,.d 36 3 35,.s 10 (.alloc 57 [.i 0,.i 0,.nils]),.w 3 10 36] (.z [10] (.g [.d 38 3 10,.a 39 0 7,.l 40 39,.g' 41 53 38 40,.m 37 41,.j 42 0 37,.j 43 1 37,.m 11 42,.m 12 43] (.g [.m 44 11,.u 45 44,.c 46 0] (.block 4 (.loop [1,5,7,8,10,24,25,26,31,32,33,44,45,46] [(8,(9,1))] B16_0))))))) (.reg [.v 60 .add 33 1,.m 33 60]))))
def B16_2:Cd:=(.g [.b 27 .lss 26 25] (.join [1,5,24,25,26] (.i 27 .skip (.exit [5] 0)) (.join [1,5,24,25,26] (.block 1 (.g [.r 28 2 24 26,.d 29 2 28,.s 7 (.alloc 101 [.i 0,.nils]),.w 2 7 29] (.z [7] (.g [.s 8 (.mv (.c .nils))] (.join [1,5,7,8,24,25,26] (.g [.a 30 6 1,.l 31 30,.u 32 31,.c 33 0] (.block 2 (.loop [1,5,7,8,24,25,26,31,32,33] [(8,(9,1))] B16_1))) (.greg [[],[],[],[],[],[],[],[],[],[],[false,false,false,false,false,false,false,false,false,true],[],[false,false,false,false,false,false,false,false,false,false,false,true],[false,false,false,false,false,false,false,false,false,false,false,false,false],[]] [.m 61 5,.a 62 0 7,.l 63 62,.f 64 33 63,.a 65 1 7,.l 66 65,.u 67 66,.f 68 33 67,.m 69 8,.s 70 (.f 54 [.t 69,(.w [44,32])]),.s 71 (.bslice 9 1 [.t 64,.t 68,.t 70]),.f 72 31 71,.s 73 (.bslice 59 1 [.t 72]),.s 74 (.append 59 1 24 (.t 61) (.t 73)),.m 5 74])))))) (.reg [.v 75 .add 26 1,.m 26 75]))))
theorem F16:compF Tryz.prog 16=some ⟨77,[.tmp 2,.tmp 3],(.g [.q 1 31 0,.s 2 (.mv (.c .nils)),.c 3 0] (.z [1] (.join [1] (.g [.d 15 9 1,.f 16 37 15,.m 4 16] (.g [.m 17 4,.v 18 .neq 17 0] (.i 18 (.g [.m 19 4,.s 2 (.mv (.c .nils)),.m 3 19] (.ret [2,3])) .skip))) (.g [.s 20 (.bslice 9 1 [(.w [112,97,108,101,116,116,101]),(.w [104,117,101,115]),(.w [99,117,101,115])]),.f 21 31 20,.s 22 (.bslice 59 1 [.t 21]),.m 5 22] (.join [5] (.g [.a 23 5 1,.l 24 23,.u 25 24,.c 26 0] (.block 0 (.loop [1,5,24,25,26] [(5,(59,1))] B16_2))) (.g [.m 76 5,.m 2 76,.c 3 0] (.ret [2,3])))))))⟩:=by kernel_rfl
end Go.Proofs.YtdkokbhcjmapdaaGreatDoor

namespace Go.Proofs.YtdkokbhcjmapdaaGreatDoor
open Go.Sha
set_option maxRecDepth 100000
variable {g:List (Nat×Obj)}{n:Nat}
theorem f102 {q:Mov}{p:Int}{st:St}:run Tryz.prog HH 102 [q.v,.ep (.agg [.int .i64 p]) 0] st=some (.ret (.bool (q.val.pal == p)),st):=by
 rw[run_shut F102 rfl rfl (by simp)]
 push_cast[Mov.v]
 all_goals first|with_reducible rfl|exact dn_eq (by omega) (by with_reducible rfl)|((repeat' split)<;>(try simp_all)<;>(try (with_reducible refine dn_eq ?_ ?_<;>first|trivial|omega|rfl))<;>(try omega))
theorem f191p {l:List Mov}{p:Int}(hl:l.length<140737488355328){st:St}:run Tryz.prog HH 167 [.sl (l.map Mov.v),.fn (.func 102) [] [.ep (.agg [.int .i64 p]) 0]] st=some (.ret (.int .i64 (ix (fun q=>q.val.pal == p) l 0)),st) :=
 IxF (f:=Mov.v) (n:=some 5) (fun _=>rfl) (fun _=>rfl) F167 rfl (by simp) hl (fun q _ _=>f102) (fun _ _=>rfl) (fun _=>rfl)
def usesC (p:Int)(c:Cu):Bool:=decide (0<p)&&c.moves.any (fun q=>q.val.pal == p)
theorem f100 {x:Cu}{p:Int}(hl:x.moves.length<140737488355328){st:St}:run Tryz.prog HH 100 [x.v,.ep (.agg [.int .i64 p]) 0] st=some (.ret (.bool (usesC p x)),st):=by
 have h:=fun(st:St)=>f191p (p:=p) (st:=st) hl
 push_cast[Mov.v]at h
 rw[run_shut F100 rfl rfl (by simp)]
 push_cast[Cu.v,Mov.v,usesC,h,ix_ge,(fun(a0 a1:V) (st:St) (h:V.bdL 0 [a0,a1]=true)=>run_shut (P:=Tryz.prog) (H:=HH) (args:=[a0,a1]) (st:=st) F101 rfl rfl h)]
 all_goals first|with_reducible rfl|exact dn_eq (by omega) (by with_reducible rfl)|((repeat' split)<;>(try simp_all)<;>(try (with_reducible refine dn_eq ?_ ?_<;>first|trivial|omega|rfl))<;>(try omega))
theorem room16 {k:Nat}(h:k≤1000000):roomV (k+1) 16=true:=by
 have h1:k+1≤maxLen:=by unfold maxLen;omega
 have h2:(k+1)*16≤140737488355328:=by omega
 unfold roomV
 rw[decide_eq_true h1,decide_eq_true h2];rfl
def refsL (p:Int)(l:List Cu):Row:=(l.filter (usesC p)).map (·.num)
theorem L99 {l:List Cu}{p:Int}(hl:l.length≤1000000)(hm:∀c∈l,c.moves.length<140737488355328):∀r j,l.drop j=r→∀out:Row,out.length≤j →
  runL Tryz.prog HH [1,5,10,11,12] (n+1) B99_0 [(1,.fn (.func 100) [] [.ep (.agg [.int .i64 p]) 0]),(5,.osl n out.length),(10,.sl (l.map Cu.v)),(11,.int .i64 l.length),(12,.int .i64 j)] (stL g n out)
   = some (.exit 0,[(5,.osl n (out++refsL p r).length)],stL g n (out++refsL p r)):=by
 refine drop_ind (fun j h out ho=>?_) (fun q r j h hx hd ih out ho=>?_)
 all_goals rw[runL_of B99_0.eq_1]
 ·have h1:¬(j:Int)<l.length:=by omega
  push_cast[h1,refsL,List.filter_nil,List.map_nil,List.append_nil]
 ·have h1:(j:Int)<l.length:=by omega
  have hw:=iw1 (j:=j) (by omega)
  have h103:=fun(st:St)=>f100 (x:=q) (p:=p) (st:=st) (hm q (mem_at hd))
  have hr:=room16 (k:=out.length) (by omega)
  cases hu:usesC p q with
  |false =>
   have ih:=ih out (by omega)
   push_cast[Cu.v]at h103
   push_cast[h1,hw,hx,Cu.v,h103,hu,refsL,List.filter_cons]at ih ⊢
   exact ih
  |true =>
   have ih:=ih (out++[q.num]) (by simp;omega)
   push_cast[Cu.v]at h103
   push_cast[h1,hw,hx,Cu.v,h103,hu,hr,refsL,List.filter_cons,List.append_assoc,List.singleton_append,List.map_append,List.map_cons,List.map_nil]at ih ⊢
   exact ih
theorem f99 {x:Lst}{p:Int}(hl:x.cues.length≤1000000)(hm:∀c∈x.cues,c.moves.length<140737488355328){st:St}:run Tryz.prog HH 99 [x.v,.fn (.func 100) [] [.ep (.agg [.int .i64 p]) 0]] st=some (.ret (.sl ((refsL p x.cues).map .str)),st):=by
 have hL:=fun n=>L99 (g:=st.x.gl) (n:=n) (p:=p) hl hm _ 0 rfl [] (Nat.zero_le _)
 rw[List.drop_zero]at hL
 rw[run_shut F99 rfl rfl (by simp)]
 push_cast[List.map_nil,List.nil_append,List.length_nil]at hL
 push_cast[Lst.v,hL,List.map_nil,List.nil_append,List.length_nil]
def refsC (p:Int)(x:Lst):Row:=if lstP x=0 then refsL p x.cues else[]
theorem f53 {x:Lst}{p:Int}(h:x.ok){st:St}:run Tryz.prog HH 53 [x.v,.int .i64 p] st=some (.ret (.tup [.sl ((refsC p x).map .str),.int .i64 (lstP x)]),st):=by
 have h1:=fun st=>f98 (st:=st) h
 rw[run_shut F53 rfl rfl (by simp)]
 by_cases hP:lstP x=0
 ·have hx:x.cues.length≤1000000:=by
   unfold lstP at hP
   split at hP
   ·cases hP
   ·split at hP
    ·cases hP
    ·omega
  have h2:=fun st=>f99 (p:=p) (st:=st) hx (fun c hc=>(h.b c hc).c)
  push_cast[Lst.v]at h1 h2
  push_cast[Lst.v,h1,h2,hP,refsC]
 ·push_cast[Lst.v]at h1
  push_cast[Lst.v,h1,hP,refsC]
theorem f33 {m:Int}(h0:-9223372036854775808≤m)(h1:m≤9223372036854775807){st:St}(hG:glB st.x.gl=true):run Tryz.prog HH 33 [.int .i64 m] st=some (.ret (.str (Lib.itoa m)),st):=by
 have hI:∀st':St,st'.x.gl=st.x.gl→run Tryz.prog HH 73 [.int .i64 m] st'=some (.ret (.str (Lib.itoa m)),st'):=fun st' e=>run_H (by
  show(hItoa st'.x.gl [.int .i64 m]).map (fun r=>(r,st'))=_
  rw[hItoa,e,hG,decide_eq_true h0,decide_eq_true h1];rfl)
 rw[run_shut F33 rfl rfl (by simp)]
 push_cast[hI]
end Go.Proofs.YtdkokbhcjmapdaaGreatDoor

namespace Go.Proofs.YtdkokbhcjmapdaaGreatDoor
open Go.Sha
set_option maxRecDepth 100000
variable {g:List (Nat×Obj)}{n:Nat}
theorem h66 {l:List V}(hb:V.bdL 0 l=true){st:St}:run Tryz.prog HH 31 [.sl l] st=some (.ret (.sl l),st):=by
 rw[run_shut F31 rfl rfl (by simpa [V.bdL,V.bd] using hb)]
 push_cast[hb]
def useT (m:Int)(q:List UInt8):List UInt8:=Lib.itoa m++[32,47,32]++q
def stT (g:List (Nat×Obj))(tab:List Row)(cs:Row):St:=⟨5,[],[(4,⟨9,1,cs.map .str,false,false⟩),(2,⟨59,1,tab.map rowV,false,false⟩),(1,⟨9,1,[.str [112,97,108,101,116,116,101],.str [104,117,101,115],.str [99,117,101,115]],false,false⟩)],⟨[],g,[]⟩⟩
@[push_cast]theorem stT_eq {tab:List Row}{cs:Row}:stT g tab cs=⟨5,[],[(4,⟨9,1,cs.map .str,false,false⟩),(2,⟨59,1,tab.map rowV,false,false⟩),(1,⟨9,1,[.str [112,97,108,101,116,116,101],.str [104,117,101,115],.str [99,117,101,115]],false,false⟩)],⟨[],g,[]⟩⟩:=idq rfl
def stU2 (g:List (Nat×Obj))(tab:List Row)(cs:Row):St:=⟨6,[],[(4,⟨9,1,cs.map .str,false,false⟩),(2,⟨59,1,tab.map rowV,false,false⟩),(1,⟨9,1,[.str [112,97,108,101,116,116,101],.str [104,117,101,115],.str [99,117,101,115]],false,false⟩)],⟨[],g,[]⟩⟩
@[push_cast]theorem stU2_eq {tab:List Row}{cs:Row}:stU2 g tab cs=⟨6,[],[(4,⟨9,1,cs.map .str,false,false⟩),(2,⟨59,1,tab.map rowV,false,false⟩),(1,⟨9,1,[.str [112,97,108,101,116,116,101],.str [104,117,101,115],.str [99,117,101,115]],false,false⟩)],⟨[],g,[]⟩⟩:=idq rfl
theorem L16_0 {s:Sho}{pl:Pal}{x:Lst}{l:Row}{tab:List Row}{i il:Nat}(hq:∀q∈l,q.length≤1000)(hG:glB g=true)(hl:l.length≤1000000)(h0:-9223372036854775808≤x.num)(h1:x.num≤9223372036854775807):∀r j,l.drop j=r→∀cs:Row,cs.length+r.length≤1000000 →
  runL Tryz.prog HH [1,5,7,8,10,24,25,26,31,32,33,44,45,46] 6 B16_0 [(1,.ep s.v 0),(5,.osl 2 tab.length),(7,.ep pl.v 0),(8,.osl 4 cs.length),(10,.ep x.v 0),(24,.sl (s.pals.map Pal.v)),(25,.int .i64 s.pals.length),(26,.int .i64 i),(31,.sl (s.lsts.map Lst.v)),(32,.int .i64 s.lsts.length),(33,.int .i64 il),(44,.sl (l.map .str)),(45,.int .i64 l.length),(46,.int .i64 j)] (stU2 g tab cs)
   = some (.exit 4,[(1,.ep s.v 0),(5,.osl 2 tab.length),(7,.ep pl.v 0),(8,.osl 4 (cs++r.map (useT x.num)).length),(24,.sl (s.pals.map Pal.v)),(25,.int .i64 s.pals.length),(26,.int .i64 i),(31,.sl (s.lsts.map Lst.v)),(32,.int .i64 s.lsts.length),(33,.int .i64 il)],stU2 g tab (cs++r.map (useT x.num))):=by
 refine drop_ind (fun j h cs hc=>?_) (fun q r j h hx hd ih cs hc=>?_)
 all_goals rw[runL_of B16_0.eq_1]
 ·have h1:¬(j:Int)<l.length:=by omega
  push_cast[h1,List.map_nil,List.append_nil]
 ·have h1:(j:Int)<l.length:=by omega
  have hw:=iw1 (j:=j) (by omega)
  rw[List.length_cons]at hc
  have h68:=fun nx mem arr obj ty=>f33 (m:=x.num) (st:=⟨nx,mem,arr,⟨obj,g,ty⟩⟩) (by assumption) (by assumption) hG
  have hr:=room16 (k:=cs.length) (by omega)
  have ih:=ih (cs++[useT x.num q]) (by simp;omega)
  push_cast[Sho.v,Pal.v,Lst.v,useT]at ih ⊢
  push_cast[h1,hw,hx,h68,hr,Sho.v,Pal.v,Lst.v,List.map_cons,List.map_append,List.map_nil,List.append_assoc,List.singleton_append]at ih ⊢
  have hi:=Lib.itoa_length_le x.num (by assumption) (by assumption)
  have:=hq q (mem_at hd)
  first|exact ih|exact dn_eq (by omega) ih
theorem num_chars {s:List UInt8}(h:numC s=0):s.length≤8∧∀b∈s,isD b=true∨b=46:=by
 obtain⟨a1,a2,a3,a4⟩:=numC_parts h
 have e:s=nW s++s.dropWhile (· != 46):=(List.takeWhile_append_dropWhile ..).symm
 have e2:s.dropWhile (· != 46)=[]∨s.dropWhile (· != 46)=46::nR s:=by
  unfold nR
  cases hd:s.dropWhile (· != 46) with
  |nil=>exact .inl rfl
  |cons b r =>
   have:(b != 46)=false:=by
    have:=List.head_dropWhile_not (p:=(· != (46:UInt8))) (l:=s) (by rw[hd];simp)
    simpa [hd] using this
   have hb:b=46:=by simpa using this
   rw[hb];exact .inr rfl
 rcases e2 with e2|e2
 ·rw[e2,List.append_nil]at e
  exact⟨by rw[e];omega,fun b hb=>.inl (a1 b (by rw[←e];exact hb))⟩
 ·rw[e2]at e
  refine⟨by rw[e,List.length_append,List.length_cons];omega,fun b hb=>?_⟩
  rw[e]at hb
  rcases List.mem_append.1 hb with hb|hb
  ·exact .inl (a1 b hb)
  ·rcases List.mem_cons.1 hb with hb|hb
   ·exact .inr hb
   ·exact .inl (a2 b hb)
theorem cuesP_all {l:List Cu}:∀{r:List Cu}{j:Nat},cuesP l r j=0→∀c∈r,numC c.num=0
 |[],_,_,c,hc=>by simp at hc
 |q::r,j,h,c,hc=>by
  rw[cuesP]at h
  repeat' split at h
  all_goals first|(rename_i a;exact absurd h a)|cases h|skip
  rename_i a _
  rw[cue_eq]at a
  rcases List.mem_cons.1 hc with rfl|hc
  ·exact cueP_num (Classical.not_not.1 a)
  ·exact cuesP_all h c hc
theorem lst_parts {x:Lst}(h:lstP x=0):1≤x.num∧x.num≤1048576∧x.cues.length≤64∧∀c∈x.cues,numC c.num=0:=by
 unfold lstP lstB at h
 split at h
 ·cases h
 ·split at h
  ·cases h
  ·exact⟨by omega,by omega,by omega,cuesP_all h⟩
theorem lstsL_all {l:List Lst}:∀{r:List Lst}{j:Nat},lstsL l r j=0→∀c∈r,lstP c=0
 |[],_,_,c,hc=>by simp at hc
 |q::r,j,h,c,hc=>by
  rw[lstsL]at h
  repeat' split at h
  all_goals first|(rename_i a;exact absurd h a)|cases h|skip
  rename_i a _
  rcases List.mem_cons.1 hc with rfl|hc
  ·rw[lst_eq];exact Classical.not_not.1 a
  ·exact lstsL_all h c hc
theorem sho_parts {s:Sho}(h:shoC s=0):s.lsts.length≤8∧(∀x∈s.lsts,lstP x=0)∧s.pals.length≤32∧∀x∈s.pals,1≤x.num∧x.num≤1048576:=by
 obtain⟨_,_,_,_,_,h1,h2,_⟩:=shoC_parts h
 unfold lstsC at h2
 unfold palsCR at h1
 split at h1
 ·cases h1
 ·split at h2
  ·cases h2
  ·exact⟨by omega,lstsL_all h2,by omega,fun x hx=>have:=(palsR_all (j:=0) rfl h1).1 x hx;⟨this.1,this.2.1⟩⟩
theorem refs_le {x:Lst}{p:Int}(h:lstP x=0):(refsL p x.cues).length≤64∧∀q∈refsL p x.cues,numC q=0:=by
 obtain⟨_,_,h3,h4⟩:=lst_parts h
 refine⟨?_,fun q hq=>?_⟩
 ·unfold refsL
  rw[List.length_map]
  exact Nat.le_trans (List.length_filter_le ..) h3
 ·obtain⟨c,hc,rfl⟩:=List.mem_map.1 hq
  exact h4 c (List.mem_filter.1 hc).1
def usesL (p:Int)(x:Lst):Row:=(refsL p x.cues).map (useT x.num)
theorem L16_1 {s:Sho}{pl:Pal}{tab:List Row}{i:Nat}(hG:glB g=true)(h:s.ok)(hs:shoC s=0):∀r j,s.lsts.drop j=r→∀cs:Row,cs.length≤64*j →
  runL Tryz.prog HH [1,5,7,8,24,25,26,31,32,33] 5 B16_1 [(1,.ep s.v 0),(5,.osl 2 tab.length),(7,.ep pl.v 0),(8,.osl 4 cs.length),(24,.sl (s.pals.map Pal.v)),(25,.int .i64 s.pals.length),(26,.int .i64 i),(31,.sl (s.lsts.map Lst.v)),(32,.int .i64 s.lsts.length),(33,.int .i64 j)] (stT g tab cs)
   = some (.exit 2,[(1,.ep s.v 0),(5,.osl 2 tab.length),(7,.ep pl.v 0),(8,.osl 4 (cs++r.flatMap (usesL pl.num)).length),(24,.sl (s.pals.map Pal.v)),(25,.int .i64 s.pals.length),(26,.int .i64 i)],stT g tab (cs++r.flatMap (usesL pl.num))):=by
 obtain⟨hn,hp,-,-⟩:=sho_parts hs
 have hl:=h.k.1
 refine drop_ind (fun j h cs hc=>?_) (fun q r j hj hx hd ih cs hc=>?_)
 all_goals rw[runL_of B16_1.eq_1]
 ·have h1:¬(j:Int)<s.lsts.length:=by omega
  push_cast[h1,List.flatMap_nil,List.append_nil]
 ·have h1:(j:Int)<s.lsts.length:=by omega
  have hw:=iw1 (j:=j) (by omega)
  have hm:=mem_at hd
  have hq:=hp q hm
  obtain⟨p1,p2,p3,p4⟩:=lst_parts hq
  obtain⟨r1,r2⟩:=refs_le (p:=pl.num) hq
  have h36:=fun(st:St)=>f53 (p:=pl.num) (st:=st) (h.k.2 q hm)
  have hL:=L16_0 (g:=g) (s:=s) (pl:=pl) (x:=q) (l:=refsL pl.num q.cues) (tab:=tab) (i:=i) (il:=j) (fun z hz=>by have:=(num_chars (r2 z hz)).1;omega) hG (by omega) (by omega) (by omega) _ 0 rfl cs (by rw[List.drop_zero];omega)
  rw[List.drop_zero]at hL
  have hul:(usesL pl.num q).length≤64:=by rw[usesL,List.length_map];exact r1
  have ih:=ih (cs++usesL pl.num q) (by rw[List.length_append];omega)
  rw[show refsC pl.num q=refsL pl.num q.cues by rw[refsC,if_pos hq],hq]at h36
  simp only[List.flatMap_cons,←List.append_assoc]at ih ⊢
  rw[show(refsL pl.num q.cues).map (useT q.num)=usesL pl.num q from rfl]at hL
  generalize hcu:cs++usesL pl.num q=cu at *
  generalize refsL pl.num q.cues=rf at *
  push_cast[Sho.v,Pal.v,Lst.v]at hL ih h36
  push_cast[h1,hw,hx,h36,hL,Sho.v,Pal.v,Lst.v]at ih ⊢
  first|exact ih|exact dn_eq (by omega) ih
def rowP (s:Sho)(pl:Pal):Row:=[Lib.itoa pl.num,Lib.itoa pl.hues.length,Lib.join (s.lsts.flatMap (usesL pl.num)) [44,32]]
theorem strsV_str:∀{ss:List (List UInt8)},strsV (ss.map .str)=some ss
 |[]=>rfl
 |s::r=>by rw[List.map_cons,strsV,strsV_str];rfl
theorem h100 {ss:List (List UInt8)}{t:List UInt8}(hn:ss.length≤1000000)(hl:(Lib.join ss t).length≤100000000000){st:St}:run Tryz.prog HH 54 [.sl (ss.map .str),.str t] st=some (.ret (.str (Lib.join ss t)),st):=run_H (by
 show(hJoin [.sl (ss.map .str),.str t]).map _=_
 rw[hJoin,strsV_str]
 simp only[hn,hl,decide_true,Bool.and_self,if_true,Option.map_some])
theorem lens_le {B:Nat}:∀{ss:List (List UInt8)},(∀s∈ss,s.length≤B)→Lib.lens ss≤ss.length*B
 |[],_=>by simp[Lib.lens]
 |s::r,h=>by
  have h1:=lens_le (ss:=r) fun x hx=>h x (List.mem_cons_of_mem _ hx)
  have h2:=h s (List.mem_cons_self ..)
  have h3:Lib.lens (s::r)=s.length+Lib.lens r:=by simp[Lib.lens]
  rw[h3,List.length_cons,Nat.succ_mul];omega
theorem join_le {B:Nat}{ss:List (List UInt8)}{t:List UInt8}(h:∀s∈ss,s.length≤B)(hn:ss.length≤1000)(hB:B≤1000)(ht:t.length≤2):(Lib.join ss t).length≤1002000:=by
 cases ss with
 |nil=>simp[Lib.join_nil]
 |cons x r =>
  rw[Lib.join_length]
  have h1:=lens_le h
  have h2:(x::r).length*B≤1000*1000:=Nat.mul_le_mul hn hB
  have h3:t.length*r.length≤2*1000:=Nat.mul_le_mul ht (by rw[List.length_cons]at hn;omega)
  omega
theorem uses_of {s:Sho}{p:Int}(hs:shoC s=0):(s.lsts.flatMap (usesL p)).length≤1000∧∀q∈s.lsts.flatMap (usesL p),q.length≤1000:=by
 obtain⟨hn,hp,-,-⟩:=sho_parts hs
 constructor
 ·have:∀(l:List Lst),(∀x∈l,lstP x=0)→(l.flatMap (usesL p)).length≤l.length*64:=by
   intro l hl
   induction l with
   |nil=>simp
   |cons x r ih =>
    have h1:=ih fun y hy=>hl y (List.mem_cons_of_mem _ hy)
    have h2:=(refs_le (p:=p) (hl x (List.mem_cons_self ..))).1
    rw[List.flatMap_cons,List.length_append,List.length_cons,Nat.succ_mul,usesL,List.length_map]
    omega
  have:=this s.lsts hp
  omega
 ·intro q hq
  obtain⟨x,hx,hq⟩:=List.mem_flatMap.1 hq
  obtain⟨z,hz,rfl⟩:=List.mem_map.1 hq
  have h1:=(num_chars ((refs_le (hp x hx)).2 z hz)).1
  obtain⟨p1,p2,-,-⟩:=lst_parts (hp x hx)
  have h2:=Lib.itoa_length_le x.num (by omega) (by omega)
  simp only[useT,List.length_append,List.length_cons,List.length_nil]
  omega
def stTb (g:List (Nat×Obj))(tab:List Row):St:=⟨3,[],[(2,⟨59,1,tab.map rowV,false,false⟩),(1,⟨9,1,[.str [112,97,108,101,116,116,101],.str [104,117,101,115],.str [99,117,101,115]],false,false⟩)],⟨[],g,[]⟩⟩
@[push_cast]theorem stTb_eq {tab:List Row}:stTb g tab=⟨3,[],[(2,⟨59,1,tab.map rowV,false,false⟩),(1,⟨9,1,[.str [112,97,108,101,116,116,101],.str [104,117,101,115],.str [99,117,101,115]],false,false⟩)],⟨[],g,[]⟩⟩:=idq rfl
theorem L16_2 {s:Sho}(hG:glB g=true)(h:s.ok)(hs:shoC s=0):∀r j,s.pals.drop j=r→∀tab:List Row,tab.length≤j+1 →
  runL Tryz.prog HH [1,5,24,25,26] 3 B16_2 [(1,.ep s.v 0),(5,.osl 2 tab.length),(24,.sl (s.pals.map Pal.v)),(25,.int .i64 s.pals.length),(26,.int .i64 j)] (stTb g tab)
   = some (.exit 0,[(5,.osl 2 (tab++r.map (rowP s)).length)],stTb g (tab++r.map (rowP s))):=by
 obtain⟨hn,hp,hpl,hpn⟩:=sho_parts hs
 have hl:=h.l.1
 refine drop_ind (fun j h tab hc=>?_) (fun q r j hj hx hd ih tab hc=>?_)
 all_goals rw[runL_of B16_2.eq_1]
 ·have h1:¬(j:Int)<s.pals.length:=by omega
  push_cast[h1,List.map_nil,List.append_nil]
 ·have h1:(j:Int)<s.pals.length:=by omega
  have hw:=iw1 (j:=j) (by omega)
  have hm:=mem_at hd
  obtain⟨q1,q2⟩:=hpn q hm
  obtain⟨u1,u2⟩:=uses_of (p:=q.num) hs
  have u3:=join_le (t:=[44,32]) u2 u1 (Nat.le_refl _) (by decide)
  have hL:=L16_1 (g:=g) (s:=s) (pl:=q) (tab:=tab) (i:=j) hG ‹s.ok› hs _ 0 rfl [] (by simp)
  have e1:=fun nx mem arr obj ty=>f33 (m:=q.num) (st:=⟨nx,mem,arr,⟨obj,g,ty⟩⟩) (by omega) (by omega) hG
  have hh:=(‹s.ok›).l.2 q hm
  have e2:=fun nx mem arr obj ty=>f33 (m:=(q.hues.length:Nat)) (st:=⟨nx,mem,arr,⟨obj,g,ty⟩⟩) (by omega) (by omega) hG
  have e3:=fun(st:St)=>h100 (ss:=s.lsts.flatMap (usesL q.num)) (t:=[44,32]) (st:=st) (by omega) (by omega)
  have e4:=fun(st:St)=>h66 (l:=(rowP s q).map .str) (st:=st) (by simp[rowP,V.bdL,V.bd])
  have hr:roomV (tab.length+1) 24=true:=roomV_lit (by omega) (by omega)
  have ih:=ih (tab++[rowP s q]) (by simp;omega)
  rw[List.drop_zero,List.nil_append]at hL
  rw[List.map_cons]
  generalize hR:rowP s q=R at *
  rw[rowP]at hR
  generalize s.lsts.flatMap (usesL q.num)=us at *
  subst hR
  simp only[List.map_cons,List.map_nil]at e4
  push_cast[Sho.v,Pal.v,Lst.v,List.map_nil,List.length_nil]at hL ih
  push_cast[h1,hw,hx,hL,e1,e2,e3,e4,hr,Sho.v,Pal.v,Lst.v,List.map_nil,List.length_nil,List.map_append,List.map_cons,List.append_assoc,List.singleton_append,rowV]at ih ⊢
  first|exact ih|exact dn_eq (by omega) ih
def hdP:Row:=[[112,97,108,101,116,116,101],[104,117,101,115],[99,117,101,115]]
def palT (s:Sho):List Row:=if shoC s=0 then hdP::s.pals.map (rowP s) else[]
theorem f16 {s:Sho}(h:s.ok){st:St}(hG:glB st.x.gl=true):run Tryz.prog HH 16 [s.v] st=some (.ret (.tup [.sl ((palT s).map rowV),.int .i64 (shoC s)]),st):=by
 have h1:=fun st=>f37 (st:=st) h
 rw[run_shut F16 rfl rfl (by simp)]
 by_cases hs:shoC s=0
 ·have hL:=L16_2 (g:=st.x.gl) hG h hs _ 0 rfl [hdP] (Nat.le_refl _)
  have e4:=fun(st:St)=>h66 (l:=hdP.map .str) (st:=st) rfl
  rw[List.drop_zero]at hL
  simp only[hdP,List.map_cons,List.map_nil]at e4
  rw[hdP]at hL
  push_cast[Sho.v,rowV,List.map_cons,List.map_nil,List.length_cons,List.length_nil,List.singleton_append]at hL h1
  push_cast[Sho.v,hL,h1,hs,palT,e4,hdP,rowV,List.map_cons,List.map_nil,List.length_cons,List.length_nil,List.singleton_append]
 ·push_cast[Sho.v]at h1
  push_cast[Sho.v,h1,hs,palT]
end Go.Proofs.YtdkokbhcjmapdaaGreatDoor

namespace Go.Proofs.YtdkokbhcjmapdaaGreatDoor
open Go.Sha
set_option maxRecDepth 10000
def B14_0:Cd:=(.g [.b 24 .lss 23 22] (.join [5,21,22,23] (.i 24 .skip (.exit [5] 0)) (.join [5,21,22,23] (.block 1 (.g [.r 25 2 21 23,.d 26 2 25,.s 7 (.alloc 90 [.i 0,.nils]),.w 2 7 26] (.z [7] (.g [.a 28 1 7,.l 29 28,.f 30 49 29,.m 27 30,.j 31 0 27,.j 32 1 27,.m 8 31,.m 9 32] (.g [.m 34 8,.f 35 50 34,.m 33 35,.j 36 0 33,.j 37 1 33,.m 10 36,.m 11 37] (.reg [.m 38 5,.a 39 0 7,.l 40 39,.f 41 33 40,.m 42 10,.s 43 (.bslice 9 1 [.t 41,.t 42]),.f 44 31 43,.s 45 (.bslice 59 1 [.t 44]),.s 46 (.append 59 1 24 (.t 38) (.t 45)),.m 5 46])))))) (.reg [.v 47 .add 23 1,.m 23 47]))))
theorem F14:compF Tryz.prog 14=some ⟨49,[.tmp 2,.tmp 3],(.g [.q 1 31 0,.s 2 (.mv (.c .nils)),.c 3 0] (.z [1] (.join [1] (.g [.d 12 9 1,.f 13 37 12,.m 4 13] (.g [.m 14 4,.v 15 .neq 14 0] (.i 15 (.g [.m 16 4,.s 2 (.mv (.c .nils)),.m 3 16] (.ret [2,3])) .skip))) (.g [.s 17 (.bslice 9 1 [(.w [103,114,111,117,112]),(.w [99,104,97,110,110,101,108,115])]),.f 18 31 17,.s 19 (.bslice 59 1 [.t 18]),.m 5 19] (.join [5] (.g [.a 20 4 1,.l 21 20,.u 22 21,.c 23 0] (.block 0 (.loop [5,21,22,23] [(5,(59,1))] B14_0))) (.g [.m 48 5,.m 2 48,.c 3 0] (.ret [2,3])))))))⟩:=by kernel_rfl
def B49_0:Cd:=(.g [.b 14 .lss 13 12] (.join [4,11,12,13] (.i 14 .skip (.exit [4] 0)) (.join [4,11,12,13] (.block 1 (.g [.r 15 1 11 13,.l 16 15,.m 6 16] (.g [.m 17 6,.m 18 6,.s 19 (.build [.i 0,.i 0] [(0,1,(.t 17)),(1,1,(.t 18))]),.s 7 (.alloc 173 [.i 0,.i 0]),.w 2 7 19] (.z [7] (.join [4,7,11,12,13] (.g [.d 20 2 7,.f 21 92 20,.z 22 21] (.i 22 (.g [.s 2 (.mv (.c .nils)),.c 3 2] (.ret [2,3])) .skip)) (.reg [.d 23 2 7,.s 24 (.bslice 173 2 [.t 23]),.s 25 (.f 93 [.t 4,(.c (.bool true)),.t 24])])))))) (.reg [.v 26 .add 13 1,.m 13 26]))))
theorem F49:compF Tryz.prog 49=some ⟨28,[.tmp 2,.tmp 3],(.g [.s 2 (.mv (.c .nils)),.c 3 0] (.join [0] (.g [.m 8 0,.u 9 8,.v 10 .gtr 9 4096] (.i 10 (.g [.s 2 (.mv (.c .nils)),.c 3 5] (.ret [2,3])) .skip)) (.g [.s 4 (.alloc 171 (List.replicate 1001 (.bool false)))] (.join [4] (.g [.m 11 0,.u 12 11,.c 13 0] (.block 0 (.loop [4,11,12,13] [] B49_0))) (.g [.f 27 94 4,.m 2 27,.c 3 0] (.ret [2,3]))))))⟩:=by kernel_rfl
def B50_0:Cd:=(.g [.b 17 .lss 16 15] (.join [5,14,15,16] (.i 17 .skip (.exit [5] 0)) (.join [5,14,15,16] (.block 1 (.g [.r 18 2 14 16,.d 19 2 18,.s 7 (.alloc 173 [.i 0,.i 0]),.w 2 7 19] (.z [7] (.g [.a 20 0 7,.l 21 20,.f 22 73 21,.m 8 22] (.join [5,8,14,15,16] (.g [.a 23 1 7,.l 24 23,.a 25 0 7,.l 26 25,.b 27 .gtr 24 26] (.i 27 (.reg [.m 28 8,.a 29 1 7,.l 30 29,.f 31 73 30,.s 32 (.bin .add (.w [32,116,104,114,117,32]) (.t 31)),.b 33 .add 28 32,.m 8 33]) .skip)) (.reg [.m 34 5,.m 35 8,.s 36 (.bslice 9 1 [.t 35]),.s 37 (.append 9 1 16 (.t 34) (.t 36)),.m 5 37])))))) (.reg [.v 38 .add 16 1,.m 16 38]))))
theorem F50:compF Tryz.prog 50=some ⟨41,[.tmp 2,.tmp 3],(.g [.s 2 (.mv (.w [])),.c 3 0] (.join [0] (.g [.m 9 0,.f 10 95 9,.m 4 10] (.g [.m 11 4,.v 12 .neq 11 0] (.i 12 (.g [.m 13 4,.s 2 (.mv (.w [])),.m 3 13] (.ret [2,3])) .skip))) (.g [.s 5 (.mv (.c .nils))] (.join [5] (.g [.m 14 0,.u 15 14,.c 16 0] (.block 0 (.loop [5,14,15,16] [(5,(9,1))] B50_0))) (.g [.m 39 5,.s 40 (.f 54 [.t 39,(.w [32,43,32])]),.m 2 40,.c 3 0] (.ret [2,3]))))))⟩:=by kernel_rfl
theorem F92:compF Tryz.prog 92=some ⟨18,[.tmp 2],(.g [.q 1 173 0,.k 2 false] (.z [1] (.join [2] (.reg [.a 3 0 1,.l 4 3,.v 5 .geq 4 1,.m 6 5,.ay 7 0 1 6,.ly 8 7 6,.ay 9 1 1 6,.ly 10 9 6,.by' 11 .leq 8 10 6,.e 12 6 11,.m 13 12,.ay 14 1 1 13,.ly 15 14 13,.vy 16 .leq 15 999 13,.e 17 13 16,.m 2 17]) (.ret [2]))))⟩:=by kernel_rfl
def B93_0:Cd:=(.join [0,1,7,8,9,10,11] (.g [.m 17 8,.a 18 1 7,.l 19 18,.b 20 .leq 17 19] (.i 20 .skip (.exit [0,1,9,10,11] 2))) (.join [0,1,7,8,9,10,11] (.block 3 (.reg [.m 23 0,.m 24 8,.m 25 1,.s 26 (.k 23),.s 27 (.iadra 1001 1 (.t 26) (.t 24)),.w 1 27 25])) (.reg [.m 21 8,.v 22 .add 21 1,.m 8 22])))
def B93_1:Cd:=(.g [.b 12 .lss 11 10] (.join [0,1,9,10,11] (.i 12 .skip (.exit [] 0)) (.join [0,1,9,10,11] (.block 1 (.g [.r 13 2 9 11,.d 14 2 13,.s 7 (.alloc 173 [.i 0,.i 0]),.w 2 7 14] (.z [7] (.g [.a 15 0 7,.l 16 15,.m 8 16] (.block 2 (.loop [0,1,7,8,9,10,11] [] B93_0)))))) (.reg [.v 28 .add 11 1,.m 11 28]))))
theorem F93:compF Tryz.prog 93=some ⟨29,[],(.g [.m 9 2,.u 10 9,.c 11 0] (.block 0 (.loop [0,1,9,10,11] [] B93_1)))⟩:=by kernel_rfl
def B94_0:Cd:=(.join [0,3,4] (.g [.m 5 4,.v 6 .leq 5 999] (.i 6 .skip (.exit [3] 0))) (.join [0,3,4] (.block 1 (.join [0,3,4] (.g [.m 9 0,.m 10 4,.s 11 (.k 9),.s 12 (.iadra 1001 1 (.t 11) (.t 10)),.l 13 12,.z 14 13] (.i 14 (.exit [0,3,4] 1) .skip)) (.join [0,3,4] (.g [.m 15 0,.m 16 4,.v 17 .sub 16 1,.s 18 (.k 15),.s 19 (.iadra 1001 1 (.t 18) (.t 17)),.l 20 19,.z 21 20] (.i 21 (.reg [.m 22 3,.m 23 4,.m 24 4,.s 25 (.build [.i 0,.i 0] [(0,1,(.t 23)),(1,1,(.t 24))]),.s 26 (.bslice 173 2 [.t 25]),.s 27 (.append 173 2 16 (.t 22) (.t 26)),.m 3 27]) .skip)) (.reg [.m 28 3,.m 29 3,.u 30 29,.v 31 .sub 30 1,.m 32 4,.r 33 2 28 31,.a 34 1 33,.w 1 34 32])))) (.reg [.m 7 4,.v 8 .add 7 1,.m 4 8])))
theorem F94:compF Tryz.prog 94=some ⟨36,[.tmp 2],(.g [.s 2 (.mv (.c .nils))] (.g [.s 3 (.mv (.c .nils))] (.join [3] (.g [.c 4 1] (.block 0 (.loop [0,3,4] [(3,(173,4098))] B94_0))) (.g [.m 35 3,.m 2 35] (.ret [2])))))⟩:=by kernel_rfl
def B95_0:Cd:=(.g [.b 8 .lss 7 6] (.join [0,5,6,7] (.i 8 .skip (.exit [] 0)) (.join [0,5,6,7] (.block 1 (.g [.m 9 7,.r 10 2 5 7,.d 11 2 10,.s 4 (.alloc 173 [.i 0,.i 0]),.m 3 9,.w 2 4 11] (.z [4] (.join [0,3,4,5,6,7] (.g [.d 12 2 4,.f 13 92 12,.z 14 13] (.i 14 (.g [.c 2 2] (.ret [2])) .skip)) (.join [0,5,6,7,28] (.dreg 14 [.m 15 3,.v 16 .gtr 15 0,.m 17 16,.ay 18 0 4 17,.ly 19 18 17,.my 20 0 17,.my 21 3 17,.vy 22 .sub 21 1 17,.ry 23 2 20 22 17,.ay 24 1 23 17,.ly 25 24 17,.vy 26 .add 25 2 17,.by' 27 .lss 19 26 17,.e 28 17 27]) (.i 28 (.g [.c 2 9] (.ret [2])) .skip)))))) (.reg [.v 29 .add 7 1,.m 7 29]))))
theorem F95:compF Tryz.prog 95=some ⟨30,[.tmp 2],(.g [.c 2 0] (.join [] (.g [.m 5 0,.u 6 5,.c 7 0] (.block 0 (.loop [0,5,6,7] [] B95_0))) (.g [.c 2 0] (.ret [2]))))⟩:=by kernel_rfl
end Go.Proofs.YtdkokbhcjmapdaaGreatDoor

namespace Go.Proofs.YtdkokbhcjmapdaaGreatDoor
open Go.Sha
set_option maxRecDepth 100000
variable {g:List (Nat×Obj)}{n:Nat}
theorem itoaH {m:Int}(h0:-9223372036854775808≤m)(h1:m≤9223372036854775807){st:St}(hG:glB st.x.gl=true):run Tryz.prog HH 73 [.int .i64 m] st=some (.ret (.str (Lib.itoa m)),st):=run_H (by
 show(hItoa st.x.gl [.int .i64 m]).map (fun r=>(r,st))=_
 rw[hItoa,hG,decide_eq_true h0,decide_eq_true h1];rfl)
abbrev Rg:=Int×Int
@[reducible] def rgV (r:Rg):V:=.agg [.int .i64 r.1,.int .i64 r.2]
theorem f92 {r:Rg}{st:St}:run Tryz.prog HH 92 [rgV r] st=some (.ret (.bool (decide (1≤r.1∧r.1≤r.2∧r.2≤999))),st):=by
 rw[run_shut F92 rfl rfl (by simp)]
 push_cast[rgV]
 all_goals first|with_reducible rfl|exact dn_eq (by omega) (by with_reducible rfl)|((repeat' split)<;>(try simp_all)<;>(try (with_reducible refine dn_eq ?_ ?_<;>first|trivial|omega|rfl))<;>(try omega))
def setB (a:List Bool)(c:Nat):List Bool:=a.take c++true::a.drop (c+1)
def zB:List Bool:=List.replicate 1001 false
@[push_cast]theorem zB_eq:List.replicate 1001 (V.bool false)=zB.map V.bool:=by rw[zB,List.map_replicate]
theorem map_setB {a:List Bool}{c:Nat}:(a.take c).map V.bool++V.bool true::(a.drop (c+1)).map V.bool=(setB a c).map V.bool:=by simp[setB]
theorem setB_len {a:List Bool}{c:Nat}(h:c<a.length):(setB a c).length=a.length:=by simp[setB];omega
def stB0 (g:List (Nat×Obj))(k c:Nat)(a:List Bool):St:=⟨k,[(0,a.map V.bool)],[(2,⟨173,2,[rgV (c,c)],false,false⟩)],⟨[],g,[]⟩⟩
@[push_cast]theorem stB0_eq {k c:Nat}{a:List Bool}:stB0 g k c a=⟨k,[(0,a.map V.bool)],[(2,⟨173,2,[rgV (c,c)],false,false⟩)],⟨[],g,[]⟩⟩:=idq rfl
theorem L93_0 {v9 v10 v11:V}{m:Nat}{c:Nat}(hc:c<1001):∀a:List Bool,a.length=1001 →
  runL Tryz.prog HH [0,1,7,8,9,10,11] m B93_0 [(0,.ptr 0 0),(1,.bool true),(7,.ep (rgV (c,c)) 0),(8,.int .i64 c),(9,v9),(10,v10),(11,v11)] (stB0 g m c a)
   = some (.exit 2,[(0,.ptr 0 0),(1,.bool true),(9,v9),(10,v10),(11,v11)],stB0 g m c (setB a c)):=by
 intro a ha
 have hs:=setB_len (a:=a) (c:=c) (by omega)
 have w1:IntKind.i64.wrap ((c:Int)+1)=(c:Int)+1:=iwrap (by omega) (by omega)
 have e2:runL Tryz.prog HH [0,1,7,8,9,10,11] m B93_0 [(0,.ptr 0 0),(1,.bool true),(7,.ep (rgV (c,c)) 0),(8,.int .i64 ((c:Int)+1)),(9,v9),(10,v10),(11,v11)] (stB0 g m c (setB a c))
   = some (.exit 2,[(0,.ptr 0 0),(1,.bool true),(9,v9),(10,v10),(11,v11)],stB0 g m c (setB a c)):=by
  rw[runL_of B93_0.eq_1]
  have h1:¬((c:Int)+1≤c):=by omega
  push_cast[h1,rgV]
 rw[runL_of B93_0.eq_1]
 have h0:(c:Int)≤c:=by omega
 push_cast[rgV]at e2
 push_cast[rgV,w1,ha,map_setB,Nat.mul_one,e2,h0]
 exact dn_eq ⟨hc,by omega⟩ rfl
theorem f93 {c:Nat}(hc:c<1001){a:List Bool}(ha:a.length=1001):run Tryz.prog HH 93 [.ptr 0 0,.bool true,.sl [rgV (c,c)]] (stB0 g 3 c a)=some (.ret (.tup []),stB0 g 3 c (setB a c)):=by
 have h0:=fun v9 v10 v11=>L93_0 (g:=g) (v9:=v9) (v10:=v10) (v11:=v11) (m:=4) hc a ha
 rw[run_open F93 rfl rfl (by simp)]
 push_cast[rgV]at h0
 push_cast[runL_of B93_1.eq_1,h0,rgV]
def stB1 (g:List (Nat×Obj))(a:List Bool):St:=⟨1,[(0,a.map V.bool)],[],⟨[],g,[]⟩⟩
@[push_cast]theorem stB1_eq {a:List Bool}:stB1 g a=⟨1,[(0,a.map V.bool)],[],⟨[],g,[]⟩⟩:=idq rfl
def memB0 (l:List Int)(a:List Bool):List Bool:=l.foldl (fun a c=>setB a c.toNat) a
theorem memB0_len:∀{l:List Int}{a:List Bool},(∀c∈l,1≤c∧c≤999)→a.length=1001→(memB0 l a).length=1001
 |[],_,_,h=>h
 |c::r,a,hl,h=>by
  have:=hl c (List.mem_cons_self ..)
  exact memB0_len (l:=r) (fun x hx=>hl x (List.mem_cons_of_mem _ hx)) (by rw[setB_len (by omega)];exact h)
theorem L49 {l:List Int}(hl:l.length<140737488355328)(hr:∀c∈l,1≤c∧c≤999):∀r j,l.drop j=r→∀a:List Bool,a.length=1001 →
  runL Tryz.prog HH [4,11,12,13] 1 B49_0 [(4,.ptr 0 0),(11,.sl (l.map (.int .i64))),(12,.int .i64 l.length),(13,.int .i64 j)] (stB1 g a)
   = some (.exit 0,[(4,.ptr 0 0)],stB1 g (memB0 r a)):=by
 refine drop_ind (fun j h a ha=>?_) (fun q r j h hx hd ih a ha=>?_)
 all_goals rw[runL_of B49_0.eq_1]
 ·have h1:¬(j:Int)<l.length:=by omega
  push_cast[h1,memB0,List.foldl_nil]
 ·have h1:(j:Int)<l.length:=by omega
  have hw:=iw1 (j:=j) (by omega)
  obtain⟨c,rfl⟩:=Int.eq_ofNat_of_zero_le (a:=q) (by have:=hr q (mem_at hd);omega)
  obtain⟨r1,r2⟩:=hr c (mem_at hd)
  have h164:=f93 (g:=g) (c:=c) (by omega) ha
  have h163:=fun(st:St)=>f92 (r:=(c,c)) (st:=st)
  have ih:=ih (setB a c) (by rw[setB_len (by omega)];exact ha)
  rw[memB0,List.foldl_cons,←memB0]
  push_cast[rgV]at h163 h164 ih
  have r3:(c:Int)≤c:=Int.le_refl _
  push_cast[h1,hw,hx,h163,h164,rgV,r1,r2,r3,Int.toNat_natCast]at ih ⊢
  exact ih
def rgSet (l:List Rg)(c:Int):List Rg:=l.set (l.length-1) ((l.getD (l.length-1) default).1,c)
def rgStep (a:List Bool)(c:Nat)(out:List Rg):List Rg:=if a.getD c false=true then rgSet (if a.getD (c-1) false=true then out else out++[((c:Int),(c:Int))]) c else out
def rgAll (a:List Bool):Nat→Nat→List Rg→List Rg
 |0,_,out=>out
 |m+1,c,out=>rgAll a m (c+1) (rgStep a c out)
def stB2 (g:List (Nat×Obj))(a:List Bool)(out:List Rg):St:=⟨2,[(0,a.map V.bool)],[(1,⟨173,2,out.map rgV,true,false⟩)],⟨[],g,[]⟩⟩
@[push_cast]theorem stB2_eq {a:List Bool}{out:List Rg}:stB2 g a out=⟨2,[(0,a.map V.bool)],[(1,⟨173,2,out.map rgV,true,false⟩)],⟨[],g,[]⟩⟩:=idq rfl
theorem rgSet_len {l:List Rg}{c:Int}:(rgSet l c).length=l.length:=by simp[rgSet]
theorem L94 {a:List Bool}(ha:a.length=1001):∀m c:Nat,c+m=1000→1≤c→∀out:List Rg,(a.getD (c-1) false=true→out≠[])→out.length<c →
  runL Tryz.prog HH [0,3,4] 2 B94_0 [(0,.ptr 0 0),(3,.osl 1 out.length),(4,.int .i64 c)] (stB2 g a out)
   = some (.exit 0,[(3,.osl 1 (rgAll a m c out).length)],stB2 g a (rgAll a m c out)):=by
 intro m
 induction m with
 |zero =>
  intro c hc h0 out hi hl
  rw[runL_of B94_0.eq_1]
  have h1:¬(c:Int)≤999:=by omega
  push_cast[h1,rgAll]
 |succ m ih =>
  intro c hc h0 out hi hl
  rw[runL_of B94_0.eq_1]
  have h1:(c:Int)≤999:=by omega
  have hw:IntKind.i64.wrap ((c:Int)+1)=((c+1:Nat):Int):=iwrap (by omega) (by omega)
  have hw2:IntKind.i64.wrap ((c:Int)-1)=((c-1:Nat):Int):=by rw[iwrap (by omega) (by omega)];omega
  have g1:a[c]?=some (a.getD c false):=by rw[List.getD_eq_getElem?_getD,List.getElem?_eq_getElem (by omega)];rfl
  have g2:a[c-1]?=some (a.getD (c-1) false):=by rw[List.getD_eq_getElem?_getD,List.getElem?_eq_getElem (by omega)];rfl
  have ih:=ih (c+1) (by omega) (by omega) (rgStep a c out)
  rw[rgAll]
  have c1:c<1001:=by omega
  have c2:c-1<1001:=by omega
  cases b1:a.getD c false with
  |false =>
   have e:rgStep a c out=out:=by rw[rgStep,b1];rfl
   rw[e]at ih ⊢
   have ih:=ih (by rw[Nat.add_sub_cancel,b1];intro h;cases h) (by omega)
   rw[b1]at g1
   push_cast[h1,hw,hw2,ha,g1,g2,c1,c2,Nat.mul_one]at ih ⊢
   exact ih
  |true =>
   rw[b1]at g1
   have hro:roomV (out.length+1) 16=true:=roomV_lit (by omega) (by omega)
   cases b2:a.getD (c-1) false with
   |false =>
    rw[b2]at g2
    have e:rgStep a c out=out++[((c:Int),(c:Int))]:=by rw[rgStep,b1,b2];simp[rgSet]
    have p1:(out++[((c:Int),(c:Int))])[out.length]?=some ((c:Int),(c:Int)):=by simp
    have p2:((out.map rgV)++[V.agg [.int .i64 c,.int .i64 c]])[out.length]?=some (V.agg [.int .i64 c,.int .i64 c]):=by rw[List.getElem?_append_right (by simp)];simp
    have p3:((out.map rgV)++[V.agg [.int .i64 c,.int .i64 c]]).set out.length (V.agg [.int .i64 c,.int .i64 c])=(out++[((c:Int),(c:Int))]).map rgV:=by rw[List.set_append_right _ _ (by simp)];simp
    have w3:IntKind.i64.wrap ((out.length:Int)+1-1)=out.length:=by rw[iwrap (by omega) (by omega)];omega
    rw[e]at ih ⊢
    have ih:=ih (by simp) (by simp;omega)
    push_cast[rgV]at p2 p3
    push_cast[List.length_append,List.length_cons,List.length_nil]at ih
    push_cast[h1,hw,hw2,ha,g1,g2,c1,c2,Nat.mul_one,hro,p2,p3,w3,stoB,V.cells,V.recell]
    exact ih
   |true =>
    rw[b2]at g2
    obtain⟨k,hk⟩:∃k,out.length=k+1:=⟨out.length-1,by have:=List.length_pos_iff.2 (hi b2);omega⟩
    have e:rgStep a c out=out.set k ((out.getD k default).1,c):=by rw[rgStep,b1,b2];simp[rgSet,hk]
    have p1:out[k]?=some (out.getD k default):=by rw[List.getD_eq_getElem?_getD,List.getElem?_eq_getElem (by omega)];rfl
    have p3:(out.map rgV).set k (V.agg [.int .i64 (out.getD k default).1,.int .i64 c])=(out.set k ((out.getD k default).1,(c:Int))).map rgV:=by simp[List.map_set]
    have hk2:(k:Int)+1-1=k:=by omega
    have hk3:k<100000:=by omega
    have w3:IntKind.i64.wrap ((k:Int)+1-1)=k:=by rw[hk2];exact iwrap (by omega) (by omega)
    rw[e]at ih ⊢
    have ih:=ih (by intro _ h;have:=congrArg List.length h;rw[List.length_set,hk]at this;cases this) (by simp;omega)
    push_cast[rgV]at p3
    push_cast[List.length_set]at ih
    push_cast[h1,hw,hw2,ha,g1,g2,c1,c2,Nat.mul_one,hk,p1,p3,w3,stoB,V.cells,V.recell]
    rw[hk]at ih
    exact ih
theorem rgAll_len {a:List Bool}:∀{m c:Nat}{out:List Rg},(rgAll a m c out).length≤out.length+m
 |0,_,_=>Nat.le_refl _
 |m+1,c,out=>by
  rw[rgAll]
  have:=rgAll_len (a:=a) (m:=m) (c:=c+1) (out:=rgStep a c out)
  have:(rgStep a c out).length≤out.length+1:=by unfold rgStep;repeat' split<;>simp[rgSet_len]
  omega
def rgs (a:List Bool):List Rg:=rgAll a 999 1 []
theorem f94 {a:List Bool}(ha:a.length=1001)(h0:a.getD 0 false=false):run Tryz.prog HH 94 [.ptr 0 0] (stB1 g a)=some (.ret (.osl 1 (rgs a).length),stB2 g a (rgs a)):=by
 have hL:=L94 (g:=g) ha 999 1 rfl (Nat.le_refl _) [] (by rw[h0];intro h;cases h) (by decide)
 rw[←rgs]at hL
 rw[run_open F94 rfl rfl (by simp)]
 push_cast[List.map_nil,List.length_nil]at hL
 push_cast[hL]
theorem memB0_zero:∀{l:List Int}{a:List Bool},(∀c∈l,1≤c∧c≤999)→a.length=1001→a.getD 0 false=false→(memB0 l a).getD 0 false=false
 |[],_,_,_,h=>h
 |c::r,a,hl,h,h0=>by
  have:=hl c (List.mem_cons_self ..)
  refine memB0_zero (l:=r) (fun x hx=>hl x (List.mem_cons_of_mem _ hx)) (by rw[setB_len (by omega)];exact h) ?_
  show(setB a c.toNat).getD 0 false=false
  rw[setB,List.getD_eq_getElem?_getD,List.getElem?_append_left (by simp;omega),List.getElem?_take,if_pos (by omega),←List.getD_eq_getElem?_getD];exact h0
def setC (l:List Int):List Rg:=rgs (memB0 l zB)
theorem f49 {l:List Int}(hl:l.length≤4096)(hr:∀c∈l,1≤c∧c≤999){st:St}:run Tryz.prog HH 49 [.sl (l.map (.int .i64))] st=some (.ret (.tup [.sl ((setC l).map rgV),.int .i64 0]),st):=by
 have z1:zB.length=1001:=by rw[zB,List.length_replicate]
 have z2:zB.getD 0 false=false:=by decide +kernel
 have h0:=L49 (g:=st.x.gl) (by omega) hr _ 0 rfl zB z1
 have h165:=f94 (g:=st.x.gl) (memB0_len hr z1) (memB0_zero hr z1 z2)
 have h1:¬(4096:Int)<l.length:=by omega
 rw[List.drop_zero]at h0
 rw[setC]
 generalize memB0 l zB=a at *
 rw[run_shut F49 rfl rfl (by simp)]
 push_cast at h0 h165
 push_cast[h0,h165,h1]
def chkR (l:List Rg):List Rg→Nat→Int
 |[],_=>0
 |q::r,j=>if ¬(1≤q.1∧q.1≤q.2∧q.2≤999) then 2 else if 0<j∧q.1<(l.getD (j-1) default).2+2 then 9 else chkR l r (j+1)
theorem L95 {l:List Rg}(hl:l.length<10000)(hb:∀q∈l,0≤q.2∧q.2≤1000):∀r j,l.drop j=r→runL Tryz.prog HH [0,5,6,7] n B95_0 [(0,.sl (l.map rgV)),(5,.sl (l.map rgV)),(6,.int .i64 l.length),(7,.int .i64 j)] (stN g n)=lpE (stN g n) [] 2 (chkR l r j):=by
 refine drop_ind (fun j h=>?_) (fun q r j h hx hd ih=>?_)
 all_goals rw[runL_of B95_0.eq_1]
 ·have h1:¬(j:Int)<l.length:=by omega
  push_cast[h1,chkR]
 ·have h1:(j:Int)<l.length:=by omega
  have hw:=iw1 (j:=j) (by omega)
  have h163:=fun(st:St)=>f92 (r:=q) (st:=st)
  rw[chkR]
  push_cast[rgV]at h163
  cases j with
  |zero =>
   have h0:(0:Int)<l.length:=by omega
   push_cast[h0,hx,h163,rgV]at ih ⊢
   simp only[false_and,if_false,ih]
  |succ j =>
   have w2:IntKind.i64.wrap ((j:Int)+1-1)=j:=by rw[show(j:Int)+1-1=j by omega];exact iwrap (by omega) (by omega)
   have w4:IntKind.i64.wrap ((j:Int)+1+1)=(j:Int)+1+1:=iwrap (by omega) (by omega)
   have h2:(j:Int)<l.length:=by omega
   have h4:(j:Int)+1<l.length:=by omega
   have h5:(0:Int)≤(j:Int)+1:=by omega
   have h6:(0:Int)<(j:Int)+1:=by omega
   have h7:0<j+1:=by omega
   have hj:l[j]?=some (l.getD j default):=by rw[List.getD_eq_getElem?_getD,List.getElem?_eq_getElem (by omega)];rfl
   have hb:=hb _ (List.mem_of_getElem? hj)
   have w3:IntKind.i64.wrap ((l.getD j default).2+2)=(l.getD j default).2+2:=iwrap (by omega) (by omega)
   push_cast[h4,h5,h6,w4,hx,h163,rgV,w2,w3,h2,Int.toNat_natCast_add_one]at ih ⊢
   simp only[ih,h7,true_and]
def chkS (l:List Rg):Int:=chkR l l 0
theorem f95 {l:List Rg}(hl:l.length<10000)(hb:∀q∈l,0≤q.2∧q.2≤1000){st:St}:run Tryz.prog HH 95 [.sl (l.map rgV)] st=some (.ret (.int .i64 (chkS l)),st):=by
 rw[run_shut F95 rfl rfl (by simp)]
 have hL0:=fun n=>L95 (g:=st.x.gl) (n:=n) hl hb _ 0 rfl
 push_cast[chkS]at hL0
 push_cast[chkS,hL0,lpE,lpX,lpI,lpB]
 all_goals first|with_reducible rfl|exact dn_eq (by omega) (by with_reducible rfl)|((repeat' split)<;>(try simp_all)<;>(try (with_reducible refine dn_eq ?_ ?_<;>first|trivial|omega|rfl))<;>(try omega))
def rgT (q:Rg):List UInt8:=if q.1<q.2 then Lib.itoa q.1++([32,116,104,114,117,32]++Lib.itoa q.2) else Lib.itoa q.1
def stR1 (g:List (Nat×Obj))(n:Nat)(out:Row):St:=⟨n+1,[],[(n,⟨9,1,out.map .str,false,false⟩)],⟨[],g,[]⟩⟩
@[push_cast]theorem stR1_eq {out:Row}:stR1 g n out=⟨n+1,[],[(n,⟨9,1,out.map .str,false,false⟩)],⟨[],g,[]⟩⟩:=idq rfl
theorem L50 {l:List Rg}(hG:glB g=true)(hl:l.length<10000)(hb:∀q∈l,(0≤q.1∧q.1≤1000)∧0≤q.2∧q.2≤1000):∀r j,l.drop j=r→∀out:Row,out.length≤j →
  runL Tryz.prog HH [5,14,15,16] (n+1) B50_0 [(5,.osl n out.length),(14,.sl (l.map rgV)),(15,.int .i64 l.length),(16,.int .i64 j)] (stR1 g n out)
   = some (.exit 0,[(5,.osl n (out++r.map rgT).length)],stR1 g n (out++r.map rgT)):=by
 refine drop_ind (fun j h out ho=>?_) (fun q r j h hx hd ih out ho=>?_)
 all_goals rw[runL_of B50_0.eq_1]
 ·have h1:¬(j:Int)<l.length:=by omega
  push_cast[h1,List.map_nil,List.append_nil]
 ·have h1:(j:Int)<l.length:=by omega
  have hw:=iw1 (j:=j) (by omega)
  obtain⟨q1,q2⟩:=hb q (mem_at hd)
  have e1:=fun nx mem arr obj ty=>itoaH (m:=q.1) (st:=⟨nx,mem,arr,⟨obj,g,ty⟩⟩) (by omega) (by omega) hG
  have e2:=fun nx mem arr obj ty=>itoaH (m:=q.2) (st:=⟨nx,mem,arr,⟨obj,g,ty⟩⟩) (by omega) (by omega) hG
  have l1:=Lib.itoa_length_le q.1 (by omega) (by omega)
  have l2:=Lib.itoa_length_le q.2 (by omega) (by omega)
  have hro:roomV (out.length+1) 16=true:=roomV_lit (by omega) (by omega)
  have ih:=ih (out++[rgT q]) (by simp;omega)
  rw[List.map_cons]
  by_cases h2:q.1<q.2
  ·have h3:q.2>q.1:=h2
   rw[show rgT q=Lib.itoa q.1++([32,116,104,114,117,32]++Lib.itoa q.2) by rw[rgT,if_pos h2]]at ih ⊢
   generalize rgT=tt at *
   push_cast[h1,hw,hx,rgV,e1,e2,h2,h3,hro,List.map_append,List.map_cons,List.map_nil,List.append_assoc,List.singleton_append]at ih ⊢
   exact dn_eq (by omega) ih
  ·rw[show rgT q=Lib.itoa q.1 by rw[rgT,if_neg h2]]at ih ⊢
   generalize rgT=tt at *
   push_cast[h1,hw,hx,rgV,e1,e2,h2,hro,List.map_append,List.map_cons,List.map_nil,List.append_assoc,List.singleton_append]at ih ⊢
   first|exact ih|exact dn_eq (by omega) ih
theorem itoa3_all:(List.range 1001).all (fun n=>decide ((Lib.itoa n).length≤4))=true:=by decide +kernel
theorem itoa3 {m:Int}(h0:0≤m)(h1:m≤1000):(Lib.itoa m).length≤4:=by
 have:=List.all_eq_true.1 itoa3_all m.toNat (List.mem_range.2 (by omega))
 simpa [Int.toNat_of_nonneg h0] using this
theorem rgT_le {q:Rg}(h:(0≤q.1∧q.1≤1000)∧0≤q.2∧q.2≤1000):(rgT q).length≤14:=by
 have l1:=itoa3 h.1.1 h.1.2
 have l2:=itoa3 h.2.1 h.2.2
 unfold rgT
 split
 ·simp only[List.length_append,List.length_cons,List.length_nil];omega
 ·omega
theorem setT_le {l:List Rg}(hb:∀q∈l,(0≤q.1∧q.1≤1000)∧0≤q.2∧q.2≤1000):(Lib.join (l.map rgT) [32,43,32]).length≤17*l.length:=by
 cases l with
 |nil=>simp[Lib.join_nil]
 |cons x r =>
  rw[List.map_cons,Lib.join_length]
  have h1:=lens_le (B:=14) (ss:=(x::r).map rgT) fun s hs=>by
   obtain⟨q,hq,rfl⟩:=List.mem_map.1 hs
   exact rgT_le (hb q hq)
  rw[List.map_cons]at h1
  simp only[List.length_cons,List.length_map,List.length_nil]at h1 ⊢
  omega
def setT (l:List Rg):List UInt8:=if chkS l=0 then Lib.join (l.map rgT) [32,43,32] else[]
theorem f50 {l:List Rg}(hl:l.length≤1000)(hb:∀q∈l,(0≤q.1∧q.1≤1000)∧0≤q.2∧q.2≤1000){st:St}(hG:glB st.x.gl=true):run Tryz.prog HH 50 [.sl (l.map rgV)] st=some (.ret (.tup [.str (setT l),.int .i64 (chkS l)]),st):=by
 have h166:=fun(st:St)=>f95 (st:=st) (by omega) (fun q hq=>(hb q hq).2)
 rw[run_shut F50 rfl rfl (by simp)]
 by_cases hc:chkS l=0
 ·have hL:=L50 (g:=st.x.gl) (n:=0) hG (by omega) hb _ 0 rfl [] (Nat.le_refl _)
  have hj:(Lib.join (l.map rgT) [32,43,32]).length≤100000000000:=by
   have:=setT_le (fun q hq=>⟨(hb q hq).1,(hb q hq).2⟩)
   omega
  have e3:=fun(st:St)=>h100 (ss:=l.map rgT) (t:=[32,43,32]) (st:=st) (by rw[List.length_map];omega) hj
  rw[List.drop_zero,List.nil_append]at hL
  rw[setT,if_pos hc]
  generalize l.map rgT=tt at *
  push_cast[rgV,List.map_nil,List.length_nil]at hL h166
  push_cast[h166,hc,rgV,hL,e3]
 ·push_cast[h166,hc,rgV,setT]
end Go.Proofs.YtdkokbhcjmapdaaGreatDoor

namespace Go.Proofs.YtdkokbhcjmapdaaGreatDoor
open Go.Sha
set_option maxRecDepth 100000
variable {g:List (Nat×Obj)}{n:Nat}
theorem chansL_rng {l:List Int}:∀{r:List Int}{j:Nat},chansL l r j=0→∀c∈r,1≤c∧c≤999
 |[],_,_,c,hc=>by simp at hc
 |q::r,j,h,c,hc=>by
  rw[chansL]at h
  split at h
  ·cases h
  ·split at h
   ·cases h
   ·rcases List.mem_cons.1 hc with rfl|hc
    ·omega
    ·exact chansL_rng h c hc
theorem grp_parts {x:Grp}(h:grpC x=0):1≤x.num∧x.num≤1048576∧x.chans.length≤256∧∀c∈x.chans,1≤c∧c≤999:=by
 unfold grpC at h
 split at h
 ·cases h
 ·split at h
  ·cases h
  ·exact⟨by omega,by omega,by omega,chansL_rng h⟩
theorem grpsL_all {l:List Grp}:∀{r:List Grp}{j:Nat},grpsL l r j=0→∀c∈r,grpC c=0
 |[],_,_,c,hc=>by simp at hc
 |q::r,j,h,c,hc=>by
  rw[grpsL]at h
  repeat' split at h
  all_goals first|(rename_i a;exact absurd h a)|cases h|skip
  rename_i a _
  rcases List.mem_cons.1 hc with rfl|hc
  ·exact a
  ·exact grpsL_all h c hc
theorem grps_parts {s:Sho}(h:shoC s=0):s.grps.length≤32∧∀x∈s.grps,grpC x=0:=by
 have:=(shoC_parts h).2.2.2.2.1
 unfold grpsC at this
 split at this
 ·cases this
 ·exact⟨by omega,grpsL_all this⟩
def RgOk (l:List Rg):Prop:=∀q∈l,(0≤q.1∧q.1≤1000)∧0≤q.2∧q.2≤1000
theorem rgStep_ok {a:List Bool}{c:Nat}{out:List Rg}(hc:c≤1000)(h:RgOk out):RgOk (rgStep a c out):=by
 have hs:∀{o:List Rg},RgOk o→o≠[]→RgOk (rgSet o c):=fun {o} ho hn q hq=>by
  rw[rgSet]at hq
  rcases List.mem_or_eq_of_mem_set hq with hq|rfl
  ·exact ho q hq
  ·have hm:o.getD (o.length-1) default∈o:=by
    have:=List.length_pos_iff.2 hn
    rw[List.getD_eq_getElem?_getD,List.getElem?_eq_getElem (by omega)];simp
   exact⟨(ho _ hm).1,by omega,by omega⟩
 unfold rgStep
 split
 ·split
  ·by_cases hn:out=[]
   ·subst hn;intro q hq;simp[rgSet]at hq
   ·exact hs h hn
  ·refine hs (fun q hq=>?_) (by simp)
   rcases List.mem_append.1 hq with hq|hq
   ·exact h q hq
   ·rw[List.mem_singleton.1 hq];exact⟨⟨by omega,by omega⟩,by omega,by omega⟩
 ·exact h
theorem rgAll_ok {a:List Bool}:∀{m c:Nat}{out:List Rg},c+m≤1000→RgOk out→RgOk (rgAll a m c out)
 |0,_,_,_,h=>h
 |m+1,c,out,hc,h=>by rw[rgAll];exact rgAll_ok (by omega) (rgStep_ok (by omega) h)
theorem setC_ok {l:List Int}:RgOk (setC l):=rgAll_ok (by decide) (by intro q hq;simp at hq)
theorem setC_len {l:List Int}:(setC l).length≤999:=by
 have:=rgAll_len (a:=memB0 l zB) (m:=999) (c:=1) (out:=[])
 simpa [setC,rgs] using this
def rowG (x:Grp):Row:=[Lib.itoa x.num,setT (setC x.chans)]
def hdG:Row:=[[103,114,111,117,112],[99,104,97,110,110,101,108,115]]
def stTG (g:List (Nat×Obj))(tab:List Row):St:=⟨3,[],[(2,⟨59,1,tab.map rowV,false,false⟩),(1,⟨9,1,[.str [103,114,111,117,112],.str [99,104,97,110,110,101,108,115]],false,false⟩)],⟨[],g,[]⟩⟩
@[push_cast]theorem stTG_eq {tab:List Row}:stTG g tab=⟨3,[],[(2,⟨59,1,tab.map rowV,false,false⟩),(1,⟨9,1,[.str [103,114,111,117,112],.str [99,104,97,110,110,101,108,115]],false,false⟩)],⟨[],g,[]⟩⟩:=idq rfl
theorem L14 {l:List Grp}(hG:glB g=true)(hl:l.length<1000)(hA:∀x∈l,grpC x=0):∀r j,l.drop j=r→∀tab:List Row,tab.length≤j+1 →
  runL Tryz.prog HH [5,21,22,23] 3 B14_0 [(5,.osl 2 tab.length),(21,.sl (l.map Grp.v)),(22,.int .i64 l.length),(23,.int .i64 j)] (stTG g tab)
   = some (.exit 0,[(5,.osl 2 (tab++r.map rowG).length)],stTG g (tab++r.map rowG)):=by
 refine drop_ind (fun j h tab hc=>?_) (fun q r j hj hx hd ih tab hc=>?_)
 all_goals rw[runL_of B14_0.eq_1]
 ·have h1:¬(j:Int)<l.length:=by omega
  push_cast[h1,List.map_nil,List.append_nil]
 ·have h1:(j:Int)<l.length:=by omega
  have hw:=iw1 (j:=j) (by omega)
  obtain⟨r1,r2,r3,r4⟩:=grp_parts (hA q (mem_at hd))
  have e1:=fun nx mem arr obj ty=>f33 (m:=q.num) (st:=⟨nx,mem,arr,⟨obj,g,ty⟩⟩) (by omega) (by omega) hG
  have e2:=fun(st:St)=>f49 (l:=q.chans) (st:=st) (by omega) r4
  have hsl:=setC_len (l:=q.chans)
  have hso:=setC_ok (l:=q.chans)
  have e3:=fun nx mem arr obj ty=>f50 (l:=setC q.chans) (st:=⟨nx,mem,arr,⟨obj,g,ty⟩⟩) (by omega) hso hG
  have e5:=fun(st:St)=>h66 (l:=(rowG q).map .str) (st:=st) (by simp[rowG,V.bdL,V.bd])
  have hro:roomV (tab.length+1) 24=true:=roomV_lit (by omega) (by omega)
  have ih:=ih (tab++[rowG q]) (by simp;omega)
  rw[List.map_cons]
  generalize hR:rowG q=R at *
  rw[rowG]at hR
  generalize hss:setC q.chans=ss at *
  subst hR
  simp only[List.map_cons,List.map_nil]at e5
  push_cast[Grp.v,rgV,List.map_nil,List.length_nil]at ih e2 e3
  push_cast[h1,hw,hx,e1,e2,e3,e5,hro,Grp.v,List.map_nil,List.length_nil,List.map_append,List.map_cons,List.append_assoc,List.singleton_append,rowV]at ih ⊢
  first|exact ih|exact dn_eq (by omega) ih
def grpT (s:Sho):List Row:=if shoC s=0 then hdG::s.grps.map rowG else[]
theorem f14 {s:Sho}(h:s.ok){st:St}(hG:glB st.x.gl=true):run Tryz.prog HH 14 [s.v] st=some (.ret (.tup [.sl ((grpT s).map rowV),.int .i64 (shoC s)]),st):=by
 have h1:=fun st=>f37 (st:=st) h
 rw[run_shut F14 rfl rfl (by simp)]
 by_cases hs:shoC s=0
 ·obtain⟨p1,p2⟩:=grps_parts hs
  have hL1:=L14 (g:=st.x.gl) hG (l:=s.grps) (by omega) p2 _ 0 rfl [hdG] (Nat.le_refl _)
  have e4:=fun(st:St)=>h66 (l:=hdG.map .str) (st:=st) rfl
  rw[List.drop_zero]at hL1
  simp only[hdG,List.map_cons,List.map_nil]at e4
  rw[hdG]at hL1
  rw[grpT,if_pos hs]
  generalize s.grps.map rowG=so at *
  push_cast[Sho.v,rowV,List.map_cons,List.map_nil,List.length_cons,List.length_nil,List.singleton_append]at hL1 h1
  push_cast[Sho.v,hL1,h1,hs,e4,hdG,rowV,List.map_cons,List.map_nil,List.length_cons,List.length_nil,List.singleton_append]
 ·push_cast[Sho.v]at h1
  push_cast[Sho.v,h1,hs,grpT]
end Go.Proofs.YtdkokbhcjmapdaaGreatDoor

namespace Go.Proofs.YtdkokbhcjmapdaaGreatDoor
open Go.Sha
set_option maxRecDepth 10000
def B12_0:Cd:=(.g [.b 21 .lss 20 19] (.join [1,5,18,19,20] (.i 21 .skip (.exit [1,5] 0)) (.join [1,5,18,19,20] (.block 1 (.g [.r 22 4 18 20,.d 23 4 22,.s 7 (.alloc 53 [(.str []),.i 0,.i 0,.nils]),.w 4 7 23] (.z [7] (.reg [.m 24 5,.a 25 0 7,.l 26 25,.a 27 1 7,.l 28 27,.n (.act (.mset .s) [.t 24,.t 26,.t 28])])))) (.reg [.v 29 .add 20 1,.m 20 29]))))
def B12_1:Cd:=(.g [.b 37 .lss 36 35] (.join [5,8,34,35,36] (.i 37 .skip (.exit [8] 2)) (.join [5,8,34,35,36] (.block 3 (.g [.r 38 7 34 36,.d 39 7 38,.s 10 (.alloc 81 [.i 0,.i 0,(.str []),.i 0,.i 0,.i 0,(.str [])]),.w 7 10 39] (.z [10] (.greg [[],[],[],[],[],[],[],[],[],[],[],[],[false,false,false,true,true,true,true,true,true,true,true,true],[],[],[],[true],[],[true],[true],[false,false,false,false,false,false,false,false,false,false,false,false,false,false,false,false,false,false,false,true],[],[false,false,false,false,false,false,false,false,false,false,false,false,false,false,false,false,false,false,false,false,false,true],[false,false,false,false,false,false,false,false,false,false,false,false,false,false,false,false,false,false,false,false,false,false,false],[]] [.m 40 8,.a 41 3 10,.l 42 41,.f 43 33 42,.a 44 4 10,.l 45 44,.f 46 33 45,.a 47 4 10,.l 48 47,.m 49 5,.a 50 2 10,.l 51 50,.s 52 (.act (.look .s (.i 0) false) [.t 49,.t 51]),.b 53 .add 48 52,.v 54 .sub 53 1,.f 55 33 54,.d 56 7 10,.f 57 40 56,.a 58 2 10,.l 59 58,.s 60 (.bslice 9 1 [.t 43,.t 46,.t 55,.t 57,.t 59]),.f 61 31 60,.s 62 (.bslice 59 1 [.t 61]),.s 63 (.append 59 1 24 (.t 40) (.t 62)),.m 8 63])))) (.reg [.v 64 .add 36 1,.m 36 64]))))
theorem F12:compF Tryz.prog 12=some ⟨66,[.tmp 2,.tmp 3],(.g [.q 1 31 0,.s 2 (.mv (.c .nils)),.c 3 0] (.z [1] (.join [1] (.g [.d 11 9 1,.f 12 37 11,.m 4 12] (.g [.m 13 4,.v 14 .neq 13 0] (.i 14 (.g [.m 15 4,.s 2 (.mv (.c .nils)),.m 3 15] (.ret [2,3])) .skip))) (.g [.s 16 (.act .mkmap []),.m 5 16] (.join [1,5] (.g [.a 17 2 1,.l 18 17,.u 19 18,.c 20 0] (.block 0 (.loop [1,5,18,19,20] [] B12_0))) (.g [.s 30 (.bslice 9 1 [(.w [117,110,105,118,101,114,115,101]),(.w [102,114,111,109]),(.w [116,111]),(.w [99,104,97,110,110,101,108]),(.w [112,114,111,102,105,108,101])]),.f 31 31 30,.s 32 (.bslice 59 1 [.t 31]),.m 8 32] (.join [8] (.g [.d 33 9 1,.s 34 (.f 38 [.t 33,(.c (.fn (.func 46) [] []))]),.u 35 34,.c 36 0] (.block 2 (.loop [5,8,34,35,36] [(8,(59,1))] B12_1))) (.g [.m 65 8,.m 2 65,.c 3 0] (.ret [2,3])))))))))⟩:=by kernel_rfl
theorem F38:compF Tryz.prog 38=some ⟨13,[.tmp 4],(.g [.q 2 31 0,.q 3 82 1,.s 4 (.mv (.c .nils))] (.z [2,3] (.g [.a 6 3 2,.l 7 6,.f 8 79 7,.m 5 8] (.g [.m 9 5,.s 10 (.mkfn (.func 81) [] [.t 3]),.g' 11 80 9 10] (.g [.m 12 5,.m 4 12] (.ret [4]))))))⟩:=by kernel_rfl
theorem F46:compF Tryz.prog 46=some ⟨8,[.tmp 2,.tmp 3],(.g [.q 1 81 0,.c 2 0,.c 3 0] (.z [1] (.q (.dreg 6 [.a 4 3 1,.l 5 4,.a 6 4 1,.l 7 6,.m 2 5,.m 3 7]) (.ret [2,3]))))⟩:=by kernel_rfl
theorem F40:compF Tryz.prog 40=some ⟨17,[.tmp 2],(.g [.q 1 81 0,.s 2 (.mv (.w []))] (.z [1] (.join [1] (.g [.a 3 1 1,.l 4 3,.v 5 .eql 4 1] (.i 5 (.g [.a 6 0 1,.l 7 6,.f 8 33 7,.m 2 8] (.ret [2])) .skip)) (.q (.dreg 9 [.a 9 0 1,.l 10 9,.f 11 33 10,.s 12 (.bin .add (.t 11) (.w [46])),.a 13 1 1,.l 14 13,.f 15 33 14,.b 16 .add 12 15,.m 2 16]) (.ret [2])))))⟩:=by kernel_rfl
theorem F79:compF Tryz.prog 79=some ⟨8,[.tmp 2],(.g [.s 2 (.mv (.c .nils))] (.join [0] (.g [.m 3 0,.s 4 (.nilk false (.t 3))] (.i 4 (.g [.s 2 (.mv (.c .nils))] (.ret [2])) .skip)) (.g [.s 5 (.bslice 81 7 []),.m 6 0,.s 7 (.append 81 7 72 (.t 5) (.t 6)),.m 2 7] (.ret [2]))))⟩:=by kernel_rfl
theorem F80:compF Tryz.prog 80=some ⟨9,[],(.reg [.m 4 0,.m 5 0,.u 6 5,.m 7 1,.s 8 (.f 155 [.t 4,.t 6,.t 7])])⟩:=by kernel_rfl
theorem F81:compF Tryz.prog 81=some ⟨30,[.tmp 5],(.g [.q 3 81 0,.q 4 81 1,.c 5 0] (.z [3,4] (.g [.l 11 2,.d 12 7 3,.s 13 (.call (.t 11) [.t 12]),.m 10 13,.j 14 0 10,.j 15 1 10,.m 6 14,.m 7 15] (.g [.l 17 2,.d 18 7 4,.s 19 (.call (.t 17) [.t 18]),.m 16 19,.j 20 0 16,.j 21 1 16,.m 8 20,.m 9 21] (.g [.m 22 6,.m 23 8,.g' 24 83 22 23,.m 25 7,.m 26 9,.g' 27 83 25 26,.s 28 (.bslice 3 1 [.t 24,.t 27]),.f 29 82 28,.m 5 29] (.ret [5]))))))⟩:=by kernel_rfl
def B82_0:Cd:=(.g [.b 9 .lss 8 7] (.join [3,6,7,8] (.i 9 .skip (.exit [3] 0)) (.join [3,6,7,8] (.block 1 (.g [.r 10 1 6 8,.l 11 10,.m 5 11] (.g [.m 12 5,.m 13 3,.b 14 .neq 12 13] (.i 14 (.g [.m 15 5,.m 2 15] (.ret [2])) .skip)))) (.reg [.v 16 .add 8 1,.m 8 16]))))
theorem F82:compF Tryz.prog 82=some ⟨18,[.tmp 2],(.g [.c 2 0] (.g [.c 3 0] (.join [3] (.g [.m 6 0,.u 7 6,.c 8 0] (.block 0 (.loop [3,6,7,8] [] B82_0))) (.g [.m 17 3,.m 2 17] (.ret [2])))))⟩:=by kernel_rfl
theorem F83:compF Tryz.prog 83=some ⟨20,[.tmp 4],(.g [.c 4 0] (.g [.m 7 0,.f 8 156 7,.m 5 8] (.g [.m 9 1,.f 10 156 9,.m 6 10] (.join [0,1,6] (.g [.m 11 5] (.i 11 (.join [] (.g [.m 12 6] (.i 12 (.g [.c 4 0] (.ret [4])) .skip)) (.g [.c 4 (-1)] (.ret [4]))) .skip)) (.join [0,1] (.g [.m 13 6] (.i 13 (.g [.c 4 1] (.ret [4])) .skip)) (.join [0,1] (.g [.m 14 0,.m 15 1,.b 16 .lss 14 15] (.i 16 (.g [.c 4 (-1)] (.ret [4])) .skip)) (.join [] (.g [.m 17 0,.m 18 1,.b 19 .gtr 17 18] (.i 19 (.g [.c 4 1] (.ret [4])) .skip)) (.g [.c 4 0] (.ret [4])))))))))⟩:=by kernel_rfl
def B155_0:Cd:=(.join [0,1,2,6,7,8] (.g [.m 11 8,.m 12 1,.b 13 .leq 11 12] (.i 13 .skip (.exit [0,1,2,6,7] 0))) (.block 1 (.g [.m 14 0,.m 15 7,.m 16 8,.m 17 2,.s 18 (.f 215 [.t 14,.t 15,.t 16,.t 17])] (.g [.m 19 8,.m 7 19] (.reg [.m 20 8,.m 21 6,.b 22 .add 20 21,.m 8 22])))))
def B155_1:Cd:=(.join [0,1,2,6,7,8] (.g [.m 33 8,.m 34 1,.b 35 .leq 33 34] (.i 35 .skip (.exit [0,1,2,6,7] 4))) (.block 5 (.g [.m 36 0,.m 37 7,.m 38 7,.m 39 6,.b 40 .add 38 39,.m 41 8,.m 42 2,.s 43 (.f 216 [.t 36,.t 37,.t 40,.t 41,.t 42])] (.g [.m 44 8,.m 7 44] (.reg [.m 45 8,.m 46 6,.s 47 (.bin .mul (.i 2) (.t 46)),.b 48 .add 45 47,.m 8 48])))))
def B155_2:Cd:=(.join [0,1,2,6] (.g [.m 28 6,.m 29 1,.b 30 .lss 28 29] (.i 30 .skip (.exit [] 2))) (.block 3 (.g [.m 31 6,.s 32 (.bin .mul (.i 2) (.t 31)),.c 7 0,.m 8 32] (.join [0,1,2,6,7] (.block 4 (.loop [0,1,2,6,7,8] [] B155_1)) (.join [0,1,2,6] (.g [.m 49 7,.m 50 6,.b 51 .add 49 50,.m 9 51] (.g [.m 52 9,.m 53 1,.b 54 .lss 52 53] (.i 54 (.reg [.m 55 0,.m 56 7,.m 57 9,.m 58 1,.m 59 2,.s 60 (.f 216 [.t 55,.t 56,.t 57,.t 58,.t 59])]) .skip))) (.reg [.m 61 6,.v 62 .mul 61 2,.m 6 62]))))))
theorem F155:compF Tryz.prog 155=some ⟨63,[],(.g [.c 6 20] (.g [.m 10 6,.c 7 0,.m 8 10] (.join [0,1,2,6,7] (.block 0 (.loop [0,1,2,6,7,8] [] B155_0)) (.g [.m 23 0,.m 24 7,.m 25 1,.m 26 2,.s 27 (.f 215 [.t 23,.t 24,.t 25,.t 26])] (.block 2 (.loop [0,1,2,6] [] B155_2))))))⟩:=by kernel_rfl
def B215_0:Cd:=(.join [0,1,2,3,8,9] (.join [0,1,2,3,8,9,34] (.dreg 17 [.m 18 9,.m 19 1,.b 20 .gtr 18 19,.m 21 20,.my 22 3 21,.my 23 0 21,.my 24 9 21,.ry 25 7 23 24 21,.y 26 (.load (some 7) (.t 25)) 21,.my 27 0 21,.my 28 9 21,.vy 29 .sub 28 1 21,.ry 30 7 27 29 21,.y 31 (.load (some 7) (.t 30)) 21,.y 32 (.call (.t 22) [.t 26,.t 31]) 21,.vy 33 .lss 32 0 21,.e 34 21 33]) (.i 34 .skip (.exit [0,1,2,3,8] 2))) (.join [0,1,2,3,8,9] (.block 3 (.greg [[],[],[],[],[],[],[],[],[],[],[],[],[],[],[],[false,false,false,false,false,false,false,false,false,false,true,true,true,false,false],[],[false,false,false,false,false,false,false,false,false,false,false,false,false,false,false,false,false]] [.m 37 0,.m 38 9,.m 39 0,.m 40 9,.v 41 .sub 40 1,.m 42 0,.m 43 9,.v 44 .sub 43 1,.r 45 7 42 44,.d 46 7 45,.m 47 0,.m 48 9,.r 49 7 47 48,.d 50 7 49,.r 51 7 37 38,.w 7 51 46,.r 52 7 39 41,.w 7 52 50])) (.reg [.m 35 9,.v 36 .sub 35 1,.m 9 36])))
def B215_1:Cd:=(.join [0,1,2,3,8] (.g [.m 12 8,.m 13 2,.b 14 .lss 12 13] (.i 14 .skip (.exit [] 0))) (.join [0,1,2,3,8] (.block 1 (.g [.m 17 8,.m 9 17] (.block 2 (.loop [0,1,2,3,8,9] [] B215_0)))) (.reg [.m 15 8,.v 16 .add 15 1,.m 8 16])))
theorem F215:compF Tryz.prog 215=some ⟨53,[],(.g [.m 10 1,.v 11 .add 10 1,.m 8 11] (.block 0 (.loop [0,1,2,3,8] [] B215_1)))⟩:=by kernel_rfl
theorem F156:compF Tryz.prog 156=some ⟨6,[.tmp 2],(.g [.k 2 false] (.g [.m 3 0,.m 4 0,.b 5 .neq 3 4,.m 2 5] (.ret [2])))⟩:=by kernel_rfl
end Go.Proofs.YtdkokbhcjmapdaaGreatDoor

namespace Go.Proofs.YtdkokbhcjmapdaaGreatDoor
open Go.Sha
set_option maxRecDepth 100000
variable {g:List (Nat×Obj)}{n:Nat}
def memC:List Nat:=[37,33]
noncomputable def HC:EvF:=⟨HH.raw,fun f args st=>bif Nat.beq f 79 then hClone 81 7 72 args st else bif memL f memC then run Tryz.prog HH f args st else none⟩
@[push_cast]theorem HC_raw:HC.raw=[126,80,155,215,216,292,348]:=idq rfl
theorem HC_ok (h1:ESound Tryz.prog HH):ESound Tryz.prog HC:=fun f args st r s h=>by
 simp only[HC]at h
 by_cases hf:f=79
 ·subst hf
  simp only[show Nat.beq 79 79=true from rfl,cond_true]at h
  exact clone_ok F79 h
 rw[show Nat.beq f 79=false from Bool.eq_false_iff.2 fun e=>hf (Nat.eq_of_beq_eq_true e),cond_false]at h
 cases hi:memL f memC with
 |false=>rw[hi]at h;cases h
 |true=>rw[hi]at h;exact run_sound mixed h1 _ _ _ _ _ h
theorem upC {k:Nat}{args:List V}{st:St}{r:VRes×St}(h:run Tryz.prog HH k args st=some r)(h1:Nat.beq k 79=false:=by rfl)(h2:memL k memC=true:=by rfl):run Tryz.prog HC k args st=some r:=by
 refine run_H ?_
 simp only[HC,h1,h2,cond_false,cond_true,h]
def cmpI (a b:Int):Int:=if a<b then -1 else if b<a then 1 else 0
def cmpK (key:Fixt→Int×Int)(x y:Fixt):Int:=if cmpI (key x).1 (key y).1=0 then cmpI (key x).2 (key y).2 else cmpI (key x).1 (key y).1
def ltK (key:Fixt→Int×Int)(x y:Fixt):Prop:=(key x).1<(key y).1∨(key x).1=(key y).1∧(key x).2<(key y).2
instance {key:Fixt→Int×Int}{x y:Fixt}:Decidable (ltK key x y):=by unfold ltK;exact inferInstance
theorem cmp_lt {key:Fixt→Int×Int}{x y:Fixt}:(cmpK key x y<0)=ltK key x y:=by
 unfold cmpK cmpI ltK
 rw[eq_iff_iff]
 split<;>(repeat' split)<;>omega
theorem f156 {a:Int}{st:St}:run Tryz.prog HC 156 [.int .i64 a] st=some (.ret (.bool false),st):=by
 rw[run_shut F156 rfl rfl (by simp)]
 push_cast
 all_goals first|with_reducible rfl|exact dn_eq (by omega) (by with_reducible rfl)|((repeat' split)<;>(try simp_all)<;>(try (with_reducible refine dn_eq ?_ ?_<;>first|trivial|omega|rfl))<;>(try omega))
theorem f83 {a b:Int}{st:St}:run Tryz.prog HC 83 [.int .i64 a,.int .i64 b] st=some (.ret (.int .i64 (cmpI a b)),st):=by
 rw[run_shut F83 rfl rfl (by simp)]
 push_cast[f156,cmpI]
 all_goals first|with_reducible rfl|exact dn_eq (by omega) (by with_reducible rfl)|((repeat' split)<;>(try simp_all)<;>(try (with_reducible refine dn_eq ?_ ?_<;>first|trivial|omega|rfl))<;>(try omega))
theorem f82 {a b:Int}{st:St}:run Tryz.prog HC 82 [.sl [.int .i64 a,.int .i64 b]] st=some (.ret (.int .i64 (if a=0 then b else a)),st):=by
 rw[run_shut F82 rfl rfl (by simp)]
 push_cast[runL_of B82_0.eq_1]
 all_goals first|with_reducible rfl|exact dn_eq (by omega) (by with_reducible rfl)|((repeat' split)<;>(try simp_all)<;>(try (with_reducible refine dn_eq ?_ ?_<;>first|trivial|omega|rfl))<;>(try omega))
def kAddr (x:Fixt):Int×Int:=(x.univ,x.addr)
def kChan (x:Fixt):Int×Int:=(x.chan,x.part)
theorem f46 {x:Fixt}{st:St}:run Tryz.prog HC 46 [x.v] st=some (.ret (.tup [.int .i64 (kAddr x).1,.int .i64 (kAddr x).2]),st):=by
 rw[run_shut F46 rfl rfl (by simp)]
 push_cast[Fixt.v,kAddr]
 all_goals first|with_reducible rfl|exact dn_eq (by omega) (by with_reducible rfl)|((repeat' split)<;>(try simp_all)<;>(try (with_reducible refine dn_eq ?_ ?_<;>first|trivial|omega|rfl))<;>(try omega))
def KeyF (k:Nat)(key:Fixt→Int×Int):Prop:=∀x st,run Tryz.prog HC k [Fixt.v x] st=some (.ret (.tup [.int .i64 (key x).1,.int .i64 (key x).2]),st)
@[reducible] def keyV (k:Nat):V:=.ep (.agg [.fn (.func k) [] []]) 0
@[reducible] def cmpV (k:Nat):V:=.fn (.func 81) [] [keyV k]
theorem f81 {k:Nat}{key:Fixt→Int×Int}(hk:KeyF k key)(h0:memL k [126,80,155,215,216,292,348]=false){x y:Fixt}{st:St}:run Tryz.prog HC 81 [x.v,y.v,keyV k] st=some (.ret (.int .i64 (cmpK key x y)),st):=by
 have hk:=fun x st=>hk x st
 rw[run_shut F81 rfl rfl (by simp)]
 push_cast[Fixt.v]at hk
 push_cast[Fixt.v,hk,h0,f83,f82,cmpK]
def insW {α:Type}(lt:α→α→Prop)[∀x y,Decidable (lt x y)]:List α→α→List α→List α
 |[],x,s=>x::s
 |y::r,x,s=>if lt x y then insW lt r x (y::s) else r.reverse++y::x::s
def stK (g:List (Nat×Obj))(xs:List Fixt):St:=⟨3,[],[(2,⟨81,7,xs.map Fixt.v,true,false⟩)],⟨[],g,[]⟩⟩
@[push_cast]theorem stK_eq {xs:List Fixt}:stK g xs=⟨3,[],[(2,⟨81,7,xs.map Fixt.v,true,false⟩)],⟨[],g,[]⟩⟩:=idq rfl
theorem L215_0 {k:Nat}{key:Fixt→Int×Int}(hk:KeyF k key)(h0:memL k [126,80,155,215,216,292,348]=false){m i N:Nat}(hN:N<1000):∀(r:List Fixt) (x:Fixt) (s:List Fixt),r.length+1+s.length=N →
  runL Tryz.prog HC [0,1,2,3,8,9] 3 B215_0 [(0,.osl 2 N),(1,.int .i64 0),(2,.int .i64 m),(3,cmpV k),(8,.int .i64 i),(9,.int .i64 r.length)] (stK g (r.reverse++x::s))
   = some (.exit 2,[(0,.osl 2 N),(1,.int .i64 0),(2,.int .i64 m),(3,cmpV k),(8,.int .i64 i)],stK g (insW (ltK key) r x s)):=by
 have h123:=fun x y st=>f81 hk h0 (x:=x) (y:=y) (st:=st)
 intro r
 induction r with
 |nil =>
  intro x s hl
  rw[runL_of B215_0.eq_1]
  push_cast[List.length_nil,List.reverse_nil,List.nil_append,insW]
 |cons y r ih =>
  intro x s hl
  rw[List.length_cons]at hl
  have ih:=ih x (y::s) (by rw[List.length_cons];omega)
  have e1:((y::r).reverse++x::s).length=N:=by simp;omega
  have e2:∀d,((y::r).reverse++x::s).getD (r.length+1) d=x:=fun d=>by simp[List.getD_eq_getElem?_getD]
  have e3:∀d,((y::r).reverse++x::s).getD r.length d=y:=fun d=>by simp[List.getD_eq_getElem?_getD]
  have e4:(((y::r).reverse++x::s).map Fixt.v).getD (r.length+1) V.und=x.v:=by simp[List.getD_eq_getElem?_getD]
  have e5:(((y::r).reverse++x::s).map Fixt.v).getD r.length V.und=y.v:=by simp[List.getD_eq_getElem?_getD]
  have e6:((y::r).reverse++x::s)[r.length+1]?=some x:=by simp
  have e7:((((y::r).reverse++x::s).map Fixt.v).set (r.length+1) y.v)[r.length]?=some y.v:=by simp
  have e8:((((y::r).reverse++x::s).map Fixt.v).set (r.length+1) y.v).set r.length x.v=(r.reverse++x::y::s).map Fixt.v:=by simp
  have w1:IntKind.i64.wrap (((r.length:Nat):Int)+1-1)=r.length:=by rw[iwrap (by omega) (by omega)];omega
  have c1:(0:Int)<((r.length:Nat):Int)+1:=by omega
  have c2:((r.length:Nat):Int)+1<N:=by omega
  have c3:(r.length:Int)<N:=by omega
  have d2:r.length+1<N:=by omega
  have d3:r.length<N:=by omega
  rw[insW,List.length_cons]
  generalize hxs:(y::r).reverse++x::s=xs at *
  rw[runL_of B215_0.eq_1]
  push_cast[Fixt.v]at h123 ih
  simp only[Fixt.v]at e7 e8
  push_cast[e1,e2,e3,e4,e5,e6,e7,e8,w1,c1,c2,c3,d2,d3,Fixt.v,h123,stoB,V.cells,V.recell,cmp_lt]
  refine dn_eq (fun _=>by simp[e1]) ?_
  split
  ·exact ih
  ·simp[←hxs]
theorem insW_app {α:Type}{lt:α→α→Prop}[∀x y,Decidable (lt x y)]:∀{r:List α}{x:α}{s:List α},insW lt r x s=insW lt r x []++s
 |[],x,s=>rfl
 |y::r,x,s=>by
  rw[insW,insW]
  split
  ·rw[insW_app (s:=y::s),insW_app (s:=[y])];simp
  ·simp
theorem insW_len {α:Type}{lt:α→α→Prop}[∀x y,Decidable (lt x y)]:∀{r:List α}{x:α}{s:List α},(insW lt r x s).length=r.length+s.length+1
 |[],x,s=>by simp[insW]
 |y::r,x,s=>by
  rw[insW]
  split
  ·rw[insW_len];simp;omega
  ·simp;omega
def insS {α:Type}(lt:α→α→Prop)[∀x y,Decidable (lt x y)](out:List α)(x:α):List α:=insW lt out.reverse x []
def isort {α:Type}(lt:α→α→Prop)[∀x y,Decidable (lt x y)](l:List α):List α:=l.foldl (insS lt) []
theorem insS_len {α:Type}{lt:α→α→Prop}[∀x y,Decidable (lt x y)]{l:List α}{x:α}:(insS lt l x).length=l.length+1:=by
 rw[insS,insW_len];simp
theorem isort_len {α:Type}{lt:α→α→Prop}[∀x y,Decidable (lt x y)]{l:List α}:(isort lt l).length=l.length:=by
 suffices ∀o:List α,(l.foldl (insS lt) o).length=o.length+l.length by simpa [isort] using this []
 induction l with
 |nil=>intro o;rfl
 |cons x l ih=>intro o;rw[List.foldl_cons,ih,insS_len,List.length_cons];omega
theorem L215_1 {k:Nat}{key:Fixt→Int×Int}(hk:KeyF k key)(h0:memL k [126,80,155,215,216,292,348]=false){l:List Fixt}(hN:l.length<1000):∀(r:List Fixt) (j:Nat),l.drop j=r→∀out:List Fixt,out.length=j →
  runL Tryz.prog HC [0,1,2,3,8] 3 B215_1 [(0,.osl 2 l.length),(1,.int .i64 0),(2,.int .i64 l.length),(3,cmpV k),(8,.int .i64 j)] (stK g (out++r))
   = some (.exit 0,[],stK g (r.foldl (insS (ltK key)) out)):=by
 refine drop_ind (fun j h out ho=>?_) (fun q r j h hx hd ih out ho=>?_)
 all_goals rw[runL_of B215_1.eq_1]
 ·have h1:¬(j:Int)<l.length:=by omega
  push_cast[h1,List.foldl_nil,List.append_nil]
 ·have h1:(j:Int)<l.length:=by omega
  have hw:=iw1 (j:=j) (by omega)
  have hL:=L215_0 (g:=g) (m:=l.length) (i:=j) hk h0 hN out.reverse q r (by
   have:=congrArg List.length hd
   simp at this ⊢;omega)
  have ih:=ih (insS (ltK key) out q) (by rw[insS_len,ho])
  rw[insW_app,List.reverse_reverse,List.length_reverse,ho]at hL
  rw[List.foldl_cons]
  push_cast[insS]at ih hL
  push_cast[h1,hw,hL,insS]
  exact ih
theorem f215 {k:Nat}{key:Fixt→Int×Int}(hk:KeyF k key)(h0:memL k [126,80,155,215,216,292,348]=false){l:List Fixt}(hN:l.length<1000):run Tryz.prog HC 215 [.osl 2 l.length,.int .i64 0,.int .i64 l.length,cmpV k] (stK g l)=some (.ret (.tup []),stK g (isort (ltK key) l)):=by
 cases l with
 |nil =>
  rw[run_open F215 rfl rfl (by simp)]
  push_cast[runL_of B215_1.eq_1,isort,List.foldl_nil,List.length_nil]
 |cons x l =>
  have hL:=L215_1 (g:=g) hk h0 hN l 1 rfl [x] rfl
  have e:(x::l).foldl (insS (ltK key)) []=l.foldl (insS (ltK key)) [x]:=by simp[insS,insW]
  have hlen:(isort (ltK key) (x::l)).length=(x::l).length:=isort_len
  rw[isort,e]at hlen ⊢
  rw[List.singleton_append]at hL
  rw[run_open F215 rfl rfl (by simp)]
  generalize hxs:x::l=xs at *
  push_cast at hL
  push_cast[hL,hlen]
theorem f155 {k:Nat}{key:Fixt→Int×Int}(hk:KeyF k key)(h0:memL k [126,80,155,215,216,292,348]=false){l:List Fixt}(hN:l.length<20):run Tryz.prog HC 155 [.osl 2 l.length,.int .i64 l.length,cmpV k] (stK g l)=some (.ret (.tup []),stK g (isort (ltK key) l)):=by
 have h273:=f215 (g:=g) hk h0 (l:=l) (by omega)
 have hlen:(isort (ltK key) l).length=l.length:=isort_len
 have h1:¬(20:Int)≤l.length:=by omega
 have h2:¬(20:Int)<l.length:=by omega
 rw[run_open F155 rfl rfl (by simp)]
 push_cast at h273
 push_cast[runL_of B155_0.eq_1,runL_of B155_2.eq_1,h273,h1,h2,hlen]
theorem f80 {k:Nat}{key:Fixt→Int×Int}(hk:KeyF k key)(h0:memL k [126,80,155,215,216,292,348]=false){l:List Fixt}(hN:l.length<20):run Tryz.prog HC 80 [.osl 2 l.length,cmpV k] (stK g l)=some (.ret (.tup []),stK g (isort (ltK key) l)):=by
 have h197:=f155 (g:=g) hk h0 hN
 have hlen:(isort (ltK key) l).length=l.length:=isort_len
 rw[run_open F80 rfl rfl (by simp)]
 push_cast at h197
 push_cast[h197,hlen]
theorem f122n {k:Nat}{st:St}:run Tryz.prog HC 80 [.sl [],cmpV k] st=some (.ret (.tup []),st):=by
 have h197:∀st:St,run Tryz.prog HC 155 [.sl [],.int .i64 0,cmpV k] st=some (.ret (.tup []),st):=fun st=>by
  have h273:∀st:St,run Tryz.prog HC 215 [.sl [],.int .i64 0,.int .i64 0,cmpV k] st=some (.ret (.tup []),st):=fun st=>by
   rw[run_shut F215 rfl rfl (by simp)]
   push_cast[runL_of B215_1.eq_1]
  rw[run_shut F155 rfl rfl (by simp)]
  push_cast[runL_of B155_0.eq_1,runL_of B155_2.eq_1,h273]
 rw[run_shut F80 rfl rfl (by simp)]
 push_cast[h197]
theorem f38 {s:Sho}{k:Nat}{key:Fixt→Int×Int}(hk:KeyF k key)(h0:memL k [126,80,155,215,216,292,348]=false)(hN:s.fixts.length<20){st:St}:run Tryz.prog HC 38 [s.v,.fn (.func k) [] []] st=some (.ret (.sl ((isort (ltK key) s.fixts).map Fixt.v)),st):=by
 have hlen:(isort (ltK key) s.fixts).length=s.fixts.length:=isort_len
 rw[run_shut F38 rfl rfl (by simp[V.bdL,V.bd])]
 cases he:s.fixts with
 |nil =>
  have h1:∀st:St,run Tryz.prog HC 79 [.sl []] st=some (.ret (.sl []),st):=fun st=>run_H rfl
  push_cast[Sho.v,he,List.map_nil,h1,f122n,isort,List.foldl_nil]
 |cons x r =>
  rw[←he]
  have h1:run Tryz.prog HC 79 [.sl (s.fixts.map Fixt.v)] ⟨2,[],[],⟨[],st.x.gl,[]⟩⟩=some (.ret (.osl 2 s.fixts.length),stK st.x.gl s.fixts):=run_H (by
   have c1:((x::r).map Fixt.v).all fastA=true:=by rw[List.all_map,List.all_eq_true];exact fun y _=>rfl
   have c2:((x::r).map Fixt.v).all (fun y=>y.cells.length == 7)=true:=by rw[List.all_map,List.all_eq_true];exact fun y _=>rfl
   have c3:roomV ((x::r).map Fixt.v).length 72=true:=roomV_lit (by rw[List.length_map,←he];omega) (by rw[List.length_map,←he];omega)
   show hClone 81 7 72 [.sl (s.fixts.map Fixt.v)] _=_
   rw[he,List.map_cons]
   rw[List.map_cons]at c1 c2 c3
   rw[hClone,if_pos ⟨c1,c2,c3⟩,stK,List.map_cons];simp)
  have h2:=f80 (g:=st.x.gl) hk h0 hN
  push_cast at h1 h2
  push_cast[Sho.v,h1,h2,hlen]
end Go.Proofs.YtdkokbhcjmapdaaGreatDoor

namespace Go.Proofs.YtdkokbhcjmapdaaGreatDoor
open Go.Sha
set_option maxRecDepth 100000
variable {g:List (Nat×Obj)}{n:Nat}
theorem f58C {m:Int}(h0:-9223372036854775808≤m)(h1:m≤9223372036854775807){st:St}(hG:glB st.x.gl=true):run Tryz.prog HC 33 [.int .i64 m] st=some (.ret (.str (Lib.itoa m)),st):=upC (f33 h0 h1 hG)
theorem h66C {l:List V}(hb:V.bdL 0 l=true){st:St}:run Tryz.prog HC 31 [.sl l] st=some (.ret (.sl l),st):=by
 rw[run_shut F31 rfl rfl (by simpa [V.bdL,V.bd] using hb)]
 push_cast[hb]
def unitT (x:Fixt):List UInt8:=if x.part=1 then Lib.itoa x.chan else Lib.itoa x.chan++46::Lib.itoa x.part
theorem f40 {x:Fixt}(hx:rngC x=0){st:St}(hG:glB st.x.gl=true):run Tryz.prog HC 40 [x.v] st=some (.ret (.str (unitT x)),st):=by
 obtain⟨r1,r2,r3,r4,_⟩:=rng_ok hx
 have e1:=fun nx mem arr obj ty=>f58C (m:=x.chan) (st:=⟨nx,mem,arr,⟨obj,st.x.gl,ty⟩⟩) (by omega) (by omega) hG
 have e2:=fun nx mem arr obj ty=>f58C (m:=x.part) (st:=⟨nx,mem,arr,⟨obj,st.x.gl,ty⟩⟩) (by omega) (by omega) hG
 have l1:=Lib.itoa_length_le x.chan (by omega) (by omega)
 have l2:=Lib.itoa_length_le x.part (by omega) (by omega)
 rw[run_shut F40 rfl rfl (by simp)]
 by_cases h:x.part=1
 ·push_cast[Fixt.v,e1,h,unitT]
 ·push_cast[Fixt.v,e1,e2,h,unitT]
  exact dn_eq (by omega) rfl
def szE (l:List Prof):List (V×V):=l.map fun p=>(.str p.name,.int .i64 p.foot)
theorem find_szE {s:List UInt8}:∀{l:List Prof}{i:Nat},(pfx l s=none→findV (.str s) (szE l) i=some none)∧∀p,pfx l s=some p→∃j,findV (.str s) (szE l) i=some (some (j,.int .i64 p.foot))
 |[],i=>⟨fun _=>rfl,fun p h=>by simp[pfx]at h⟩
 |q::r,i=>by
  obtain⟨i1,i2⟩:=find_szE (s:=s) (l:=r) (i:=i+1)
  simp only[szE,List.map_cons,findV,sameV,pfx]at i1 i2 ⊢
  by_cases h:s=q.name
  ·refine⟨fun e=>by simp[h]at e,fun p e=>?_⟩
   simp[h]at e;subst e
   exact⟨i,by simp[h]⟩
  ·have h':¬q.name=s:=fun e=>h e.symm
   rw[show(s == q.name)=false by simp[h]]
   simp only[List.find?_cons,show(q.name == s)=false by simp[h']]
   exact⟨i1,i2⟩
theorem look_sz {st:St}{s:List UInt8}{l:List Prof}:lookB st (.int .i64 0) false (findV (.str s) (szE l) 0)=some (.int .i64 (((pfx l s).map Prof.foot).getD 0),st):=by
 cases h:pfx l s with
 |none=>rw[find_szE.1 h];rfl
 |some p=>obtain⟨j,hj⟩:=(find_szE (i:=0)).2 p h;rw[hj];rfl
theorem mset_sz {st:St}{i:Nat}{l:List Prof}{p:Prof}(h:pfx l p.name=none):msetB st i (szE l) (.str p.name) (.int .i64 p.foot) (findV (.str p.name) (szE l) 0)=some (.und,⟨st.nx,st.mem,st.arr,⟨updO st.x.obj i (.map (szE (l++[p]))),st.x.gl,st.x.ty⟩⟩):=by
 rw[find_szE.1 h];simp[msetB,putM,szE]
@[push_cast]theorem szE_all {l:List Prof}:((szE l).all fun p=>p.1.bd n&&p.2.bd n)=true:=by simp[szE,V.bd]
def stZa (g:List (Nat×Obj))(a:List Prof):St:=⟨2,[],[],⟨[(1,.map (szE a))],g,[]⟩⟩
@[push_cast]theorem stZa_eq {a:List Prof}:stZa g a=⟨2,[],[],⟨[(1,.map (szE a))],g,[]⟩⟩:=idq rfl
def Uniq (l:List Prof):Prop:=∀r q j,l.drop j=q::r→pfx (l.take j) q.name=none
theorem profsR_uniq {l:List Prof}{m:List (List Pt)}:∀{r:List Prof}{j:Nat},l.drop j=r→profsR l m r j=0→∀q r' i,j≤i→l.drop i=q::r'→pfx (l.take i) q.name=none
 |[],j,hd,_,q,r',i,hi,he=>by
  have h1:=congrArg List.length he
  have h2:=congrArg List.length hd
  simp at h1 h2;omega
 |z::r,j,hd,h,q,r',i,hi,he=>by
  rw[profsR]at h
  split at h
  ·rename_i a;exact absurd h a
  ·split at h
   ·cases h
   ·rename_i a
    by_cases e:i=j
    ·subst e
     rw[hd]at he;cases he
     rw[pfx,List.find?_eq_none]
     intro x hx hn
     exact a (List.any_eq_true.2 ⟨x,hx,hn⟩)
    ·refine profsR_uniq (r:=r) (j:=j+1) ?_ h q r' i (by omega) he
     rw[←List.drop_drop,hd];rfl
theorem uniq_of {s:Sho}(hs:shoC s=0):Uniq s.profs:=fun r q j h=>by
 have:=(shoC_parts hs).2.2.1
 unfold profsCR at this
 split at this
 ·cases this
 ·exact profsR_uniq (l:=s.profs) (r:=s.profs) (j:=0) rfl this q r j (Nat.zero_le _) h
theorem L12_0 {s:Sho}(hl:s.profs.length<140737488355328)(hu:Uniq s.profs):∀r j,s.profs.drop j=r →
  runL Tryz.prog HC [1,5,18,19,20] 2 B12_0 [(1,.ep s.v 0),(5,.mp 1),(18,.sl (s.profs.map Prof.v)),(19,.int .i64 s.profs.length),(20,.int .i64 j)] (stZa g (s.profs.take j))
   = some (.exit 0,[(1,.ep s.v 0),(5,.mp 1)],stZa g s.profs):=by
 refine drop_ind (fun j h=>?_) (fun q r j h hx hd ih=>?_)
 all_goals rw[runL_of B12_0.eq_1]
 ·have h1:¬(j:Int)<s.profs.length:=by omega
  have h2:s.profs.take j=s.profs:=List.take_of_length_le h
  push_cast[h1,h2]
 ·have h1:(j:Int)<s.profs.length:=by omega
  have hw:=iw1 (j:=j) (by omega)
  have h3:=fun(st:St) (i:Nat)=>mset_sz (st:=st) (i:=i) (hu r q j hd)
  rw[take_snoc hd]at ih
  push_cast[Sho.v,Prof.v]at ih
  push_cast[h1,hw,hx,Sho.v,Prof.v,h3]
  exact ih
def rowA (ps:List Prof)(x:Fixt):Row:=[Lib.itoa x.univ,Lib.itoa x.addr,Lib.itoa (x.addr+footS ps x-1),unitT x,x.prof]
def hdA:Row:=[[117,110,105,118,101,114,115,101],[102,114,111,109],[116,111],[99,104,97,110,110,101,108],[112,114,111,102,105,108,101]]
def stTA (g:List (Nat×Obj))(ps:List Prof)(tab:List Row):St:=⟨4,[],[(3,⟨59,1,tab.map rowV,false,false⟩),(2,⟨9,1,[.str [117,110,105,118,101,114,115,101],.str [102,114,111,109],.str [116,111],.str [99,104,97,110,110,101,108],.str [112,114,111,102,105,108,101]],false,false⟩)],⟨[(1,.map (szE ps))],g,[]⟩⟩
@[push_cast]theorem stTA_eq {ps:List Prof}{tab:List Row}:stTA g ps tab=⟨4,[],[(3,⟨59,1,tab.map rowV,false,false⟩),(2,⟨9,1,[.str [117,110,105,118,101,114,115,101],.str [102,114,111,109],.str [116,111],.str [99,104,97,110,110,101,108],.str [112,114,111,102,105,108,101]],false,false⟩)],⟨[(1,.map (szE ps))],g,[]⟩⟩:=idq rfl
theorem L12_1 {ps:List Prof}{l:List Fixt}(hG:glB g=true)(hl:l.length<1000)(hA:∀x∈l,aloC ps x=0):∀r j,l.drop j=r→∀tab:List Row,tab.length≤j+1 →
  runL Tryz.prog HC [5,8,34,35,36] 4 B12_1 [(5,.mp 1),(8,.osl 3 tab.length),(34,.sl (l.map Fixt.v)),(35,.int .i64 l.length),(36,.int .i64 j)] (stTA g ps tab)
   = some (.exit 2,[(8,.osl 3 (tab++r.map (rowA ps)).length)],stTA g ps (tab++r.map (rowA ps))):=by
 refine drop_ind (fun j h tab hc=>?_) (fun q r j hj hx hd ih tab hc=>?_)
 all_goals rw[runL_of B12_1.eq_1]
 ·have h1:¬(j:Int)<l.length:=by omega
  push_cast[h1,List.map_nil,List.append_nil]
 ·have h1:(j:Int)<l.length:=by omega
  have hw:=iw1 (j:=j) (by omega)
  have hq:=hA q (mem_at hd)
  have hr:=(aloC_ok hq).1
  obtain⟨⟨i1,i2,i3⟩,i4⟩:=aloC_in hq
  obtain⟨r1,r2,r3,r4,r5,r6,r7,r8,r9,r10⟩:=rng_ok hr
  have e1:=fun nx mem arr obj ty=>f58C (m:=q.univ) (st:=⟨nx,mem,arr,⟨obj,g,ty⟩⟩) (by omega) (by omega) hG
  have e2:=fun nx mem arr obj ty=>f58C (m:=q.addr) (st:=⟨nx,mem,arr,⟨obj,g,ty⟩⟩) (by omega) (by omega) hG
  have e3:=fun nx mem arr obj ty=>f58C (m:=q.addr+footS ps q-1) (st:=⟨nx,mem,arr,⟨obj,g,ty⟩⟩) (by omega) (by omega) hG
  have e4:=fun nx mem arr obj ty=>f40 (x:=q) (st:=⟨nx,mem,arr,⟨obj,g,ty⟩⟩) hr hG
  have e5:=fun(st:St)=>h66C (l:=(rowA ps q).map .str) (st:=st) (by simp[rowA,V.bdL,V.bd])
  have hm:=fun(st:St)=>look_sz (st:=st) (s:=q.prof) (l:=ps)
  have w1:IntKind.i64.wrap (q.addr+footS ps q)=q.addr+footS ps q:=iwrap (by omega) (by omega)
  have w2:IntKind.i64.wrap (q.addr+footS ps q-1)=q.addr+footS ps q-1:=iwrap (by omega) (by omega)
  have hro:roomV (tab.length+1) 24=true:=roomV_lit (by omega) (by omega)
  have ih:=ih (tab++[rowA ps q]) (by simp;omega)
  rw[←footS]at hm
  rw[List.map_cons]
  generalize hR:rowA ps q=R at *
  rw[rowA]at hR
  subst hR
  simp only[List.map_cons,List.map_nil]at e5
  push_cast[Fixt.v,List.map_nil,List.length_nil]at ih e4
  push_cast[h1,hw,hx,hm,w1,w2,e1,e2,e3,e4,e5,hro,Fixt.v,List.map_nil,List.length_nil,List.map_append,List.map_cons,List.append_assoc,List.singleton_append,rowV]at ih ⊢
  first|exact ih|exact dn_eq (by omega) ih
theorem insW_perm {α:Type}{lt:α→α→Prop}[∀x y,Decidable (lt x y)]:∀{r:List α}{x:α}{s:List α},(insW lt r x s).Perm (x::(r.reverse++s))
 |[],x,s=>.refl _
 |y::r,x,s=>by
  rw[insW]
  split
  ·refine insW_perm.trans (.cons _ ?_);simp
  ·have:=List.perm_middle (l₁:=r.reverse++[y]) (a:=x) (l₂:=s)
   simpa using this
theorem insS_perm {α:Type}{lt:α→α→Prop}[∀x y,Decidable (lt x y)]{l:List α}{x:α}:(insS lt l x).Perm (x::l):=by
 have:=insW_perm (lt:=lt) (r:=l.reverse) (x:=x) (s:=[])
 simpa [insS] using this
theorem isort_perm {α:Type}{lt:α→α→Prop}[∀x y,Decidable (lt x y)]{l:List α}:(isort lt l).Perm l:=by
 suffices ∀o:List α,(l.foldl (insS lt) o).Perm (o++l) by simpa [isort] using this []
 induction l with
 |nil=>intro o;simp
 |cons x l ih=>intro o;rw[List.foldl_cons];exact(ih _).trans ((insS_perm.append_right l).trans (by simpa using List.perm_middle.symm))
def sltT (s:Sho):List Row:=if shoC s=0 then hdA::(isort (ltK kAddr) s.fixts).map (rowA s.profs) else[]
theorem f54C {s:Sho}(h:s.ok){st:St}:run Tryz.prog HC 37 [s.v] st=some (.ret (.int .i64 (shoC s)),st):=upC (f37 h)
theorem f12 {s:Sho}(h:s.ok)(hF:shoC s=0→s.fixts.length<20){st:St}(hG:glB st.x.gl=true):run Tryz.prog HC 12 [s.v] st=some (.ret (.tup [.sl ((sltT s).map rowV),.int .i64 (shoC s)]),st):=by
 have h1:=fun st=>f54C (st:=st) h
 rw[run_shut F12 rfl rfl (by simp)]
 by_cases hs:shoC s=0
 ·have hL:=L12_0 (g:=st.x.gl) h.p.1 (uniq_of hs) _ 0 rfl
  have hp:=isort_perm (lt:=ltK kAddr) (l:=s.fixts)
  have hlen:(isort (ltK kAddr) s.fixts).length=s.fixts.length:=isort_len
  have hF:=hF hs
  have hL1:=L12_1 (g:=st.x.gl) (ps:=s.profs) hG (l:=isort (ltK kAddr) s.fixts) (by omega) (fun x hx=>(fix_ok (shoC_parts hs).2.2.2.1).2.2.2 x (hp.mem_iff.1 hx)) _ 0 rfl [hdA] (Nat.le_refl _)
  have h56:=fun st=>f38 (s:=s) (k:=46) (key:=kAddr) (fun x st=>f46) rfl hF (st:=st)
  have e4:=fun(st:St)=>h66C (l:=hdA.map .str) (st:=st) rfl
  rw[List.drop_zero]at hL1
  rw[List.take_zero]at hL
  simp only[hdA,List.map_cons,List.map_nil]at e4
  rw[hdA]at hL1
  rw[sltT,if_pos hs]
  generalize isort (ltK kAddr) s.fixts=so at *
  have e0:szE []=[]:=rfl
  push_cast[Sho.v,rowV,List.map_cons,List.map_nil,List.length_cons,List.length_nil,List.singleton_append,e0]at hL hL1 h1 h56
  push_cast[Sho.v,hL,hL1,h1,hs,h56,sltT,e4,e0,hdA,rowV,List.map_cons,List.map_nil,List.length_cons,List.length_nil,List.singleton_append]
 ·push_cast[Sho.v]at h1
  push_cast[Sho.v,h1,hs,sltT]
end Go.Proofs.YtdkokbhcjmapdaaGreatDoor

namespace Go.Proofs.YtdkokbhcjmapdaaGreatDoor
open Go.Sha
set_option maxRecDepth 100000
variable {g:List (Nat×Obj)}{n:Nat}
section
variable {α:Type}{lt:α→α→Prop} [∀x y,Decidable (lt x y)]
theorem insW_sorted (ht:∀x y z,¬lt y x→¬lt z y→¬lt z x)(ha:∀x y,lt x y→¬lt y x):∀{r:List α}{x:α}{s:List α},(r.reverse++s).Pairwise (fun x y=>¬lt y x)→(∀z∈s,lt x z)→(insW lt r x s).Pairwise (fun x y=>¬lt y x)
 |[],x,s,h,hs=>List.pairwise_cons.2 ⟨fun z hz=>ha _ _ (hs z hz),by simpa using h⟩
 |y::r,x,s,h,hs=>by
  rw[insW]
  split
  ·rename_i hl
   refine insW_sorted ht ha (by simpa using h) fun z hz=>?_
   rcases List.mem_cons.1 hz with rfl|hz
   ·exact hl
   ·exact hs z hz
  ·rename_i hl
   rw[List.reverse_cons,List.append_assoc]at h
   obtain⟨h1,h2,h3⟩:=List.pairwise_append.1 h
   rw[List.singleton_append,List.pairwise_cons]at h2
   refine List.pairwise_append.2 ⟨h1,List.pairwise_cons.2 ⟨fun z hz=>?_,List.pairwise_cons.2 ⟨fun z hz=>ha _ _ (hs z hz),h2.2⟩⟩,fun a hm b hb=>?_⟩
   ·rcases List.mem_cons.1 hz with rfl|hz
    ·exact hl
    ·exact h2.1 z hz
   ·have hy:=h3 a hm y (by simp)
    rcases List.mem_cons.1 hb with rfl|hb
    ·exact hy
    ·rcases List.mem_cons.1 hb with rfl|hb
     ·exact ht _ _ _ hy hl
     ·exact h3 a hm b (by simp[hb])
theorem isort_sorted (ht:∀x y z,¬lt y x→¬lt z y→¬lt z x)(ha:∀x y,lt x y→¬lt y x){l:List α}:(isort lt l).Pairwise (fun x y=>¬lt y x):=by
 suffices ∀o:List α,o.Pairwise (fun x y=>¬lt y x)→(l.foldl (insS lt) o).Pairwise (fun x y=>¬lt y x) from this [] List.Pairwise.nil
 induction l with
 |nil=>intro o h;exact h
 |cons x l ih=>intro o h;rw[List.foldl_cons];exact ih _ (insW_sorted ht ha (by simpa using h) (by simp))
end
theorem ltK_trans {key:Fixt→Int×Int}(x y z:Fixt):¬ltK key y x→¬ltK key z y→¬ltK key z x:=by unfold ltK;omega
theorem ltK_asym {key:Fixt→Int×Int}(x y:Fixt):ltK key x y→¬ltK key y x:=by unfold ltK;omega
def Disj (ps:List Prof)(x y:Fixt):Prop:=x.univ=y.univ→x.addr+footS ps x≤y.addr∨y.addr+footS ps y≤x.addr
theorem Disj.symm {ps:List Prof}{x y:Fixt}(h:Disj ps x y):Disj ps y x:=fun e=>(h e.symm).symm
theorem fixR_disj {ps:List Prof}{l:List Fixt}:∀{r:List Fixt}{j:Nat},l.drop j=r→fixR ps l r j=0→(∀x∈l.take j,aloC ps x=0)→(l.take j).Pairwise (Disj ps)→l.Pairwise (Disj ps)
 |[],j,hd,_,_,hp=>by
  have:=List.drop_eq_nil_iff.1 hd
  rwa [List.take_of_length_le this]at hp
 |q::r,j,hd,h,hA,hp=>by
  rw[fixR]at h
  repeat' split at h
  all_goals first|(rename_i a;exact absurd h a)|cases h|skip
  rename_i a1 a2 a3
  have a1:=Classical.not_not.1 a1
  obtain⟨⟨i1,i2,i3⟩,i4⟩:=aloC_in a1
  have hA':∀x∈l.take (j+1),aloC ps x=0:=by
   rw[take_snoc hd];intro x hx
   rcases List.mem_append.1 hx with hx|hx
   ·exact hA x hx
   ·rw[List.mem_singleton.1 hx];exact a1
  refine fixR_disj (r:=r) (j:=j+1) (by rw[←List.drop_drop,hd];rfl) h hA' ?_
  rw[take_snoc hd]
  refine List.pairwise_append.2 ⟨hp,by simp,fun x hx y hy=>?_⟩
  rw[List.mem_singleton.1 hy]
  intro he
  obtain⟨⟨k1,k2,k3⟩,k4⟩:=aloC_in (hA x hx)
  have:ovl ps x q=false:=by
   cases e:ovl ps x q with
   |false=>rfl
   |true=>exact absurd (List.any_eq_true.2 ⟨x,hx,e⟩) a3
  rw[ovl,iwrap (by omega) (by omega),iwrap (by omega) (by omega)]at this
  have:=of_decide_eq_false this
  omega
theorem disj_of {s:Sho}(hs:shoC s=0):s.fixts.Pairwise (Disj s.profs):=by
 obtain⟨_,_,h3,h4⟩:=fix_ok (shoC_parts hs).2.2.2.1
 exact fixR_disj (j:=0) rfl h3 (by simp) (by simp)
end Go.Proofs.YtdkokbhcjmapdaaGreatDoor

namespace Go.Proofs.YtdkokbhcjmapdaaGreatDoor
open Go.Sha
set_option maxRecDepth 100000
variable {g:List (Nat×Obj)}{n:Nat}
structure CuR (x:Cu):Prop where
 num:numC x.num=0
 label:labC x.label=0
 moves:x.moves.length≤128
 part:∃t r,x.parts=t::r∧tim t.up∧tim t.down∧tim t.delay
 follow:x.follow=-1∨(25≤x.follow∧x.follow≤10000000)
 link:x.link=[]∨numC x.link=0
 loops:0≤x.loops∧x.loops≤100
end Go.Proofs.YtdkokbhcjmapdaaGreatDoor

namespace Go.Proofs.YtdkokbhcjmapdaaGreatDoor
open Go.Sha
set_option maxRecDepth 10000
end Go.Proofs.YtdkokbhcjmapdaaGreatDoor

namespace Go.Proofs.YtdkokbhcjmapdaaGreatDoor
open Go.Sha
set_option maxRecDepth 100000
variable {g:List (Nat×Obj)}{n:Nat}
end Go.Proofs.YtdkokbhcjmapdaaGreatDoor

namespace Go.Proofs.YtdkokbhcjmapdaaGreatDoor
open Go.Sha
set_option maxRecDepth 10000
def B91_0:Cd:=(.join [0,3,4] (.g [.m 9 4,.v 10 .neq 9 0] (.i 10 .skip (.exit [0,3] 0))) (.join [0,3,4] (.block 1 (.g [.m 13 4,.v 14 .rem 13 10,.m 5 14] (.join [0,3,4,5] (.g [.m 15 5,.v 16 .lss 15 0] (.i 16 (.reg [.m 17 5,.s 18 (.un .neg (.t 17)),.m 5 18]) .skip)) (.reg [.m 19 5,.s 20 (.bin .add (.i 48) (.t 19)),.s 21 (.cvi .u8 (.t 20)),.s 22 (.bslice 5 1 [.t 21]),.s 23 (.cvbs (.t 22)),.m 24 3,.b 25 .add 23 24,.m 3 25])))) (.reg [.m 11 4,.v 12 .quo 11 10,.m 4 12])))
theorem F91:compF Tryz.prog 91=some ⟨31,[.tmp 2],(.g [.s 2 (.mv (.w []))] (.join [0] (.g [.m 6 0,.v 7 .eql 6 0] (.i 7 (.g [.s 2 (.mv (.w [48]))] (.ret [2])) .skip)) (.g [.s 3 (.mv (.w []))] (.join [0,3] (.g [.m 8 0,.m 4 8] (.block 0 (.loop [0,3,4] [] B91_0))) (.join [3] (.g [.m 26 0,.v 27 .lss 26 0] (.i 27 (.reg [.m 28 3,.s 29 (.bin .add (.w [45]) (.t 28)),.m 3 29]) .skip)) (.g [.m 30 3,.m 2 30] (.ret [2])))))))⟩:=by kernel_rfl
theorem F44:compF Tryz.prog 44=some ⟨5,[.tmp 2],(.g [.s 2 (.mv (.w []))] (.g [.m 3 0,.f 4 91 3,.m 2 4] (.ret [2])))⟩:=by kernel_rfl
def B42_0:Cd:=(.join [0,3,4,5] (.join [0,3,4,5,39] (.dreg 27 [.m 13 5,.m 14 3,.u 15 14,.b 16 .lss 13 15,.m 17 16,.my 18 3 17,.my 19 5 17,.ry 20 7 18 19 17,.ay 21 0 20 17,.ly 22 21 17,.my 23 3 17,.my 24 5 17,.ry 25 7 23 24 17,.ay 26 1 25 17,.ly 27 26 17,.my 28 0 17,.my 29 4 17,.ry 30 7 28 29 17,.ay 31 0 30 17,.ly 32 31 17,.my 33 0 17,.my 34 4 17,.ry 35 7 33 34 17,.ay 36 1 35 17,.ly 37 36 17,.y 38 (.f 90 [.t 22,.t 27,.t 32,.t 37]) 17,.e 39 17 38]) (.i 39 .skip (.exit [0,3,4,5] 2))) (.block 3 (.reg [.m 40 5,.v 41 .add 40 1,.m 5 41])))
def B42_1:Cd:=(.join [0,3,4] (.g [.m 7 4,.m 8 0,.u 9 8,.b 10 .lss 7 9] (.i 10 .skip (.exit [3] 0))) (.join [0,3,4] (.block 1 (.g [.c 5 0] (.join [0,3,4,5] (.block 2 (.loop [0,3,4,5] [] B42_0)) (.join [0,3,4,5,6] (.greg [[],[],[],[],[false,false,false,false],[true],[true],[true],[false,false,false,false,false,false,false,false],[]] [.m 42 0,.m 43 4,.r 44 7 42 43,.d 45 7 44,.s 46 (.bslice 81 7 [.t 45]),.m 47 3,.m 48 5,.s 49 (.slice 7 (.t 47) (some (.t 48)) none none),.s 50 (.append 81 7 72 (.t 46) (.t 49)),.m 6 50]) (.reg [.s 51 (.bslice 81 7 []),.m 52 3,.m 53 5,.s 54 (.slice 7 (.t 52) none (some (.t 53)) none),.s 55 (.append 81 7 72 (.t 51) (.t 54)),.m 56 6,.s 57 (.append 81 7 72 (.t 55) (.t 56)),.m 3 57]))))) (.reg [.m 11 4,.v 12 .add 11 1,.m 4 12])))
theorem F42:compF Tryz.prog 42=some ⟨59,[.tmp 2],(.g [.s 2 (.mv (.c .nils))] (.g [.s 3 (.mv (.c .nils))] (.join [3] (.g [.c 4 0] (.block 0 (.loop [0,3,4] [] B42_1))) (.g [.m 58 3,.m 2 58] (.ret [2])))))⟩:=by kernel_rfl
theorem F90:compF Tryz.prog 90=some ⟨22,[.tmp 8],(.g [.k 8 false] (.join [8] (.reg [.m 9 0,.m 10 2,.b 11 .lss 9 10,.m 12 11,.mx 13 0 12,.mx 14 2 12,.bx 15 .eql 13 14 12,.mx 16 15 12,.my 17 1 16,.my 18 3 16,.by' 19 .lss 17 18 16,.x 20 (.pick (.t 16) (.t 19) (.c (.bool false))) 12,.o 21 12 20,.m 8 21]) (.ret [8])))⟩:=by kernel_rfl
theorem F43:compF Tryz.prog 43=some ⟨17,[.tmp 2],(.g [.q 1 81 0,.s 2 (.mv (.w []))] (.z [1] (.join [1] (.g [.a 3 1 1,.l 4 3,.v 5 .eql 4 1] (.i 5 (.g [.a 6 0 1,.l 7 6,.f 8 44 7,.m 2 8] (.ret [2])) .skip)) (.q (.dreg 9 [.a 9 0 1,.l 10 9,.f 11 44 10,.s 12 (.bin .add (.t 11) (.w [46])),.a 13 1 1,.l 14 13,.f 15 44 14,.b 16 .add 12 15,.m 2 16]) (.ret [2])))))⟩:=by kernel_rfl
def B11_0:Cd:=(.join [0,1,5] (.g [.m 11 5,.m 12 0,.u 13 12,.b 14 .lss 11 13] (.i 14 .skip (.exit [] 0))) (.join [0,1,5] (.block 1 (.q (.dreg 10 [.m 17 0,.m 18 5,.r 19 1 17 18,.l 20 19,.m 21 1,.m 22 5,.r 23 1 21 22,.l 24 23,.g' 25 45 20 24,.z 26 25]) (.i 26 (.g [.k 4 false] (.ret [4])) .skip))) (.reg [.m 15 5,.v 16 .add 15 1,.m 5 16])))
theorem F11:compF Tryz.prog 11=some ⟨27,[.tmp 4],(.g [.k 4 false] (.join [0,1] (.g [.m 6 0,.u 7 6,.m 8 1,.u 9 8,.b 10 .neq 7 9] (.i 10 (.g [.k 4 false] (.ret [4])) .skip)) (.join [] (.g [.c 5 0] (.block 0 (.loop [0,1,5] [] B11_0))) (.g [.k 4 true] (.ret [4])))))⟩:=by kernel_rfl
end Go.Proofs.YtdkokbhcjmapdaaGreatDoor

namespace Go.Proofs.YtdkokbhcjmapdaaGreatDoor
open Go.Sha
set_option maxRecDepth 100000
variable {g:List (Nat×Obj)}{n:Nat}
def dgt (k:Nat):List UInt8:=if k=0 then[] else Lib.decDigits k
theorem dgt_step {k:Nat}(h:k≠0):dgt k=dgt (k / 10)++[UInt8.ofNat (48+k % 10)]:=by
 rw[dgt,if_neg h,Lib.decDigits]
 by_cases h1:k<10
 ·rw[dif_pos h1,dgt,if_pos (by omega),Nat.mod_eq_of_lt h1];rfl
 ·rw[dif_neg h1,dgt,if_neg (by omega)]
theorem dgt_itoa {m:Int}(h:0<m):dgt m.toNat=Lib.itoa m:=by
 rw[dgt,if_neg (by omega),Lib.itoa,if_neg (by omega)]
theorem byt {d:Nat}(h:d<10):byteV (.int .u8 (48+(d:Int)))=some (UInt8.ofNat (48+d)):=by
 have h':d=0∨d=1∨d=2∨d=3∨d=4∨d=5∨d=6∨d=7∨d=8∨d=9:=by omega
 rcases h' with rfl|rfl|rfl|rfl|rfl|rfl|rfl|rfl|rfl|rfl<;>rfl
theorem L91 {v0:V}(b0:V.bd n v0=true):∀(j k:Nat) (s:List UInt8),k<10 ^ j→j≤18→s.length+j≤1000 →
  runL Tryz.prog HH [0,3,4] n B91_0 [(0,v0),(3,.str s),(4,.int .i64 k)] (stN g n)=some (.exit 0,[(0,v0),(3,.str (dgt k++s))],stN g n):=by
 intro j
 induction j with
 |zero =>
  intro k s hk _ _
  have h0:k=0:=by simpa using hk
  subst h0
  rw[runL_of B91_0.eq_1]
  push_cast[dgt,b0,List.nil_append]
 |succ j ih =>
  intro k s hk hj hs
  rw[runL_of B91_0.eq_1]
  by_cases h0:k=0
  ·subst h0
   push_cast[dgt,b0,List.nil_append]
  ·have hk':k<10 ^ 18:=Nat.lt_of_lt_of_le hk (Nat.pow_le_pow_right (by omega) hj)
   have h1:¬(k:Int)=0:=by omega
   have t1:(k:Int).tmod 10=((k % 10:Nat):Int):=by rw[Int.tmod_eq_emod_of_nonneg (by omega)];rfl
   have t2:(k:Int).tdiv 10=((k / 10:Nat):Int):=by rw[Int.tdiv_eq_ediv_of_nonneg (by omega)];rfl
   have w1:IntKind.i64.wrap ((k % 10:Nat):Int)=((k % 10:Nat):Int):=iwrap (by omega) (by omega)
   have w2:IntKind.i64.wrap ((k / 10:Nat):Int)=((k / 10:Nat):Int):=iwrap (by omega) (by omega)
   have w3:IntKind.i64.wrap (48+((k % 10:Nat):Int))=48+((k % 10:Nat):Int):=iwrap (by omega) (by omega)
   have hd9:k % 10<10:=Nat.mod_lt _ (by decide)
   have w4:IntKind.u8.wrap (48+((k % 10:Nat):Int))=48+((k % 10:Nat):Int):=by simp[IntKind.wrap,IntKind.bits,IntKind.signed];omega
   have n1:¬((k % 10:Nat):Int)<0:=by omega
   have ih:=ih (k / 10) (UInt8.ofNat (48+k % 10)::s) (by rw[Nat.pow_succ]at hk;omega) (by omega) (by simp;omega)
   rw[dgt_step h0,List.append_assoc,List.singleton_append]
   generalize hz:dgt (k / 10)++UInt8.ofNat (48+k % 10)::s=z at *
   generalize k % 10=d at *
   generalize k / 10=e at *
   have hcv:cvbsV ⟨n+1,[],[(n,⟨5,1,[.int .u8 (48+(d:Int))],false,false⟩)],⟨[],g,[]⟩⟩ (.osl n 1)=some (.str [UInt8.ofNat (48+d)]):=by
    have hb:=byt hd9
    simp only[cvbsV,elemsV,Sha.look,if_true,List.length_cons,List.length_nil,bytesV,hb,Option.map_some]
   push_cast[h1,t1,t2,w1,w2,w3,w4,n1,b0,hcv]at ih ⊢
   exact dn_eq (by omega) ih
theorem f91 {m:Int}(h0:0≤m)(h1:m<1000000000000000000){st:St}:run Tryz.prog HH 91 [.int .i64 m] st=some (.ret (.str (Lib.itoa m)),st):=by
 by_cases hm:m=0
 ·subst hm
  rw[run_shut F91 rfl rfl (by simp)]
  push_cast
  rw[Lib.itoa,if_neg (by decide),Lib.decDigits,dif_pos (by decide)]
  rfl
 ·have hL:=fun n=>L91 (g:=st.x.gl) (n:=n) (v0:=.int .i64 m) rfl 18 m.toNat [] (by omega) (Nat.le_refl _) (by simp)
  rw[Int.toNat_of_nonneg h0,dgt_itoa (by omega),List.append_nil]at hL
  have n1:¬m<0:=by omega
  rw[run_shut F91 rfl rfl (by simp)]
  push_cast at hL
  push_cast[hm,hL,n1]
theorem f44 {m:Int}(h0:0≤m)(h1:m<1000000000000000000){st:St}:run Tryz.prog HH 44 [.int .i64 m] st=some (.ret (.str (Lib.itoa m)),st):=by
 have e:=fun(st:St)=>f91 (st:=st) h0 h1
 rw[run_shut F44 rfl rfl (by simp)]
 push_cast[e]
 all_goals first|with_reducible rfl|exact dn_eq (by omega) (by with_reducible rfl)|((repeat' split)<;>(try simp_all)<;>(try (with_reducible refine dn_eq ?_ ?_<;>first|trivial|omega|rfl))<;>(try omega))
end Go.Proofs.YtdkokbhcjmapdaaGreatDoor

namespace Go.Proofs.YtdkokbhcjmapdaaGreatDoor
open Go.Sha
set_option maxRecDepth 100000
variable {g:List (Nat×Obj)}{n:Nat}
end Go.Proofs.YtdkokbhcjmapdaaGreatDoor

namespace Go.Proofs.YtdkokbhcjmapdaaGreatDoor
open Go.Sha
set_option maxRecDepth 10000
def B47_0:Cd:=(.join [0,3,4,5] (.join [0,3,4,5,39] (.dreg 27 [.m 13 5,.m 14 3,.u 15 14,.b 16 .lss 13 15,.m 17 16,.my 18 3 17,.my 19 5 17,.ry 20 7 18 19 17,.ay 21 3 20 17,.ly 22 21 17,.my 23 3 17,.my 24 5 17,.ry 25 7 23 24 17,.ay 26 4 25 17,.ly 27 26 17,.my 28 0 17,.my 29 4 17,.ry 30 7 28 29 17,.ay 31 3 30 17,.ly 32 31 17,.my 33 0 17,.my 34 4 17,.ry 35 7 33 34 17,.ay 36 4 35 17,.ly 37 36 17,.y 38 (.f 90 [.t 22,.t 27,.t 32,.t 37]) 17,.e 39 17 38]) (.i 39 .skip (.exit [0,3,4,5] 2))) (.block 3 (.reg [.m 40 5,.v 41 .add 40 1,.m 5 41])))
def B47_1:Cd:=(.join [0,3,4] (.g [.m 7 4,.m 8 0,.u 9 8,.b 10 .lss 7 9] (.i 10 .skip (.exit [3] 0))) (.join [0,3,4] (.block 1 (.g [.c 5 0] (.join [0,3,4,5] (.block 2 (.loop [0,3,4,5] [] B47_0)) (.join [0,3,4,5,6] (.greg [[],[],[],[],[false,false,false,false],[true],[true],[true],[false,false,false,false,false,false,false,false],[]] [.m 42 0,.m 43 4,.r 44 7 42 43,.d 45 7 44,.s 46 (.bslice 81 7 [.t 45]),.m 47 3,.m 48 5,.s 49 (.slice 7 (.t 47) (some (.t 48)) none none),.s 50 (.append 81 7 72 (.t 46) (.t 49)),.m 6 50]) (.reg [.s 51 (.bslice 81 7 []),.m 52 3,.m 53 5,.s 54 (.slice 7 (.t 52) none (some (.t 53)) none),.s 55 (.append 81 7 72 (.t 51) (.t 54)),.m 56 6,.s 57 (.append 81 7 72 (.t 55) (.t 56)),.m 3 57]))))) (.reg [.m 11 4,.v 12 .add 11 1,.m 4 12])))
theorem F47:compF Tryz.prog 47=some ⟨59,[.tmp 2],(.g [.s 2 (.mv (.c .nils))] (.g [.s 3 (.mv (.c .nils))] (.join [3] (.g [.c 4 0] (.block 0 (.loop [0,3,4] [] B47_1))) (.g [.m 58 3,.m 2 58] (.ret [2])))))⟩:=by kernel_rfl
def B13_0:Cd:=(.join [1,5,6,7] (.g [.m 20 7,.m 21 6,.u 22 21,.b 23 .lss 20 22] (.i 23 .skip (.exit [5] 0))) (.join [1,5,6,7] (.block 1 (.g [.m 26 6,.m 27 7,.r 28 7 26 27,.d 29 7 28,.s 8 (.alloc 81 [.i 0,.i 0,(.str []),.i 0,.i 0,.i 0,(.str [])]),.w 7 8 29] (.z [8] (.q (.dreg 11 [.a 30 2 1,.l 31 30,.a 32 2 1,.l 33 32,.a 34 2 8,.l 35 34,.g' 36 48 33 35,.r 37 4 31 36,.a 38 1 37,.l 39 38,.m 9 39]) (.greg [[],[],[],[],[],[],[],[],[],[],[],[],[],[],[],[],[],[false,false,false,false,false,false,false,false,false,false,false,false,false,false,false,false,true],[false,false,false,false,false,false,false,false,false,false,false,false,false,false,false,false,false,true],[false,false,false,false,false,false,false,false,false,false,false,false,false,false,false,false,false,false,false],[]] [.m 40 5,.a 41 3 8,.l 42 41,.f 43 44 42,.a 44 4 8,.l 45 44,.f 46 44 45,.a 47 4 8,.l 48 47,.m 49 9,.b 50 .add 48 49,.v 51 .sub 50 1,.f 52 44 51,.d 53 7 8,.f 54 43 53,.a 55 2 8,.l 56 55,.s 57 (.bslice 9 1 [.t 43,.t 46,.t 52,.t 54,.t 56]),.s 58 (.bslice 59 1 [.t 57]),.s 59 (.append 59 1 24 (.t 40) (.t 58)),.m 5 59]))))) (.reg [.m 24 7,.v 25 .add 24 1,.m 7 25])))
theorem F13:compF Tryz.prog 13=some ⟨61,[.tmp 2,.tmp 3],(.g [.q 1 31 0,.s 2 (.mv (.c .nils)),.c 3 0] (.z [1] (.join [1] (.g [.d 10 9 1,.f 11 41 10,.m 4 11] (.g [.m 12 4,.v 13 .neq 12 0] (.i 13 (.g [.m 14 4,.s 2 (.mv (.c .nils)),.m 3 14] (.ret [2,3])) .skip))) (.g [.s 15 (.bslice 9 1 [(.w [117,110,105,118,101,114,115,101]),(.w [102,114,111,109]),(.w [116,111]),(.w [99,104,97,110,110,101,108]),(.w [112,114,111,102,105,108,101])]),.s 16 (.bslice 59 1 [.t 15]),.m 5 16] (.g [.a 17 3 1,.l 18 17,.f 19 47 18,.m 6 19] (.join [5] (.g [.c 7 0] (.block 0 (.loop [1,5,6,7] [(5,(59,1))] B13_0))) (.g [.m 60 5,.m 2 60,.c 3 0] (.ret [2,3]))))))))⟩:=by kernel_rfl
def B15_0:Cd:=(.join [1,5,6] (.g [.m 15 6,.a 16 4 1,.l 17 16,.u 18 17,.b 19 .lss 15 18] (.i 19 .skip (.exit [5] 0))) (.join [1,5,6] (.block 1 (.g [.a 22 4 1,.l 23 22,.m 24 6,.r 25 2 23 24,.d 26 2 25,.s 7 (.alloc 90 [.i 0,.nils]),.w 2 7 26] (.z [7] (.greg [[],[],[],[],[],[],[],[],[false,false,false,false,false,false,false,true],[false,false,false,false,false,false,false,false,true],[false,false,false,false,false,false,false,false,false,false],[]] [.m 27 5,.a 28 0 7,.l 29 28,.f 30 44 29,.a 31 1 7,.l 32 31,.f 33 52 32,.f 34 51 33,.s 35 (.bslice 9 1 [.t 30,.t 34]),.s 36 (.bslice 59 1 [.t 35]),.s 37 (.append 59 1 24 (.t 27) (.t 36)),.m 5 37])))) (.reg [.m 20 6,.v 21 .add 20 1,.m 6 21])))
theorem F15:compF Tryz.prog 15=some ⟨39,[.tmp 2,.tmp 3],(.g [.q 1 31 0,.s 2 (.mv (.c .nils)),.c 3 0] (.z [1] (.join [1] (.g [.d 8 9 1,.f 9 41 8,.m 4 9] (.g [.m 10 4,.v 11 .neq 10 0] (.i 11 (.g [.m 12 4,.s 2 (.mv (.c .nils)),.m 3 12] (.ret [2,3])) .skip))) (.g [.s 13 (.bslice 9 1 [(.w [103,114,111,117,112]),(.w [99,104,97,110,110,101,108,115])]),.s 14 (.bslice 59 1 [.t 13]),.m 5 14] (.join [5] (.g [.c 6 0] (.block 0 (.loop [1,5,6] [(5,(59,1))] B15_0))) (.g [.m 38 5,.m 2 38,.c 3 0] (.ret [2,3])))))))⟩:=by kernel_rfl
def B51_0:Cd:=(.join [0,3,4] (.g [.m 5 4,.m 6 0,.u 7 6,.b 8 .lss 5 7] (.i 8 .skip (.exit [3] 0))) (.join [0,3,4] (.block 1 (.join [0,3,4] (.g [.m 11 4,.v 12 .gtr 11 0] (.i 12 (.reg [.m 13 3,.s 14 (.bin .add (.t 13) (.w [32,43,32])),.m 3 14]) .skip)) (.g [.m 15 3,.m 16 0,.m 17 4,.r 18 2 16 17,.a 19 0 18,.l 20 19,.f 21 96 20,.b 22 .add 15 21,.m 3 22] (.q (.dreg 11 [.m 23 0,.m 24 4,.r 25 2 23 24,.a 26 1 25,.l 27 26,.m 28 0,.m 29 4,.r 30 2 28 29,.a 31 0 30,.l 32 31,.b 33 .gtr 27 32]) (.i 33 (.reg [.m 34 3,.m 35 0,.m 36 4,.r 37 2 35 36,.a 38 1 37,.l 39 38,.f 40 96 39,.s 41 (.bin .add (.w [32,116,104,114,117,32]) (.t 40)),.b 42 .add 34 41,.m 3 42]) .skip))))) (.reg [.m 9 4,.v 10 .add 9 1,.m 4 10])))
theorem F51:compF Tryz.prog 51=some ⟨44,[.tmp 2],(.g [.s 2 (.mv (.w []))] (.g [.s 3 (.mv (.w []))] (.join [3] (.g [.c 4 0] (.block 0 (.loop [0,3,4] [] B51_0))) (.g [.m 43 3,.m 2 43] (.ret [2])))))⟩:=by kernel_rfl
def B52_0:Cd:=(.join [0,3,4] (.g [.m 6 4,.m 7 0,.u 8 7,.b 9 .lss 6 8] (.i 9 .skip (.exit [3] 0))) (.join [0,3,4] (.block 1 (.reg [.m 12 3,.m 13 0,.m 14 4,.r 15 1 13 14,.l 16 15,.r 17 1 12 16,.n (.store 1 (.t 17) (.c (.bool true)))])) (.reg [.m 10 4,.v 11 .add 10 1,.m 4 11])))
theorem F52:compF Tryz.prog 52=some ⟨20,[.tmp 2],(.g [.s 2 (.mv (.c .nils))] (.g [.s 5 (.mkslice 4 1 1 false [(.bool false)] (.i 1001) (.i 1001)),.m 3 5] (.join [3] (.g [.c 4 0] (.block 0 (.loop [0,3,4] [] B52_0))) (.g [.m 18 3,.f 19 97 18,.m 2 19] (.ret [2])))))⟩:=by kernel_rfl
def B96_0:Cd:=(.join [0,3] (.g [.m 4 0,.v 5 .gtr 4 0] (.i 5 .skip (.exit [3] 0))) (.join [0,3] (.block 1 (.reg [.m 8 0,.v 9 .rem 8 10,.s 10 (.bin .add (.i 48) (.t 9)),.s 11 (.cvi .i32 (.t 10)),.s 12 (.cvis (.t 11)),.m 13 3,.b 14 .add 12 13,.m 3 14])) (.reg [.m 6 0,.v 7 .quo 6 10,.m 0 7])))
theorem F96:compF Tryz.prog 96=some ⟨16,[.tmp 2],(.g [.s 2 (.mv (.w []))] (.g [.s 3 (.mv (.w []))] (.join [3] (.block 0 (.loop [0,3] [] B96_0)) (.g [.m 15 3,.m 2 15] (.ret [2])))))⟩:=by kernel_rfl
def B97_0:Cd:=(.join [0,3,4] (.g [.m 5 4,.v 6 .leq 5 999] (.i 6 .skip (.exit [3] 0))) (.join [0,3,4] (.block 1 (.join [0,3,4] (.join [0,3,4,20] (.reg [.m 9 0,.m 10 4,.r 11 1 9 10,.l 12 11,.m 13 12,.my 14 0 13,.my 15 4 13,.vy 16 .sub 15 1 13,.ry 17 1 14 16 13,.ly 18 17 13,.y 19 (.un .not (.t 18)) 13,.e 20 13 19]) (.i 20 (.reg [.m 21 3,.m 22 4,.m 23 4,.s 24 (.build [.i 0,.i 0] [(0,1,(.t 22)),(1,1,(.t 23))]),.s 25 (.bslice 177 2 [.t 24]),.s 26 (.append 177 2 16 (.t 21) (.t 25)),.m 3 26]) .skip)) (.g [.m 27 0,.m 28 4,.r 29 1 27 28,.l 30 29] (.i 30 (.reg [.m 31 3,.m 32 3,.u 33 32,.v 34 .sub 33 1,.m 35 4,.r 36 2 31 34,.a 37 1 36,.w 1 37 35]) .skip)))) (.reg [.m 7 4,.v 8 .add 7 1,.m 4 8])))
theorem F97:compF Tryz.prog 97=some ⟨39,[.tmp 2],(.g [.s 2 (.mv (.c .nils))] (.g [.s 3 (.mv (.c .nils))] (.join [3] (.g [.c 4 1] (.block 0 (.loop [0,3,4] [(3,(177,4098))] B97_0))) (.g [.m 38 3,.m 2 38] (.ret [2])))))⟩:=by kernel_rfl
def B17_0:Cd:=(.join [1,5,6] (.g [.m 15 6,.a 16 5 1,.l 17 16,.u 18 17,.b 19 .lss 15 18] (.i 19 .skip (.exit [5] 0))) (.join [1,5,6] (.block 1 (.g [.a 22 5 1,.l 23 22,.m 24 6,.r 25 2 23 24,.d 26 2 25,.s 7 (.alloc 101 [.i 0,.nils]),.w 2 7 26] (.z [7] (.greg [[],[],[],[],[],[],[],[],[],[],[],[],[false,false,false,false,false,false,false,false,false,false,false,true],[false,false,false,false,false,false,false,false,false,false,false,false,true],[false,false,false,false,false,false,false,false,false,false,false,false,false,false],[]] [.m 27 5,.a 28 0 7,.l 29 28,.f 30 44 29,.a 31 1 7,.l 32 31,.u 33 32,.f 34 44 33,.d 35 9 1,.a 36 0 7,.l 37 36,.g' 38 55 35 37,.s 39 (.bslice 9 1 [.t 30,.t 34,.t 38]),.s 40 (.bslice 59 1 [.t 39]),.s 41 (.append 59 1 24 (.t 27) (.t 40)),.m 5 41])))) (.reg [.m 20 6,.v 21 .add 20 1,.m 6 21])))
theorem F17:compF Tryz.prog 17=some ⟨43,[.tmp 2,.tmp 3],(.g [.q 1 31 0,.s 2 (.mv (.c .nils)),.c 3 0] (.z [1] (.join [1] (.g [.d 8 9 1,.f 9 41 8,.m 4 9] (.g [.m 10 4,.v 11 .neq 10 0] (.i 11 (.g [.m 12 4,.s 2 (.mv (.c .nils)),.m 3 12] (.ret [2,3])) .skip))) (.g [.s 13 (.bslice 9 1 [(.w [112,97,108,101,116,116,101]),(.w [104,117,101,115]),(.w [99,117,101,115])]),.s 14 (.bslice 59 1 [.t 13]),.m 5 14] (.join [5] (.g [.c 6 0] (.block 0 (.loop [1,5,6] [(5,(59,1))] B17_0))) (.g [.m 42 5,.m 2 42,.c 3 0] (.ret [2,3])))))))⟩:=by kernel_rfl
def B55_0:Cd:=(.join [1,2,5,6,7] (.g [.m 16 7,.a 17 6 2,.l 18 17,.m 19 6,.r 20 3 18 19,.a 21 2 20,.l 22 21,.u 23 22,.b 24 .lss 16 23] (.i 24 .skip (.exit [1,2,5,6] 2))) (.join [1,2,5,6,7] (.block 3 (.g [.a 27 6 2,.l 28 27,.m 29 6,.r 30 3 28 29,.a 31 2 30,.l 32 31,.m 33 7,.r 34 9 32 33,.d 35 9 34,.s 8 (.alloc 70 [(.str []),(.str []),.nils,.nils,(.bool false),(.bool false),.i 0,(.str []),.i 0]),.w 9 8 35] (.z [8] (.join [1,2,5,6,7,8] (.g [.d 36 9 8,.m 37 1,.g' 38 104 36 37,.z 39 38] (.i 39 (.exit [1,2,5,6,7] 3) .skip)) (.join [1,2,5,6,7,8] (.g [.m 40 5,.s 41 (.bin .neq (.t 40) (.w []))] (.i 41 (.reg [.m 42 5,.s 43 (.bin .add (.t 42) (.w [44,32])),.m 5 43]) .skip)) (.greg [[],[],[],[],[],[],[],[],[],[],[],[],[],[]] [.m 44 5,.a 45 6 2,.l 46 45,.m 47 6,.r 48 3 46 47,.a 49 0 48,.l 50 49,.f 51 44 50,.s 52 (.bin .add (.t 51) (.w [32,47,32])),.a 53 0 8,.l 54 53,.b 55 .add 52 54,.b 56 .add 44 55,.m 5 56])))))) (.reg [.m 25 7,.v 26 .add 25 1,.m 7 26])))
def B55_1:Cd:=(.join [1,2,5,6] (.g [.m 9 6,.a 10 6 2,.l 11 10,.u 12 11,.b 13 .lss 9 12] (.i 13 .skip (.exit [5] 0))) (.join [1,2,5,6] (.block 1 (.g [.c 7 0] (.block 2 (.loop [1,2,5,6,7] [] B55_0)))) (.reg [.m 14 6,.v 15 .add 14 1,.m 6 15])))
theorem F55:compF Tryz.prog 55=some ⟨58,[.tmp 4],(.g [.q 2 31 0,.s 4 (.mv (.w []))] (.z [2] (.g [.s 5 (.mv (.w []))] (.join [5] (.g [.c 6 0] (.block 0 (.loop [1,2,5,6] [] B55_1))) (.g [.m 57 5,.m 4 57] (.ret [4]))))))⟩:=by kernel_rfl
def B104_0:Cd:=(.join [1,2,5] (.g [.m 6 5,.a 7 2 2,.l 8 7,.u 9 8,.b 10 .lss 6 9] (.i 10 .skip (.exit [] 0))) (.join [1,2,5] (.block 1 (.join [1,2,5,31] (.reg [.a 13 2 2,.l 14 13,.m 15 5,.r 16 5 14 15,.a 17 2 16,.a 18 0 17,.l 19 18,.v 20 .gtr 19 0,.m 21 20,.ay 22 2 2 21,.ly 23 22 21,.my 24 5 21,.ry 25 5 23 24 21,.ay 26 2 25 21,.ay 27 0 26 21,.ly 28 27 21,.my 29 1 21,.by' 30 .eql 28 29 21,.e 31 21 30]) (.i 31 (.g [.k 4 true] (.ret [4])) .skip))) (.reg [.m 11 5,.v 12 .add 11 1,.m 5 12])))
theorem F104:compF Tryz.prog 104=some ⟨32,[.tmp 4],(.g [.q 2 70 0,.k 4 false] (.z [2] (.join [] (.g [.c 5 0] (.block 0 (.loop [1,2,5] [] B104_0))) (.g [.k 4 false] (.ret [4])))))⟩:=by kernel_rfl
theorem F4:compF Tryz.prog 4=some ⟨80,[.tmp 2],(.g [.q 1 31 0,.k 2 false] (.z [1] (.join [1] (.g [.d 15 9 1,.f 16 5 15,.z 17 16] (.i 17 (.g [.s 18 (.f 6 []),.m 2 18] (.ret [2])) .skip)) (.g [.d 20 9 1,.f 21 12 20,.m 19 21,.j 22 0 19,.j 23 1 19,.m 3 22,.m 4 23] (.g [.d 25 9 1,.f 26 13 25,.m 24 26,.j 27 0 24,.j 28 1 24,.m 5 27,.m 6 28] (.g [.d 30 9 1,.f 31 14 30,.m 29 31,.j 32 0 29,.j 33 1 29,.m 7 32,.m 8 33] (.g [.d 35 9 1,.f 36 15 35,.m 34 36,.j 37 0 34,.j 38 1 34,.m 9 37,.m 10 38] (.g [.d 40 9 1,.f 41 16 40,.m 39 41,.j 42 0 39,.j 43 1 39,.m 11 42,.m 12 43] (.g [.d 45 9 1,.f 46 17 45,.m 44 46,.j 47 0 44,.j 48 1 44,.m 13 47,.m 14 48] (.join [2] (.reg [.m 49 3,.m 50 5,.g' 51 11 49 50,.m 52 51,.my 53 4 52,.my 54 6 52,.by' 55 .eql 53 54 52,.e 56 52 55,.m 57 56,.my 58 7 57,.my 59 9 57,.y 60 (.f 11 [.t 58,.t 59]) 57,.e 61 57 60,.m 62 61,.my 63 8 62,.my 64 10 62,.by' 65 .eql 63 64 62,.e 66 62 65,.m 67 66,.my 68 11 67,.my 69 13 67,.y 70 (.f 11 [.t 68,.t 69]) 67,.e 71 67 70,.m 72 71,.my 73 12 72,.my 74 14 72,.by' 75 .eql 73 74 72,.e 76 72 75,.m 77 76,.y 78 (.f 6 []) 77,.e 79 77 78,.m 2 79]) (.ret [2])))))))))))⟩:=by kernel_rfl
end Go.Proofs.YtdkokbhcjmapdaaGreatDoor

namespace Go.Proofs.YtdkokbhcjmapdaaGreatDoor
open Go.Sha
set_option maxRecDepth 100000
variable {g:List (Nat×Obj)}{n:Nat}
def insB (key:Fixt→Int×Int)(out:List Fixt)(x:Fixt):List Fixt:=out.takeWhile (fun y=>decide (ltK key y x))++x::out.dropWhile (fun y=>decide (ltK key y x))
def byK (key:Fixt→Int×Int)(l:List Fixt):List Fixt:=l.foldl (insB key) []
theorem insB_len {key:Fixt→Int×Int}{out:List Fixt}{x:Fixt}:(insB key out x).length=out.length+1:=by
 have:=congrArg List.length (List.takeWhile_append_dropWhile (p:=fun y=>decide (ltK key y x)) (l:=out))
 rw[List.length_append]at this
 rw[insB,List.length_append,List.length_cons];omega
theorem f90 {a b c d:Int}{st:St}:run Tryz.prog HH 90 [.int .i64 a,.int .i64 b,.int .i64 c,.int .i64 d] st=some (.ret (.bool (decide (a<c∨a=c∧b<d))),st):=by
 rw[run_shut F90 rfl rfl (by simp)]
 push_cast
 all_goals first|with_reducible rfl|exact dn_eq (by omega) (by with_reducible rfl)|((repeat' split)<;>(try simp_all)<;>(try (with_reducible refine dn_eq ?_ ?_<;>first|trivial|omega|rfl))<;>(try omega))
theorem L42_0 {l out:List Fixt}{x:Fixt}{i:Nat}(hi:i<l.length)(hx0:∀d,l.getD i d=x)(hl:out.length<1000):∀r j,out.drop j=r →
  runL Tryz.prog HH [0,3,4,5] n B42_0 [(0,.sl (l.map Fixt.v)),(3,.sl (out.map Fixt.v)),(4,.int .i64 i),(5,.int .i64 j)] (stN g n)
   = some (.exit 2,[(0,.sl (l.map Fixt.v)),(3,.sl (out.map Fixt.v)),(4,.int .i64 i),(5,.int .i64 (j+(r.takeWhile fun y=>decide (ltK kChan y x)).length:Nat))],stN g n):=by
 have i1:(i:Int)<l.length:=by omega
 refine drop_ind (fun j h=>?_) (fun q r j h hx hd ih=>?_)
 all_goals rw[runL_of B42_0.eq_1]
 ·have h1:¬(j:Int)<out.length:=by omega
  push_cast[h1,List.takeWhile_nil,List.length_nil,Nat.add_zero,Fixt.v]
 ·have h1:(j:Int)<out.length:=by omega
  have hw:=iw1 (j:=j) (by omega)
  have h2:decide (q.chan<x.chan∨q.chan=x.chan∧q.part<x.part)=decide (ltK kChan q x):=rfl
  have e1:=fun(st:St)=>f90 (a:=q.chan) (b:=q.part) (c:=x.chan) (d:=x.part) (st:=st)
  rw[h2]at e1
  by_cases h3:ltK kChan q x
  ·rw[List.takeWhile_cons_of_pos (by simpa using h3)]
   rw[show j+(q::r.takeWhile fun y=>decide (ltK kChan y x)).length=j+1+(r.takeWhile fun y=>decide (ltK kChan y x)).length by rw[List.length_cons];omega]
   rw[decide_eq_true h3]at e1
   push_cast[h1,hw,hx,hx0,i1,e1,Fixt.v]at ih ⊢
   exact ih
  ·rw[List.takeWhile_cons_of_neg (by simpa using h3),List.length_nil,Nat.add_zero]
   rw[decide_eq_false h3]at e1
   clear ih
   push_cast[h1,hx,hx0,i1,e1,Fixt.v]
def A54:Cd:=.join [0,3,4] (.g [.m 7 4,.m 8 0,.u 9 8,.b 10 .lss 7 9] (.i 10 .skip (.exit [3] 0))) .skip
def M42 : Cd := .block 1 (.g [.c 5 0]
 (.join [0, 3, 4, 5] (.block 2 (.loop [0, 3, 4, 5] [] B42_0))
 (.join [0, 3, 4, 5, 6] (.greg [[], [], [], [], [false, false, false, false], [true], [true], [true], [false, false, false, false, false, false, false, false], []] [.m 42 0, .m 43 4, .r 44 7 42 43, .d 45 7 44, .s 46 (.bslice 81 7 [.t 45]), .m 47 3, .m 48 5, .s 49 (.slice 7 (.t 47) (some (.t 48)) none none), .s 50 (.append 81 7 72 (.t 46) (.t 49)), .m 6 50])
 (.reg [.s 51 (.bslice 81 7 []), .m 52 3, .m 53 5, .s 54 (.slice 7 (.t 52) none (some (.t 53)) none), .s 55 (.append 81 7 72 (.t 51) (.t 54)), .m 56 6, .s 57 (.append 81 7 72 (.t 55) (.t 56)), .m 3 57]))))
def I54:Cd:=.reg [.m 11 4,.v 12 .add 11 1,.m 4 12]
theorem B54_eq:B42_1=A54.put (.join [0,3,4] M42 I54):=rfl
theorem mid54 {l out:List Fixt}{i:Nat}{x:Fixt}(hl:l.length≤1000)(ho:out.length≤i)(hi:i<l.length)(hx:∀d,l.getD i d=x) :
  ∃e s,runC Tryz.prog HH M42 [(0,.sl (l.map Fixt.v)),(3,.sl (out.map Fixt.v)),(4,.int .i64 i)] (stN g 0)=some (.normal,e,s)∧Sha.look e 0=some (.sl (l.map Fixt.v))∧Sha.look e 4=some (.int .i64 i)∧Sha.look e 3=some (.osl 1 (insB kChan out x).length)∧snapA s (.osl 1 (insB kChan out x).length)=some (.sl ((insB kChan out x).map Fixt.v))∧Weak 0 s (stN g 0):=by
 have i1:(i:Int)<l.length:=by omega
 have hL:=L42_0 (g:=g) (n:=0) (l:=l) (out:=out) (i:=i) hi hx (by omega) _ 0 rfl
 rw[List.drop_zero,Nat.zero_add]at hL
 rw[insB_len,insB]
 have hAB:=List.takeWhile_append_dropWhile (p:=fun y=>decide (ltK kChan y x)) (l:=out)
 generalize out.takeWhile (fun y=>decide (ltK kChan y x))=A at *
 generalize out.dropWhile (fun y=>decide (ltK kChan y x))=B at *
 subst hAB
 rw[List.length_append]at ho
 have r1:roomV (1+B.length) 72=true:=roomV_lit (by omega) (by omega)
 have r2:roomV A.length 72=true:=roomV_lit (by omega) (by omega)
 have r3:roomV (A.length+(1+B.length)) 72=true:=roomV_lit (by omega) (by omega)
 have a1:(A.length:Int)≤A.length+B.length:=by omega
 generalize hz:runC Tryz.prog HH M42 _ _=z
 rw[M42]at hz
 push_cast[Fixt.v,List.length_append]at hL
 have m1:∀(st:St) (l:List Fixt),mapO (snapA st) (l.map Fixt.v)=some (l.map Fixt.v):=fun st l=>mapO_map fun x=>rfl
 have f1:List.drop A.length (List.take (A.length+B.length) (A++B))=B:=by rw[List.take_of_length_le (by simp),List.drop_left]
 have f2:List.take A.length (A++B)=A:=List.take_left
 push_cast[Fixt.v]at m1
 have eB:(B.length+1=1+B.length)=True:=eq_true (by omega)
 push_cast[hL,i1,hx,r1,r2,r3,a1,m1,f1,f2,Fixt.v,List.length_append,mapO_map]at hz
 have hz:=(dn_eq ⟨by rw[List.all_eq_true];exact fun _ _=>rfl,by rw[List.all_eq_true];exact fun _ _=>rfl⟩ rfl).symm.trans hz
 push_cast[r3,m1,eB,mapO_map]at hz
 have r4:roomV (A.length+(B.length+1)) 72=true:=roomV_lit (by omega) (by omega)
 have hz:=(dn_eq ⟨by rw[List.all_eq_true];exact fun _ _=>rfl,r4⟩ rfl).symm.trans hz
 subst hz
 refine⟨_,_,rfl,rfl,rfl,by rw[List.length_append];rfl,?_,cutS_weak rfl⟩
 rw[List.length_append]
 simp[snapA_osl,Sha.look,snapO,Nat.add_assoc]
def pre54:Cd:=.g [.s 2 (.mv (.c .nils))] (.g [.s 3 (.mv (.c .nils))] .skip)
def end54:Cd:=.g [.m 58 3,.m 2 58] (.ret [2])
theorem F42':compF Tryz.prog 42=some ⟨59,[.tmp 2],pre54.put (.join [3] (.seq (.reg [.c 4 0]) (.block 0 (.loop [0,3,4] [] B42_1))) end54)⟩:=F42
theorem v42 (hH:ESound Tryz.prog HH){l:List Fixt}(hl:l.length≤1000){st:St}:VCalls Tryz.prog 42 [.sl (l.map Fixt.v)] st fun y s=>y=.ret (.sl ((byK kChan l).map Fixt.v))∧s=st:=by
 refine VCalls_shutW (by simp) (VCalls_WD F42' (Nat.le_of_ble_eq_true rfl) fun N=>?_)
 show WD _ ⟨N,[]⟩ (pre54.put _) (argEnv 0 [.sl (l.map Fixt.v)]) (stN st.x.gl 0) _
 obtain⟨e0,hr0,q0,q3⟩:∃e,runC Tryz.prog HH pre54 (argEnv 0 [.sl (l.map Fixt.v)]) (stN st.x.gl 0)=some (.normal,e,stN st.x.gl 0)∧Sha.look e 0=some (.sl (l.map Fixt.v))∧Sha.look e 3=some .nils:=by
  generalize hz:runC Tryz.prog HH pre54 _ _=z
  rw[pre54]at hz
  push_cast at hz
  subst hz
  exact⟨_,rfl,rfl,rfl⟩
 refine WD.run mixed hH hr0 ?_
 show WD _ _ (.join [3] _ end54) _ _ _
 refine WD.snapE (i:=3) (v':=.sl []) q3 rfl ?_
 refine WD.sub (env':=[(0,.sl (l.map Fixt.v)),(3,.sl ([]:List V))]) (fun i v hv=>?_) ?_
 ·simp only[Sha.look]at hv
  (repeat' split at hv)<;>first|(cases hv;done)|(rename_i e;subst e;cases hv;simp[Sha.look];try assumption)
 refine WD.join (WD.seq (WD.ev mixed hH (x:=.normal) (e:=[(4,.int .i64 0),(0,.sl (l.map Fixt.v)),(3,.sl ([]:List V))]) (s:=stN st.x.gl 0) (by push_cast) ?_))
 show WD _ _ (.block 0 (.loop [0,3,4] [] B42_1)) _ _ _
 refine WD.block (WD.loop (fun m e s=>∃j,m+j=l.length∧e=[(0,.sl (l.map Fixt.v)),(3,.sl ((byK kChan (l.take j)).map Fixt.v)),(4,.int .i64 j)]∧s=stN st.x.gl 0∧(byK kChan (l.take j)).length=j) 0 (Nat.le_refl _) (fun m e s ⟨j,_,_,hs,_⟩=>by rw[hs];rfl) ?_ ?_)
 ·refine⟨l.length,_,_,⟨0,rfl,rfl,rfl,rfl⟩,fun i v hv=>?_,cutS_weak (n:=0) (st:=stN st.x.gl 0) rfl⟩
  simp only[Sha.look]at hv
  (repeat' split at hv)<;>first|(cases hv;done)|(rename_i e;subst e;cases hv;exact⟨by simp[V.bd,bdL_map',V.bdL,byK],rfl⟩)
 ·rintro m e s ⟨j,hm,rfl,rfl,hlen⟩
  rw[B54_eq]
  by_cases hj:j<l.length
  ·have h1:(j:Int)<l.length:=by omega
   refine WD.run mixed hH (x:=.normal) (e:=[(0,.sl (l.map Fixt.v)),(3,.sl ((byK kChan (l.take j)).map Fixt.v)),(4,.int .i64 j)]) (s:=stN st.x.gl 0) (by rw[A54];push_cast[h1]) ?_
   show WD _ _ (.join [0,3,4] M42 I54) _ _ _
   have hx:∀d,l.getD j d=l[j]:=fun d=>by rw[List.getD_eq_getElem?_getD,List.getElem?_eq_getElem hj];rfl
   obtain⟨e1,s1,hr1,u0,u4,u3,us,uw⟩:=mid54 (g:=st.x.gl) (l:=l) (out:=byK kChan (l.take j)) hl (by omega) hj hx
   have hb:insB kChan (byK kChan (l.take j)) l[j]=byK kChan (l.take (j+1)):=by
    rw[byK,byK,List.take_succ_eq_append_getElem hj,List.foldl_append];rfl
   rw[hb]at u3 us
   have hbl:(byK kChan (l.take (j+1))).length=j+1:=by rw[←hb,insB_len,hlen]
   generalize ho':byK kChan (l.take (j+1))=out' at *
   refine WD.join (WD.ev mixed hH hr1 ?_)
   show WD _ _ I54 (restr [0,3,4] e1) s1 _
   rw[show restr [0,3,4] e1=[(0,.sl (l.map Fixt.v)),(3,.osl 1 out'.length),(4,.int .i64 j)] by simp[restr,u0,u3,u4]]
   refine WD.snapE (i:=3) rfl us ?_
   have hw:=iw1 (j:=j) (by omega)
   refine WD.ev mixed hH (x:=.normal) (e:=[(4,.int .i64 (j+1:Nat)),(12,.int .i64 (j+1:Nat)),(11,.int .i64 j),(3,.sl (out'.map Fixt.v)),(0,.sl (l.map Fixt.v)),(3,.osl 1 out'.length),(4,.int .i64 j)]) (s:=s1) (by rw[I54];push_cast[hw]) ?_
   refine⟨m-1,[(0,.sl (l.map Fixt.v)),(3,.sl (out'.map Fixt.v)),(4,.int .i64 (j+1:Nat))],stN st.x.gl 0,by omega,⟨j+1,by omega,by rw[ho'],rfl,by rw[ho'];exact hbl⟩,fun i v hv=>?_,uw⟩
   simp only[Sha.look]at hv
   (repeat' split at hv)<;>first|(cases hv;done)|(rename_i e;subst e;cases hv;exact⟨by simp[V.bd,bdL_map',V.bdL],rfl⟩)
  ·have h1:¬(j:Int)<l.length:=by omega
   have ej:j=l.length:=by omega
   refine WD.run mixed hH (x:=.exit 0) (e:=[(3,.sl ((byK kChan (l.take j)).map Fixt.v))]) (s:=stN st.x.gl 0) (by rw[A54];push_cast[h1]) ?_
   refine(show ∀(K1 K2:Env→St→Prop) (Q1:Post) e s,Q1 .normal e s→seqPost K1 (seqPost K2 (blockPost 0 Q1)) (.exit 0) e s from fun K1 K2 Q1 e s h=>by simp only[seqPost,blockPost,if_true];exact h) _ _ _ _ _ ?_
   show WD _ _ end54 [(3,.sl ((byK kChan (l.take j)).map Fixt.v))] (stN st.x.gl 0) _
   rw[ej,List.take_length]
   refine WD.ev mixed hH (x:=.ret) (e:=[(2,.sl ((byK kChan l).map Fixt.v))]) (s:=stN st.x.gl 0) (by rw[end54];push_cast) ⟨.ret (.sl ((byK kChan l).map Fixt.v)),stN st.x.gl 0,rfl,?_⟩
   push_cast[Fixt.v]
theorem L47_0 {l out:List Fixt}{x:Fixt}{i:Nat}(hi:i<l.length)(hx0:∀d,l.getD i d=x)(hl:out.length<1000):∀r j,out.drop j=r →
  runL Tryz.prog HH [0,3,4,5] n B47_0 [(0,.sl (l.map Fixt.v)),(3,.sl (out.map Fixt.v)),(4,.int .i64 i),(5,.int .i64 j)] (stN g n)
   = some (.exit 2,[(0,.sl (l.map Fixt.v)),(3,.sl (out.map Fixt.v)),(4,.int .i64 i),(5,.int .i64 (j+(r.takeWhile fun y=>decide (ltK kAddr y x)).length:Nat))],stN g n):=by
 have i1:(i:Int)<l.length:=by omega
 refine drop_ind (fun j h=>?_) (fun q r j h hx hd ih=>?_)
 all_goals rw[runL_of B47_0.eq_1]
 ·have h1:¬(j:Int)<out.length:=by omega
  push_cast[h1,List.takeWhile_nil,List.length_nil,Nat.add_zero,Fixt.v]
 ·have h1:(j:Int)<out.length:=by omega
  have hw:=iw1 (j:=j) (by omega)
  have h2:decide (q.univ<x.univ∨q.univ=x.univ∧q.addr<x.addr)=decide (ltK kAddr q x):=rfl
  have e1:=fun(st:St)=>f90 (a:=q.univ) (b:=q.addr) (c:=x.univ) (d:=x.addr) (st:=st)
  rw[h2]at e1
  by_cases h3:ltK kAddr q x
  ·rw[List.takeWhile_cons_of_pos (by simpa using h3)]
   rw[show j+(q::r.takeWhile fun y=>decide (ltK kAddr y x)).length=j+1+(r.takeWhile fun y=>decide (ltK kAddr y x)).length by rw[List.length_cons];omega]
   rw[decide_eq_true h3]at e1
   push_cast[h1,hw,hx,hx0,i1,e1,Fixt.v]at ih ⊢
   exact ih
  ·rw[List.takeWhile_cons_of_neg (by simpa using h3),List.length_nil,Nat.add_zero]
   rw[decide_eq_false h3]at e1
   clear ih
   push_cast[h1,hx,hx0,i1,e1,Fixt.v]
def A71:Cd:=.join [0,3,4] (.g [.m 7 4,.m 8 0,.u 9 8,.b 10 .lss 7 9] (.i 10 .skip (.exit [3] 0))) .skip
def M47 : Cd := .block 1 (.g [.c 5 0]
 (.join [0, 3, 4, 5] (.block 2 (.loop [0, 3, 4, 5] [] B47_0))
 (.join [0, 3, 4, 5, 6] (.greg [[], [], [], [], [false, false, false, false], [true], [true], [true], [false, false, false, false, false, false, false, false], []] [.m 42 0, .m 43 4, .r 44 7 42 43, .d 45 7 44, .s 46 (.bslice 81 7 [.t 45]), .m 47 3, .m 48 5, .s 49 (.slice 7 (.t 47) (some (.t 48)) none none), .s 50 (.append 81 7 72 (.t 46) (.t 49)), .m 6 50])
 (.reg [.s 51 (.bslice 81 7 []), .m 52 3, .m 53 5, .s 54 (.slice 7 (.t 52) none (some (.t 53)) none), .s 55 (.append 81 7 72 (.t 51) (.t 54)), .m 56 6, .s 57 (.append 81 7 72 (.t 55) (.t 56)), .m 3 57]))))
def I71:Cd:=.reg [.m 11 4,.v 12 .add 11 1,.m 4 12]
theorem B71_eq:B47_1=A71.put (.join [0,3,4] M47 I71):=rfl
theorem mid71 {l out:List Fixt}{i:Nat}{x:Fixt}(hl:l.length≤1000)(ho:out.length≤i)(hi:i<l.length)(hx:∀d,l.getD i d=x) :
  ∃e s,runC Tryz.prog HH M47 [(0,.sl (l.map Fixt.v)),(3,.sl (out.map Fixt.v)),(4,.int .i64 i)] (stN g 0)=some (.normal,e,s)∧Sha.look e 0=some (.sl (l.map Fixt.v))∧Sha.look e 4=some (.int .i64 i)∧Sha.look e 3=some (.osl 1 (insB kAddr out x).length)∧snapA s (.osl 1 (insB kAddr out x).length)=some (.sl ((insB kAddr out x).map Fixt.v))∧Weak 0 s (stN g 0):=by
 have i1:(i:Int)<l.length:=by omega
 have hL:=L47_0 (g:=g) (n:=0) (l:=l) (out:=out) (i:=i) hi hx (by omega) _ 0 rfl
 rw[List.drop_zero,Nat.zero_add]at hL
 rw[insB_len,insB]
 have hAB:=List.takeWhile_append_dropWhile (p:=fun y=>decide (ltK kAddr y x)) (l:=out)
 generalize out.takeWhile (fun y=>decide (ltK kAddr y x))=A at *
 generalize out.dropWhile (fun y=>decide (ltK kAddr y x))=B at *
 subst hAB
 rw[List.length_append]at ho
 have r1:roomV (1+B.length) 72=true:=roomV_lit (by omega) (by omega)
 have r2:roomV A.length 72=true:=roomV_lit (by omega) (by omega)
 have r3:roomV (A.length+(1+B.length)) 72=true:=roomV_lit (by omega) (by omega)
 have a1:(A.length:Int)≤A.length+B.length:=by omega
 generalize hz:runC Tryz.prog HH M47 _ _=z
 rw[M47]at hz
 push_cast[Fixt.v,List.length_append]at hL
 have m1:∀(st:St) (l:List Fixt),mapO (snapA st) (l.map Fixt.v)=some (l.map Fixt.v):=fun st l=>mapO_map fun x=>rfl
 have f1:List.drop A.length (List.take (A.length+B.length) (A++B))=B:=by rw[List.take_of_length_le (by simp),List.drop_left]
 have f2:List.take A.length (A++B)=A:=List.take_left
 push_cast[Fixt.v]at m1
 have eB:(B.length+1=1+B.length)=True:=eq_true (by omega)
 push_cast[hL,i1,hx,r1,r2,r3,a1,m1,f1,f2,Fixt.v,List.length_append,mapO_map]at hz
 have hz:=(dn_eq ⟨by rw[List.all_eq_true];exact fun _ _=>rfl,by rw[List.all_eq_true];exact fun _ _=>rfl⟩ rfl).symm.trans hz
 push_cast[r3,m1,eB,mapO_map]at hz
 have r4:roomV (A.length+(B.length+1)) 72=true:=roomV_lit (by omega) (by omega)
 have hz:=(dn_eq ⟨by rw[List.all_eq_true];exact fun _ _=>rfl,r4⟩ rfl).symm.trans hz
 subst hz
 refine⟨_,_,rfl,rfl,rfl,by rw[List.length_append];rfl,?_,cutS_weak rfl⟩
 rw[List.length_append]
 simp[snapA_osl,Sha.look,snapO,Nat.add_assoc]
def pre71:Cd:=.g [.s 2 (.mv (.c .nils))] (.g [.s 3 (.mv (.c .nils))] .skip)
def end71:Cd:=.g [.m 58 3,.m 2 58] (.ret [2])
theorem F47':compF Tryz.prog 47=some ⟨59,[.tmp 2],pre71.put (.join [3] (.seq (.reg [.c 4 0]) (.block 0 (.loop [0,3,4] [] B47_1))) end71)⟩:=F47
theorem v47 (hH:ESound Tryz.prog HH){l:List Fixt}(hl:l.length≤1000){st:St}:VCalls Tryz.prog 47 [.sl (l.map Fixt.v)] st fun y s=>y=.ret (.sl ((byK kAddr l).map Fixt.v))∧s=st:=by
 refine VCalls_shutW (by simp) (VCalls_WD F47' (Nat.le_of_ble_eq_true rfl) fun N=>?_)
 show WD _ ⟨N,[]⟩ (pre71.put _) (argEnv 0 [.sl (l.map Fixt.v)]) (stN st.x.gl 0) _
 obtain⟨e0,hr0,q0,q3⟩:∃e,runC Tryz.prog HH pre71 (argEnv 0 [.sl (l.map Fixt.v)]) (stN st.x.gl 0)=some (.normal,e,stN st.x.gl 0)∧Sha.look e 0=some (.sl (l.map Fixt.v))∧Sha.look e 3=some .nils:=by
  generalize hz:runC Tryz.prog HH pre71 _ _=z
  rw[pre71]at hz
  push_cast at hz
  subst hz
  exact⟨_,rfl,rfl,rfl⟩
 refine WD.run mixed hH hr0 ?_
 show WD _ _ (.join [3] _ end71) _ _ _
 refine WD.snapE (i:=3) (v':=.sl []) q3 rfl ?_
 refine WD.sub (env':=[(0,.sl (l.map Fixt.v)),(3,.sl ([]:List V))]) (fun i v hv=>?_) ?_
 ·simp only[Sha.look]at hv
  (repeat' split at hv)<;>first|(cases hv;done)|(rename_i e;subst e;cases hv;simp[Sha.look];try assumption)
 refine WD.join (WD.seq (WD.ev mixed hH (x:=.normal) (e:=[(4,.int .i64 0),(0,.sl (l.map Fixt.v)),(3,.sl ([]:List V))]) (s:=stN st.x.gl 0) (by push_cast) ?_))
 show WD _ _ (.block 0 (.loop [0,3,4] [] B47_1)) _ _ _
 refine WD.block (WD.loop (fun m e s=>∃j,m+j=l.length∧e=[(0,.sl (l.map Fixt.v)),(3,.sl ((byK kAddr (l.take j)).map Fixt.v)),(4,.int .i64 j)]∧s=stN st.x.gl 0∧(byK kAddr (l.take j)).length=j) 0 (Nat.le_refl _) (fun m e s ⟨j,_,_,hs,_⟩=>by rw[hs];rfl) ?_ ?_)
 ·refine⟨l.length,_,_,⟨0,rfl,rfl,rfl,rfl⟩,fun i v hv=>?_,cutS_weak (n:=0) (st:=stN st.x.gl 0) rfl⟩
  simp only[Sha.look]at hv
  (repeat' split at hv)<;>first|(cases hv;done)|(rename_i e;subst e;cases hv;exact⟨by simp[V.bd,bdL_map',V.bdL,byK],rfl⟩)
 ·rintro m e s ⟨j,hm,rfl,rfl,hlen⟩
  rw[B71_eq]
  by_cases hj:j<l.length
  ·have h1:(j:Int)<l.length:=by omega
   refine WD.run mixed hH (x:=.normal) (e:=[(0,.sl (l.map Fixt.v)),(3,.sl ((byK kAddr (l.take j)).map Fixt.v)),(4,.int .i64 j)]) (s:=stN st.x.gl 0) (by rw[A71];push_cast[h1]) ?_
   show WD _ _ (.join [0,3,4] M47 I71) _ _ _
   have hx:∀d,l.getD j d=l[j]:=fun d=>by rw[List.getD_eq_getElem?_getD,List.getElem?_eq_getElem hj];rfl
   obtain⟨e1,s1,hr1,u0,u4,u3,us,uw⟩:=mid71 (g:=st.x.gl) (l:=l) (out:=byK kAddr (l.take j)) hl (by omega) hj hx
   have hb:insB kAddr (byK kAddr (l.take j)) l[j]=byK kAddr (l.take (j+1)):=by
    rw[byK,byK,List.take_succ_eq_append_getElem hj,List.foldl_append];rfl
   rw[hb]at u3 us
   have hbl:(byK kAddr (l.take (j+1))).length=j+1:=by rw[←hb,insB_len,hlen]
   generalize ho':byK kAddr (l.take (j+1))=out' at *
   refine WD.join (WD.ev mixed hH hr1 ?_)
   show WD _ _ I71 (restr [0,3,4] e1) s1 _
   rw[show restr [0,3,4] e1=[(0,.sl (l.map Fixt.v)),(3,.osl 1 out'.length),(4,.int .i64 j)] by simp[restr,u0,u3,u4]]
   refine WD.snapE (i:=3) rfl us ?_
   have hw:=iw1 (j:=j) (by omega)
   refine WD.ev mixed hH (x:=.normal) (e:=[(4,.int .i64 (j+1:Nat)),(12,.int .i64 (j+1:Nat)),(11,.int .i64 j),(3,.sl (out'.map Fixt.v)),(0,.sl (l.map Fixt.v)),(3,.osl 1 out'.length),(4,.int .i64 j)]) (s:=s1) (by rw[I71];push_cast[hw]) ?_
   refine⟨m-1,[(0,.sl (l.map Fixt.v)),(3,.sl (out'.map Fixt.v)),(4,.int .i64 (j+1:Nat))],stN st.x.gl 0,by omega,⟨j+1,by omega,by rw[ho'],rfl,by rw[ho'];exact hbl⟩,fun i v hv=>?_,uw⟩
   simp only[Sha.look]at hv
   (repeat' split at hv)<;>first|(cases hv;done)|(rename_i e;subst e;cases hv;exact⟨by simp[V.bd,bdL_map',V.bdL],rfl⟩)
  ·have h1:¬(j:Int)<l.length:=by omega
   have ej:j=l.length:=by omega
   refine WD.run mixed hH (x:=.exit 0) (e:=[(3,.sl ((byK kAddr (l.take j)).map Fixt.v))]) (s:=stN st.x.gl 0) (by rw[A71];push_cast[h1]) ?_
   refine(show ∀(K1 K2:Env→St→Prop) (Q1:Post) e s,Q1 .normal e s→seqPost K1 (seqPost K2 (blockPost 0 Q1)) (.exit 0) e s from fun K1 K2 Q1 e s h=>by simp only[seqPost,blockPost,if_true];exact h) _ _ _ _ _ ?_
   show WD _ _ end71 [(3,.sl ((byK kAddr (l.take j)).map Fixt.v))] (stN st.x.gl 0) _
   rw[ej,List.take_length]
   refine WD.ev mixed hH (x:=.ret) (e:=[(2,.sl ((byK kAddr l).map Fixt.v))]) (s:=stN st.x.gl 0) (by rw[end71];push_cast) ⟨.ret (.sl ((byK kAddr l).map Fixt.v)),stN st.x.gl 0,rfl,?_⟩
   push_cast[Fixt.v]
end Go.Proofs.YtdkokbhcjmapdaaGreatDoor

namespace Go.Proofs.YtdkokbhcjmapdaaGreatDoor
open Go.Sha
set_option maxRecDepth 100000
variable {g:List (Nat×Obj)}{n:Nat}{s:Sho}
theorem insB_cons {key:Fixt→Int×Int}{y x:Fixt}{r:List Fixt}:insB key (y::r) x=if ltK key y x then y::insB key r x else x::y::r:=by
 unfold insB
 by_cases h:ltK key y x
 ·rw[if_pos h,List.takeWhile_cons_of_pos (by simpa using h),List.dropWhile_cons_of_pos (by simpa using h)];rfl
 ·rw[if_neg h,List.takeWhile_cons_of_neg (by simpa using h),List.dropWhile_cons_of_neg (by simpa using h)];rfl
theorem insB_perm {key:Fixt→Int×Int}{x:Fixt}{out:List Fixt}:(insB key out x).Perm (x::out):=by
 refine List.perm_middle.trans ?_
 rw[List.takeWhile_append_dropWhile]
theorem ltK_tr {key:Fixt→Int×Int}{x y z:Fixt}(h1:ltK key x y)(h2:ltK key y z):ltK key x z:=by unfold ltK at *;omega
theorem ltK_tri {key:Fixt→Int×Int}{x y:Fixt}(h:¬ltK key y x)(hk:key y≠key x):ltK key x y:=by
 have:¬((key y).1=(key x).1∧(key y).2=(key x).2):=fun e=>hk (Prod.ext e.1 e.2)
 unfold ltK at *;omega
theorem insB_sorted {key:Fixt→Int×Int}{x:Fixt}:∀{out:List Fixt},out.Pairwise (ltK key)→(∀y∈out,key y≠key x)→(insB key out x).Pairwise (ltK key)
 |[],_,_=>List.pairwise_singleton ..
 |y::r,h,hx=>by
  obtain⟨h1,h2⟩:=List.pairwise_cons.1 h
  rw[insB_cons]
  split
  ·rename_i hl
   refine List.pairwise_cons.2 ⟨fun z hz=>?_,insB_sorted h2 fun z hz=>hx z (List.mem_cons_of_mem _ hz)⟩
   rcases List.mem_cons.1 (insB_perm.mem_iff.1 hz) with rfl|hz
   ·exact hl
   ·exact h1 z hz
  ·rename_i hl
   have hxy:=ltK_tri hl (hx y (List.mem_cons_self ..))
   refine List.pairwise_cons.2 ⟨fun z hz=>?_,h⟩
   rcases List.mem_cons.1 hz with rfl|hz
   ·exact hxy
   ·exact ltK_tr hxy (h1 z hz)
theorem byK_fold {key:Fixt→Int×Int}:∀{l o:List Fixt},o.Pairwise (ltK key)→(o++l).Pairwise (fun x y=>key x≠key y)→(l.foldl (insB key) o).Pairwise (ltK key)∧(l.foldl (insB key) o).Perm (o++l)
 |[],o,h,_=>⟨h,by simp⟩
 |x::l,o,h,hd=>by
  have hp:(insB key o x++l).Perm (o++x::l):=(insB_perm.append_right l).trans (List.perm_middle.symm)
  have h1:=insB_sorted (x:=x) h fun y hy=>by
   have:=(List.pairwise_append.1 hd).2.2 y hy x (List.mem_cons_self ..)
   exact this
  obtain⟨a,b⟩:=byK_fold (l:=l) (o:=insB key o x) h1 ((hp.pairwise_iff fun {a b} h=>Ne.symm h).2 hd)
  exact⟨a,b.trans hp⟩
theorem byK_eq {key:Fixt→Int×Int}{l:List Fixt}(h:l.Pairwise fun x y=>key x≠key y):byK key l=isort (ltK key) l:=by
 obtain⟨a,b⟩:=byK_fold (key:=key) (l:=l) (o:=[]) List.Pairwise.nil (by simpa using h)
 have hp:=isort_perm (lt:=ltK key) (l:=l)
 have h1:(isort (ltK key) l).Pairwise (fun x y=>¬ltK key y x):=isort_sorted ltK_trans ltK_asym
 have h2:=(hp.pairwise_iff fun {a b} h=>Ne.symm h).2 h
 have h3:(isort (ltK key) l).Pairwise (ltK key):=(h1.and h2).imp fun {a b} h=>ltK_tri h.1 (fun e=>h.2 e.symm)
 rw[List.nil_append]at b
 exact List.Perm.eq_of_pairwise (le:=ltK key) (fun a b _ _ h1 h2=>absurd h2 (ltK_asym a b h1)) a h3 (b.trans hp.symm)
theorem addr_dif (hs:shoC s=0):s.fixts.Pairwise fun x y=>kAddr x≠kAddr y:=by
 obtain⟨_,_,h3,h4⟩:=fix_ok (shoC_parts hs).2.2.2.1
 refine(disj_of hs).imp_of_mem fun {x y} hx hy h e=>?_
 obtain⟨⟨i1,i2,i3⟩,i4⟩:=aloC_in (h4 x hx)
 obtain⟨⟨k1,k2,k3⟩,k4⟩:=aloC_in (h4 y hy)
 simp only[kAddr,Prod.mk.injEq]at e
 have:=h e.1
 omega
def memG:List Nat:=[41,43,44,48]
open Classical in
noncomputable def HG (s:Sho):EvF:=⟨HH.raw,fun f args st=>bif Nat.beq f 42 then(if args=[.sl (s.fixts.map Fixt.v)]∧s.fixts.length≤64 then some (.ret (.sl ((byK kChan s.fixts).map Fixt.v)),st) else none) else
 bif Nat.beq f 47 then(if args=[.sl (s.fixts.map Fixt.v)]∧s.fixts.length≤64 then some (.ret (.sl ((byK kAddr s.fixts).map Fixt.v)),st) else none) else bif memL f memG then run Tryz.prog HH f args st else none⟩
@[push_cast]theorem HG_raw:(HG s).raw=[126,80,155,215,216,292,348]:=idq rfl
theorem upG {k:Nat}{args:List V}{st:St}{r:VRes×St}(h:run Tryz.prog HH k args st=some r)(h1:Nat.beq k 42=false:=by rfl)(h2:Nat.beq k 47=false:=by rfl)(h3:memL k memG=true:=by rfl):run Tryz.prog (HG s) k args st=some r:=by
 refine run_H ?_
 simp only[HG,h1,h2,h3,cond_false,cond_true,h]
theorem g47 (hl:s.fixts.length≤64){st:St}:run Tryz.prog (HG s) 47 [.sl (s.fixts.map Fixt.v)] st=some (.ret (.sl ((byK kAddr s.fixts).map Fixt.v)),st):=by
 refine run_H ?_
 simp only[HG,show Nat.beq 47 42=false from rfl,show Nat.beq 47 47=true from rfl,cond_false,cond_true]
 rw[if_pos ⟨trivial,hl⟩]
theorem HG_ok (h1:ESound Tryz.prog HH):ESound Tryz.prog (HG s):=fun f args st r z e=>by
 simp only[HG]at e
 cases hi:Nat.beq f 42 with
 |true =>
  rw[hi,cond_true]at e
  have:=Nat.eq_of_beq_eq_true hi
  subst this
  split at e
  ·rename_i ha
   obtain⟨rfl,hl⟩:=ha
   cases e
   exact v42 h1 (by omega)
  ·cases e
 |false =>
  rw[hi,cond_false]at e
  cases hi:Nat.beq f 47 with
  |true =>
   rw[hi,cond_true]at e
   have:=Nat.eq_of_beq_eq_true hi
   subst this
   split at e
   ·rename_i ha
    obtain⟨rfl,hl⟩:=ha
    cases e
    exact v47 h1 (by omega)
   ·cases e
  |false =>
   rw[hi,cond_false]at e
   cases hi:memL f memG with
   |true=>rw[hi]at e;exact run_sound mixed h1 _ _ _ _ _ e
   |false=>rw[hi]at e;cases e
theorem f43 {x:Fixt}(hr:rngC x=0){st:St}:run Tryz.prog HH 43 [x.v] st=some (.ret (.str (unitT x)),st):=by
 obtain⟨r1,r2,r3,r4,r5,r6,r7,r8,r9,r10⟩:=rng_ok hr
 have e1:=fun(st:St)=>f44 (m:=x.chan) (st:=st) (by omega) (by omega)
 have e2:=fun(st:St)=>f44 (m:=x.part) (st:=st) (by omega) (by omega)
 have l1:=Lib.itoa_length_le x.chan (by omega) (by omega)
 have l2:=Lib.itoa_length_le x.part (by omega) (by omega)
 unfold unitT
 rw[run_shut F43 rfl rfl (by simp)]
 by_cases h:x.part=1
 ·push_cast[Fixt.v,h,e1]
 ·push_cast[Fixt.v,h,e1,e2,List.append_assoc,List.singleton_append]
  first|done|exact dn_eq (by first|omega|(simp;omega)) rfl
end Go.Proofs.YtdkokbhcjmapdaaGreatDoor

namespace Go.Proofs.YtdkokbhcjmapdaaGreatDoor
open Go.Sha
set_option maxRecDepth 100000
end Go.Proofs.YtdkokbhcjmapdaaGreatDoor

namespace Go.Proofs.YtdkokbhcjmapdaaGreatDoor
open Go.Sha
set_option maxRecDepth 100000
variable {g:List (Nat×Obj)}{n:Nat}
theorem f107n {l:List Fixt}{ps:List Prof}(h1:12<l.length)(h2:l.length≤64){st:St}:run Tryz.prog HH 19 [.sl (l.map Fixt.v),.sl (ps.map Prof.v)] st=some (.ret (.bool false),st):=by
 have a1:(12:Int)<l.length:=by omega
 have a2:(l.length:Int)≤64:=by omega
 rw[run_shut F19 rfl rfl (by simp)]
 push_cast[a1,a2]
theorem f52n {x:Sho}(h:x.ok)(h1:12<x.fixts.length)(h2:x.fixts.length≤64){st:St}:run Tryz.prog HH 5 [x.v] st=some (.ret (.bool false),st):=by
 obtain⟨b1,h1'⟩:=f18 h.c.1
 have h2':=fun(st:St)=>f107n (ps:=x.profs) (st:=st) h1 h2
 obtain⟨b3,h3⟩:=f20 h.g.1
 obtain⟨b4,h4⟩:=f21 h.l.1
 obtain⟨b5,h5⟩:=f22 h.s.1
 obtain⟨b6,h6⟩:=f23 (l:=x.effs)
 rw[run_shut F5 rfl rfl (by simp)]
 push_cast[Sho.v,h1',h2',h3,h4,h5,h6]
end Go.Proofs.YtdkokbhcjmapdaaGreatDoor

namespace Go.Proofs.YtdkokbhcjmapdaaGreatDoor
open Go.Sha
set_option maxRecDepth 10000
end Go.Proofs.YtdkokbhcjmapdaaGreatDoor

namespace Go.Proofs.YtdkokbhcjmapdaaGreatDoor
open Go.Sha
set_option maxRecDepth 100000
variable {g:List (Nat×Obj)}{n:Nat}
end Go.Proofs.YtdkokbhcjmapdaaGreatDoor

namespace Go.Proofs.YtdkokbhcjmapdaaGreatDoor
open Go.Sha
set_option maxRecDepth 100000
variable {g:List (Nat×Obj)}{n:Nat}{s:Sho}
def TokR (T:List Row):Prop:=T.length<1000000∧∀r∈T,r.length<1000000
theorem L11 {T:List Row}(hT:TokR T):∀r j,T.drop j=r→runL Tryz.prog HK [0,1,5] n B11_0 [(0,.sl (T.map rowV)),(1,.sl (T.map rowV)),(5,.int .i64 j)] (stN g n)=some (.exit 0,[],stN g n):=by
 have hl:=hT.1
 refine drop_ind (fun j h=>?_) (fun q r j h hx hd ih=>?_)
 all_goals rw[runL_of B11_0.eq_1]
 ·have h1:¬(j:Int)<T.length:=by omega
  push_cast[h1]
 ·have h1:(j:Int)<T.length:=by omega
  have hw:=iw1 (j:=j) (by omega)
  have e1:=fun(st:St)=>f45 (a:=q) (st:=st) (by have:=hT.2 q (mem_at hd);omega)
  push_cast[rowV]at ih
  push_cast[h1,hw,hx,e1,rowV]at ih ⊢
  exact ih
theorem f11 {T:List Row}(hT:TokR T){st:St}:run Tryz.prog HK 11 [.sl (T.map rowV),.sl (T.map rowV)] st=some (.ret (.bool true),st):=by
 have hL:=fun n=>L11 (g:=st.x.gl) (n:=n) hT _ 0 rfl
 rw[run_shut F11 rfl rfl (by simp)]
 push_cast[rowV]at hL
 push_cast[rowV,hL]
theorem f5' {s:Sho}(h:s.ok):∃b,(b=true→shoC s=0→s.fixts.length≤12)∧∀st,run Tryz.prog HH 5 [s.v] st=some (.ret (.bool b),st):=by
 obtain⟨b,hb⟩:=f5 h
 refine⟨b,fun e hs=>?_,hb⟩
 have h2:=(fix_ok (shoC_parts hs).2.2.2.1).2.1
 rcases Nat.lt_or_ge 12 s.fixts.length with h1|h1
 ·have:=f52n h h1 h2 (st:=stG [])
  rw[hb,e]at this
  cases this
 ·exact h1
end Go.Proofs.YtdkokbhcjmapdaaGreatDoor

namespace Go.Proofs.YtdkokbhcjmapdaaGreatDoor
open Go.Sha
set_option maxRecDepth 100000
variable {g:List (Nat×Obj)}{n:Nat}{s:Sho}
end Go.Proofs.YtdkokbhcjmapdaaGreatDoor

namespace Go.Proofs.YtdkokbhcjmapdaaGreatDoor
open Go.Sha
set_option maxRecDepth 100000
variable {g:List (Nat×Obj)}{n:Nat}{s:Sho}{v:GV}
end Go.Proofs.YtdkokbhcjmapdaaGreatDoor

namespace Go.Proofs.YtdkokbhcjmapdaaGreatDoor
open Go.Sha
set_option maxRecDepth 100000
variable {g:List (Nat×Obj)}{n:Nat}{s:Sho}
structure OkR (a:List Bool) (c:Nat) (out:List Rg):Prop where
 r:∀q∈out,1≤q.1∧q.1≤q.2∧q.2<c
 p:out.Pairwise fun x y=>x.2+2≤y.1
 y:a.getD (c-1) false=true→out≠[]∧(out.getD (out.length-1) default).2+1=c
 n:a.getD (c-1) false=false→∀q∈out,q.2+1<c
theorem getD_last {α:Type}[Inhabited α]{l:List α}(h:l≠[]):∃l',l=l'++[l.getD (l.length-1) default]:=by
 refine⟨l.dropLast,?_⟩
 have:=List.length_pos_iff.2 h
 rw[List.getD_eq_getElem?_getD,List.getElem?_eq_getElem (by omega),Option.getD_some]
 have e:=List.dropLast_concat_getLast h
 rw[List.getLast_eq_getElem]at e
 exact e.symm
theorem okR_step {a:List Bool}{c:Nat}{out:List Rg}(hc:1≤c)(h:OkR a c out):OkR a (c+1) (rgStep a c out):=by
 cases b1:a.getD c false with
 |false =>
  rw[rgStep,b1,if_neg (by simp)]
  exact⟨fun q hq=>by have:=h.r q hq;omega,h.p,fun e=>(by rw[Nat.add_sub_cancel,b1]at e;cases e),fun _ q hq=>by have:=h.r q hq;omega⟩
 |true =>
  cases b2:a.getD (c-1) false with
  |false =>
   have hn:=h.n b2
   have e:rgStep a c out=out++[((c:Int),(c:Int))]:=by rw[rgStep,b1,b2];simp[rgSet]
   rw[e]
   refine⟨fun q hq=>?_,List.pairwise_append.2 ⟨h.p,by simp,fun x hx y hy=>?_⟩,fun _=>⟨by simp,by simp[List.getD_eq_getElem?_getD]⟩,fun e=>by rw[Nat.add_sub_cancel,b1]at e;cases e⟩
   ·rcases List.mem_append.1 hq with hq|hq
    ·have:=h.r q hq;omega
    ·rw[List.mem_singleton.1 hq];refine⟨by show(1:Int)≤c;omega,Int.le_refl _,by show(c:Int)<(c+1:Nat);omega⟩
   ·have:=hn x hx
    rw[List.mem_singleton.1 hy];show x.2+2≤(c:Int);omega
  |true =>
   obtain⟨y1,y2⟩:=h.y b2
   obtain⟨l',hl⟩:=getD_last y1
   generalize hz:out.getD (out.length-1) default=z at *
   have e:rgStep a c out=l'++[(z.1,(c:Int))]:=by
    rw[rgStep,b1,b2]
    simp only[if_true,rgSet,hz]
    rw[hl]
    simp
   rw[e]
   have hp:=h.p
   rw[hl]at hp
   obtain⟨p1,_,p3⟩:=List.pairwise_append.1 hp
   have hzr:=h.r z (by rw[hl];simp)
   refine⟨fun q hq=>?_,List.pairwise_append.2 ⟨p1,by simp,fun x hx y hy=>?_⟩,fun _=>⟨by simp,by simp[List.getD_eq_getElem?_getD]⟩,fun e=>by rw[Nat.add_sub_cancel,b1]at e;cases e⟩
   ·rcases List.mem_append.1 hq with hq|hq
    ·have:=h.r q (by rw[hl];exact List.mem_append_left _ hq);omega
    ·rw[List.mem_singleton.1 hq];refine⟨hzr.1,by show z.1≤(c:Int);omega,by show(c:Int)<(c+1:Nat);omega⟩
   ·rw[List.mem_singleton.1 hy];exact p3 x hx z (by simp)
theorem okR_all {a:List Bool}:∀{m c:Nat}{out:List Rg},1≤c→OkR a c out→OkR a (c+m) (rgAll a m c out)
 |0,_,_,_,h=>h
 |m+1,c,out,hc,h=>by
  rw[rgAll,show c+(m+1)=c+1+m by omega]
  exact okR_all (by omega) (okR_step hc h)
theorem chkR_ok {l:List Rg}(h1:∀q∈l,1≤q.1∧q.1≤q.2∧q.2≤999)(h2:l.Pairwise fun x y=>x.2+2≤y.1):∀{r:List Rg}{j:Nat},l.drop j=r→chkR l r j=0
 |[],_,_=>rfl
 |q::r,j,hd=>by
  rw[chkR,if_neg (by simpa using h1 q (mem_at hd)),if_neg,chkR_ok h1 h2 (drop_succ hd)]
  rintro⟨h0,h3⟩
  have hj:=drop_le hd
  have e1:l.getD (j-1) default=l[j-1]:=by rw[List.getD_eq_getElem?_getD,List.getElem?_eq_getElem (by omega)];rfl
  have e2:l[j]'hj=q:=by have h0:l[j]?=some q:=(by have:=congrArg (·[0]?) hd;simpa using this);rw[List.getElem?_eq_getElem hj]at h0;exact Option.some.inj h0
  have:=List.pairwise_iff_getElem.1 h2 (j-1) j (by omega) hj (by omega)
  rw[e2]at this
  rw[e1]at h3
  omega
theorem setC_chk {l:List Int}(hl:∀c∈l,1≤c∧c≤999):chkS (setC l)=0∧(∀q∈setC l,1≤q.1∧q.1≤q.2∧q.2≤999):=by
 have z1:zB.length=1001:=by rw[zB,List.length_replicate]
 have z2:zB.getD 0 false=false:=by decide +kernel
 have hz:=memB0_zero hl z1 z2
 have h:=okR_all (a:=memB0 l zB) (m:=999) (c:=1) (out:=[]) (Nat.le_refl _) ⟨by simp,List.Pairwise.nil,fun e=>(by rw[hz]at e;cases e),fun _ q hq=>by simp at hq⟩
 have h1:∀q∈setC l,1≤q.1∧q.1≤q.2∧q.2≤999:=fun q hq=>by
  have:=h.r q hq
  omega
 exact⟨chkR_ok h1 h.p rfl,h1⟩
theorem setB_set {a:List Bool}{c:Nat}(h:c<a.length):a.set c true=setB a c:=by rw[setB,List.set_eq_take_append_cons_drop,if_pos h]
def stI2 (g:List (Nat×Obj))(a:List Bool):St:=⟨1,[],[(0,⟨4,1,a.map V.bool,true,false⟩)],⟨[],g,[]⟩⟩
@[push_cast]theorem stI2_eq {a:List Bool}:stI2 g a=⟨1,[],[(0,⟨4,1,a.map V.bool,true,false⟩)],⟨[],g,[]⟩⟩:=idq rfl
theorem L52 {l:List Int}(hl:l.length<140737488355328)(hr:∀c∈l,1≤c∧c≤999):∀r j,l.drop j=r→∀a:List Bool,a.length=1001 →
  runL Tryz.prog HH [0,3,4] 1 B52_0 [(0,.sl (l.map (.int .i64))),(3,.osl 0 1001),(4,.int .i64 j)] (stI2 g a)
   = some (.exit 0,[(3,.osl 0 1001)],stI2 g (memB0 r a)):=by
 refine drop_ind (fun j h a ha=>?_) (fun q r j h hx hd ih a ha=>?_)
 all_goals rw[runL_of B52_0.eq_1]
 ·have h1:¬(j:Int)<l.length:=by omega
  push_cast[h1,memB0,List.foldl_nil]
 ·have h1:(j:Int)<l.length:=by omega
  have hw:=iw1 (j:=j) (by omega)
  obtain⟨c,rfl⟩:=Int.eq_ofNat_of_zero_le (a:=q) (by have:=hr q (mem_at hd);omega)
  obtain⟨r1,r2⟩:=hr c (mem_at hd)
  have c1:(c:Int)<1001:=by omega
  have c2:c<1001:=by omega
  have p1:(a.map V.bool)[c]?=some (.bool (a.getD c false)):=by rw[List.getElem?_map,List.getElem?_eq_getElem (by omega),List.getD_eq_getElem?_getD,List.getElem?_eq_getElem (by omega)];rfl
  have p2:(a.map V.bool).set c (.bool true)=(setB a c).map V.bool:=by rw[←setB_set (by omega),List.map_set]
  have ih:=ih (setB a c) (by rw[setB_len (by omega)];exact ha)
  rw[memB0,List.foldl_cons,←memB0]
  push_cast at ih
  push_cast[h1,hw,hx,c1,c2,ha,p1,p2,stoB,V.cells,V.recell,Nat.mul_one,Int.toNat_natCast]at ih ⊢
  first|exact ih|(refine dn_eq ?_ ih;omega)
def stI3 (g:List (Nat×Obj))(a:List Bool)(out:List Rg):St:=⟨2,[],[(1,⟨177,2,out.map rgV,true,false⟩),(0,⟨4,1,a.map V.bool,true,false⟩)],⟨[],g,[]⟩⟩
@[push_cast]theorem stI3_eq {a:List Bool}{out:List Rg}:stI3 g a out=⟨2,[],[(1,⟨177,2,out.map rgV,true,false⟩),(0,⟨4,1,a.map V.bool,true,false⟩)],⟨[],g,[]⟩⟩:=idq rfl
theorem L97 {a:List Bool}(ha:a.length=1001):∀m c:Nat,c+m=1000→1≤c→∀out:List Rg,(a.getD (c-1) false=true→out≠[])→out.length<c →
  runL Tryz.prog HH [0,3,4] 2 B97_0 [(0,.osl 0 1001),(3,.osl 1 out.length),(4,.int .i64 c)] (stI3 g a out)
   = some (.exit 0,[(3,.osl 1 (rgAll a m c out).length)],stI3 g a (rgAll a m c out)):=by
 intro m
 induction m with
 |zero =>
  intro c hc h0 out hi hl
  rw[runL_of B97_0.eq_1]
  have h1:¬(c:Int)≤999:=by omega
  push_cast[h1,rgAll]
 |succ m ih =>
  intro c hc h0 out hi hl
  rw[runL_of B97_0.eq_1]
  have h1:(c:Int)≤999:=by omega
  have hw:IntKind.i64.wrap ((c:Int)+1)=((c+1:Nat):Int):=iwrap (by omega) (by omega)
  have hw2:IntKind.i64.wrap ((c:Int)-1)=((c-1:Nat):Int):=by rw[iwrap (by omega) (by omega)];omega
  have g1:a[c]?=some (a.getD c false):=by rw[List.getD_eq_getElem?_getD,List.getElem?_eq_getElem (by omega)];rfl
  have g2:a[c-1]?=some (a.getD (c-1) false):=by rw[List.getD_eq_getElem?_getD,List.getElem?_eq_getElem (by omega)];rfl
  have k1:(a.map V.bool).getD c V.und=.bool (a.getD c false):=by rw[List.getD_eq_getElem?_getD,List.getElem?_map,g1];rfl
  have k2:(a.map V.bool).getD (c-1) V.und=.bool (a.getD (c-1) false):=by rw[List.getD_eq_getElem?_getD,List.getElem?_map,g2];rfl
  have i1:(c:Int)<1001:=by omega
  have i2:((c-1:Nat):Int)<1001:=by omega
  have ih:=ih (c+1) (by omega) (by omega) (rgStep a c out)
  rw[rgAll]
  have c1:c<1001:=by omega
  have c2:c-1<1001:=by omega
  cases b1:a.getD c false with
  |false =>
   have e:rgStep a c out=out:=by rw[rgStep,b1];rfl
   rw[e]at ih ⊢
   have ih:=ih (by rw[Nat.add_sub_cancel,b1];intro h;cases h) (by omega)
   rw[b1]at g1 k1
   push_cast[h1,hw,hw2,ha,g1,g2,k1,k2,i1,i2,c1,c2,Nat.mul_one]at ih ⊢
   exact ih
  |true =>
   rw[b1]at g1 k1
   have hro:roomV (out.length+1) 16=true:=roomV_lit (by omega) (by omega)
   cases b2:a.getD (c-1) false with
   |false =>
    rw[b2]at g2 k2
    have e:rgStep a c out=out++[((c:Int),(c:Int))]:=by rw[rgStep,b1,b2];simp[rgSet]
    have p1:(out++[((c:Int),(c:Int))])[out.length]?=some ((c:Int),(c:Int)):=by simp
    have p2:((out.map rgV)++[V.agg [.int .i64 c,.int .i64 c]])[out.length]?=some (V.agg [.int .i64 c,.int .i64 c]):=by rw[List.getElem?_append_right (by simp)];simp
    have p3:((out.map rgV)++[V.agg [.int .i64 c,.int .i64 c]]).set out.length (V.agg [.int .i64 c,.int .i64 c])=(out++[((c:Int),(c:Int))]).map rgV:=by rw[List.set_append_right _ _ (by simp)];simp
    have w3:IntKind.i64.wrap ((out.length:Int)+1-1)=out.length:=by rw[iwrap (by omega) (by omega)];omega
    rw[e]at ih ⊢
    have ih:=ih (by simp) (by simp;omega)
    push_cast[rgV]at p2 p3
    push_cast[List.length_append,List.length_cons,List.length_nil]at ih
    push_cast[h1,hw,hw2,ha,g1,g2,k1,k2,i1,i2,c1,c2,Nat.mul_one,hro,p2,p3,w3,stoB,V.cells,V.recell]
    exact ih
   |true =>
    rw[b2]at g2 k2
    obtain⟨k,hk⟩:∃k,out.length=k+1:=⟨out.length-1,by have:=List.length_pos_iff.2 (hi b2);omega⟩
    have e:rgStep a c out=out.set k ((out.getD k default).1,c):=by rw[rgStep,b1,b2];simp[rgSet,hk]
    have p1:out[k]?=some (out.getD k default):=by rw[List.getD_eq_getElem?_getD,List.getElem?_eq_getElem (by omega)];rfl
    have p3:(out.map rgV).set k (V.agg [.int .i64 (out.getD k default).1,.int .i64 c])=(out.set k ((out.getD k default).1,(c:Int))).map rgV:=by simp[List.map_set]
    have hk2:(k:Int)+1-1=k:=by omega
    have hk3:k<100000:=by omega
    have w3:IntKind.i64.wrap ((k:Int)+1-1)=k:=by rw[hk2];exact iwrap (by omega) (by omega)
    rw[e]at ih ⊢
    have ih:=ih (by intro _ h;have:=congrArg List.length h;rw[List.length_set,hk]at this;cases this) (by simp;omega)
    push_cast[rgV]at p3
    push_cast[List.length_set]at ih
    push_cast[h1,hw,hw2,ha,g1,g2,k1,k2,i1,i2,c1,c2,Nat.mul_one,hk,p1,p3,w3,stoB,V.cells,V.recell]
    rw[hk]at ih
    exact ih
theorem f97 {a:List Bool}(ha:a.length=1001)(h0:a.getD 0 false=false):run Tryz.prog HH 97 [.osl 0 1001] (stI2 g a)=some (.ret (.osl 1 (rgs a).length),stI3 g a (rgs a)):=by
 have hL:=L97 (g:=g) ha 999 1 rfl (Nat.le_refl _) [] (by rw[h0];intro h;cases h) (by decide)
 rw[←rgs]at hL
 rw[run_open F97 rfl rfl (by simp)]
 push_cast[List.map_nil,List.length_nil]at hL
 push_cast[hL]
end Go.Proofs.YtdkokbhcjmapdaaGreatDoor

namespace Go.Proofs.YtdkokbhcjmapdaaGreatDoor
open Go.Sha
set_option maxRecDepth 100000
variable {g:List (Nat×Obj)}{n:Nat}{s:Sho}
theorem f52 {l:List Int}(hl:l.length<140737488355328)(hr:∀c∈l,1≤c∧c≤999){st:St}:run Tryz.prog HH 52 [.sl (l.map (.int .i64))] st=some (.ret (.sl ((setC l).map rgV)),st):=by
 have z1:zB.length=1001:=by rw[zB,List.length_replicate]
 have z2:zB.getD 0 false=false:=by decide +kernel
 have h0:=L52 (g:=st.x.gl) hl hr _ 0 rfl zB z1
 have h150:=f97 (g:=st.x.gl) (memB0_len hr z1) (memB0_zero hr z1 z2)
 rw[List.drop_zero]at h0
 rw[setC]
 generalize memB0 l zB=a at *
 rw[run_shut F52 rfl rfl (by simp)]
 push_cast at h0 h150
 have hm:mksliceV 4 1 1 false [.bool false] (.int .i64 1001) (.int .i64 1001) ⟨0,[],[],⟨[],st.x.gl,[]⟩⟩=some (.osl 0 1001,⟨1,[],[(0,⟨4,1,zB.map V.bool,true,false⟩)],⟨[],st.x.gl,[]⟩⟩):=by
  rw[←zB_eq];rfl
 push_cast[h0,h150,rgV,hm,and_false,Option.getD_none]
theorem cvs {d:Nat}(h:d<10):(Utf8.encode (48+(d:Int))).data.toList=[UInt8.ofNat (48+d)]:=by
 have h':d=0∨d=1∨d=2∨d=3∨d=4∨d=5∨d=6∨d=7∨d=8∨d=9:=by omega
 rcases h' with rfl|rfl|rfl|rfl|rfl|rfl|rfl|rfl|rfl|rfl<;>rfl
theorem L96:∀(j k:Nat) (s:List UInt8),k<10 ^ j→j≤18→s.length+j≤1000 →
  runL Tryz.prog HH [0,3] n B96_0 [(0,.int .i64 k),(3,.str s)] (stN g n)=some (.exit 0,[(3,.str (dgt k++s))],stN g n):=by
 intro j
 induction j with
 |zero =>
  intro k s hk _ _
  have h0:k=0:=by simpa using hk
  subst h0
  rw[runL_of B96_0.eq_1]
  push_cast[dgt,List.nil_append]
 |succ j ih =>
  intro k s hk hj hs
  rw[runL_of B96_0.eq_1]
  by_cases h0:k=0
  ·subst h0
   push_cast[dgt,List.nil_append]
  ·have hk':k<10 ^ 18:=Nat.lt_of_lt_of_le hk (Nat.pow_le_pow_right (by omega) hj)
   have h1:(0:Int)<k:=by omega
   have t1:(k:Int).tmod 10=((k % 10:Nat):Int):=by rw[Int.tmod_eq_emod_of_nonneg (by omega)];rfl
   have t2:(k:Int).tdiv 10=((k / 10:Nat):Int):=by rw[Int.tdiv_eq_ediv_of_nonneg (by omega)];rfl
   have w1:IntKind.i64.wrap ((k % 10:Nat):Int)=((k % 10:Nat):Int):=iwrap (by omega) (by omega)
   have w2:IntKind.i64.wrap ((k / 10:Nat):Int)=((k / 10:Nat):Int):=iwrap (by omega) (by omega)
   have w3:IntKind.i64.wrap (48+((k % 10:Nat):Int))=48+((k % 10:Nat):Int):=iwrap (by omega) (by omega)
   have hd9:k % 10<10:=Nat.mod_lt _ (by decide)
   have w4:IntKind.i32.wrap (48+((k % 10:Nat):Int))=48+((k % 10:Nat):Int):=by simp[IntKind.wrap,IntKind.bits,IntKind.signed];omega
   have hc:=cvs hd9
   have ih:=ih (k / 10) (UInt8.ofNat (48+k % 10)::s) (by rw[Nat.pow_succ]at hk;omega) (by omega) (by simp;omega)
   rw[dgt_step h0,List.append_assoc,List.singleton_append]
   generalize hz:dgt (k / 10)++UInt8.ofNat (48+k % 10)::s=z at *
   generalize k % 10=d at *
   generalize k / 10=e at *
   push_cast[h1,t1,t2,w1,w2,w3,w4,hc,List.singleton_append]at ih ⊢
   first|exact ih|exact dn_eq (by omega) ih
theorem f96 {m:Int}(h0:1≤m)(h1:m≤1000000){st:St}:run Tryz.prog HH 96 [.int .i64 m] st=some (.ret (.str (Lib.itoa m)),st):=by
 have hL:=fun n=>L96 (g:=st.x.gl) (n:=n) 18 m.toNat [] (by omega) (Nat.le_refl _) (by simp)
 rw[Int.toNat_of_nonneg (by omega),dgt_itoa (by omega),List.append_nil]at hL
 rw[run_shut F96 rfl rfl (by simp)]
 push_cast at hL
 push_cast[hL]
def txA (sep:List UInt8):List (List UInt8)→Nat→List UInt8→List UInt8
 |[],_,s=>s
 |t::r,j,s=>txA sep r (j+1) (s++(if 0<j then sep else[])++t)
theorem txA_join {sep:List UInt8}:∀{r:List (List UInt8)}{j:Nat}{s:List UInt8},txA sep r (j+1) s=s++Lib.joinTail sep r
 |[],_,s=>by simp[txA,Lib.joinTail]
 |t::r,j,s=>by
  rw[txA,txA_join,if_pos (by omega)]
  simp[Lib.joinTail]
theorem txA_0 {sep:List UInt8}{l:List (List UInt8)}:txA sep l 0 []=Lib.join l sep:=by
 cases l with
 |nil=>rfl
 |cons t r=>rw[txA,txA_join,Lib.join_cons,if_neg (by decide)];simp
theorem L51 {l:List Rg}(hl:l.length≤1000)(hr:∀q∈l,1≤q.1∧q.1≤q.2∧q.2≤999):∀r j,l.drop j=r→∀s:List UInt8,s.length≤20*j →
  runL Tryz.prog HH [0,3,4] n B51_0 [(0,.sl (l.map rgV)),(3,.str s),(4,.int .i64 j)] (stN g n)=some (.exit 0,[(3,.str (txA [32,43,32] (r.map rgT) j s))],stN g n):=by
 refine drop_ind (fun j h s hs=>?_) (fun q r j h hx hd ih s hs=>?_)
 all_goals rw[runL_of B51_0.eq_1]
 ·have h1:¬(j:Int)<l.length:=by omega
  push_cast[h1,List.map_nil,txA]
 ·have h1:(j:Int)<l.length:=by omega
  have hw:=iw1 (j:=j) (by omega)
  obtain⟨q1,q2,q3⟩:=hr q (mem_at hd)
  have e1:=fun(st:St)=>f96 (m:=q.1) (st:=st) (by omega) (by omega)
  have e2:=fun(st:St)=>f96 (m:=q.2) (st:=st) (by omega) (by omega)
  have l1:=itoa3 (m:=q.1) (by omega) (by omega)
  have l2:=itoa3 (m:=q.2) (by omega) (by omega)
  have ll:=rgT_le (q:=q) ⟨⟨by omega,by omega⟩,by omega,by omega⟩
  have ih:=ih (s++(if 0<j then[32,43,32] else[])++rgT q) (by
   simp only[List.length_append]
   split<;>simp<;>omega)
  rw[List.map_cons,txA]
  generalize hz:txA [32,43,32] (r.map rgT) (j+1) (s++(if 0<j then[32,43,32] else[])++rgT q)=z at *
  clear hz
  cases j with
  |zero =>
   have h0:¬(0:Nat)<0:=by omega
   rw[if_neg h0,List.append_nil]at ih
   have hs0:s=[]:=by cases s with|nil=>rfl|cons a b=>simp at hs
   subst hs0
   have h4:(0:Int)<l.length:=by omega
   by_cases h2:q.1<q.2
   ·rw[show rgT q=Lib.itoa q.1++([32,116,104,114,117,32]++Lib.itoa q.2) by rw[rgT,if_pos h2]]at ih
    push_cast[h4,hx,rgV,e1,e2,h2,List.nil_append,List.append_assoc]at ih ⊢
    first|exact ih|exact dn_eq (by first|omega|(simp;omega)) ih
   ·rw[show rgT q=Lib.itoa q.1 by rw[rgT,if_neg h2]]at ih
    push_cast[h4,hx,rgV,e1,e2,h2,List.nil_append,List.append_assoc]at ih ⊢
    first|exact ih|exact dn_eq (by first|omega|(simp;omega)) ih
  |succ j =>
   have h0:0<j+1:=by omega
   have h3:(0:Int)<((j+1:Nat):Int):=by omega
   rw[if_pos h0]at ih
   by_cases h2:q.1<q.2
   ·rw[show rgT q=Lib.itoa q.1++([32,116,104,114,117,32]++Lib.itoa q.2) by rw[rgT,if_pos h2]]at ih
    generalize j+1=k at *
    push_cast[h1,h3,hw,hx,rgV,e1,e2,h2,List.append_assoc]at ih ⊢
    first|exact ih|exact dn_eq (by first|omega|(simp;omega)) ih
   ·rw[show rgT q=Lib.itoa q.1 by rw[rgT,if_neg h2]]at ih
    generalize j+1=k at *
    push_cast[h1,h3,hw,hx,rgV,e1,e2,h2,List.append_assoc]at ih ⊢
    first|exact ih|exact dn_eq (by first|omega|(simp;omega)) ih
theorem f51 {l:List Rg}(hl:l.length≤1000)(hr:∀q∈l,1≤q.1∧q.1≤q.2∧q.2≤999){st:St}:run Tryz.prog HH 51 [.sl (l.map rgV)] st=some (.ret (.str (Lib.join (l.map rgT) [32,43,32])),st):=by
 have hL:=fun n=>L51 (g:=st.x.gl) (n:=n) hl hr _ 0 rfl [] (by simp)
 rw[List.drop_zero,txA_0]at hL
 rw[run_shut F51 rfl rfl (by simp)]
 push_cast[rgV]at hL
 push_cast[rgV,hL]
def stTG2 (g:List (Nat×Obj))(tab:List Row):St:=⟨3,[],[(2,⟨59,1,tab.map rowV,false,false⟩),(1,⟨9,1,[.str [103,114,111,117,112],.str [99,104,97,110,110,101,108,115]],false,false⟩)],⟨[],g,[]⟩⟩
@[push_cast]theorem stTG2_eq {tab:List Row}:stTG2 g tab=⟨3,[],[(2,⟨59,1,tab.map rowV,false,false⟩),(1,⟨9,1,[.str [103,114,111,117,112],.str [99,104,97,110,110,101,108,115]],false,false⟩)],⟨[],g,[]⟩⟩:=idq rfl
theorem L15 {s:Sho}(hl:s.grps.length<1000)(hA:∀x∈s.grps,grpC x=0):∀r j,s.grps.drop j=r→∀tab:List Row,tab.length≤j+1 →
  runL Tryz.prog HH [1,5,6] 3 B15_0 [(1,.ep s.v 0),(5,.osl 2 tab.length),(6,.int .i64 j)] (stTG2 g tab)
   = some (.exit 0,[(5,.osl 2 (tab++r.map rowG).length)],stTG2 g (tab++r.map rowG)):=by
 refine drop_ind (fun j h tab hc=>?_) (fun q r j hj hx hd ih tab hc=>?_)
 all_goals rw[runL_of B15_0.eq_1]
 ·have h1:¬(j:Int)<s.grps.length:=by omega
  push_cast[h1,Sho.v,List.map_nil,List.append_nil]
 ·have h1:(j:Int)<s.grps.length:=by omega
  have hw:=iw1 (j:=j) (by omega)
  obtain⟨r1,r2,r3,r4⟩:=grp_parts (hA q (mem_at hd))
  obtain⟨c1,c2⟩:=setC_chk r4
  have e1:=fun(st:St)=>f44 (m:=q.num) (st:=st) (by omega) (by omega)
  have e2:=fun(st:St)=>f52 (l:=q.chans) (st:=st) (by omega) r4
  have hsl:=setC_len (l:=q.chans)
  have e3:=fun(st:St)=>f51 (l:=setC q.chans) (st:=st) (by omega) c2
  rw[show Lib.join ((setC q.chans).map rgT) [32,43,32]=setT (setC q.chans) by rw[setT,if_pos c1]]at e3
  have hro:roomV (tab.length+1) 24=true:=roomV_lit (by omega) (by omega)
  have ih:=ih (tab++[rowG q]) (by simp;omega)
  rw[List.map_cons]
  generalize hR:rowG q=R at *
  rw[rowG]at hR
  generalize setT (setC q.chans)=tt at *
  generalize setC q.chans=ss at *
  subst hR
  push_cast[Sho.v,Grp.v,rgV,List.map_nil,List.length_nil]at ih e2 e3
  push_cast[h1,hw,hx,e1,e2,e3,hro,Sho.v,Grp.v,List.map_nil,List.length_nil,List.map_append,List.map_cons,List.append_assoc,List.singleton_append,rowV]at ih ⊢
  first|exact ih|exact dn_eq (by omega) ih
theorem f15 {s:Sho}(h:s.ok){st:St}:run Tryz.prog HH 15 [s.v] st=some (.ret (.tup [.sl ((grpT s).map rowV),.int .i64 (shoC s)]),st):=by
 have h1:=fun st=>f41 (st:=st) h
 rw[run_shut F15 rfl rfl (by simp)]
 by_cases hs:shoC s=0
 ·obtain⟨p1,p2⟩:=grps_parts hs
  have hL1:=L15 (g:=st.x.gl) (s:=s) (by omega) p2 _ 0 rfl [hdG] (Nat.le_refl _)
  rw[List.drop_zero,hdG]at hL1
  rw[grpT,if_pos hs]
  generalize s.grps.map rowG=so at *
  push_cast[Sho.v,rowV,List.map_cons,List.map_nil,List.length_cons,List.length_nil,List.singleton_append]at hL1 h1
  push_cast[Sho.v,hL1,h1,hs,hdG,rowV,List.map_cons,List.map_nil,List.length_cons,List.length_nil,List.singleton_append]
 ·push_cast[Sho.v]at h1
  push_cast[Sho.v,h1,hs,grpT]
end Go.Proofs.YtdkokbhcjmapdaaGreatDoor

namespace Go.Proofs.YtdkokbhcjmapdaaGreatDoor
open Go.Sha
set_option maxRecDepth 100000
variable {g:List (Nat×Obj)}{n:Nat}{s:Sho}
def stTS (g:List (Nat×Obj))(tab:List Row):St:=⟨3,[],[(2,⟨59,1,tab.map rowV,false,false⟩),(1,⟨9,1,[.str [117,110,105,118,101,114,115,101],.str [102,114,111,109],.str [116,111],.str [99,104,97,110,110,101,108],.str [112,114,111,102,105,108,101]],false,false⟩)],⟨[],g,[]⟩⟩
@[push_cast]theorem stTS_eq {tab:List Row}:stTS g tab=⟨3,[],[(2,⟨59,1,tab.map rowV,false,false⟩),(1,⟨9,1,[.str [117,110,105,118,101,114,115,101],.str [102,114,111,109],.str [116,111],.str [99,104,97,110,110,101,108],.str [112,114,111,102,105,108,101]],false,false⟩)],⟨[],g,[]⟩⟩:=idq rfl
theorem L13 (hp:s.profs.length<140737488355328){l:List Fixt}(hl:l.length<1000)(hA:∀x∈l,aloC s.profs x=0):∀r j,l.drop j=r→∀tab:List Row,tab.length≤j+1 →
  runL Tryz.prog (HG s) [1,5,6,7] 3 B13_0 [(1,.ep s.v 0),(5,.osl 2 tab.length),(6,.sl (l.map Fixt.v)),(7,.int .i64 j)] (stTS g tab)
   = some (.exit 0,[(5,.osl 2 (tab++r.map (rowA s.profs)).length)],stTS g (tab++r.map (rowA s.profs))):=by
 refine drop_ind (fun j h tab hc=>?_) (fun q r j hj hx hd ih tab hc=>?_)
 all_goals rw[runL_of B13_0.eq_1]
 ·have h1:¬(j:Int)<l.length:=by omega
  push_cast[h1,List.map_nil,List.append_nil]
 ·have h1:(j:Int)<l.length:=by omega
  have hw:=iw1 (j:=j) (by omega)
  have ha:=hA q (mem_at hd)
  obtain⟨hr,p,hp1,hp2,hp3⟩:=aloC_ok ha
  obtain⟨r1,r2,r3,r4,r5,r6,r7,r8,r9,r10⟩:=rng_ok hr
  obtain⟨k,k1,k2,k3⟩:=(ix_find (j:=0)).2 p hp1
  rw[Nat.zero_add]at k1
  have k4:(k:Int)<s.profs.length:=by omega
  have hf:footS s.profs q=p.foot:=by rw[footS,hp1];rfl
  have e0:=fun(st:St)=>upG (s:=s) (f48 (s:=q.prof) (st:=st) hp)
  rw[k1]at e0
  have e1:=fun(st:St)=>upG (s:=s) (f44 (m:=q.univ) (st:=st) (by omega) (by omega))
  have e2:=fun(st:St)=>upG (s:=s) (f44 (m:=q.addr) (st:=st) (by omega) (by omega))
  have e3:=fun(st:St)=>upG (s:=s) (f44 (m:=q.addr+p.foot-1) (st:=st) (by omega) (by omega))
  have e4:=fun(st:St)=>upG (s:=s) (f43 (x:=q) (st:=st) hr)
  have w1:IntKind.i64.wrap (q.addr+p.foot)=q.addr+p.foot:=iwrap (by omega) (by omega)
  have w2:IntKind.i64.wrap (q.addr+p.foot-1)=q.addr+p.foot-1:=iwrap (by omega) (by omega)
  have hro:roomV (tab.length+1) 24=true:=roomV_lit (by omega) (by omega)
  have ih:=ih (tab++[rowA s.profs q]) (by simp;omega)
  rw[List.map_cons]
  generalize hR:rowA s.profs q=R at *
  rw[rowA,hf]at hR
  subst hR
  generalize rowA s.profs=ra at *
  push_cast[Sho.v,Fixt.v,Prof.v,List.map_nil,List.length_nil]at ih e0 e4
  push_cast[h1,hw,hx,e0,e1,e2,e3,e4,k3,k4,w1,w2,hro,Sho.v,Fixt.v,Prof.v,List.map_nil,List.length_nil,List.map_append,List.map_cons,List.append_assoc,List.singleton_append,rowV]at ih ⊢
  first|exact ih|exact dn_eq (by omega) ih
theorem f13 (h:s.ok){st:St}:run Tryz.prog (HG s) 13 [s.v] st=some (.ret (.tup [.sl ((sltT s).map rowV),.int .i64 (shoC s)]),st):=by
 have h1:=fun st=>upG (s:=s) (f41 (st:=st) h)
 rw[run_shut F13 rfl rfl (by simp)]
 by_cases hs:shoC s=0
 ·have hp:=isort_perm (lt:=ltK kAddr) (l:=s.fixts)
  have hlen:(isort (ltK kAddr) s.fixts).length=s.fixts.length:=isort_len
  have hF:=(fix_ok (shoC_parts hs).2.2.2.1).2.1
  have h2:=fun st=>g47 (s:=s) hF (st:=st)
  have hL1:=L13 (g:=st.x.gl) (s:=s) h.p.1 (l:=isort (ltK kAddr) s.fixts) (by omega) (fun x hx=>(fix_ok (shoC_parts hs).2.2.2.1).2.2.2 x (hp.mem_iff.1 hx)) _ 0 rfl [hdA] (Nat.le_refl _)
  rw[byK_eq (addr_dif hs)]at h2
  rw[List.drop_zero,hdA]at hL1
  rw[sltT,if_pos hs]
  generalize isort (ltK kAddr) s.fixts=so at *
  push_cast[Sho.v,Fixt.v,rowV,List.map_cons,List.map_nil,List.length_cons,List.length_nil,List.singleton_append]at hL1 h1 h2
  push_cast[Sho.v,Fixt.v,hL1,h1,h2,hs,hdA,rowV,List.map_cons,List.map_nil,List.length_cons,List.length_nil,List.singleton_append]
 ·push_cast[Sho.v]at h1
  push_cast[Sho.v,h1,hs,sltT]
end Go.Proofs.YtdkokbhcjmapdaaGreatDoor

namespace Go.Proofs.YtdkokbhcjmapdaaGreatDoor
open Go.Sha
set_option maxRecDepth 100000
variable {g:List (Nat×Obj)}{n:Nat}{s:Sho}
def useM (p:Int)(q:Mov):Bool:=decide (0<q.val.pal∧q.val.pal=p)
theorem L104 {x:Cu}{p:Int}(hl:x.moves.length<140737488355328):∀r j,x.moves.drop j=r→runL Tryz.prog HH [1,2,5] n B104_0 [(1,.int .i64 p),(2,.ep x.v 0),(5,.int .i64 j)] (stN g n)=lpB (stN g n) [] 4 (r.any (useM p)) true:=by
 refine drop_ind (fun j h=>?_) (fun q r j h hx hd ih=>?_)
 all_goals rw[runL_of B104_0.eq_1]
 ·have h1:¬(j:Int)<x.moves.length:=by omega
  push_cast[h1,anyC,List.any_nil,useM,decide_eq_true_eq,Cu.v,Mov.v]
 ·have h1:(j:Int)<x.moves.length:=by omega
  have hw:=iw1 (j:=j) (by omega)
  push_cast[h1,hw,hx,Cu.v,Mov.v]at ih ⊢
  simp only[ih,anyC,List.any_nil,useM,decide_eq_true_eq,lps,Int.reduceEq,not_false_eq_true]
  all_goals first|with_reducible rfl|exact dn_eq (by omega) (by with_reducible rfl)|((repeat' split)<;>(try simp_all)<;>(try (with_reducible refine dn_eq ?_ ?_<;>first|trivial|omega|rfl))<;>(try omega))
theorem useM_eq {x:Cu}{p:Int}(hp:0<p):x.moves.any (useM p)=usesC p x:=by
 have:useM p=fun q:Mov=>q.val.pal == p:=by
  funext q
  rw[useM,Bool.eq_iff_iff,decide_eq_true_iff,beq_iff_eq]
  exact⟨fun h=>h.2,fun h=>⟨by omega,h⟩⟩
 rw[this,usesC,decide_eq_true hp,Bool.true_and]
theorem f104 {x:Cu}{p:Int}(hp:0<p)(hl:x.moves.length<140737488355328){st:St}:run Tryz.prog HH 104 [x.v,.int .i64 p] st=some (.ret (.bool (usesC p x)),st):=by
 rw[←useM_eq hp]
 rw[run_shut F104 rfl rfl (by simp)]
 have hL0:=fun n=>L104 (g:=st.x.gl) (n:=n) (p:=p) hl _ 0 rfl
 push_cast[Cu.v,Mov.v]at hL0
 push_cast[Cu.v,Mov.v,hL0,lpE,lpX,lpI,lpB]
 all_goals first|with_reducible rfl|exact dn_eq (by omega) (by with_reducible rfl)|((repeat' split)<;>(try simp_all)<;>(try (with_reducible refine dn_eq ?_ ?_<;>first|trivial|omega|rfl))<;>(try omega))
def jnL:List UInt8→List (List UInt8)→List UInt8
 |t,[]=>t
 |t,u::r=>jnL ((if t=[] then[] else t++[44,32])++u) r
theorem jnL_app:∀{l:List (List UInt8)}{t:List UInt8}{k:List (List UInt8)},jnL t (l++k)=jnL (jnL t l) k
 |[],_,_=>rfl
 |u::r,t,k=>by rw[List.cons_append,jnL,jnL_app];rfl
theorem jnL_ne:∀{l:List (List UInt8)}{t:List UInt8},t≠[]→jnL t l=t++Lib.joinTail [44,32] l
 |[],_,_=>by simp[jnL,Lib.joinTail]
 |u::r,t,h=>by
  rw[jnL,if_neg h,jnL_ne (by simp)]
  simp[Lib.joinTail]
theorem jnL_join {l:List (List UInt8)}(h:∀u∈l,u≠[]):jnL [] l=Lib.join l [44,32]:=by
 cases l with
 |nil=>rfl
 |cons u r=>rw[jnL,if_pos rfl,List.nil_append,jnL_ne (h u (List.mem_cons_self ..)),Lib.join_cons]
theorem jnL_len:∀{l:List (List UInt8)}{t:List UInt8},(∀u∈l,u.length≤38)→(jnL t l).length≤t.length+40*l.length
 |[],_,_=>by simp[jnL]
 |u::r,t,h=>by
  have h1:=h u (List.mem_cons_self ..)
  have h2:=jnL_len (l:=r) (t:=(if t=[] then[] else t++[44,32])++u) fun x hx=>h x (List.mem_cons_of_mem _ hx)
  rw[jnL]
  refine Nat.le_trans h2 ?_
  rw[List.length_cons]
  split<;>simp<;>omega
theorem L55_0 {x:Lst}{p:Int}{i:Nat}(hp:0<p)(hi:i<s.lsts.length)(hxi:∀d,s.lsts.getD i d=x)(h64:s.lsts.length≤8)(hl:x.cues.length≤64)(hn1:1≤x.num)(hn2:x.num≤1048576)(hq:∀c∈x.cues,c.num.length≤8∧c.moves.length<140737488355328):∀r j,x.cues.drop j=r→∀t:List UInt8,t.length+40*r.length≤100000 →
  runL Tryz.prog HH [1,2,5,6,7] n B55_0 [(1,.int .i64 p),(2,.ep s.v 0),(5,.str t),(6,.int .i64 i),(7,.int .i64 j)] (stN g n)
   = some (.exit 2,[(1,.int .i64 p),(2,.ep s.v 0),(5,.str (jnL t ((r.filter (usesC p)).map fun c=>useT x.num c.num))),(6,.int .i64 i)],stN g n):=by
 refine drop_ind (fun j h t ht=>?_) (fun q r j hj hx hd ih t ht=>?_)
 all_goals rw[runL_of B55_0.eq_1]
 ·have h1:¬(j:Int)<x.cues.length:=by omega
  have h2:(i:Int)<s.lsts.length:=by omega
  push_cast[h1,h2,hxi,Sho.v,Lst.v,List.filter_nil,List.map_nil,jnL]
 ·have h1:(j:Int)<x.cues.length:=by omega
  have h2:(i:Int)<s.lsts.length:=by omega
  have hw:=iw1 (j:=j) (by omega)
  obtain⟨q1,q2⟩:=hq q (mem_at hd)
  have e1:=fun(st:St)=>f104 (p:=p) (x:=q) (st:=st) hp q2
  have e2:=fun(st:St)=>f44 (m:=x.num) (st:=st) (by omega) (by omega)
  have l1:=Lib.itoa_length_le x.num (by omega) (by omega)
  rw[List.length_cons]at ht
  push_cast[Cu.v]at e1
  cases hu:usesC p q with
  |false =>
   have ih:=ih t (by omega)
   rw[List.filter_cons_of_neg (by simp[hu])]
   rw[hu]at e1
   push_cast[Sho.v,Lst.v]at ih
   push_cast[h1,h2,hw,hx,hxi,e1,Sho.v,Lst.v,Cu.v]at ih ⊢
   exact ih
  |true =>
   have ih:=ih ((if t=[] then[] else t++[44,32])++useT x.num q.num) (by
    simp only[List.length_append,useT]
    split<;>simp<;>omega)
   rw[List.filter_cons_of_pos (by simp[hu]),List.map_cons,jnL]
   generalize hz:jnL ((if t=[] then[] else t++[44,32])++useT x.num q.num) ((r.filter (usesC p)).map fun c=>useT x.num c.num)=z at *
   clear hz
   rw[hu]at e1
   by_cases h0:t=[]
   ·rw[if_pos h0]at ih
    subst h0
    push_cast[Sho.v,Lst.v,useT,List.nil_append]at ih
    push_cast[h1,h2,hw,hx,hxi,e1,e2,Sho.v,Lst.v,Cu.v,List.nil_append,List.append_assoc,List.singleton_append]at ih ⊢
    first|exact ih|exact dn_eq (by first|omega|(simp;omega)) ih
   ·rw[if_neg h0]at ih
    push_cast[Sho.v,Lst.v,useT]at ih
    push_cast[h0,h1,h2,hw,hx,hxi,e1,e2,Sho.v,Lst.v,Cu.v,List.append_assoc,List.singleton_append]at ih ⊢
    first|exact ih|exact dn_eq (by first|omega|(simp;omega)) ih
theorem useT_le {x:Lst}{p:Int}(h:lstP x=0):(usesL p x).length≤64∧∀u∈usesL p x,u.length≤38∧u≠[]:=by
 obtain⟨p1,p2,p3,p4⟩:=lst_parts h
 obtain⟨r1,r2⟩:=refs_le (p:=p) h
 refine⟨by rw[usesL,List.length_map];exact r1,fun u hu=>?_⟩
 obtain⟨z,hz,rfl⟩:=List.mem_map.1 hu
 have h1:=(num_chars (r2 z hz)).1
 have h2:=Lib.itoa_length_le x.num (by omega) (by omega)
 refine⟨?_,by simp[useT]⟩
 simp only[useT,List.length_append,List.length_cons,List.length_nil]
 omega
theorem L55_1 {p:Int}(hp:0<p)(h:s.ok)(hs:shoC s=0):∀r j,s.lsts.drop j=r→∀t:List UInt8,t.length≤2560*j →
  runL Tryz.prog HH [1,2,5,6] n B55_1 [(1,.int .i64 p),(2,.ep s.v 0),(5,.str t),(6,.int .i64 j)] (stN g n)
   = some (.exit 0,[(5,.str (jnL t (r.flatMap (usesL p))))],stN g n):=by
 obtain⟨hn,hpa,-,-⟩:=sho_parts hs
 refine drop_ind (fun j h t ht=>?_) (fun q r j hj hx hd ih t ht=>?_)
 all_goals rw[runL_of B55_1.eq_1]
 ·have h1:¬(j:Int)<s.lsts.length:=by omega
  push_cast[h1,Sho.v,List.flatMap_nil,jnL]
 ·have h1:(j:Int)<s.lsts.length:=by omega
  have hw:=iw1 (j:=j) (by omega)
  have hm:=mem_at hd
  have hq:=hpa q hm
  obtain⟨p1,p2,p3,p4⟩:=lst_parts hq
  obtain⟨u1,u2⟩:=useT_le (p:=p) hq
  have hk:=(‹s.ok›).k.2 q hm
  have hL:=L55_0 (g:=g) (n:=n) (s:=s) (x:=q) (p:=p) (i:=j) hp hj hx hn p3 p1 p2 (fun c hc=>⟨(num_chars (p4 c hc)).1,(hk.b c hc).c⟩) _ 0 rfl t (by rw[List.drop_zero];omega)
  rw[List.drop_zero]at hL
  have hl:=jnL_len (t:=t) fun u hu=>(u2 u hu).1
  have ih:=ih (jnL t (usesL p q)) (by omega)
  rw[List.flatMap_cons,jnL_app]
  rw[show((q.cues.filter (usesC p)).map fun c=>useT q.num c.num)=usesL p q by rw[usesL,refsL,List.map_map];rfl]at hL
  generalize hz:jnL t (usesL p q)=z at *
  clear hz
  push_cast[Sho.v]at hL ih
  push_cast[h1,hw,hL,Sho.v]at ih ⊢
  first|exact ih|exact dn_eq (by omega) ih
theorem f55 {p:Int}(hp:0<p)(h:s.ok)(hs:shoC s=0){st:St}:run Tryz.prog HH 55 [s.v,.int .i64 p] st=some (.ret (.str (Lib.join (s.lsts.flatMap (usesL p)) [44,32])),st):=by
 have hL:=fun n=>L55_1 (g:=st.x.gl) (n:=n) hp h hs _ 0 rfl [] (by simp)
 rw[List.drop_zero,jnL_join fun u hu=>by
  obtain⟨x,hx,hu⟩:=List.mem_flatMap.1 hu
  exact((useT_le ((sho_parts hs).2.1 x hx)).2 u hu).2]at hL
 rw[run_shut F55 rfl rfl (by simp)]
 push_cast[Sho.v]at hL
 push_cast[Sho.v,hL]
theorem L17 (h:s.ok)(hs:shoC s=0):∀r j,s.pals.drop j=r→∀tab:List Row,tab.length≤j+1 →
  runL Tryz.prog HH [1,5,6] 3 B17_0 [(1,.ep s.v 0),(5,.osl 2 tab.length),(6,.int .i64 j)] (stTb g tab)
   = some (.exit 0,[(5,.osl 2 (tab++r.map (rowP s)).length)],stTb g (tab++r.map (rowP s))):=by
 obtain⟨hn,hp,hpl,hpn⟩:=sho_parts hs
 have hl:=h.l.1
 refine drop_ind (fun j h tab hc=>?_) (fun q r j hj hx hd ih tab hc=>?_)
 all_goals rw[runL_of B17_0.eq_1]
 ·have h1:¬(j:Int)<s.pals.length:=by omega
  push_cast[h1,Sho.v,List.map_nil,List.append_nil]
 ·have h1:(j:Int)<s.pals.length:=by omega
  have hw:=iw1 (j:=j) (by omega)
  have hm:=mem_at hd
  obtain⟨q1,q2⟩:=hpn q hm
  have hh:=(‹s.ok›).l.2 q hm
  have e1:=fun(st:St)=>f44 (m:=q.num) (st:=st) (by omega) (by omega)
  have e2:=fun(st:St)=>f44 (m:=(q.hues.length:Nat)) (st:=st) (by omega) (by omega)
  have e3:=fun(st:St)=>f55 (p:=q.num) (st:=st) (by omega) ‹s.ok› hs
  have hr:roomV (tab.length+1) 24=true:=roomV_lit (by omega) (by omega)
  have ih:=ih (tab++[rowP s q]) (by simp;omega)
  rw[List.map_cons]
  generalize hR:rowP s q=R at *
  rw[rowP]at hR
  generalize s.lsts.flatMap (usesL q.num)=us at *
  subst hR
  push_cast[Sho.v,Pal.v,List.map_nil,List.length_nil]at ih e3
  push_cast[h1,hw,hx,e1,e2,e3,hr,Sho.v,Pal.v,List.map_nil,List.length_nil,List.map_append,List.map_cons,List.append_assoc,List.singleton_append,rowV]at ih ⊢
  first|exact ih|exact dn_eq (by omega) ih
theorem f17 (h:s.ok){st:St}:run Tryz.prog HH 17 [s.v] st=some (.ret (.tup [.sl ((palT s).map rowV),.int .i64 (shoC s)]),st):=by
 have h1:=fun st=>f41 (st:=st) h
 rw[run_shut F17 rfl rfl (by simp)]
 by_cases hs:shoC s=0
 ·have hL:=L17 (g:=st.x.gl) h hs _ 0 rfl [hdP] (Nat.le_refl _)
  rw[List.drop_zero,hdP]at hL
  rw[palT,if_pos hs]
  generalize s.pals.map (rowP s)=so at *
  push_cast[Sho.v,rowV,List.map_cons,List.map_nil,List.length_cons,List.length_nil,List.singleton_append]at hL h1
  push_cast[Sho.v,hL,h1,hs,hdP,rowV,List.map_cons,List.map_nil,List.length_cons,List.length_nil,List.singleton_append]
 ·push_cast[Sho.v]at h1
  push_cast[Sho.v,h1,hs,palT]
end Go.Proofs.YtdkokbhcjmapdaaGreatDoor

namespace Go.Proofs.YtdkokbhcjmapdaaGreatDoor
open Go.Sha
set_option maxRecDepth 100000
variable {g:List (Nat×Obj)}{n:Nat}{s:Sho}{v:GV}
theorem tokS {s:Sho}(h:shoC s=0→s.fixts.length≤12):TokR (sltT s):=by
 unfold sltT
 split
 ·rename_i hs
  have:=h hs
  refine⟨by rw[List.length_cons,List.length_map,isort_len];omega,fun r hr=>?_⟩
  rcases List.mem_cons.1 hr with rfl|hr
  ·decide
  ·obtain⟨c,_,rfl⟩:=List.mem_map.1 hr
   simp[rowA]
 ·exact⟨by decide,fun r hr=>by simp at hr⟩
theorem tokG {s:Sho}:TokR (grpT s):=by
 unfold grpT
 split
 ·rename_i hs
  have:=(grps_parts hs).1
  refine⟨by rw[List.length_cons,List.length_map];omega,fun r hr=>?_⟩
  rcases List.mem_cons.1 hr with rfl|hr
  ·decide
  ·obtain⟨c,_,rfl⟩:=List.mem_map.1 hr
   simp[rowG]
 ·exact⟨by decide,fun r hr=>by simp at hr⟩
theorem tokP {s:Sho}:TokR (palT s):=by
 unfold palT
 split
 ·rename_i hs
  have:=(sho_parts hs).2.2.1
  refine⟨by rw[List.length_cons,List.length_map];omega,fun r hr=>?_⟩
  rcases List.mem_cons.1 hr with rfl|hr
  ·decide
  ·obtain⟨c,_,rfl⟩:=List.mem_map.1 hr
   simp[rowP]
 ·exact⟨by decide,fun r hr=>by simp at hr⟩
def memV1:List Nat:=[5,14,15,16,17]
noncomputable def HV (s:Sho):EvF:=⟨[],fun f args st=>bif Nat.beq f 6 then run Tryz.prog HA f args st else bif Nat.beq f 12 then run Tryz.prog HC f args st else bif Nat.beq f 13 then run Tryz.prog (HG s) f args st else
 bif Nat.beq f 11 then run Tryz.prog HK f args st else bif memL f memV1 then run Tryz.prog HH f args st else none⟩
@[push_cast]theorem HV_raw:(HV s).raw=[]:=idq rfl
theorem HV_ok (h1:ESound Tryz.prog HH)(h2:ESound Tryz.prog HK)(h3:ESound Tryz.prog HA)(h4:ESound Tryz.prog (HG s)):ESound Tryz.prog (HV s):=fun f args st r z e=>by
 simp only[HV]at e
 cases hi:Nat.beq f 6 with
 |true=>rw[hi]at e;exact run_sound mixed h3 _ _ _ _ _ e
 |false =>
  rw[hi,cond_false]at e
  cases hi:Nat.beq f 12 with
  |true=>rw[hi]at e;exact run_sound mixed (HC_ok h1) _ _ _ _ _ e
  |false =>
   rw[hi,cond_false]at e
   cases hi:Nat.beq f 13 with
   |true=>rw[hi]at e;exact run_sound mixed h4 _ _ _ _ _ e
   |false =>
    rw[hi,cond_false]at e
    cases hi:Nat.beq f 11 with
    |true=>rw[hi]at e;exact run_sound mixed h2 _ _ _ _ _ e
    |false =>
     rw[hi,cond_false]at e
     cases hi:memL f memV1 with
     |true=>rw[hi]at e;exact run_sound mixed h1 _ _ _ _ _ e
     |false=>rw[hi]at e;cases e
theorem upV {k:Nat}{args:List V}{st:St}{r:VRes×St}(h:run Tryz.prog HH k args st=some r)(h1:Nat.beq k 6=false:=by rfl)(h2:Nat.beq k 12=false:=by rfl)(h3:Nat.beq k 13=false:=by rfl)(h4:Nat.beq k 11=false:=by rfl)(h5:memL k memV1=true:=by rfl):run Tryz.prog (HV s) k args st=some r:=by
 refine run_H ?_
 simp only[HV,h1,h2,h3,h4,h5,cond_false,cond_true,h]
theorem w17 {args:List V}{st:St}{r:VRes×St}(h:run Tryz.prog HC 12 args st=some r):run Tryz.prog (HV s) 12 args st=some r:=by
 refine run_H ?_
 simp only[HV,show Nat.beq 12 6=false from rfl,show Nat.beq 12 12=true from rfl,cond_false,cond_true,h]
theorem w18 {args:List V}{st:St}{r:VRes×St}(h:run Tryz.prog (HG s) 13 args st=some r):run Tryz.prog (HV s) 13 args st=some r:=by
 refine run_H ?_
 simp only[HV,show Nat.beq 13 6=false from rfl,show Nat.beq 13 12=false from rfl,show Nat.beq 13 13=true from rfl,cond_false,cond_true,h]
theorem w14 {args:List V}{st:St}{r:VRes×St}(h:run Tryz.prog HK 11 args st=some r):run Tryz.prog (HV s) 11 args st=some r:=by
 refine run_H ?_
 simp only[HV,show Nat.beq 11 6=false from rfl,show Nat.beq 11 12=false from rfl,show Nat.beq 11 13=false from rfl,show Nat.beq 11 11=true from rfl,cond_false,cond_true,h]
theorem w9 {st:St}{v:GV}(hg:st.x.gl=glK v):run Tryz.prog (HV s) 6 [] st=some (.ret (.bool true),st):=by
 refine run_H ?_
 simp only[HV,show Nat.beq 6 6=true from rfl,cond_true]
 obtain⟨nx,mem,arr,⟨obj,gl,ty⟩⟩:=st
 cases hg
 exact f6 (v:=v) _ _ _ _ _
theorem l5 (h:s.ok){st:St}(hg:st.x.gl=glK v)(hG:glB st.x.gl=true):run Tryz.prog (HV s) 4 [s.v] st=some (.ret (.bool true),st):=by
 obtain⟨b,hb0,hb⟩:=f5' h
 have h8:=fun st=>upV (s:=s) (hb st)
 have hA:=fun nx mem arr obj ty=>w9 (s:=s) (st:=⟨nx,mem,arr,⟨obj,st.x.gl,ty⟩⟩) hg
 rw[run_shut F4 rfl rfl (by simp)]
 cases b with
 |false =>
  push_cast[Sho.v]at h8
  push_cast[Sho.v,h8,hA]
 |true =>
  have hF:=hb0 rfl
  have e17:=fun nx mem arr obj ty=>w17 (s:=s) (f12 (st:=⟨nx,mem,arr,⟨obj,st.x.gl,ty⟩⟩) h (fun hs=>by have:=hF hs;omega) hG)
  have e18:=fun(st:St)=>w18 (s:=s) (f13 (st:=st) h)
  have e19:=fun nx mem arr obj ty=>upV (s:=s) (f14 (st:=⟨nx,mem,arr,⟨obj,st.x.gl,ty⟩⟩) h hG)
  have e20:=fun(st:St)=>upV (s:=s) (f15 (st:=st) h)
  have e21:=fun nx mem arr obj ty=>upV (s:=s) (f16 (st:=⟨nx,mem,arr,⟨obj,st.x.gl,ty⟩⟩) h hG)
  have e22:=fun(st:St)=>upV (s:=s) (f17 (st:=st) h)
  have t1:=fun(st:St)=>w14 (s:=s) (f11 (st:=st) (tokS hF))
  have t2:=fun(st:St)=>w14 (s:=s) (f11 (st:=st) (tokG (s:=s)))
  have t3:=fun(st:St)=>w14 (s:=s) (f11 (st:=st) (tokP (s:=s)))
  generalize sltT s=a1 at *
  generalize grpT s=a2 at *
  generalize palT s=a3 at *
  generalize shoC s=cc at *
  push_cast[Sho.v]at h8 e17 e18 e19 e20 e21 e22
  push_cast[Sho.v,h8,hA,e17,e18,e19,e20,e21,e22,t1,t2,t3]
end Go.Proofs.YtdkokbhcjmapdaaGreatDoor

namespace Go.Proofs.YtdkokbhcjmapdaaGreatDoor
open Go.Sha
def Pt.sh:List CSh:=[.int .i64,.int .i64]
structure Pt.Dk (z:Pt):Prop where
 x:-9223372036854775808≤z.x∧z.x≤9223372036854775807
 y:-9223372036854775808≤z.y∧z.y≤9223372036854775807
theorem Pt.rd {vs:List V}(h:OkCs Pt.sh vs):∃x:Pt,V.agg vs=x.v∧x.Dk:=by
 obtain⟨v0,r0,rfl,h0,t0⟩:=h.cons_inv
 obtain⟨v1,r1,rfl,h1,t1⟩:=t0.cons_inv
 obtain rfl:=t1.nil_inv
 obtain⟨y0,rfl,b0⟩:=h0.i64_inv
 obtain⟨y1,rfl,b1⟩:=h1.i64_inv
 exact⟨⟨y0,y1⟩,rfl,⟨b0,b1⟩⟩
def Slt.sh:List CSh:=[.str,.int .i64,.int .i64]
structure Slt.Dk (z:Slt):Prop where
 name:z.name.length≤140737488351232
 fr:-9223372036854775808≤z.fr∧z.fr≤9223372036854775807
 to_:-9223372036854775808≤z.to_∧z.to_≤9223372036854775807
theorem Slt.rd {vs:List V}(h:OkCs Slt.sh vs):∃x:Slt,V.agg vs=x.v∧x.Dk:=by
 obtain⟨v0,r0,rfl,h0,t0⟩:=h.cons_inv
 obtain⟨v1,r1,rfl,h1,t1⟩:=t0.cons_inv
 obtain⟨v2,r2,rfl,h2,t2⟩:=t1.cons_inv
 obtain rfl:=t2.nil_inv
 obtain⟨y0,rfl,b0⟩:=h0.str_inv
 obtain⟨y1,rfl,b1⟩:=h1.i64_inv
 obtain⟨y2,rfl,b2⟩:=h2.i64_inv
 exact⟨⟨y0,y1,y2⟩,rfl,⟨b0,b1,b2⟩⟩
def Ftr.sh:List CSh:=[.int .i64,.int .i64,.int .i64,.int .i64,.int .i64,.int .i64,.int .i64,.int .i64,.bool,.sl true 32 Slt.sh]
structure Ftr.Dk (z:Ftr):Prop where
 attr:-9223372036854775808≤z.attr∧z.attr≤9223372036854775807
 bits:-9223372036854775808≤z.bits∧z.bits≤9223372036854775807
 coarse:-9223372036854775808≤z.coarse∧z.coarse≤9223372036854775807
 fine:-9223372036854775808≤z.fine∧z.fine≤9223372036854775807
 curve:-9223372036854775808≤z.curve∧z.curve≤9223372036854775807
 home:-9223372036854775808≤z.home∧z.home≤9223372036854775807
 low:-9223372036854775808≤z.low∧z.low≤9223372036854775807
 high:-9223372036854775808≤z.high∧z.high≤9223372036854775807
 snap:True
 wheel:z.wheel.length≤140737488351232∧∀q∈z.wheel,q.Dk
theorem Ftr.rd {vs:List V}(h:OkCs Ftr.sh vs):∃x:Ftr,V.agg vs=x.v∧x.Dk:=by
 obtain⟨v0,r0,rfl,h0,t0⟩:=h.cons_inv
 obtain⟨v1,r1,rfl,h1,t1⟩:=t0.cons_inv
 obtain⟨v2,r2,rfl,h2,t2⟩:=t1.cons_inv
 obtain⟨v3,r3,rfl,h3,t3⟩:=t2.cons_inv
 obtain⟨v4,r4,rfl,h4,t4⟩:=t3.cons_inv
 obtain⟨v5,r5,rfl,h5,t5⟩:=t4.cons_inv
 obtain⟨v6,r6,rfl,h6,t6⟩:=t5.cons_inv
 obtain⟨v7,r7,rfl,h7,t7⟩:=t6.cons_inv
 obtain⟨v8,r8,rfl,h8,t8⟩:=t7.cons_inv
 obtain⟨v9,r9,rfl,h9,t9⟩:=t8.cons_inv
 obtain rfl:=t9.nil_inv
 obtain⟨y0,rfl,b0⟩:=h0.i64_inv
 obtain⟨y1,rfl,b1⟩:=h1.i64_inv
 obtain⟨y2,rfl,b2⟩:=h2.i64_inv
 obtain⟨y3,rfl,b3⟩:=h3.i64_inv
 obtain⟨y4,rfl,b4⟩:=h4.i64_inv
 obtain⟨y5,rfl,b5⟩:=h5.i64_inv
 obtain⟨y6,rfl,b6⟩:=h6.i64_inv
 obtain⟨y7,rfl,b7⟩:=h7.i64_inv
 obtain⟨y8,rfl⟩:=h8.bool_inv
 have b8:=trivial
 obtain⟨y9,rfl,b9⟩:=h9.agg_inv (f:=Slt.v) (by decide) (fun _=>Slt.rd)
 exact⟨⟨y0,y1,y2,y3,y4,y5,y6,y7,y8,y9⟩,rfl,⟨b0,b1,b2,b3,b4,b5,b6,b7,b8,b9⟩⟩
def Prof.sh:List CSh:=[.str,.int .i64,.int .i64,.sl true 96 Ftr.sh]
structure Prof.Dk (z:Prof):Prop where
 name:z.name.length≤140737488351232
 foot:-9223372036854775808≤z.foot∧z.foot≤9223372036854775807
 watts:-9223372036854775808≤z.watts∧z.watts≤9223372036854775807
 feats:z.feats.length≤140737488351232∧∀q∈z.feats,q.Dk
theorem Prof.rd {vs:List V}(h:OkCs Prof.sh vs):∃x:Prof,V.agg vs=x.v∧x.Dk:=by
 obtain⟨v0,r0,rfl,h0,t0⟩:=h.cons_inv
 obtain⟨v1,r1,rfl,h1,t1⟩:=t0.cons_inv
 obtain⟨v2,r2,rfl,h2,t2⟩:=t1.cons_inv
 obtain⟨v3,r3,rfl,h3,t3⟩:=t2.cons_inv
 obtain rfl:=t3.nil_inv
 obtain⟨y0,rfl,b0⟩:=h0.str_inv
 obtain⟨y1,rfl,b1⟩:=h1.i64_inv
 obtain⟨y2,rfl,b2⟩:=h2.i64_inv
 obtain⟨y3,rfl,b3⟩:=h3.agg_inv (f:=Ftr.v) (by decide) (fun _=>Ftr.rd)
 exact⟨⟨y0,y1,y2,y3⟩,rfl,⟨b0,b1,b2,b3⟩⟩
def Fixt.sh:List CSh:=[.int .i64,.int .i64,.str,.int .i64,.int .i64,.int .i64,.str]
structure Fixt.Dk (z:Fixt):Prop where
 chan:-9223372036854775808≤z.chan∧z.chan≤9223372036854775807
 part:-9223372036854775808≤z.part∧z.part≤9223372036854775807
 prof:z.prof.length≤140737488351232
 univ:-9223372036854775808≤z.univ∧z.univ≤9223372036854775807
 addr:-9223372036854775808≤z.addr∧z.addr≤9223372036854775807
 phase:-9223372036854775808≤z.phase∧z.phase≤9223372036854775807
 cable:z.cable.length≤140737488351232
theorem Fixt.rd {vs:List V}(h:OkCs Fixt.sh vs):∃x:Fixt,V.agg vs=x.v∧x.Dk:=by
 obtain⟨v0,r0,rfl,h0,t0⟩:=h.cons_inv
 obtain⟨v1,r1,rfl,h1,t1⟩:=t0.cons_inv
 obtain⟨v2,r2,rfl,h2,t2⟩:=t1.cons_inv
 obtain⟨v3,r3,rfl,h3,t3⟩:=t2.cons_inv
 obtain⟨v4,r4,rfl,h4,t4⟩:=t3.cons_inv
 obtain⟨v5,r5,rfl,h5,t5⟩:=t4.cons_inv
 obtain⟨v6,r6,rfl,h6,t6⟩:=t5.cons_inv
 obtain rfl:=t6.nil_inv
 obtain⟨y0,rfl,b0⟩:=h0.i64_inv
 obtain⟨y1,rfl,b1⟩:=h1.i64_inv
 obtain⟨y2,rfl,b2⟩:=h2.str_inv
 obtain⟨y3,rfl,b3⟩:=h3.i64_inv
 obtain⟨y4,rfl,b4⟩:=h4.i64_inv
 obtain⟨y5,rfl,b5⟩:=h5.i64_inv
 obtain⟨y6,rfl,b6⟩:=h6.str_inv
 exact⟨⟨y0,y1,y2,y3,y4,y5,y6⟩,rfl,⟨b0,b1,b2,b3,b4,b5,b6⟩⟩
def Prm.sh:List CSh:=[.int .i64,.int .i64]
structure Prm.Dk (z:Prm):Prop where
 chan:-9223372036854775808≤z.chan∧z.chan≤9223372036854775807
 attr:-9223372036854775808≤z.attr∧z.attr≤9223372036854775807
theorem Prm.rd {vs:List V}(h:OkCs Prm.sh vs):∃x:Prm,V.agg vs=x.v∧x.Dk:=by
 obtain⟨v0,r0,rfl,h0,t0⟩:=h.cons_inv
 obtain⟨v1,r1,rfl,h1,t1⟩:=t0.cons_inv
 obtain rfl:=t1.nil_inv
 obtain⟨y0,rfl,b0⟩:=h0.i64_inv
 obtain⟨y1,rfl,b1⟩:=h1.i64_inv
 exact⟨⟨y0,y1⟩,rfl,⟨b0,b1⟩⟩
def Val.sh:List CSh:=[.int .i64,.int .i64]
structure Val.Dk (z:Val):Prop where
 pal:-9223372036854775808≤z.pal∧z.pal≤9223372036854775807
 lev:-9223372036854775808≤z.lev∧z.lev≤9223372036854775807
theorem Val.rd {vs:List V}(h:OkCs Val.sh vs):∃x:Val,V.agg vs=x.v∧x.Dk:=by
 obtain⟨v0,r0,rfl,h0,t0⟩:=h.cons_inv
 obtain⟨v1,r1,rfl,h1,t1⟩:=t0.cons_inv
 obtain rfl:=t1.nil_inv
 obtain⟨y0,rfl,b0⟩:=h0.i64_inv
 obtain⟨y1,rfl,b1⟩:=h1.i64_inv
 exact⟨⟨y0,y1⟩,rfl,⟨b0,b1⟩⟩
def Grp.sh:List CSh:=[.int .i64,.sl false 8 [.int .i64]]
structure Grp.Dk (z:Grp):Prop where
 num:-9223372036854775808≤z.num∧z.num≤9223372036854775807
 chans:z.chans.length≤140737488351232∧∀q∈z.chans,-9223372036854775808≤q∧q≤9223372036854775807
theorem Grp.rd {vs:List V}(h:OkCs Grp.sh vs):∃x:Grp,V.agg vs=x.v∧x.Dk:=by
 obtain⟨v0,r0,rfl,h0,t0⟩:=h.cons_inv
 obtain⟨v1,r1,rfl,h1,t1⟩:=t0.cons_inv
 obtain rfl:=t1.nil_inv
 obtain⟨y0,rfl,b0⟩:=h0.i64_inv
 obtain⟨y1,rfl,b1⟩:=h1.one_inv (f:=V.int .i64) (by decide) (fun v h=>h.i64_inv)
 exact⟨⟨y0,y1⟩,rfl,⟨b0,b1⟩⟩
def Hue.sh:List CSh:=[.int .i64,.int .i64,.int .i64]
structure Hue.Dk (z:Hue):Prop where
 chan:-9223372036854775808≤z.chan∧z.chan≤9223372036854775807
 attr:-9223372036854775808≤z.attr∧z.attr≤9223372036854775807
 lev:-9223372036854775808≤z.lev∧z.lev≤9223372036854775807
theorem Hue.rd {vs:List V}(h:OkCs Hue.sh vs):∃x:Hue,V.agg vs=x.v∧x.Dk:=by
 obtain⟨v0,r0,rfl,h0,t0⟩:=h.cons_inv
 obtain⟨v1,r1,rfl,h1,t1⟩:=t0.cons_inv
 obtain⟨v2,r2,rfl,h2,t2⟩:=t1.cons_inv
 obtain rfl:=t2.nil_inv
 obtain⟨y0,rfl,b0⟩:=h0.i64_inv
 obtain⟨y1,rfl,b1⟩:=h1.i64_inv
 obtain⟨y2,rfl,b2⟩:=h2.i64_inv
 exact⟨⟨y0,y1,y2⟩,rfl,⟨b0,b1,b2⟩⟩
def Pal.sh:List CSh:=[.int .i64,.sl true 24 Hue.sh]
structure Pal.Dk (z:Pal):Prop where
 num:-9223372036854775808≤z.num∧z.num≤9223372036854775807
 hues:z.hues.length≤140737488351232∧∀q∈z.hues,q.Dk
theorem Pal.rd {vs:List V}(h:OkCs Pal.sh vs):∃x:Pal,V.agg vs=x.v∧x.Dk:=by
 obtain⟨v0,r0,rfl,h0,t0⟩:=h.cons_inv
 obtain⟨v1,r1,rfl,h1,t1⟩:=t0.cons_inv
 obtain rfl:=t1.nil_inv
 obtain⟨y0,rfl,b0⟩:=h0.i64_inv
 obtain⟨y1,rfl,b1⟩:=h1.agg_inv (f:=Hue.v) (by decide) (fun _=>Hue.rd)
 exact⟨⟨y0,y1⟩,rfl,⟨b0,b1⟩⟩
def Tim.sh:List CSh:=[.int .i64,.int .i64,.int .i64,.int .i64,.int .i64,.int .i64]
structure Tim.Dk (z:Tim):Prop where
 up:-9223372036854775808≤z.up∧z.up≤9223372036854775807
 down:-9223372036854775808≤z.down∧z.down≤9223372036854775807
 posi:-9223372036854775808≤z.posi∧z.posi≤9223372036854775807
 colour:-9223372036854775808≤z.colour∧z.colour≤9223372036854775807
 beam:-9223372036854775808≤z.beam∧z.beam≤9223372036854775807
 delay:-9223372036854775808≤z.delay∧z.delay≤9223372036854775807
theorem Tim.rd {vs:List V}(h:OkCs Tim.sh vs):∃x:Tim,V.agg vs=x.v∧x.Dk:=by
 obtain⟨v0,r0,rfl,h0,t0⟩:=h.cons_inv
 obtain⟨v1,r1,rfl,h1,t1⟩:=t0.cons_inv
 obtain⟨v2,r2,rfl,h2,t2⟩:=t1.cons_inv
 obtain⟨v3,r3,rfl,h3,t3⟩:=t2.cons_inv
 obtain⟨v4,r4,rfl,h4,t4⟩:=t3.cons_inv
 obtain⟨v5,r5,rfl,h5,t5⟩:=t4.cons_inv
 obtain rfl:=t5.nil_inv
 obtain⟨y0,rfl,b0⟩:=h0.i64_inv
 obtain⟨y1,rfl,b1⟩:=h1.i64_inv
 obtain⟨y2,rfl,b2⟩:=h2.i64_inv
 obtain⟨y3,rfl,b3⟩:=h3.i64_inv
 obtain⟨y4,rfl,b4⟩:=h4.i64_inv
 obtain⟨y5,rfl,b5⟩:=h5.i64_inv
 exact⟨⟨y0,y1,y2,y3,y4,y5⟩,rfl,⟨b0,b1,b2,b3,b4,b5⟩⟩
def Mov.sh:List CSh:=[.int .i64,.int .i64,.int .i64,.int .i64,.int .i64]
structure Mov.Dk (z:Mov):Prop where
 prm:z.prm.Dk
 val:z.val.Dk
 part:-9223372036854775808≤z.part∧z.part≤9223372036854775807
theorem Mov.rd {vs:List V}(h:OkCs Mov.sh vs):∃x:Mov,V.agg vs=x.v∧x.Dk:=by
 obtain⟨v0,r0,rfl,h0,t0⟩:=h.cons_inv
 obtain⟨v1,r1,rfl,h1,t1⟩:=t0.cons_inv
 obtain⟨v2,r2,rfl,h2,t2⟩:=t1.cons_inv
 obtain⟨v3,r3,rfl,h3,t3⟩:=t2.cons_inv
 obtain⟨v4,r4,rfl,h4,t4⟩:=t3.cons_inv
 obtain rfl:=t4.nil_inv
 obtain⟨y0,rfl,b0⟩:=h0.i64_inv
 obtain⟨y1,rfl,b1⟩:=h1.i64_inv
 obtain⟨y2,rfl,b2⟩:=h2.i64_inv
 obtain⟨y3,rfl,b3⟩:=h3.i64_inv
 obtain⟨y4,rfl,b4⟩:=h4.i64_inv
 exact⟨⟨⟨y0,y1⟩,⟨y2,y3⟩,y4⟩,rfl,⟨⟨b0,b1⟩,⟨b2,b3⟩,b4⟩⟩
def Cu.sh:List CSh:=[.str,.str,.sl true 40 Mov.sh,.sl true 48 Tim.sh,.bool,.bool,.int .i64,.str,.int .i64]
structure Cu.Dk (z:Cu):Prop where
 num:z.num.length≤140737488351232
 label:z.label.length≤140737488351232
 moves:z.moves.length≤140737488351232∧∀q∈z.moves,q.Dk
 parts:z.parts.length≤140737488351232∧∀q∈z.parts,q.Dk
 block:True
 mark:True
 follow:-9223372036854775808≤z.follow∧z.follow≤9223372036854775807
 link:z.link.length≤140737488351232
 loops:-9223372036854775808≤z.loops∧z.loops≤9223372036854775807
theorem Cu.rd {vs:List V}(h:OkCs Cu.sh vs):∃x:Cu,V.agg vs=x.v∧x.Dk:=by
 obtain⟨v0,r0,rfl,h0,t0⟩:=h.cons_inv
 obtain⟨v1,r1,rfl,h1,t1⟩:=t0.cons_inv
 obtain⟨v2,r2,rfl,h2,t2⟩:=t1.cons_inv
 obtain⟨v3,r3,rfl,h3,t3⟩:=t2.cons_inv
 obtain⟨v4,r4,rfl,h4,t4⟩:=t3.cons_inv
 obtain⟨v5,r5,rfl,h5,t5⟩:=t4.cons_inv
 obtain⟨v6,r6,rfl,h6,t6⟩:=t5.cons_inv
 obtain⟨v7,r7,rfl,h7,t7⟩:=t6.cons_inv
 obtain⟨v8,r8,rfl,h8,t8⟩:=t7.cons_inv
 obtain rfl:=t8.nil_inv
 obtain⟨y0,rfl,b0⟩:=h0.str_inv
 obtain⟨y1,rfl,b1⟩:=h1.str_inv
 obtain⟨y2,rfl,b2⟩:=h2.agg_inv (f:=Mov.v) (by decide) (fun _=>Mov.rd)
 obtain⟨y3,rfl,b3⟩:=h3.agg_inv (f:=Tim.v) (by decide) (fun _=>Tim.rd)
 obtain⟨y4,rfl⟩:=h4.bool_inv
 have b4:=trivial
 obtain⟨y5,rfl⟩:=h5.bool_inv
 have b5:=trivial
 obtain⟨y6,rfl,b6⟩:=h6.i64_inv
 obtain⟨y7,rfl,b7⟩:=h7.str_inv
 obtain⟨y8,rfl,b8⟩:=h8.i64_inv
 exact⟨⟨y0,y1,y2,y3,y4,y5,y6,y7,y8⟩,rfl,⟨b0,b1,b2,b3,b4,b5,b6,b7,b8⟩⟩
def Lst.sh:List CSh:=[.int .i64,.int .i64,.sl true 120 Cu.sh]
structure Lst.Dk (z:Lst):Prop where
 num:-9223372036854775808≤z.num∧z.num≤9223372036854775807
 prio:-9223372036854775808≤z.prio∧z.prio≤9223372036854775807
 cues:z.cues.length≤140737488351232∧∀q∈z.cues,q.Dk
theorem Lst.rd {vs:List V}(h:OkCs Lst.sh vs):∃x:Lst,V.agg vs=x.v∧x.Dk:=by
 obtain⟨v0,r0,rfl,h0,t0⟩:=h.cons_inv
 obtain⟨v1,r1,rfl,h1,t1⟩:=t0.cons_inv
 obtain⟨v2,r2,rfl,h2,t2⟩:=t1.cons_inv
 obtain rfl:=t2.nil_inv
 obtain⟨y0,rfl,b0⟩:=h0.i64_inv
 obtain⟨y1,rfl,b1⟩:=h1.i64_inv
 obtain⟨y2,rfl,b2⟩:=h2.agg_inv (f:=Cu.v) (by decide) (fun _=>Cu.rd)
 exact⟨⟨y0,y1,y2⟩,rfl,⟨b0,b1,b2⟩⟩
def Gan.sh:List CSh:=[.int .i64,.int .i64,.int .i64]
structure Gan.Dk (z:Gan):Prop where
 prm:z.prm.Dk
 lev:-9223372036854775808≤z.lev∧z.lev≤9223372036854775807
theorem Gan.rd {vs:List V}(h:OkCs Gan.sh vs):∃x:Gan,V.agg vs=x.v∧x.Dk:=by
 obtain⟨v0,r0,rfl,h0,t0⟩:=h.cons_inv
 obtain⟨v1,r1,rfl,h1,t1⟩:=t0.cons_inv
 obtain⟨v2,r2,rfl,h2,t2⟩:=t1.cons_inv
 obtain rfl:=t2.nil_inv
 obtain⟨y0,rfl,b0⟩:=h0.i64_inv
 obtain⟨y1,rfl,b1⟩:=h1.i64_inv
 obtain⟨y2,rfl,b2⟩:=h2.i64_inv
 exact⟨⟨⟨y0,y1⟩,y2⟩,rfl,⟨⟨b0,b1⟩,b2⟩⟩
def Sb.sh:List CSh:=[.int .i64,.int .i64,.bool,.sl true 24 Gan.sh]
structure Sb.Dk (z:Sb):Prop where
 num:-9223372036854775808≤z.num∧z.num≤9223372036854775807
 prio:-9223372036854775808≤z.prio∧z.prio≤9223372036854775807
 inh:True
 gains:z.gains.length≤140737488351232∧∀q∈z.gains,q.Dk
theorem Sb.rd {vs:List V}(h:OkCs Sb.sh vs):∃x:Sb,V.agg vs=x.v∧x.Dk:=by
 obtain⟨v0,r0,rfl,h0,t0⟩:=h.cons_inv
 obtain⟨v1,r1,rfl,h1,t1⟩:=t0.cons_inv
 obtain⟨v2,r2,rfl,h2,t2⟩:=t1.cons_inv
 obtain⟨v3,r3,rfl,h3,t3⟩:=t2.cons_inv
 obtain rfl:=t3.nil_inv
 obtain⟨y0,rfl,b0⟩:=h0.i64_inv
 obtain⟨y1,rfl,b1⟩:=h1.i64_inv
 obtain⟨y2,rfl⟩:=h2.bool_inv
 have b2:=trivial
 obtain⟨y3,rfl,b3⟩:=h3.agg_inv (f:=Gan.v) (by decide) (fun _=>Gan.rd)
 exact⟨⟨y0,y1,y2,y3⟩,rfl,⟨b0,b1,b2,b3⟩⟩
def Eff.sh:List CSh:=[.int .i64,.int .i64,.sl true 16 Pt.sh,.int .i64,.int .i64,.int .i64]
structure Eff.Dk (z:Eff):Prop where
 num:-9223372036854775808≤z.num∧z.num≤9223372036854775807
 attr:-9223372036854775808≤z.attr∧z.attr≤9223372036854775807
 wave:z.wave.length≤140737488351232∧∀q∈z.wave,q.Dk
 period:-9223372036854775808≤z.period∧z.period≤9223372036854775807
 spread:-9223372036854775808≤z.spread∧z.spread≤9223372036854775807
 size:-9223372036854775808≤z.size∧z.size≤9223372036854775807
theorem Eff.rd {vs:List V}(h:OkCs Eff.sh vs):∃x:Eff,V.agg vs=x.v∧x.Dk:=by
 obtain⟨v0,r0,rfl,h0,t0⟩:=h.cons_inv
 obtain⟨v1,r1,rfl,h1,t1⟩:=t0.cons_inv
 obtain⟨v2,r2,rfl,h2,t2⟩:=t1.cons_inv
 obtain⟨v3,r3,rfl,h3,t3⟩:=t2.cons_inv
 obtain⟨v4,r4,rfl,h4,t4⟩:=t3.cons_inv
 obtain⟨v5,r5,rfl,h5,t5⟩:=t4.cons_inv
 obtain rfl:=t5.nil_inv
 obtain⟨y0,rfl,b0⟩:=h0.i64_inv
 obtain⟨y1,rfl,b1⟩:=h1.i64_inv
 obtain⟨y2,rfl,b2⟩:=h2.agg_inv (f:=Pt.v) (by decide) (fun _=>Pt.rd)
 obtain⟨y3,rfl,b3⟩:=h3.i64_inv
 obtain⟨y4,rfl,b4⟩:=h4.i64_inv
 obtain⟨y5,rfl,b5⟩:=h5.i64_inv
 exact⟨⟨y0,y1,y2,y3,y4,y5⟩,rfl,⟨b0,b1,b2,b3,b4,b5⟩⟩
def Sho.sh:List CSh:=[.str,.sl false 24 [.sl true 16 Pt.sh],.sl true 56 Prof.sh,.sl true 72 Fixt.sh,.sl true 32 Grp.sh,.sl true 32 Pal.sh,.sl true 40 Lst.sh,.sl true 48 Sb.sh,.sl true 64 Eff.sh]
structure Sho.Dk (z:Sho):Prop where
 title:z.title.length≤140737488351232
 curves:z.curves.length≤140737488351232∧∀l∈z.curves,l.length≤140737488351232∧∀q∈l,q.Dk
 profs:z.profs.length≤140737488351232∧∀q∈z.profs,q.Dk
 fixts:z.fixts.length≤140737488351232∧∀q∈z.fixts,q.Dk
 grps:z.grps.length≤140737488351232∧∀q∈z.grps,q.Dk
 pals:z.pals.length≤140737488351232∧∀q∈z.pals,q.Dk
 lsts:z.lsts.length≤140737488351232∧∀q∈z.lsts,q.Dk
 subs:z.subs.length≤140737488351232∧∀q∈z.subs,q.Dk
 effs:z.effs.length≤140737488351232∧∀q∈z.effs,q.Dk
theorem Sho.rd {vs:List V}(h:OkCs Sho.sh vs):∃x:Sho,V.agg vs=x.v∧x.Dk:=by
 obtain⟨v0,r0,rfl,h0,t0⟩:=h.cons_inv
 obtain⟨v1,r1,rfl,h1,t1⟩:=t0.cons_inv
 obtain⟨v2,r2,rfl,h2,t2⟩:=t1.cons_inv
 obtain⟨v3,r3,rfl,h3,t3⟩:=t2.cons_inv
 obtain⟨v4,r4,rfl,h4,t4⟩:=t3.cons_inv
 obtain⟨v5,r5,rfl,h5,t5⟩:=t4.cons_inv
 obtain⟨v6,r6,rfl,h6,t6⟩:=t5.cons_inv
 obtain⟨v7,r7,rfl,h7,t7⟩:=t6.cons_inv
 obtain⟨v8,r8,rfl,h8,t8⟩:=t7.cons_inv
 obtain rfl:=t8.nil_inv
 obtain⟨y0,rfl,b0⟩:=h0.str_inv
 obtain⟨y1,rfl,b1⟩:=h1.one_inv (f:=Pt.vs) (by decide) (fun v h=>h.agg_inv (f:=Pt.v) (by decide) (fun _=>Pt.rd))
 obtain⟨y2,rfl,b2⟩:=h2.agg_inv (f:=Prof.v) (by decide) (fun _=>Prof.rd)
 obtain⟨y3,rfl,b3⟩:=h3.agg_inv (f:=Fixt.v) (by decide) (fun _=>Fixt.rd)
 obtain⟨y4,rfl,b4⟩:=h4.agg_inv (f:=Grp.v) (by decide) (fun _=>Grp.rd)
 obtain⟨y5,rfl,b5⟩:=h5.agg_inv (f:=Pal.v) (by decide) (fun _=>Pal.rd)
 obtain⟨y6,rfl,b6⟩:=h6.agg_inv (f:=Lst.v) (by decide) (fun _=>Lst.rd)
 obtain⟨y7,rfl,b7⟩:=h7.agg_inv (f:=Sb.v) (by decide) (fun _=>Sb.rd)
 obtain⟨y8,rfl,b8⟩:=h8.agg_inv (f:=Eff.v) (by decide) (fun _=>Eff.rd)
 exact⟨⟨y0,y1,y2,y3,y4,y5,y6,y7,y8⟩,rfl,⟨b0,b1,b2,b3,b4,b5,b6,b7,b8⟩⟩
theorem Pt.inj {x y:Pt}(h:x.v=y.v):x=y:=by
 obtain⟨x0,x1⟩:=x;obtain⟨y0,y1⟩:=y
 simp only[Pt.v,V.agg.injEq,List.cons.injEq,V.int.injEq,V.str.injEq,V.bool.injEq,V.sl.injEq,true_and,and_true]at h
 obtain⟨h0,h1⟩:=h
 cases h0
 cases h1
 rfl
theorem Slt.inj {x y:Slt}(h:x.v=y.v):x=y:=by
 obtain⟨x0,x1,x2⟩:=x;obtain⟨y0,y1,y2⟩:=y
 simp only[Slt.v,V.agg.injEq,List.cons.injEq,V.int.injEq,V.str.injEq,V.bool.injEq,V.sl.injEq,true_and,and_true]at h
 obtain⟨h0,h1,h2⟩:=h
 cases h0
 cases h1
 cases h2
 rfl
theorem Ftr.inj {x y:Ftr}(h:x.v=y.v):x=y:=by
 obtain⟨x0,x1,x2,x3,x4,x5,x6,x7,x8,x9⟩:=x;obtain⟨y0,y1,y2,y3,y4,y5,y6,y7,y8,y9⟩:=y
 simp only[Ftr.v,V.agg.injEq,List.cons.injEq,V.int.injEq,V.str.injEq,V.bool.injEq,V.sl.injEq,true_and,and_true]at h
 obtain⟨h0,h1,h2,h3,h4,h5,h6,h7,h8,h9⟩:=h
 cases h0
 cases h1
 cases h2
 cases h3
 cases h4
 cases h5
 cases h6
 cases h7
 cases h8
 cases map_inj Slt.inj h9
 rfl
theorem Prof.inj {x y:Prof}(h:x.v=y.v):x=y:=by
 obtain⟨x0,x1,x2,x3⟩:=x;obtain⟨y0,y1,y2,y3⟩:=y
 simp only[Prof.v,V.agg.injEq,List.cons.injEq,V.int.injEq,V.str.injEq,V.bool.injEq,V.sl.injEq,true_and,and_true]at h
 obtain⟨h0,h1,h2,h3⟩:=h
 cases h0
 cases h1
 cases h2
 cases map_inj Ftr.inj h3
 rfl
theorem Fixt.inj {x y:Fixt}(h:x.v=y.v):x=y:=by
 obtain⟨x0,x1,x2,x3,x4,x5,x6⟩:=x;obtain⟨y0,y1,y2,y3,y4,y5,y6⟩:=y
 simp only[Fixt.v,V.agg.injEq,List.cons.injEq,V.int.injEq,V.str.injEq,V.bool.injEq,V.sl.injEq,true_and,and_true]at h
 obtain⟨h0,h1,h2,h3,h4,h5,h6⟩:=h
 cases h0
 cases h1
 cases h2
 cases h3
 cases h4
 cases h5
 cases h6
 rfl
theorem Prm.inj {x y:Prm}(h:x.v=y.v):x=y:=by
 obtain⟨x0,x1⟩:=x;obtain⟨y0,y1⟩:=y
 simp only[Prm.v,V.agg.injEq,List.cons.injEq,V.int.injEq,V.str.injEq,V.bool.injEq,V.sl.injEq,true_and,and_true]at h
 obtain⟨h0,h1⟩:=h
 cases h0
 cases h1
 rfl
theorem Val.inj {x y:Val}(h:x.v=y.v):x=y:=by
 obtain⟨x0,x1⟩:=x;obtain⟨y0,y1⟩:=y
 simp only[Val.v,V.agg.injEq,List.cons.injEq,V.int.injEq,V.str.injEq,V.bool.injEq,V.sl.injEq,true_and,and_true]at h
 obtain⟨h0,h1⟩:=h
 cases h0
 cases h1
 rfl
theorem Grp.inj {x y:Grp}(h:x.v=y.v):x=y:=by
 obtain⟨x0,x1⟩:=x;obtain⟨y0,y1⟩:=y
 simp only[Grp.v,V.agg.injEq,List.cons.injEq,V.int.injEq,V.str.injEq,V.bool.injEq,V.sl.injEq,true_and,and_true]at h
 obtain⟨h0,h1⟩:=h
 cases h0
 cases map_inj (f:=V.int .i64) (fun h=>(V.int.inj h).2) h1
 rfl
theorem Hue.inj {x y:Hue}(h:x.v=y.v):x=y:=by
 obtain⟨x0,x1,x2⟩:=x;obtain⟨y0,y1,y2⟩:=y
 simp only[Hue.v,V.agg.injEq,List.cons.injEq,V.int.injEq,V.str.injEq,V.bool.injEq,V.sl.injEq,true_and,and_true]at h
 obtain⟨h0,h1,h2⟩:=h
 cases h0
 cases h1
 cases h2
 rfl
theorem Pal.inj {x y:Pal}(h:x.v=y.v):x=y:=by
 obtain⟨x0,x1⟩:=x;obtain⟨y0,y1⟩:=y
 simp only[Pal.v,V.agg.injEq,List.cons.injEq,V.int.injEq,V.str.injEq,V.bool.injEq,V.sl.injEq,true_and,and_true]at h
 obtain⟨h0,h1⟩:=h
 cases h0
 cases map_inj Hue.inj h1
 rfl
theorem Tim.inj {x y:Tim}(h:x.v=y.v):x=y:=by
 obtain⟨x0,x1,x2,x3,x4,x5⟩:=x;obtain⟨y0,y1,y2,y3,y4,y5⟩:=y
 simp only[Tim.v,V.agg.injEq,List.cons.injEq,V.int.injEq,V.str.injEq,V.bool.injEq,V.sl.injEq,true_and,and_true]at h
 obtain⟨h0,h1,h2,h3,h4,h5⟩:=h
 cases h0
 cases h1
 cases h2
 cases h3
 cases h4
 cases h5
 rfl
theorem Mov.inj {x y:Mov}(h:x.v=y.v):x=y:=by
 obtain⟨⟨x0,x1⟩,⟨x2,x3⟩,x4⟩:=x;obtain⟨⟨y0,y1⟩,⟨y2,y3⟩,y4⟩:=y
 simp only[Mov.v,V.agg.injEq,List.cons.injEq,V.int.injEq,V.str.injEq,V.bool.injEq,V.sl.injEq,true_and,and_true]at h
 obtain⟨h0,h1,h2,h3,h4⟩:=h
 cases h0
 cases h1
 cases h2
 cases h3
 cases h4
 rfl
theorem Cu.inj {x y:Cu}(h:x.v=y.v):x=y:=by
 obtain⟨x0,x1,x2,x3,x4,x5,x6,x7,x8⟩:=x;obtain⟨y0,y1,y2,y3,y4,y5,y6,y7,y8⟩:=y
 simp only[Cu.v,V.agg.injEq,List.cons.injEq,V.int.injEq,V.str.injEq,V.bool.injEq,V.sl.injEq,true_and,and_true]at h
 obtain⟨h0,h1,h2,h3,h4,h5,h6,h7,h8⟩:=h
 cases h0
 cases h1
 cases map_inj Mov.inj h2
 cases map_inj Tim.inj h3
 cases h4
 cases h5
 cases h6
 cases h7
 cases h8
 rfl
theorem Lst.inj {x y:Lst}(h:x.v=y.v):x=y:=by
 obtain⟨x0,x1,x2⟩:=x;obtain⟨y0,y1,y2⟩:=y
 simp only[Lst.v,V.agg.injEq,List.cons.injEq,V.int.injEq,V.str.injEq,V.bool.injEq,V.sl.injEq,true_and,and_true]at h
 obtain⟨h0,h1,h2⟩:=h
 cases h0
 cases h1
 cases map_inj Cu.inj h2
 rfl
theorem Gan.inj {x y:Gan}(h:x.v=y.v):x=y:=by
 obtain⟨⟨x0,x1⟩,x2⟩:=x;obtain⟨⟨y0,y1⟩,y2⟩:=y
 simp only[Gan.v,V.agg.injEq,List.cons.injEq,V.int.injEq,V.str.injEq,V.bool.injEq,V.sl.injEq,true_and,and_true]at h
 obtain⟨h0,h1,h2⟩:=h
 cases h0
 cases h1
 cases h2
 rfl
theorem Sb.inj {x y:Sb}(h:x.v=y.v):x=y:=by
 obtain⟨x0,x1,x2,x3⟩:=x;obtain⟨y0,y1,y2,y3⟩:=y
 simp only[Sb.v,V.agg.injEq,List.cons.injEq,V.int.injEq,V.str.injEq,V.bool.injEq,V.sl.injEq,true_and,and_true]at h
 obtain⟨h0,h1,h2,h3⟩:=h
 cases h0
 cases h1
 cases h2
 cases map_inj Gan.inj h3
 rfl
theorem Eff.inj {x y:Eff}(h:x.v=y.v):x=y:=by
 obtain⟨x0,x1,x2,x3,x4,x5⟩:=x;obtain⟨y0,y1,y2,y3,y4,y5⟩:=y
 simp only[Eff.v,V.agg.injEq,List.cons.injEq,V.int.injEq,V.str.injEq,V.bool.injEq,V.sl.injEq,true_and,and_true]at h
 obtain⟨h0,h1,h2,h3,h4,h5⟩:=h
 cases h0
 cases h1
 cases map_inj Pt.inj h2
 cases h3
 cases h4
 cases h5
 rfl
theorem Sho.inj {x y:Sho}(h:x.v=y.v):x=y:=by
 obtain⟨x0,x1,x2,x3,x4,x5,x6,x7,x8⟩:=x;obtain⟨y0,y1,y2,y3,y4,y5,y6,y7,y8⟩:=y
 simp only[Sho.v,V.agg.injEq,List.cons.injEq,V.int.injEq,V.str.injEq,V.bool.injEq,V.sl.injEq,true_and,and_true]at h
 obtain⟨h0,h1,h2,h3,h4,h5,h6,h7,h8⟩:=h
 cases h0
 cases map_inj (f:=Pt.vs) (fun h=>map_inj Pt.inj (V.sl.inj h)) h1
 cases map_inj Prof.inj h2
 cases map_inj Fixt.inj h3
 cases map_inj Grp.inj h4
 cases map_inj Pal.inj h5
 cases map_inj Lst.inj h6
 cases map_inj Sb.inj h7
 cases map_inj Eff.inj h8
 rfl
end Go.Proofs.YtdkokbhcjmapdaaGreatDoor

namespace Go.Proofs.YtdkokbhcjmapdaaGreatDoor
open Go.Sha
set_option maxRecDepth 100000
theorem Cu.Dk.ok {x:Cu}(h:x.Dk):x.ok:=⟨by have:=h.num;omega,by have:=h.label;omega,by have:=h.moves.1;omega,by have:=h.parts.1;omega,by have:=h.link;omega⟩
theorem Lst.Dk.ok {x:Lst}(h:x.Dk):x.ok:=⟨by have:=h.cues.1;omega,fun q hq=>(h.cues.2 q hq).ok⟩
theorem Prof.Dk.ok {x:Prof}(h:x.Dk):x.ok∧x.okR:=⟨⟨by have:=h.feats.1;omega,fun q hq=>by have:=(h.feats.2 q hq).wheel.1;omega,by have:=h.name;omega⟩,
 by have:=h.feats.1;omega,fun q hq=>⟨by have:=(h.feats.2 q hq).wheel.1;omega,fun z hz=>by have:=((h.feats.2 q hq).wheel.2 z hz).name;omega⟩,by have:=h.name;omega⟩
theorem Sho.Dk.ok {x : Sho}(h : x.Dk) : x.ok :=
  ⟨by have := h.title; omega, ⟨by have := h.curves.1; omega, fun q hq => by have := (h.curves.2 q hq).1; omega⟩, ⟨by have := h.profs.1; omega, fun q hq => (h.profs.2 q hq).ok.1, fun q hq => (h.profs.2 q hq).ok.2⟩,
   ⟨by have := h.fixts.1; omega, fun q hq => by have := (h.fixts.2 q hq).cable; omega⟩, ⟨by have := h.grps.1; omega, fun q hq => by have := (h.grps.2 q hq).chans.1; omega⟩, ⟨by have := h.pals.1; omega, fun q hq => by have := (h.pals.2 q hq).hues.1; omega⟩,
   ⟨by have := h.lsts.1; omega, fun q hq => (h.lsts.2 q hq).ok⟩, ⟨by have := h.subs.1; omega, fun q hq => by have := (h.subs.2 q hq).gains.1; omega⟩, ⟨by have := h.effs.1; omega, fun q hq => by have := (h.effs.2 q hq).wave.1; omega⟩⟩
end Go.Proofs.YtdkokbhcjmapdaaGreatDoor

namespace Go.Proofs.YtdkokbhcjmapdaaGreatDoor
open Go.ChangeShapes Go.WideShapes Go.ChangeAt Go.RowKit Go.Sha
theorem soundA:ESound Tryz.prog HA:=HA_ok HK_ok
theorem soundG (s:Sho):ESound Tryz.prog (HG s):=HG_ok HH_ok
theorem soundV (s:Sho):ESound Tryz.prog (HV s):=HV_ok HH_ok HK_ok soundA (soundG s)
theorem glB_K {v:GV}:glB (stG (glK v)).x.gl=true:=by kernel_rfl
theorem sk1:(laidOutB Tryz.prog)=true:=by kernel_rfl
theorem sk2:(mapsRowed Tryz.prog)=true:=by kernel_rfl
theorem sk6:(Tryz.prog.stops == [])=true:=by kernel_rfl
theorem sk8:(Tryz.prog.stopKnobs == [])=true:=by kernel_rfl
theorem sk22:(Rows.paperworkCuesRow.plainKeys == Tryz.prog.plainKeys)=true:=by kernel_rfl
theorem sk24:(Tryz.prog.stopsHeard)=true:=by kernel_rfl
theorem sk25:(Tryz.prog.mayEnter)=true:=by kernel_rfl
theorem sk26:(Rows.paperworkCuesRow.lifted == Tryz.prog.liftsFinal)=true:=by kernel_rfl
theorem sk27:(Tryz.prog.make == some Rows.paperworkCuesRow.make)=true:=by kernel_rfl
theorem sk15:(Rows.paperworkCuesRow.mapsOut == Tryz.prog.mapsAmong Tryz.f3.resultTypes.toList)=true:=by kernel_rfl
theorem sown:ownKnob Tryz.prog.godebug=none:=by kernel_rfl
theorem smain:Tryz.prog.mainIs=some (Rows.paperworkCuesCard.stood.harness.1,Rows.paperworkCuesCard.stood.harness.2.toList):=by kernel_rfl
theorem slooks:Rows.paperworkCuesCard.stood.looks=Tryz.prog.looks []:=by kernel_rfl
end Go.Proofs.YtdkokbhcjmapdaaGreatDoor

