/- What comes in as data. -/
import Derived.Test.YtmjkgajnpmiomaaGreatDoorLShbX
import Derived.ChangeSame
import Derived.ProofKit
import Derived.Test.YtmjkgajnpmiomaaGreatDoorLShbT
import Derived.SizedLaws
import Derived.ChangeStays
import Derived.ReadAgain
set_option linter.unusedSimpArgs false
set_option linter.unusedVariables false
namespace Go.Sha
open Go.ChangeShapes Go.WideShapes Go.ChangeAt Go.RowKit
def abs0 (w:World):Abs:=⟨fun b _=>b<w.heap.size,fun _=>none,fun _=>0,fun _=>undef,fun _=>0,0⟩
def st0:St:=⟨0,[],[],⟨[],[],[]⟩⟩
theorem sim0 (w:World):Sim w (abs0 w) st0 where
 nx:=rfl
 mem id cs h:=by cases h
 arr id a h:=by cases h
 Clt b o h:=h
 ownlt b id h:=by cases h
 disj id cs ar h:=by cases h
 x:=⟨fun id o h=>(by cases h),fun p h=>(by cases h),fun id T h=>(by cases h)⟩
structure Kept (w w':World):Prop where
 os:w'.os=w.os
 output:w'.output=w.output
 size:w.heap.size≤w'.heap.size
 heap:∀i,i<w.heap.size→w'.heap[i]?=w.heap[i]?
theorem Kept.keptBut {w w':World}(h:Kept w w')(may:MemPlace→Prop):w.keptBut w' may:=by
 refine⟨h.os,h.output,fun i hi=>?_⟩
 rw[h.heap i hi]
 exact(World.keptBut_refl w may).2.2 i hi
theorem Kept.cell {w w':World}(h:Kept w w'){a:Addr}(hb:a.block<w.heap.size):w'.cell? a=w.cell? a:=by
 unfold World.cell?;rw[h.heap _ hb]
theorem VCalls.calls {P:Program}{f:FuncId}{fn:Func}(hf:P.funcs[f]?=some fn)(hname:(fn.name == "runtime.NumGoroutine")=false)(hb:fn.body.isNone=false){args:List V}{st:St}{R:VRes→St→Prop}(h:VCalls P f args st R){w:World}{A:Abs}{vs:List Value}(hs:Sim w A st)(ha:Reps w A vs args) :
  Calls P f vs.toArray w fun e w'=>∃r A' st',R r st'∧EndRel w' A' e r∧Sim w' A' st'∧Ext w A w' A':=by
 rcases h with⟨_,h⟩|h
 ·exact h w A vs hs ha
 ·obtain⟨v,w',h1,_⟩:=h w A vs hs ha
  simp only[callFunc,Sem.run_bind,run_program,Result.andThen_ok,hf,hname,hb,Bool.false_eq_true,if_false,Sem.run_pure]at h1
  cases h1
theorem law_calls {P:Program}{f:FuncId}{fn:Func}(hf:P.funcs[f]?=some fn)(hname:(fn.name == "runtime.NumGoroutine")=false)(hb:fn.body.isNone=false){ds:List V}{st':St}(h:VRet P f ds st0 (.bool true) st'){w:World}{vs:List Value}(ha:Reps w (abs0 w) vs ds) :
  Calls P f vs.toArray w fun e w'=>e=.returned (.bool true)∧Kept w w':=by
 refine(VCalls.calls hf hname hb h (sim0 w) ha).mono fun e w' ⟨r,A',s,⟨hr,_⟩,he,_,hx⟩=>?_
 subst hr
 cases e with
 |returned v =>
  have hv:Rep w' A' v (.bool true):=he
  rw[hv.bool_inv]
  exact⟨rfl,hx.os,hx.output,hx.size,fun i hi=>hx.fr i hi rfl⟩
 |panicked ch=>exact he.elim
 |outgrown=>exact he.elim
theorem post_of_kept {H:Type}{enc:TypeId×Value→H}{P:Program}{f:Func}{s:ChangeSpec}{apart fresh handsOn again:Bool}{W W':World}{args:Array Value}{v:Value}{ds gs:List (DataW H)}{before pa pv:List MemPlace}
  (hW:DataW.Whole enc P f.params.toList s.vars apart W args.toList ds gs before)
  (hres:∀(b:Nat) (sp:Nat→Bool) (hd:Bool),DataW.TrodAll enc P W' b sp hd f.resultTypes.toList (v.resultList f.resultTypes.size) (s.fn H (ds++gs)).results [])
  (hargs:∀sp:Nat→Bool,(∀p∈before,sp p.block=true)→DataW.TrodAll enc P W' 0 sp true f.params.toList args.toList (s.fn H (ds++gs)).args pa)
  (hvars:∀sp:Nat→Bool,(∀p∈before,sp p.block=true)→DataW.TrodVars enc P W' sp s.vars (s.fn H (ds++gs)).vars pv)
  (hps:before=pa++pv) (hk:Kept W W')
  (hok:∀(j:Nat) (t:TypeId) (r:Value),f.resultTypes[j]?=some t→(v.resultList f.resultTypes.size)[j]?=some r→Value.okWide P W' .any 0 t r) :
  s.post enc P f apart fresh handsOn again W args v W':=by
 have hlt:∀p∈before,p.block<W.heap.size:=fun p hp=>hW.lt p hp
 have hold:∀p∈before,(fun b=>decide (b<W.heap.size)) p.block=true:=fun p hp=>by simpa using hW.lt p hp
 refine⟨ds,gs,before,[],pa,pv,hW,hres _ _ _,hargs _ hold,hvars _ hold,World.keptBut_mono (fun p hp=>⟨hp,?_⟩) (hk.keptBut (·∈before)),fun _=>?_⟩
 ·rw[hps,List.mem_append]at hp
  exact Or.inr hp
 ·obtain⟨_,_,_,_,_,hz,hn⟩:=hW
  refine⟨hok,_,_,([]++pa)++pv,⟨[]++pa,pv,trodAll_append (hargs _ (fun _ _=>rfl)) (hres _ _ _),hvars _ (fun _ _=>rfl),rfl,?_,?_⟩,?_⟩
  ·intro b off hp
   have hb:MemPlace.cell b off∈before:=by rw[hps];simpa using hp
   have e:W'.frozen? ⟨b,off,none⟩=W.frozen? ⟨b,off,none⟩:=by
    unfold World.frozen?;rw[hk.heap b (hlt _ hb)]
   rw[e]
   exact hz b off hb
  ·intro ha
   have:=hn ha
   rw[hps]at this
   simpa using this
  ·intro p hp _
   rw[hps]
   simpa using hp
end Go.Sha
namespace Go.Sha
open Go.ChangeShapes Go.WideShapes Go.ChangeAt Go.RowKit
inductive CSh where
 |bool
 |int (k:IntKind)
 |str
 |sl (agg:Bool) (bytes:Nat) (e:List CSh)
def aggT (P:Program)(t:TypeId):Bool:=match P.underlying t with
 |some (.struct _)=>true
 |some (.array ..)=>true
 |_=>false
def shFields (P:Program)(rec:TypeId→Option (List CSh)):List Field→Nat→Option (List CSh)
 |[],_=>some []
 |f::r,off=>match rec f.type with
  |some l=>if f.offset=off∧l.length=P.cellsOf f.type then(shFields P rec r (off+l.length)).map (l++·) else none
  |none=>none
def shOf (P:Program):Nat→TypeId→Option (List CSh)
 |0,_=>none
 |n+1,t=>match P.underlying t with
  |some .bool=>some [.bool]
  |some (.int k)=>some [.int k]
  |some .string=>some [.str]
  |some (.slice e)=>match shOf P n e with
   |some l=>if l.length=P.cellsOf e∧0<l.length∧(aggT P e=true∨l.length=1) then some [.sl (aggT P e) (P.bytesOf e) l] else none
   |none=>none
  |some (.struct fs)=>match shFields P (shOf P n) fs.toList 0 with
   |some l=>if l.length=P.cellsOf t then some l else none
   |none=>none
  |_=>none
inductive OkC:CSh→V→Prop
 |bool (b:Bool):OkC .bool (.bool b)
 |int (k:IntKind) (n:Int) (h:(Lit.int k n).wf=true):OkC (.int k) (.int k n)
 |str (s:List UInt8) (h:s.length≤140737488351232):OkC .str (.str s)
 |sl (agg:Bool) (bytes:Nat) (e:List CSh) (xs:List V) (hl:xs.length*bytes≤140737488351232) (h1:∀x∈xs,x.isAgg=agg∧x.cells.length=e.length)
   (h2:∀x∈xs,∀(i:Nat) (s:CSh) (c:V),e[i]?=some s→x.cells[i]?=some c→OkC s c):OkC (.sl agg bytes e) (.sl xs)
def OkCs (sh:List CSh)(vs:List V):Prop:=vs.length=sh.length∧∀(i:Nat) (s:CSh) (v:V),sh[i]?=some s→vs[i]?=some v→OkC s v
theorem OkCs.append {a b:List CSh}{u v:List V}(h:OkCs a u)(k:OkCs b v):OkCs (a++b) (u++v):=by
 refine⟨by simp[h.1,k.1],fun i s c hs hc=>?_⟩
 rcases Nat.lt_or_ge i a.length with hi|hi
 ·rw[List.getElem?_append_left hi]at hs
  rw[List.getElem?_append_left (by rw[h.1];exact hi)]at hc
  exact h.2 i s c hs hc
 ·rw[List.getElem?_append_right hi]at hs
  rw[List.getElem?_append_right (by rw[h.1];exact hi),h.1]at hc
  exact k.2 _ s c hs hc
theorem exists_list {α:Type}{p:Nat→α→Prop}:∀(n:Nat),(∀i,i<n→∃a,p i a)→∃l:List α,l.length=n∧∀(i:Nat) (a:α),l[i]?=some a→p i a
 |0,_=>⟨[],rfl,by simp⟩
 |n+1,h=>by
  obtain⟨l,hl,hp⟩:=exists_list n (fun i hi=>h i (by omega))
  obtain⟨a,ha⟩:=h n (by omega)
  refine⟨l++[a],by simp[hl],fun i b hb=>?_⟩
  rcases Nat.lt_or_ge i l.length with hi|hi
  ·rw[List.getElem?_append_left hi]at hb;exact hp i b hb
  ·rw[List.getElem?_append_right hi]at hb
   have:i-l.length=0:=by
    have:=(List.getElem?_eq_some_iff.1 hb).1;simp at this;omega
   rw[this]at hb
   cases hb
   rw[show i=n by omega];exact ha
section
variable {H:Type}{enc:TypeId×Value→H}{P:Program}{w:World}
theorem cells?_get {a:Addr}{n:Nat}{cs:List Value}(h:w.cells? 0 a n=some cs):cs.length=n∧∀(i:Nat) (v:Value),cs[i]?=some v→w.cell? (a.add i)=some v:=by
 unfold World.cells? at h
 rw[if_pos (Nat.zero_le _)]at h
 have hl:=mapM_some_length h
 rw[List.length_range]at hl
 refine⟨hl,fun i v hv=>?_⟩
 have hi:i<n:=by have:=(List.getElem?_eq_some_iff.1 hv).1;omega
 rw[mapM_some_get h i i (by simp[hi])];exact hv
theorem cell_block {a:Addr}{v:Value}(h:w.cell? a=some v):a.block<w.heap.size∧a.spot=none:=by
 unfold World.cell? at h
 split at h
 ·rename_i hb
  split at h
  ·cases h
  ·rename_i hs
   refine⟨(Array.getElem?_eq_some_iff.1 hb).1,by simpa using hs⟩
 ·cases h
theorem weightsAll_mem {e:TypeId}:∀{ds:List (DataW H)}{d:DataW H},d∈ds→∀k∈d.weights P e,k∈DataW.weightsAll P e ds
 |d0::ds,d,hd,k,hk=>by
  simp only[DataW.weightsAll,List.mem_append]
  rcases List.mem_cons.1 hd with rfl|h
  ·exact .inl hk
  ·exact .inr (weightsAll_mem h k hk)
def elemOf (agg:Bool)(vs:List V):V:=if agg then .agg vs else vs.headD .und
theorem elemOf_cells {agg:Bool}{sh:List CSh}{vs:List V}(h:OkCs sh vs)(ha:agg=true∨sh.length=1):(elemOf agg vs).cells=vs∧(elemOf agg vs).isAgg=agg:=by
 unfold elemOf
 cases agg with
 |true=>exact⟨rfl,rfl⟩
 |false =>
  have h1:sh.length=1:=by rcases ha with h|h;(cases h);exact h
  obtain⟨s,rfl⟩:=List.length_eq_one_iff.1 h1
  obtain⟨v,rfl⟩:=List.length_eq_one_iff.1 (h.1.trans h1)
  have:=h.2 0 s v rfl rfl
  cases this<;>exact⟨rfl,rfl⟩
theorem trod_sh:∀(n fuel:Nat) (t:TypeId) (cs:List Value) (x:DataW H×List MemPlace) (sh:List CSh),DataW.trod enc P w 0 (fun _=>true) true fuel t cs=some x→shOf P n t=some sh→(∀k∈x.1.weights P t,k≤reachBytes) →
  ∃vs,OkCs sh vs∧Reps w (abs0 w) cs vs∧∀v∈cs,v.oneCell'=true
 |0,_,_,_,_,_,_,h,_=>by cases h
 |n+1,fuel,t,cs,x,sh,h,hsh,hw=>by
  simp only[shOf]at hsh
  split at hsh
  ·rename_i ht
   cases hsh
   obtain⟨b,rfl,rfl⟩:=DataW.trod_bool ht h
   exact⟨[.bool b],⟨rfl,fun i s v hs hv=>by match i,hs,hv with|0,rfl,rfl=>exact .bool b⟩,⟨rfl,fun i u v hu hv=>by match i,hu,hv with|0,rfl,rfl=>exact .bool b⟩,by simp[Value.oneCell']⟩
  ·rename_i k ht
   cases hsh
   obtain⟨m,rfl,rfl,hwf⟩:=DataW.trod_int ht h
   exact⟨[.int k m],⟨rfl,fun i s v hs hv=>by match i,hs,hv with|0,rfl,rfl=>exact .int k m hwf⟩,⟨rfl,fun i u v hu hv=>by match i,hu,hv with|0,rfl,rfl=>exact .int k m⟩,by simp[Value.oneCell']⟩
  ·rename_i ht
   cases hsh
   obtain⟨s,rfl,rfl,_⟩:=DataW.trod_string ht h
   have hsz:s.data.toList.length≤reachBytes:=hw _ (by simp[DataW.weights])
   have es:(⟨s.data.toList.toArray⟩:ByteArray)=s:=by cases s;simp
   refine⟨[.str s.data.toList],⟨rfl,fun i sh v hs hv=>by match i,hs,hv with|0,rfl,rfl=>exact .str _ hsz⟩,⟨rfl,fun i u v hu hv=>?_⟩,by simp[Value.oneCell']⟩
   match i,hu,hv with
   |0,rfl,rfl =>
    have:=Rep.str (w:=w) (A:=abs0 w) s.data.toList
    rw[es]at this;exact this
  ·rename_i e ht
   split at hsh
   ·rename_i l hl
    split at hsh
    ·rename_i hc
     obtain⟨c1,c2,c3⟩:=hc
     cases hsh
     rcases DataW.trod_slice ht h with⟨rfl,rfl⟩|⟨a,len,cap,elems,rest,m,rfl,rfl,rfl,hb,hle,hcap,hlen,hel,hsp,_⟩
     ·exact⟨[.sl []],⟨rfl,fun i s v hs hv=>by match i,hs,hv with|0,rfl,rfl=>exact .sl _ _ _ [] (by simp) (by simp) (by simp)⟩,⟨rfl,fun i u v hu hv=>by match i,hu,hv with|0,rfl,rfl=>exact .slnil _⟩,by simp[Value.oneCell']⟩
     ·obtain⟨r1,r2⟩:=hsp rfl
      have hspot:0<cap→a.spot=none:=fun hpos=>by
       have key:∀(z:DataW H×List MemPlace),(w.cells? 0 (a.add (0*P.cellsOf e)) (P.cellsOf e)).bind (DataW.trod enc P w 0 (fun _=>true) true m e)=some z→a.spot=none:=fun z hz=>by
        obtain⟨ci,g1,_⟩:=Option.bind_eq_some_iff.1 hz
        obtain⟨g3,g4⟩:=cells?_get g1
        have:∃v,ci[0]?=some v:=⟨_,List.getElem?_eq_getElem (by omega)⟩
        obtain⟨v,hv⟩:=this
        have:=(cell_block (g4 0 v hv)).2
        simpa [Addr.add] using this
       rcases Nat.eq_zero_or_pos len with h0|h0
       ·have:=r2 0 (by omega)
        rw[h0,Nat.zero_add]at this
        exact key _ (this.trans (List.getElem?_eq_getElem (by omega)))
       ·exact key _ ((hel 0 h0).trans (List.getElem?_eq_getElem (by omega)))
      have hex:∀i,i<len→∃q:List Value×List V,w.cells? 0 (a.add (i*P.cellsOf e)) (P.cellsOf e)=some q.1∧OkCs l q.2∧Reps w (abs0 w) q.1 q.2∧∀v∈q.1,v.oneCell'=true:=fun i hi=>by
       obtain⟨z,hz⟩:∃z,elems[i]?=some z:=⟨_,List.getElem?_eq_getElem (by omega)⟩
       have h1:=hel i hi
       rw[hz]at h1
       obtain⟨ci,g1,g2⟩:=Option.bind_eq_some_iff.1 h1
       obtain⟨vs,k1,k2,k3⟩:=trod_sh n m e ci z l g2 hl (fun k hk=>hw k (by
        simp only[DataW.weights,ht,List.mem_cons,List.mem_append]
        exact .inr (.inl (weightsAll_mem (List.mem_map.2 ⟨z,List.mem_of_getElem? hz,rfl⟩) k hk))))
       exact⟨(ci,vs),g1,k1,k2,k3⟩
      obtain⟨qs,hql,hq⟩:=exists_list len hex
      have hcells:∀(i:Nat) (q:List Value×List V),qs[i]?=some q→(elemOf (aggT P e) q.2).cells=q.2∧(elemOf (aggT P e) q.2).isAgg=aggT P e:=fun i q hi=>elemOf_cells (hq i q hi).2.1 c3
      have hok:OkC (.sl (aggT P e) (P.bytesOf e) l) (.sl (qs.map fun q=>elemOf (aggT P e) q.2)):=by
       refine .sl _ _ _ _ ?_ (fun x hx=>?_) (fun x hx i s c hs hc=>?_)
       ·rw[List.length_map,hql]
        have:=hw ((elems.length+rest.length)*P.bytesOf e) (by simp[DataW.weights,ht])
        refine Nat.le_trans (Nat.mul_le_mul_right _ (by omega)) this
       ·obtain⟨q,hqm,rfl⟩:=List.mem_map.1 hx
        obtain⟨i,hi⟩:=List.mem_iff_getElem?.1 hqm
        exact⟨(hcells i q hi).2,by rw[(hcells i q hi).1];exact(hq i q hi).2.1.1⟩
       ·obtain⟨q,hqm,rfl⟩:=List.mem_map.1 hx
        obtain⟨j,hj⟩:=List.mem_iff_getElem?.1 hqm
        rw[(hcells j q hj).1]at hc
        exact(hq j q hj).2.1.2 i s c hs hc
      have hrep:Rep w (abs0 w) (.slice (some a) len cap) (.sl (qs.map fun q=>elemOf (aggT P e) q.2)):=by
       rcases Nat.eq_zero_or_pos cap with h0|h0
       ·have:len=0:=by omega
        subst h0
        have hq0:qs=[]:=List.eq_nil_of_length_eq_zero (by omega)
        subst hq0
        rw[this];exact .slnil _
       ·obtain⟨b,o,sp⟩:=a
        have hs0:sp=none:=hspot h0
        subst hs0
        have e1:len=(qs.map fun q=>elemOf (aggT P e) q.2).length:=by rw[List.length_map,hql]
        rw[e1]
        have hcell:∀(i j:Nat) (x c:V),(qs.map fun q=>elemOf (aggT P e) q.2)[i]?=some x→x.cells[j]?=some c→∃q u,qs[i]?=some q∧q.1[j]?=some u∧w.cell? ⟨b,o+(i*l.length+j),none⟩=some u∧u.oneCell'=true∧Rep w (abs0 w) u c:=by
         intro i j x c hi hj
         rw[List.getElem?_map]at hi
         obtain⟨q,hqi,rfl⟩:=Option.map_eq_some_iff.1 hi
         rw[(hcells i q hqi).1]at hj
         obtain⟨k1,k2,k3,k4⟩:=hq i q hqi
         obtain⟨g1,g2⟩:=cells?_get k1
         have hlt:=(List.getElem?_eq_some_iff.1 hj).1
         rw[←k3.1]at hlt
         have hu:=List.getElem?_eq_getElem hlt
         refine⟨q,q.1[j],hqi,hu,?_,k4 _ (List.getElem_mem hlt),k3.2 j _ c hu hj⟩
         have:=g2 j _ hu
         rw[addr_add,addr_add]at this
         rw[c1,←Nat.add_assoc];exact this
        refine .sl _ b o cap l.length (fun i j=>match qs[i]? with|some q=>q.1[j]?.getD undef|none=>undef) (fun x hx=>?_) (by rw[←e1];exact hle) hcap (fun i j x c hi hj=>?_) (fun i j x c hi hj=>?_)
        ·obtain⟨q,hqm,rfl⟩:=List.mem_map.1 hx
         obtain⟨i,hi⟩:=List.mem_iff_getElem?.1 hqm
         rw[(hcells i q hi).1];exact(hq i q hi).2.1.1
        ·obtain⟨q,u,p1,p2,p3,p4,p5⟩:=hcell i j x c hi hj
         simp only[p1,p2,Option.getD_some]
         exact⟨(cell_block p3).1,p3,p4⟩
        ·obtain⟨q,u,p1,p2,p3,p4,p5⟩:=hcell i j x c hi hj
         simp only[p1,p2,Option.getD_some]
         exact p5
      exact⟨[.sl (qs.map fun q=>elemOf (aggT P e) q.2)],⟨rfl,fun i s v hs hv=>by match i,hs,hv with|0,rfl,rfl=>exact hok⟩,⟨rfl,fun i u v hu hv=>by match i,hu,hv with|0,rfl,rfl=>exact hrep⟩,by simp[Value.oneCell']⟩
    ·cases hsh
   ·cases hsh
  ·rename_i fs ht
   obtain⟨xs,m,rfl,rfl,hcl,hxl,hf⟩:=DataW.trod_struct ht h
   have hwf:∀k∈DataW.weightsEach P (fs.toList.map (·.type)) (xs.map (·.1)),k≤reachBytes:=fun k hk=>hw k (by simp only[DataW.weights,ht];exact hk)
   have key:∀(gs:List Field) (ys:List (DataW H×List MemPlace)) (off:Nat) (sh:List CSh),shFields P (shOf P n) gs off=some sh→ys.length=gs.length →
     (∀(i:Nat) (f:Field),gs[i]?=some f→DataW.trod enc P w 0 (fun _=>true) true m f.type ((cs.drop f.offset).take (P.cellsOf f.type))=ys[i]?) →
     (∀k∈DataW.weightsEach P (gs.map (·.type)) (ys.map (·.1)),k≤reachBytes)→off+sh.length≤cs.length →
     ∃vs,OkCs sh vs∧Reps w (abs0 w) ((cs.drop off).take sh.length) vs∧∀v∈(cs.drop off).take sh.length,v.oneCell'=true:=by
    intro gs
    induction gs with
    |nil =>
     intro ys off sh hs _ _ _ _
     simp[shFields]at hs;subst hs
     exact⟨[],⟨rfl,by simp⟩,⟨by simp,by simp⟩,by simp⟩
    |cons f gs ih =>
     intro ys off sh hs hyl hg hww hoff
     simp only[shFields]at hs
     split at hs
     ·rename_i l hl
      split at hs
      ·rename_i hc
       obtain⟨sh',hs',rfl⟩:=Option.map_eq_some_iff.1 hs
       match ys,hyl with
       |y::ys,hyl =>
        have h0:=hg 0 f rfl
        rw[hc.1]at h0
        rw[List.length_append]at hoff
        obtain⟨vs1,a1,a2,a3⟩:=trod_sh n m f.type _ y l h0 hl (fun k hk=>hww k (by simp only[List.map_cons,DataW.weightsEach,List.mem_append];exact .inl hk))
        obtain⟨vs2,b1,b2,b3⟩:=ih ys (off+l.length) sh' hs' (by simpa using hyl) (fun i g hi=>hg (i+1) g (by simpa using hi)) (fun k hk=>hww k (by simp only[List.map_cons,DataW.weightsEach,List.mem_append];exact .inr hk)) (by omega)
        have e1:(cs.drop off).take (l++sh').length=(cs.drop off).take (P.cellsOf f.type)++(cs.drop (off+l.length)).take sh'.length:=by
         rw[List.length_append,←hc.2,List.take_add,List.drop_drop]
        refine⟨vs1++vs2,a1.append b1,?_,?_⟩
        ·rw[e1];exact Reps.append a2 b2
        ·rw[e1];intro v hv
         rcases List.mem_append.1 hv with hv|hv
         ·exact a3 v hv
         ·exact b3 v hv
      ·cases hs
     ·cases hs
   split at hsh
   ·rename_i l hl
    split at hsh
    ·rename_i hc
     cases hsh
     obtain⟨vs,a1,a2,a3⟩:=key fs.toList xs 0 sh hl (by simpa using hxl) (fun i f hi=>hf i f (by simpa using hi)) hwf (by omega)
     rw[List.drop_zero,List.take_of_length_le (by omega)]at a2 a3
     exact⟨vs,a1,a2,a3⟩
    ·cases hsh
   ·cases hsh
  ·cases hsh
theorem args_kept {W':World}(hl:laidOutB P=true)(hm:mapsRowed P=true)(hs:((List.range P.types.size).all fun t=>match P.underlying t with|some (.slice e)=>decide (0<P.cellsOf e)|_=>true)=true)
  (hk:Kept w W') {sp:Nat→Bool}:∀{ts:List TypeId}{vs:List Value}{ds:List (DataW H)}{ps:List MemPlace},(∀t∈ts,t<P.types.size)→DataW.TrodAll enc P w 0 (fun _=>true) true ts vs ds ps→(∀p∈ps,sp p.block=true) →
  DataW.TrodAll enc P W' 0 sp true ts vs ds ps
 |[],[],[],_,_,h,_=>h
 |t::ts,v::vs,d::ds,_,ht,⟨p,q,⟨n,h1⟩,h2,e⟩,hp=>by
  have hK:Kids P (·<P.types.size):=kids_rows hl hm
  refine⟨p,q,⟨n,DataW.trod_stays hK (fun {t e}=>slices_full_of P hs t e) (fun h=>by cases h) (ht t (List.mem_cons_self ..)) h1 (fun y hy=>?_) (fun y hy=>hp y (by rw[e];exact List.mem_append_left _ hy))⟩,
   args_kept hl hm hs hk (fun t h=>ht t (List.mem_cons_of_mem _ h)) h2 (fun y hy=>hp y (by rw[e];exact List.mem_append_right _ hy)),e⟩
  have hb:=DataW.trod_lt n t _ _ h1 y hy
  cases y with
  |cell b off=>exact hk.cell hb
  |map b=>exact hk.heap b hb
 |[],[],_::_,_,_,h,_=>h.elim
 |[],_::_,_,_,_,h,_=>h.elim
 |_::_,[],_,_,_,h,_=>h.elim
 |_::_,_::_,[],_,_,h,_=>h.elim
theorem exists_map {α β:Type}{f:β→α}{p:β→Prop}:∀{xs:List α},(∀x∈xs,∃y,x=f y∧p y)→∃l:List β,xs=l.map f∧∀y∈l,p y
 |[],_=>⟨[],rfl,by simp⟩
 |x::xs,h=>by
  obtain⟨y,rfl,hy⟩:=h x (List.mem_cons_self ..)
  obtain⟨l,rfl,hl⟩:=exists_map (xs:=xs) (fun z hz=>h z (List.mem_cons_of_mem _ hz))
  exact⟨y::l,rfl,fun z hz=>by 
   rcases List.mem_cons.1 hz with rfl|h
   ·exact hy
   ·exact hl z h⟩
end
end Go.Sha
namespace Go.Sha
theorem OkCs.nil_inv {vs:List V}(h:OkCs [] vs):vs=[]:=List.eq_nil_of_length_eq_zero h.1
theorem OkCs.cons_inv {s:CSh}{sh:List CSh}{vs:List V}(h:OkCs (s::sh) vs):∃v r,vs=v::r∧OkC s v∧OkCs sh r:=by
 match vs,h with
 |v::r,h=>exact⟨v,r,rfl,h.2 0 s v rfl rfl,by simpa using h.1,fun i s c hs hc=>h.2 (i+1) s c hs hc⟩
theorem OkC.int_inv {k:IntKind}{v:V}(h:OkC (.int k) v):∃n,v=.int k n∧(Lit.int k n).wf=true:=by cases h;exact⟨_,rfl,by assumption⟩
theorem OkC.i64_inv {v:V}(h:OkC (.int .i64) v):∃n,v=.int .i64 n∧-9223372036854775808≤n∧n≤9223372036854775807:=by
 obtain⟨n,rfl,hw⟩:=h.int_inv
 exact⟨n,rfl,by simpa [Lit.wf,IntKind.min,IntKind.max,IntKind.bits,IntKind.signed] using hw⟩
theorem OkC.bool_inv {v:V}(h:OkC .bool v):∃b,v=.bool b:=by cases h;exact⟨_,rfl⟩
theorem OkC.str_inv {v:V}(h:OkC .str v):∃s:List UInt8,v=.str s∧s.length≤140737488351232:=by cases h;exact⟨_,rfl,by assumption⟩
theorem OkC.agg_inv {α:Type}{b:Nat}{e:List CSh}{f:α→V}{p:α→Prop}{v:V}(h:OkC (.sl true b e) v)(hb:0<b)(hf:∀vs,OkCs e vs→∃x,V.agg vs=f x∧p x) :
  ∃l:List α,v=.sl (l.map f)∧l.length≤140737488351232∧∀x∈l,p x:=by
 cases h with
 |sl _ _ _ xs hl h1 h2 =>
  obtain⟨l,rfl,hp⟩:=exists_map (f:=f) (p:=p) (xs:=xs) fun x hx=>by
   obtain⟨a1,a2⟩:=h1 x hx
   cases x with
   |agg vs =>
    obtain⟨y,e,hy⟩:=hf vs ⟨a2,fun i s c hs hc=>h2 _ hx i s c hs hc⟩
    exact⟨y,e,hy⟩
   |_=>cases a1
  refine⟨l,rfl,?_,hp⟩
  rw[List.length_map]at hl
  exact Nat.le_trans (Nat.le_mul_of_pos_right _ hb) hl
theorem OkC.one_inv {α:Type}{b:Nat}{s:CSh}{f:α→V}{p:α→Prop}{v:V}(h:OkC (.sl false b [s]) v)(hb:0<b)(hf:∀v,OkC s v→∃x,v=f x∧p x) :
  ∃l:List α,v=.sl (l.map f)∧l.length≤140737488351232∧∀x∈l,p x:=by
 cases h with
 |sl _ _ _ xs hl h1 h2 =>
  obtain⟨l,rfl,hp⟩:=exists_map (f:=f) (p:=p) (xs:=xs) fun x hx=>by
   obtain⟨a1,a2⟩:=h1 x hx
   refine hf x (h2 x hx 0 s x rfl ?_)
   cases x<;>first|rfl|cases a1
  refine⟨l,rfl,?_,hp⟩
  rw[List.length_map]at hl
  exact Nat.le_trans (Nat.le_mul_of_pos_right _ hb) hl
theorem map_inj {α:Type}{f:α→V}(h:∀{x y:α},f x=f y→x=y):∀{l m:List α},l.map f=m.map f→l=m
 |[],[],_=>rfl
 |[],_::_,e=>by cases e
 |_::_,[],e=>by cases e
 |x::l,y::m,e=>by
  rw[List.map_cons,List.map_cons,List.cons.injEq]at e
  rw[h e.1,map_inj h e.2]
section
open Go.ChangeShapes Go.WideShapes Go.ChangeAt Go.RowKit
variable {H:Type}{enc:TypeId×Value→H}{P:Program}{w:World}
theorem arg_agg {n:Nat}{t:TypeId}{cs:Array Value}{d:DataW H}{ps:List MemPlace}{sh:List CSh}(h:DataW.Trod enc P w 0 (fun _=>true) true t (.agg cs) d ps)(hsh:shOf P n t=some sh)
  (hw:∀k∈d.weights P t,k≤reachBytes):∃vs,OkCs sh vs∧Rep w (abs0 w) (.agg cs) (.agg vs):=by
 obtain⟨fuel,hf⟩:=h
 obtain⟨vs,h1,h2,h3⟩:=trod_sh n fuel t _ _ _ hf hsh hw
 refine⟨vs,h1,?_⟩
 have:=Rep.agg (w:=w) (A:=abs0 w) cs.toList vs h2.1 h3 h2.2
 rwa [Array.toArray_toList]at this
end
end Go.Sha
