/- From a contract over shadow values to a . -/
import Derived.Test.YtdkokbhcjmapdaaGreatDoorLShbX
import Derived.ChangeSame
import Derived.ProofKit
set_option linter.unusedSimpArgs false
set_option linter.unusedVariables false
namespace Go.Sha
open Go.ChangeShapes Go.WideShapes Go.ChangeAt Go.RowKit
def abs0 (w:World):Abs:=⟨fun b _=>b<w.heap.size,fun _=>none,fun _=>0,fun _=>undef,fun _=>0,0⟩
def st0:St:=⟨0,[],[],⟨[],[],[]⟩⟩
theorem sim0 (w:World):Sim w (abs0 w) st0 where
 nx:=rfl
 mem id cs h:=by cases h
 arr id a h:=by cases h
 Clt b o h:=h
 ownlt b id h:=by cases h
 disj id cs ar h:=by cases h
 x:=⟨fun id o h=>(by cases h),fun p h=>(by cases h),fun id T h=>(by cases h)⟩
theorem simG (w:World){gl:List (Nat×Obj)}(h:∀p∈gl,w.heap[p.1]?=some p.2):Sim w (abs0 w) (stG gl) where
 nx:=rfl
 mem id cs h:=by cases h
 arr id a h:=by cases h
 Clt b o h:=h
 ownlt b id h:=by cases h
 disj id cs ar h:=by cases h
 x:=⟨fun id o h=>(by cases h),fun p hp=>⟨h p hp,rfl⟩,fun id T h=>(by cases h)⟩
structure Kept (w w':World):Prop where
 os:w'.os=w.os
 output:w'.output=w.output
 size:w.heap.size≤w'.heap.size
 heap:∀i,i<w.heap.size→w'.heap[i]?=w.heap[i]?
theorem Kept.keptBut {w w':World}(h:Kept w w')(may:MemPlace→Prop):w.keptBut w' may:=by
 refine⟨h.os,h.output,fun i hi=>?_⟩
 rw[h.heap i hi]
 exact(World.keptBut_refl w may).2.2 i hi
theorem Kept.cell {w w':World}(h:Kept w w'){a:Addr}(hb:a.block<w.heap.size):w'.cell? a=w.cell? a:=by
 unfold World.cell?;rw[h.heap _ hb]
theorem VCalls.calls {P:Program}{f:FuncId}{fn:Func}(hf:P.funcs[f]?=some fn)(hname:(fn.name == "runtime.NumGoroutine")=false)(hb:fn.body.isNone=false){args:List V}{st:St}{R:VRes→St→Prop}(h:VCalls P f args st R){w:World}{A:Abs}{vs:List Value}(hs:Sim w A st)(ha:Reps w A vs args) :
  Calls P f vs.toArray w fun e w'=>∃r A' st',R r st'∧EndRel w' A' e r∧Sim w' A' st'∧Ext w A w' A':=by
 rcases h with⟨_,h⟩|h
 ·exact h w A vs hs ha
 ·obtain⟨v,w',h1,_⟩:=h w A vs hs ha
  simp only[callFunc,Sem.run_bind,run_program,Result.andThen_ok,hf,hname,hb,Bool.false_eq_true,if_false,Sem.run_pure]at h1
  cases h1
theorem post_of_kept {H:Type}{enc:TypeId×Value→H}{P:Program}{f:Func}{s:ChangeSpec}{apart fresh handsOn again:Bool}{W W':World}{args:Array Value}{v:Value}{ds gs:List (DataW H)}{before pa pv:List MemPlace}
  (hW:DataW.Whole enc P f.params.toList s.vars apart W args.toList ds gs before)
  (hres:∀(b:Nat) (sp:Nat→Bool) (hd:Bool),DataW.TrodAll enc P W' b sp hd f.resultTypes.toList (v.resultList f.resultTypes.size) (s.fn H (ds++gs)).results [])
  (hargs:∀sp:Nat→Bool,(∀p∈before,sp p.block=true)→DataW.TrodAll enc P W' 0 sp true f.params.toList args.toList (s.fn H (ds++gs)).args pa)
  (hvars:∀sp:Nat→Bool,(∀p∈before,sp p.block=true)→DataW.TrodVars enc P W' sp s.vars (s.fn H (ds++gs)).vars pv)
  (hps:before=pa++pv) (hk:Kept W W')
  (hok:∀(j:Nat) (t:TypeId) (r:Value),f.resultTypes[j]?=some t→(v.resultList f.resultTypes.size)[j]?=some r→Value.okWide P W' .any 0 t r) :
  s.post enc P f apart fresh handsOn again W args v W':=by
 have hlt:∀p∈before,p.block<W.heap.size:=fun p hp=>hW.lt p hp
 have hold:∀p∈before,(fun b=>decide (b<W.heap.size)) p.block=true:=fun p hp=>by simpa using hW.lt p hp
 refine⟨ds,gs,before,[],pa,pv,hW,hres _ _ _,hargs _ hold,hvars _ hold,World.keptBut_mono (fun p hp=>⟨hp,?_⟩) (hk.keptBut (·∈before)),fun _=>?_⟩
 ·rw[hps,List.mem_append]at hp
  exact Or.inr hp
 ·obtain⟨_,_,_,_,_,hz,hn⟩:=hW
  refine⟨hok,_,_,([]++pa)++pv,⟨[]++pa,pv,trodAll_append (hargs _ (fun _ _=>rfl)) (hres _ _ _),hvars _ (fun _ _=>rfl),rfl,?_,?_⟩,?_⟩
  ·intro b off hp
   have hb:MemPlace.cell b off∈before:=by rw[hps];simpa using hp
   have e:W'.frozen? ⟨b,off,none⟩=W.frozen? ⟨b,off,none⟩:=by
    unfold World.frozen?;rw[hk.heap b (hlt _ hb)]
   rw[e]
   exact hz b off hb
  ·intro ha
   have:=hn ha
   rw[hps]at this
   simpa using this
  ·intro p hp _
   rw[hps]
   simpa using hp
end Go.Sha
