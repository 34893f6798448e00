/- Laws over known package variables. -/
import Derived.Test.YtakiodkbjgdnoaaGreatDoorYShbAC
import Derived.HandedShaped
import Derived.Handed
import Derived.Shelf.Vars
import Derived.Lib.LaidTab
import Derived.MakeChecks
import Derived.Lib.ItoaNum
set_option linter.unusedSimpArgs false
set_option linter.unusedVariables false
namespace Go.Sha
open Go.ChangeShapes Go.WideShapes Go.ChangeAt Go.RowKit
section
variable {H:Type}{enc:TypeId×Value→H}{P:Program}{w:World}
theorem vars_read:∀{l:List (String×DataW Unit)}{ps:List MemPlace},DataW.LaidVars P w l ps→∀n d,(n,d)∈l →
  ∃g t cs T fz fuel p,P.globalNamed n=some g∧(P.globals[g]?).map (·.type)=some t∧w.heap[g]?=some (.cells cs T fz)∧DataW.trod (fun _=>()) P w 0 (fun _=>true) false fuel t cs.toList=some (d,p)
 |[],_,_,_,_,hm=>by cases hm
 |(n',d')::r,ps,h,n,d,hm=>by
  obtain⟨g,t,cs,fuel,p,q,h1,h2,h3,h4,h5,_⟩:=h
  rcases List.mem_cons.1 hm with e|e
  ·cases e
   unfold World.var? at h3
   rw[h1]at h3
   simp only[Option.bind_some]at h3
   split at h3
   ·rename_i cs' T fz hh
    cases h3
    exact⟨g,t,cs,T,fz,fuel,p,h1,h2,hh,h4⟩
   ·cases h3
  ·exact vars_read h5 n d e
theorem tab_read {k:IntKind}{n:Nat}{zs:List Int}{fuel:Nat}{t:TypeId}{cs:Array Value}{p:List MemPlace}
  (hc:(match P.underlying t with|some (.array m e)=>decide (m=n)&&(match P.underlying e with|some (.int k')=>decide (k'=k)|_=>false)&&decide (P.cellsOf e=1)&&decide (P.cellsOf t=n)|_=>false)=true)
  (hd:DataW.trod (fun _=>()) P w 0 (fun _=>true) false fuel t cs.toList=some (Lib.tabData k zs,p)):cs=(zs.map fun z=>Value.int k z).toArray:=by
 split at hc
 ·rename_i m e hu
  simp only[Bool.and_eq_true,decide_eq_true_eq]at hc
  obtain⟨⟨⟨h1,h2⟩,h3⟩,h4⟩:=hc
  subst h1
  split at h2
  ·rename_i k' hk
   have h2:k'=k:=by simpa using h2
   subst h2
   have:=Lib.cells_of_tab hu hk h3 h4 hd
   cases cs;simp at this;rw[this]
  ·cases h2
 ·cases hc
theorem law_callsG {f:FuncId}{fn:Func}(hf:P.funcs[f]?=some fn)(hname:(fn.name == "runtime.NumGoroutine")=false)(hb:fn.body.isNone=false){gl:List (Nat×Obj)}{ds:List V}{st':St}(h:VRet P f ds (stG gl) (.bool true) st')(hgl:∀p∈gl,w.heap[p.1]?=some p.2)
  {vs:List Value} (ha:Reps w (abs0 w) vs ds):Calls P f vs.toArray w fun e w'=>e=.returned (.bool true)∧Kept w w':=by
 refine(VCalls.calls hf hname hb h (simG w hgl) ha).mono fun e w' ⟨r,A',s,⟨hr,_⟩,he,_,hx⟩=>?_
 subst hr
 cases e with
 |returned v =>
  have hv:Rep w' A' v (.bool true):=he
  rw[hv.bool_inv]
  exact⟨rfl,hx.os,hx.output,hx.size,fun i hi=>hx.fr i hi rfl⟩
 |panicked ch=>exact he.elim
 |outgrown=>exact he.elim
end
section
variable {H:Type}{enc:TypeId×Value→H}
theorem handed_shaped {a:Assume}{C:Checked}{os:Os}{f:FuncId}{fn:Func}{s:ChangeSpec}{conds:List PathCond}{apart fresh handsOn again:Bool}{X:World→Array Value→Prop}
  (hX:∀(w w':World) (args:Array Value),w.heap=w'.heap→X w args→X w' args)
  (own:ownKnob C.prog.godebug=none) (started:os.Started) (noInit:C.prog.inits.idxOf? f=none) (hfn:C.prog.funcs[f]?=some fn)
  (witness:∃(w:World) (tape:Tape) (i:Input),w.os=os∧(w.forCall tape i).Shaped C.prog∧i.vars=[]∧Input.okWide C.prog (w.forCall tape i) .any w.heap.size f i ∧
   ((s.pre enc C.prog fn conds apart (w.forCall tape i).memory i.args∧X (w.forCall tape i).memory i.args)∧sizedMet enc C.prog fn (OpenSpec.ofChange s) apart (w.forCall tape i).memory i.args)∧a.holds C.prog (lone (Frame.enter C.prog f i.args .normal) [] (w.forCall tape i)))
  (contract:∀(W:World) (base:Nat) (args:Array Value) (ds gs:List (DataW H)) (before:List MemPlace),
   (∀(j:Nat) t v,fn.params[j]?=some t→args[j]?=some v→Value.okWide C.prog W .any base t v) →
   DataW.Whole enc C.prog fn.params.toList s.vars apart W args.toList ds gs before →
   conds.all (PathCond.test C.prog ⟨fn.params.toList,ds,s.plain.varTypes C.prog,gs⟩)=true →
   (DataW.weightsEach C.prog (fn.params.toList++s.plain.varTypes C.prog) (ds++gs)).all (·≤reachBytes)=true→X W args→W.ShapedOpen C.prog →
   Calls C.prog f args W fun e W'=>∃v,e=.returned v∧s.post enc C.prog fn apart fresh handsOn again W args v W') :
  ReturnsInHanded a C os f .any (fun w args=>(s.pre enc C.prog fn conds apart w args∧X w args)∧sizedMet enc C.prog fn (OpenSpec.ofChange s) apart w args) (s.post enc C.prog fn apart fresh handsOn again):=by
 refine returnsInHanded_of_calls own started noInit witness ?_
 intro w tape i _ hsh _ hok hpre _
 obtain⟨_,_,_,fn',hfn',_,_,_,_,hval⟩:=hok
 have e:fn'=fn:=Option.some.inj (hfn'.symm.trans hfn)
 subst e
 obtain⟨⟨⟨ds,gs,before,hw,hc⟩,hx⟩,hz⟩:=hpre
 have hw':=DataW.Whole.of_heap (w':=w.forCall tape i) (by rfl) hw
 refine(contract (w.forCall tape i) w.heap.size i.args ds gs before hval hw' hc (hz.weights hw) (hX _ _ _ (by rfl) hx) hsh).mono fun e W' ⟨v,he,hp⟩=>?_
 subst he
 exact ChangeSpec.post_blind hp
end
end Go.Sha
