/- The library's contracts in worlds. -/
import Derived.Test.YtmjkgajnpmiomaaGreatDoorLShbY
import Derived.Below
set_option linter.unusedSimpArgs false
set_option linter.unusedVariables false
namespace Go.Sha
open Go.RowKit
theorem Ext.below {w w':World}{A:Abs}{st:St}(hs:Sim w A st)(hb:Below w.heap.size w w'):Ext w A w' A where
 nx:=Nat.le_refl _
 loc _ _:=rfl
 ln _ _:=Nat.le_refl _
 sv _ _ _:=rfl
 C b o h:=⟨h,by unfold World.cell?;rw[hb.block _ (hs.Clt b o h)]⟩
 own _ _ h:=h
 size:=hb.size
 os:=hb.os
 tape:=hb.tape
 output:=hb.output
 fr b h _:=hb.block b h
 cold _ _ _ _ h:=h
 mc b ms c _ h:=by rw[hb.block b (Array.getElem?_eq_some_iff.1 h).1];exact h
theorem Sim.below {w w':World}{A:Abs}{st:St}(hs:Sim w A st)(hb:Below w.heap.size w w'):Sim w' A st:=by
 have hx:=Ext.below hs hb
 refine⟨hs.nx,fun id cs h=>?_,fun id a h=>?_,fun b o h=>Nat.lt_of_lt_of_le (hs.Clt b o h) hb.size,fun b id h=>⟨Nat.lt_of_lt_of_le (hs.ownlt b id h).1 hb.size,(hs.ownlt b id h).2⟩,hs.disj,hs.x.same hx rfl hs.ownlt (fun b h=>hb.block b h) (fun _ _ h _=>h) (fun _ _ _ h=>h) (fun _ _ h=>h) (fun _ _ h=>h)⟩
 ·have hk:=hs.mem id cs h
  exact hk.of_heap hx hk.own (hb.block _ (hs.ownlt _ _ hk.own).1) hk.noC
 ·have hk:=hs.arr id a h
  exact hk.of_heap hx rfl (fun g hg=>⟨hg,hb.block _ (hs.ownlt _ _ hg).1,fun _=>Iff.rfl⟩)
theorem VRet_of_below {P:Program}{f:FuncId}{args:List V}{st:St}{r:V}(hc:Callable P f)
  (h:∀w A vs,Sim w A st→Reps w A vs args→Calls P f vs.toArray w fun e w'=>∃v,e=.returned v∧(∀w' A',Rep w' A' v r)∧Below w.heap.size w w'):VRet P f args st r st :=
 .inl ⟨hc,fun w A vs hs ha=>(h w A vs hs ha).mono fun e w' ⟨v,he,hr,hb⟩=>⟨.ret r,A,st,⟨rfl,rfl⟩,he▸hr w' A,hs.below hb,Ext.below hs hb⟩⟩
end Go.Sha
