/- Closed runs by evaluation. -/
import Derived.Test.YtdkokbhcjmapdaaGreatDoorLShbDE
import Derived.Below
import Derived.Test.YtdkokbhcjmapdaaGreatDoorLShbXC
set_option linter.unusedSimpArgs false
set_option linter.unusedVariables false
namespace Go.Sha
open Go.RowKit
theorem Ext.below {w w':World}{A:Abs}{st:St}(hs:Sim w A st)(hb:Below w.heap.size w w'):Ext w A w' A where
 nx:=Nat.le_refl _
 loc _ _:=rfl
 ln _ _:=Nat.le_refl _
 sv _ _ _:=rfl
 C b o h:=⟨h,by unfold World.cell?;rw[hb.block _ (hs.Clt b o h)]⟩
 own _ _ h:=h
 size:=hb.size
 os:=hb.os
 tape:=hb.tape
 output:=hb.output
 fr b h _:=hb.block b h
 cold _ _ _ _ h:=h
 mc b ms c _ h:=by rw[hb.block b (Array.getElem?_eq_some_iff.1 h).1];exact h
theorem Sim.below {w w':World}{A:Abs}{st:St}(hs:Sim w A st)(hb:Below w.heap.size w w'):Sim w' A st:=by
 have hx:=Ext.below hs hb
 refine⟨hs.nx,fun id cs h=>?_,fun id a h=>?_,fun b o h=>Nat.lt_of_lt_of_le (hs.Clt b o h) hb.size,fun b id h=>⟨Nat.lt_of_lt_of_le (hs.ownlt b id h).1 hb.size,(hs.ownlt b id h).2⟩,hs.disj,hs.x.same hx rfl hs.ownlt (fun b h=>hb.block b h) (fun _ _ h _=>h) (fun _ _ _ h=>h) (fun _ _ h=>h) (fun _ _ h=>h)⟩
 ·have hk:=hs.mem id cs h
  exact hk.of_heap hx hk.own (hb.block _ (hs.ownlt _ _ hk.own).1) hk.noC
 ·have hk:=hs.arr id a h
  exact hk.of_heap hx rfl (fun g hg=>⟨hg,hb.block _ (hs.ownlt _ _ hg).1,fun _=>Iff.rfl⟩)
theorem VRet_of_below {P:Program}{f:FuncId}{args:List V}{st:St}{r:V}(hc:Callable P f)
  (h:∀w A vs,Sim w A st→Reps w A vs args→Calls P f vs.toArray w fun e w'=>∃v,e=.returned v∧(∀w' A',Rep w' A' v r)∧Below w.heap.size w w'):VRet P f args st r st :=
 .inl ⟨hc,fun w A vs hs ha=>(h w A vs hs ha).mono fun e w' ⟨v,he,hr,hb⟩=>⟨.ret r,A,st,⟨rfl,rfl⟩,he▸hr w' A,hs.below hb,Ext.below hs hb⟩⟩
end Go.Sha
namespace Go.Sha
variable {P:Program}{H:EvF}
noncomputable def evK (P:Program)(H:EvF)(m:Nat):Nat→EvF
 |0=>⟨H.raw,fun _ _ _=>none⟩
 |n+1=>⟨H.raw,fun f args st=>match H f args st with
  |some r=>some r
  |none=>match compF P f with
   |some F=>endF F args st (evC (evK P H m n) m F.c)
   |none=>none⟩
theorem evK_raw {m:Nat}:∀n,(evK P H m n).raw=H.raw
 |0=>by simp only[evK]
 |n+1=>by simp only[evK]
theorem Sup.two {β:Type}{a b:Option β}(h:∀r,a=some r→b=some r):Sup (fun m:Nat=>if m=0 then a else b) b where
 mono m r hr:=by
  rw[if_neg (by omega)]
  split at hr
  ·exact h r hr
  ·exact hr
 le m r hr:=by
  split at hr
  ·exact h r hr
  ·exact hr
 up r hr:=⟨1,by rw[if_neg (by omega)];exact hr⟩
theorem evC_le {E E':EvF}(hr:E.raw=E'.raw)(h:∀k a s r,E k a s=some r→E' k a s=some r){n:Nat}{c:Cd}{env:Env}{st:St}{r}(hc:evC E n c env st=some r):evC E' n c env st=some r:=by
 have hS:(∀m,(if m=0 then E else E').raw=E'.raw)∧∀k a s,Sup (fun m=>(if m=0 then E else E') k a s) (E' k a s) :=
  ⟨fun m=>by split<;>first|exact hr|rfl,fun k a s=>by
   have e:(fun m:Nat=>(if m=0 then E else E').ev k a s)=fun m=>if m=0 then E.ev k a s else E'.ev k a s:=by funext m;split<;>rfl
   show Sup (fun m:Nat=>(if m=0 then E else E').ev k a s) (E'.ev k a s)
   rw[e]
   exact Sup.two (h k a s)⟩
 exact(evC_sup (E:=fun m=>if m=0 then E else E') hS n).le 0 r (by simpa using hc)
theorem endF_le {F:Fx}{args:List V}{st:St}{f g:Env→St→Rc}(hf:∀e s r,f e s=some r→g e s=some r){r}(h:endF F args st f=some r):endF F args st g=some r:=by
 have:=endF_sup (F:=F) (args:=args) (st:=st) (f:=fun m e s=>if m=0 then f e s else g e s) (g:=g) fun e s=>Sup.two (hf e s)
 exact this.le 0 r (by simpa using h)
theorem evK_evF {m:Nat}:∀n k args st r,evK P H m n k args st=some r→evF P H n k args st=some r:=by
 intro n
 induction n with
 |zero=>intro k args st r h;simp only[evK]at h;cases h
 |succ n ih =>
  intro k args st r h
  rw[evK]at h
  rw[evF]
  dsimp only at h ⊢
  cases e:H k args st with
  |some z=>rw[e]at h;exact h
  |none =>
   rw[e]at h
   dsimp only at h ⊢
   cases hF:compF P k with
   |none=>rw[hF]at h;cases h
   |some F =>
    rw[hF]at h
    dsimp only at h ⊢
    exact endF_le (fun e s r hr=>evD_sup.le m r (evC_le (by rw[evK_raw,evF_mut]) ih hr)) h
theorem evK_run {m n:Nat}{k:FuncId}{args:List V}{st:St}{r:VRes×St}(h:evK P H m n k args st=some r):run P H k args st=some r :=
 (run_sup k args st).le n r (evK_evF n _ _ _ _ h)
end Go.Sha
