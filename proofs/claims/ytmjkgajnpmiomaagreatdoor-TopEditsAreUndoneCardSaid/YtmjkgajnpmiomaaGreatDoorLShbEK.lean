/- Closed runs by evaluation. -/
import Derived.Test.YtmjkgajnpmiomaaGreatDoorLShbXA
set_option linter.unusedSimpArgs false
set_option linter.unusedVariables false
namespace Go.Sha
variable {P:Program}{H:EvF}
noncomputable def evK (P:Program)(H:EvF)(m:Nat):Nat→EvF
 |0=>⟨H.raw,fun _ _ _=>none⟩
 |n+1=>⟨H.raw,fun f args st=>match H f args st with
  |some r=>some r
  |none=>match compF P f with
   |some F=>endF F args st (evC (evK P H m n) m F.c)
   |none=>none⟩
theorem evK_raw {m:Nat}:∀n,(evK P H m n).raw=H.raw
 |0=>by simp only[evK]
 |n+1=>by simp only[evK]
theorem Sup.two {β:Type}{a b:Option β}(h:∀r,a=some r→b=some r):Sup (fun m:Nat=>if m=0 then a else b) b where
 mono m r hr:=by
  rw[if_neg (by omega)]
  split at hr
  ·exact h r hr
  ·exact hr
 le m r hr:=by
  split at hr
  ·exact h r hr
  ·exact hr
 up r hr:=⟨1,by rw[if_neg (by omega)];exact hr⟩
theorem evC_le {E E':EvF}(hr:E.raw=E'.raw)(h:∀k a s r,E k a s=some r→E' k a s=some r){n:Nat}{c:Cd}{env:Env}{st:St}{r}(hc:evC E n c env st=some r):evC E' n c env st=some r:=by
 have hS:(∀m,(if m=0 then E else E').raw=E'.raw)∧∀k a s,Sup (fun m=>(if m=0 then E else E') k a s) (E' k a s) :=
  ⟨fun m=>by split<;>first|exact hr|rfl,fun k a s=>by
   have e:(fun m:Nat=>(if m=0 then E else E').ev k a s)=fun m=>if m=0 then E.ev k a s else E'.ev k a s:=by funext m;split<;>rfl
   show Sup (fun m:Nat=>(if m=0 then E else E').ev k a s) (E'.ev k a s)
   rw[e]
   exact Sup.two (h k a s)⟩
 exact(evC_sup (E:=fun m=>if m=0 then E else E') hS n).le 0 r (by simpa using hc)
theorem endF_le {F:Fx}{args:List V}{st:St}{f g:Env→St→Rc}(hf:∀e s r,f e s=some r→g e s=some r){r}(h:endF F args st f=some r):endF F args st g=some r:=by
 have:=endF_sup (F:=F) (args:=args) (st:=st) (f:=fun m e s=>if m=0 then f e s else g e s) (g:=g) fun e s=>Sup.two (hf e s)
 exact this.le 0 r (by simpa using h)
theorem evK_evF {m:Nat}:∀n k args st r,evK P H m n k args st=some r→evF P H n k args st=some r:=by
 intro n
 induction n with
 |zero=>intro k args st r h;simp only[evK]at h;cases h
 |succ n ih =>
  intro k args st r h
  rw[evK]at h
  rw[evF]
  dsimp only at h ⊢
  cases e:H k args st with
  |some z=>rw[e]at h;exact h
  |none =>
   rw[e]at h
   dsimp only at h ⊢
   cases hF:compF P k with
   |none=>rw[hF]at h;cases h
   |some F =>
    rw[hF]at h
    dsimp only at h ⊢
    exact endF_le (fun e s r hr=>evD_sup.le m r (evC_le (by rw[evK_raw,evF_mut]) ih hr)) h
theorem evK_run {m n:Nat}{k:FuncId}{args:List V}{st:St}{r:VRes×St}(h:evK P H m n k args st=some r):run P H k args st=some r :=
 (run_sup k args st).le n r (evK_evF n _ _ _ _ h)
end Go.Sha
