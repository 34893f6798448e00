/- Regions whose order is drawn. -/
import Derived.Test.YtakiodkbjgdnoaaGreatDoorYShbXI
import Derived.Test.YtakiodkbjgdnoaaGreatDoorYShbXJ
set_option linter.unusedSimpArgs false
set_option linter.unusedVariables false
namespace Go.Sha
section
variable {P:Program}{N:Fr}{H:EvF}
theorem WD.gregG (hm:P.follows .mixedOrders=true){U D:List Nat}{fs:List (List Bool)}{l:List Ins}{env:Env}{st:St}{Q:Post}(h:vcG P U D (Q .normal) l fs env st [] []):WD P N (.greg U D fs l) env st Q:=fun c hc=>by
 cases c<;>simp only[compC,gregO,gregC,Cd.bare]at hc<;>(repeat' split at hc)<;>first
  |(cases hc;done)
  |(obtain⟨y,hy,e⟩:=Option.map_eq_some_iff.1 hc;cases e;done)
  |skip
 ·cases hc
  rename_i hd hl hg hr
  subst hd
  exact W_greg hm hl hg hr.2 h
 all_goals
  cases hc
  rename_i hd hl hg _ _ _ hr
  subst hd
  exact W_greg hm hl hg hr h
def SOp.isCall:SOp→Bool
 | .call _ _=>true
 |_=>false
theorem vcQ_p {d:Option Nat}{op:SOp}{env:Env}{st:St}{v:V}{K:Env→Prop}(hc:op.isCall=false)(hv:evq op env st=some v)(k:K (setD env d v)):vcQ P [⟨d,op,none⟩] env st K:=by
 unfold vcQ
 refine upon_intro (x:=true) rfl ?_
 rw[fork_true]
 split
 ·rename_i h;dsimp only at h;rw[h]at hc;cases hc
 ·dsimp only
  rw[hv]
  exact k
theorem vcG_q {U D:List Nat}{Q:Env→St→Prop}{d:Option Nat}{op:SOp}{r:List Ins}{fs:List (List Bool)}{env:Env}{st:St}{h:List Ran}{hs:List St}{v:V}(hq:Ins.qt U D ⟨d,op,none⟩=true)(hc:op.isCall=false)(hf:fs.headD []=[])(hv:evq op env st=some v)
  (k:vcG P U D Q r fs.tail (setD env d v) st ((⟨d,op,none⟩,env,valD d (setD env d v))::h) hs):vcG P U D Q (⟨d,op,none⟩::r) fs env st h hs:=by
 unfold vcG
 rw[if_pos hq,hf]
 exact vcQ_p hc hv k
theorem vcG_s {U D:List Nat}{Q:Env→St→Prop}{i:Ins}{r:List Ins}{fs:List (List Bool)}{env:Env}{st st':St}{h:List Ran}{hs:List St}{v:V}(hq:Ins.qt U D i=false)(hv:StepV P i env st v st')
  (k:reQ P st' (vcG P U D Q r fs.tail (setD env i.dst v) st' ((i,env,valD i.dst (setD env i.dst v))::h) (st::hs)) (picks (fs.headD []) h)):vcG P U D Q (i::r) fs env st h hs:=by
 unfold vcG
 rw[if_neg (by rw[hq];exact Bool.false_ne_true)]
 exact⟨v,st',hv,k⟩
theorem reQ_c {d:Nat}{op:SOp}{env:Env}{st:St}{v:V}{r:List Ran}{K:Prop}(hc:op.isCall=false)(hv:evq op env st=some v)(k:reQ P st K r):reQ P st K ((⟨some d,op,none⟩,env,v)::r):=by
 unfold reQ
 refine vcQ_p hc hv ?_
 unfold sameD sameL
 exact⟨by simp[setD,look],k⟩
theorem reQ_n {st:St}{K:Prop}(k:K):reQ P st K []:=k
end
end Go.Sha
