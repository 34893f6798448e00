/- slices.Clone: the copy may be written. -/
import Derived.Test.YtanojbajfgcjeaaGreatDoorFShbXG
set_option linter.unusedSimpArgs false
set_option linter.unusedVariables false
namespace Go.Sha
section
variable {P:Program} {N:Fr} {H:EvF}
theorem WD.skip {env:Env} {st:St} {Q:Post} (h:Q .normal env st):WD P N .skip env st Q:=fun c hc=>by
 cases c<;>simp only [compC,Cd.bare] at hc<;>(repeat' split at hc)<;>first
  |(cases hc;done)
  |(obtain ⟨y,hy,e⟩:=Option.map_eq_some_iff.1 hc;cases e;done)
  |skip
 exact W_skip h
theorem WD.ret {lv:List Nat} {env:Env} {st:St} {Q:Post} (h:Q .ret env st):WD P N (.ret lv) env st Q:=fun c hc=>by
 cases c<;>simp only [compC,Cd.bare] at hc<;>(repeat' split at hc)<;>first
  |(cases hc;done)
  |(obtain ⟨y,hy,e⟩:=Option.map_eq_some_iff.1 hc;cases e;done)
  |skip
 exact W_ret h
end
end Go.Sha
