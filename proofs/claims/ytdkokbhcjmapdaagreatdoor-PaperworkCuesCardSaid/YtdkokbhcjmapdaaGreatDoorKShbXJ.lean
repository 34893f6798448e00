/- Slices in local variables, by content from now on. -/
import Derived.Test.YtdkokbhcjmapdaaGreatDoorKShbXG
set_option linter.unusedSimpArgs false
set_option linter.unusedVariables false
namespace Go.Sha
section
variable {P:Program}{N:Fr}
theorem WD.snapE {c:Cd}{env:Env}{st:St}{Q:Post}{i:Nat}{v v':V}(hl:look env i=some v)(hv:snapA st v=some v')(k:WD P N c ((i,v')::env) st Q):WD P N c env st Q :=
 fun cc hc w A a hs he hN hd=>k cc hc w A a hs (fun j u hj=>by
  simp only[look]at hj
  split at hj
  ·rename_i e
   subst e
   cases hj
   exact snapA_rep hs (he _ _ hl) hv
  ·exact he j u hj) hN hd
end
end Go.Sha
