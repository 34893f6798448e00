/- abi.NoEscape. -/
import Derived.Test.YtdkokbhcjmapdaaGreatDoorKShbY
import Derived.Test.YtdkokbhcjmapdaaGreatDoorKShbV
set_option linter.unusedSimpArgs false
set_option linter.unusedVariables false
namespace Go.Sha
theorem noEscape_v {P:Program}{f:FuncId}{fn:Func}(hf:P.funcs[f]?=some fn)(hname:(fn.name == "runtime.NumGoroutine")=false)
  (hb:fn.body.isNone=true) (hn:Extern.findNext fn=none) (he:Extern.find fn=some Extern.AbiNoEscape.same) (v:V) (st:St):VRet P f [v] st v st:=by
 refine .inr fun w A vs hs hr=>?_
 obtain⟨u,rfl,h1⟩:=hr.one
 refine⟨u,w,?_,_,A,st,⟨rfl,rfl⟩,h1,hs,Ext.refl w A⟩
 rw[run_callFunc_extern hf hname hb hn he,Lib.run_noEscape]
 rfl
end Go.Sha
