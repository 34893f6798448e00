/- Callees without a body. -/
import Derived.Test.YtnondemehfkalaaGreatDoorSShaU
import Derived.Laws.Externs
import Derived.Lib.Bytealg
set_option linter.unusedSimpArgs false
set_option linter.unusedVariables false
namespace Go.Sha
theorem Reps.two {w : World} {A : Abs} {vs : List Value} {a b : V} (h : Reps w A vs [a, b]) : ∃ u v, vs = [u, v] ∧ Rep w A u a ∧ Rep w A v b := by
 obtain ⟨hl, h2⟩ := h
 match vs, hl with
 | [u, v], _ => exact ⟨u, v, rfl, h2 0 u a rfl rfl, h2 1 v b rfl rfl⟩
theorem indexByteString_v {P : Program} {f : FuncId} {fn : Func} (hf : P.funcs[f]? = some fn) (hname : (fn.name == "runtime.NumGoroutine") = false)
  (hb : fn.body.isNone = true) (hn : Extern.findNext fn = none) (he : Extern.find fn = some Extern.BytealgIndexByte.indexByte) (s : List UInt8) (c : Int) (st : St) :
  VRet P f [.str s, .int .u8 c] st (.int .i64 (Lib.indexByte s c.toNat.toUInt8)) st := by
 refine .inr fun w A vs hs hr => ?_
 obtain ⟨u, v, rfl, h1, h2⟩ := hr.two
 cases h1
 cases h2
 refine ⟨_, w, ?_, _, A, st, ⟨rfl, rfl⟩, .int _ _, hs, Ext.refl w A⟩
 rw [run_callFunc_extern hf hname hb hn he, Lib.run_indexByteString]
 rfl
end Go.Sha
