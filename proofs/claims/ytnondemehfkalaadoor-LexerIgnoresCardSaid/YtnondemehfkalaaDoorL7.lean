/- The reference's word, number, quoted, Lower. -/
import Derived.Test.YtnondemehfkalaaDoorL6
set_option linter.unusedSimpArgs false
set_option linter.unusedVariables false
namespace Go.Proofs.YtnondemehfkalaaDoor
open Go.Sha

theorem atIs_some {ok : UInt8 → Bool} {s : List UInt8} {i : Nat} {b : UInt8} (h : s[i]? = some b) : atIs ok s i = ok b := by simp [atIs, h]
theorem atIs_none {ok : UInt8 → Bool} {s : List UInt8} {i : Nat} (h : s.length ≤ i) : atIs ok s i = false := by simp [atIs, List.getElem?_eq_none h]

def numEnd (s : List UInt8) (i : Nat) : Nat := if atIs (isB 46) s (runTo digB s i) && atIs digB s (runTo digB s i + 1) then runTo digB s (runTo digB s i + 1) else runTo digB s i

end Go.Proofs.YtnondemehfkalaaDoor
