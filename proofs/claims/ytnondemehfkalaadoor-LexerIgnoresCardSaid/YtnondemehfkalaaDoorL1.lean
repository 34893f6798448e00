/- The lexer's small functions: what bytes are. -/
import Derived.Test.YtnondemehfkalaaDoorTab
import Derived.Test.YtnondemehfkalaaDoorShaY
set_option linter.unusedSimpArgs false
set_option linter.unusedVariables false
namespace Go.Proofs.YtnondemehfkalaaDoor
open Go.Sha

def isDig (c : Int) : Bool := decide (48 ≤ c) && decide (c ≤ 57)
def isLet (c : Int) : Bool := decide (97 ≤ c) && decide (c ≤ 122) || decide (65 ≤ c) && decide (c ≤ 90)
def isWrd (c : Int) : Bool := isLet c || isDig c || c == 95
def isPln (c : Int) : Bool := decide (32 ≤ c) && decide (c ≤ 126) && c != 34
def signs : List UInt8 := [43, 45, 47, 46, 44, 64, 58, 61, 37, 40, 41]
def isSgn (c : Int) : Bool := signs.any fun b => (b.toNat : Int) == c

theorem isDigit_v (c : Int) (st : St) : VRet Tryd.prog 32 [.int .u8 c] st (.bool (isDig c)) st := by
  refine VCalls_of F32_ok mixed (Nat.le_of_ble_eq_true rfl) (fun hwf => ?_)
  (repeat' first | ((first | refine go rfl rfl ?_ | (refine Fk.by_ ?_ ?_ <;> intro hc <;> try simp only [hc]) | refine storeK_eq rfl ?_ | with_reducible refine And.intro ?_ ?_ | fail) <;> try simp only [push_cast, reduceIte, Nat.reduceEqDiff, reduceCtorEq, Nat.reduceAdd, Nat.reduceLeDiff, Nat.reduceBEq]))
  all_goals exact finRet0 hwf rfl (by simp [resOne, isDig, hc]) rfl
theorem isLetter_v (c : Int) (st : St) : VRet Tryd.prog 27 [.int .u8 c] st (.bool (isLet c)) st := by
  refine VCalls_of F27_ok mixed (Nat.le_of_ble_eq_true rfl) (fun hwf => ?_)
  (repeat' first | ((first | refine go rfl rfl ?_ | (refine Fk.by_ ?_ ?_ <;> intro hc <;> try simp only [hc]) | refine storeK_eq rfl ?_ | with_reducible refine And.intro ?_ ?_ | fail) <;> try simp only [push_cast, reduceIte, Nat.reduceEqDiff, reduceCtorEq, Nat.reduceAdd, Nat.reduceLeDiff, Nat.reduceBEq]))
  all_goals exact finRet0 hwf rfl (by simp [resOne, isLet, *] ) rfl
theorem isPlain_v (c : Int) (st : St) : VRet Tryd.prog 30 [.int .u8 c] st (.bool (isPln c)) st := by
  refine VCalls_of F30_ok mixed (Nat.le_of_ble_eq_true rfl) (fun hwf => ?_)
  (repeat' first | ((first | refine go rfl rfl ?_ | (refine Fk.by_ ?_ ?_ <;> intro hc <;> try simp only [hc]) | refine storeK_eq rfl ?_ | with_reducible refine And.intro ?_ ?_ | fail) <;> try simp only [push_cast, reduceIte, Nat.reduceEqDiff, reduceCtorEq, Nat.reduceAdd, Nat.reduceLeDiff, Nat.reduceBEq]))
  all_goals exact finRet0 hwf rfl (by simp [resOne, isPln, *] ) rfl
theorem isWord_v (c : Int) (st : St) : VRet Tryd.prog 28 [.int .u8 c] st (.bool (isWrd c)) st := by
  refine VCalls_of F28_ok mixed (Nat.le_of_ble_eq_true rfl) (fun hwf => ?_)
  (repeat' first | ((first | refine go rfl rfl ?_ | refine Cl.by_ (by (first | refine isLetter_v _ _ | refine isDigit_v _ _)) ?_ | (refine Fk.by_ ?_ ?_ <;> intro hc <;> try simp only [hc]) | refine storeK_eq rfl ?_ | with_reducible refine And.intro ?_ ?_ | fail) <;> try simp only [push_cast, reduceIte, Nat.reduceEqDiff, reduceCtorEq, Nat.reduceAdd, Nat.reduceLeDiff, Nat.reduceBEq]))
  all_goals exact finRet0 hwf rfl (by simp [resOne, isWrd, *] ) rfl
theorem blank_v (c : Int) (st : St) : VRet Tryd.prog 24 [.int .u8 c] st (.bool (c == 32)) st := by
  refine VCalls_of F24_ok mixed (Nat.le_of_ble_eq_true rfl) (fun hwf => ?_)
  (repeat' first | ((first | refine go rfl rfl ?_ | (refine Fk.by_ ?_ ?_ <;> intro hc <;> try simp only [hc]) | refine storeK_eq rfl ?_ | with_reducible refine And.intro ?_ ?_ | fail) <;> try simp only [push_cast, reduceIte, Nat.reduceEqDiff, reduceCtorEq, Nat.reduceAdd, Nat.reduceLeDiff, Nat.reduceBEq]))
  all_goals exact finRet0 hwf rfl rfl rfl
theorem quote_v (c : Int) (st : St) : VRet Tryd.prog 31 [.int .u8 c] st (.bool (c == 34)) st := by
  refine VCalls_of F31_ok mixed (Nat.le_of_ble_eq_true rfl) (fun hwf => ?_)
  (repeat' first | ((first | refine go rfl rfl ?_ | (refine Fk.by_ ?_ ?_ <;> intro hc <;> try simp only [hc]) | refine storeK_eq rfl ?_ | with_reducible refine And.intro ?_ ?_ | fail) <;> try simp only [push_cast, reduceIte, Nat.reduceEqDiff, reduceCtorEq, Nat.reduceAdd, Nat.reduceLeDiff, Nat.reduceBEq]))
  all_goals exact finRet0 hwf rfl rfl rfl
theorem dot_v (c : Int) (st : St) : VRet Tryd.prog 33 [.int .u8 c] st (.bool (c == 46)) st := by
  refine VCalls_of F33_ok mixed (Nat.le_of_ble_eq_true rfl) (fun hwf => ?_)
  (repeat' first | ((first | refine go rfl rfl ?_ | (refine Fk.by_ ?_ ?_ <;> intro hc <;> try simp only [hc]) | refine storeK_eq rfl ?_ | with_reducible refine And.intro ?_ ?_ | fail) <;> try simp only [push_cast, reduceIte, Nat.reduceEqDiff, reduceCtorEq, Nat.reduceAdd, Nat.reduceLeDiff, Nat.reduceBEq]))
  all_goals exact finRet0 hwf rfl rfl rfl

end Go.Proofs.YtnondemehfkalaaDoor
