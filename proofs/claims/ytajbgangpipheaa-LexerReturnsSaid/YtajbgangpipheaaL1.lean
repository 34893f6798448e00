/- The lexer's small functions: what bytes are. -/
import Derived.Test.YtajbgangpipheaaTab
import Derived.Test.YtajbgangpipheaaShaY
set_option linter.unusedSimpArgs false
set_option linter.unusedVariables false
namespace Go.Proofs.Ytajbgangpipheaa
open Go.Sha

def isDig (c : Int) : Bool := decide (48 ≤ c) && decide (c ≤ 57)
def isLet (c : Int) : Bool := decide (97 ≤ c) && decide (c ≤ 122) || decide (65 ≤ c) && decide (c ≤ 90)
def isWrd (c : Int) : Bool := isLet c || isDig c || c == 95
def isPln (c : Int) : Bool := decide (32 ≤ c) && decide (c ≤ 126) && c != 34
def signs : List UInt8 := [43, 45, 47, 46, 44, 64, 58, 61, 37, 40, 41]
def isSgn (c : Int) : Bool := signs.any fun b => (b.toNat : Int) == c

theorem isDigit_v (c : Int) (st : St) : VRet Try.prog 46 [.int .u8 c] st (.bool (isDig c)) st := by
  refine VCalls_of F46_ok mixed (Nat.le_of_ble_eq_true rfl) (fun hwf => ?_)
  (repeat' first | ((first | refine go rfl rfl ?_ | (refine Fk.by_ ?_ ?_ <;> intro hc <;> try simp only [hc]) | refine storeK_eq rfl ?_ | with_reducible refine And.intro ?_ ?_ | fail) <;> try simp only [push_cast, reduceIte, Nat.reduceEqDiff, reduceCtorEq, Nat.reduceAdd, Nat.reduceLeDiff, Nat.reduceBEq]))
  all_goals exact finRet0 hwf rfl (by simp [resOne, isDig, hc]) rfl
theorem digit_v (c : Int) (st : St) : VRet Try.prog 34 [.int .u8 c] st (.bool (isDig c)) st := by
  refine VCalls_of F34_ok mixed (Nat.le_of_ble_eq_true rfl) (fun hwf => ?_)
  (repeat' first | ((first | refine go rfl rfl ?_ | (refine Fk.by_ ?_ ?_ <;> intro hc <;> try simp only [hc]) | refine storeK_eq rfl ?_ | with_reducible refine And.intro ?_ ?_ | fail) <;> try simp only [push_cast, reduceIte, Nat.reduceEqDiff, reduceCtorEq, Nat.reduceAdd, Nat.reduceLeDiff, Nat.reduceBEq]))
  all_goals exact finRet0 hwf rfl (by simp [resOne, isDig, hc]) rfl
theorem isLetter_v (c : Int) (st : St) : VRet Try.prog 42 [.int .u8 c] st (.bool (isLet c)) st := by
  refine VCalls_of F42_ok mixed (Nat.le_of_ble_eq_true rfl) (fun hwf => ?_)
  (repeat' first | ((first | refine go rfl rfl ?_ | (refine Fk.by_ ?_ ?_ <;> intro hc <;> try simp only [hc]) | refine storeK_eq rfl ?_ | with_reducible refine And.intro ?_ ?_ | fail) <;> try simp only [push_cast, reduceIte, Nat.reduceEqDiff, reduceCtorEq, Nat.reduceAdd, Nat.reduceLeDiff, Nat.reduceBEq]))
  all_goals exact finRet0 hwf rfl (by simp [resOne, isLet, *] ) rfl
theorem letter_v (c : Int) (st : St) : VRet Try.prog 31 [.int .u8 c] st (.bool (isLet c)) st := by
  refine VCalls_of F31_ok mixed (Nat.le_of_ble_eq_true rfl) (fun hwf => ?_)
  (repeat' first | ((first | refine go rfl rfl ?_ | (refine Fk.by_ ?_ ?_ <;> intro hc <;> try simp only [hc]) | refine storeK_eq rfl ?_ | with_reducible refine And.intro ?_ ?_ | fail) <;> try simp only [push_cast, reduceIte, Nat.reduceEqDiff, reduceCtorEq, Nat.reduceAdd, Nat.reduceLeDiff, Nat.reduceBEq]))
  all_goals exact finRet0 hwf rfl (by simp [resOne, isLet, *] ) rfl
theorem isPlain_v (c : Int) (st : St) : VRet Try.prog 27 [.int .u8 c] st (.bool (isPln c)) st := by
  refine VCalls_of F27_ok mixed (Nat.le_of_ble_eq_true rfl) (fun hwf => ?_)
  (repeat' first | ((first | refine go rfl rfl ?_ | (refine Fk.by_ ?_ ?_ <;> intro hc <;> try simp only [hc]) | refine storeK_eq rfl ?_ | with_reducible refine And.intro ?_ ?_ | fail) <;> try simp only [push_cast, reduceIte, Nat.reduceEqDiff, reduceCtorEq, Nat.reduceAdd, Nat.reduceLeDiff, Nat.reduceBEq]))
  all_goals exact finRet0 hwf rfl (by simp [resOne, isPln, *] ) rfl
theorem plain_v (c : Int) (st : St) : VRet Try.prog 50 [.int .u8 c] st (.bool (isPln c)) st := by
  refine VCalls_of F50_ok mixed (Nat.le_of_ble_eq_true rfl) (fun hwf => ?_)
  (repeat' first | ((first | refine go rfl rfl ?_ | (refine Fk.by_ ?_ ?_ <;> intro hc <;> try simp only [hc]) | refine storeK_eq rfl ?_ | with_reducible refine And.intro ?_ ?_ | fail) <;> try simp only [push_cast, reduceIte, Nat.reduceEqDiff, reduceCtorEq, Nat.reduceAdd, Nat.reduceLeDiff, Nat.reduceBEq]))
  all_goals exact finRet0 hwf rfl (by simp [resOne, isPln, *] ) rfl
theorem isWord_v (c : Int) (st : St) : VRet Try.prog 43 [.int .u8 c] st (.bool (isWrd c)) st := by
  refine VCalls_of F43_ok mixed (Nat.le_of_ble_eq_true rfl) (fun hwf => ?_)
  (repeat' first | ((first | refine go rfl rfl ?_ | refine Cl.by_ (by (first | refine isLetter_v _ _ | refine isDigit_v _ _)) ?_ | (refine Fk.by_ ?_ ?_ <;> intro hc <;> try simp only [hc]) | refine storeK_eq rfl ?_ | with_reducible refine And.intro ?_ ?_ | fail) <;> try simp only [push_cast, reduceIte, Nat.reduceEqDiff, reduceCtorEq, Nat.reduceAdd, Nat.reduceLeDiff, Nat.reduceBEq]))
  all_goals exact finRet0 hwf rfl (by simp [resOne, isWrd, *] ) rfl
theorem blank_v (c : Int) (st : St) : VRet Try.prog 39 [.int .u8 c] st (.bool (c == 32)) st := by
  refine VCalls_of F39_ok mixed (Nat.le_of_ble_eq_true rfl) (fun hwf => ?_)
  (repeat' first | ((first | refine go rfl rfl ?_ | (refine Fk.by_ ?_ ?_ <;> intro hc <;> try simp only [hc]) | refine storeK_eq rfl ?_ | with_reducible refine And.intro ?_ ?_ | fail) <;> try simp only [push_cast, reduceIte, Nat.reduceEqDiff, reduceCtorEq, Nat.reduceAdd, Nat.reduceLeDiff, Nat.reduceBEq]))
  all_goals exact finRet0 hwf rfl rfl rfl
theorem quote_v (c : Int) (st : St) : VRet Try.prog 45 [.int .u8 c] st (.bool (c == 34)) st := by
  refine VCalls_of F45_ok mixed (Nat.le_of_ble_eq_true rfl) (fun hwf => ?_)
  (repeat' first | ((first | refine go rfl rfl ?_ | (refine Fk.by_ ?_ ?_ <;> intro hc <;> try simp only [hc]) | refine storeK_eq rfl ?_ | with_reducible refine And.intro ?_ ?_ | fail) <;> try simp only [push_cast, reduceIte, Nat.reduceEqDiff, reduceCtorEq, Nat.reduceAdd, Nat.reduceLeDiff, Nat.reduceBEq]))
  all_goals exact finRet0 hwf rfl rfl rfl
theorem dot_v (c : Int) (st : St) : VRet Try.prog 47 [.int .u8 c] st (.bool (c == 46)) st := by
  refine VCalls_of F47_ok mixed (Nat.le_of_ble_eq_true rfl) (fun hwf => ?_)
  (repeat' first | ((first | refine go rfl rfl ?_ | (refine Fk.by_ ?_ ?_ <;> intro hc <;> try simp only [hc]) | refine storeK_eq rfl ?_ | with_reducible refine And.intro ?_ ?_ | fail) <;> try simp only [push_cast, reduceIte, Nat.reduceEqDiff, reduceCtorEq, Nat.reduceAdd, Nat.reduceLeDiff, Nat.reduceBEq]))
  all_goals exact finRet0 hwf rfl rfl rfl

theorem sign_v (c : Int) (st : St) : VRet Try.prog 49 [.int .u8 c] st (.bool (isSgn c)) st := by
  refine VCalls_of F49_ok mixed (Nat.le_of_ble_eq_true rfl) (fun hwf => ?_)
  (repeat' first | ((first | refine go rfl rfl ?_ | (refine Fk.by_ ?_ ?_ <;> intro hc <;> try simp only [hc]) | refine storeK_eq rfl ?_ | with_reducible refine And.intro ?_ ?_ | fail) <;> try simp only [push_cast, reduceIte, Nat.reduceEqDiff, reduceCtorEq, Nat.reduceAdd, Nat.reduceLeDiff, Nat.reduceBEq]))
  refine WT_loop rfl (fun n e s => ∃ i : Nat, n = 11 - i ∧ i ≤ 11 ∧ (signs.take i).any (fun b => (b.toNat : Int) == c) = false ∧ e = [(3, .int .i64 i), (0, .int .u8 c)] ∧ s = st) st.nx (Nat.le_refl _) (by rintro _ _ _ ⟨i, _, _, _, _, rfl⟩; rfl)
    ⟨11, _, _, ⟨0, rfl, by omega, rfl, rfl, rfl⟩, .cons rfl rfl (.cons rfl rfl .nil), .refl hwf⟩ ?_
  rintro n e s ⟨i, rfl, hi, hno, rfl, rfl⟩
  (repeat' first | ((first | refine go rfl rfl ?_ | (refine Fk.by_ ?_ ?_ <;> intro hc <;> try simp only [hc]) | refine storeK_eq rfl ?_ | with_reducible refine And.intro ?_ ?_ | fail) <;> try simp only [push_cast, reduceIte, Nat.reduceEqDiff, reduceCtorEq, Nat.reduceAdd, Nat.reduceLeDiff, Nat.reduceBEq]))
  · have hi' : i < 11 := by have : (i : Int) < 11 := by simpa using hc
                            omega
    obtain ⟨b, hb⟩ : ∃ b, signs[i]? = some b := ⟨_, List.getElem?_eq_getElem (by simpa [signs] using hi')⟩
    refine afterE_map hb ?_
    simp only [push_cast, reduceIte, Nat.reduceEqDiff, reduceCtorEq, Nat.reduceAdd, Nat.reduceLeDiff, Nat.reduceBEq]
    (repeat' first | ((first | refine go rfl rfl ?_ | (refine Fk.by_ ?_ ?_ <;> intro hc <;> try simp only [hc]) | refine storeK_eq rfl ?_ | with_reducible refine And.intro ?_ ?_ | fail) <;> try simp only [push_cast, reduceIte, Nat.reduceEqDiff, reduceCtorEq, Nat.reduceAdd, Nat.reduceLeDiff, Nat.reduceBEq]))
    · refine finRet0 hwf rfl ?_ rfl
      have : isSgn c = true := List.any_eq_true.2 ⟨b, List.mem_of_getElem? hb, hc⟩
      simp [resOne, this]
    · rw [wrap64 (by omega) (by omega)]
      refine ⟨_, _, _, ?_, ⟨i + 1, rfl, by omega, ?_, rfl, rfl⟩, .cons rfl rfl (.cons rfl rfl .nil), .refl hwf⟩
      · omega
      · rw [List.take_add_one, hb]; simp [hno, hc]
  · have hi' : i = 11 := by have : ¬ ((i : Int) < 11) := by simpa using hc
                            omega
    subst hi'
    refine finRet0 hwf rfl ?_ rfl
    have : isSgn c = false := hno
    simp [resOne, this]
end Go.Proofs.Ytajbgangpipheaa
