/- What is a sign, by strings.IndexByte. -/
import Derived.Test.YtnondemehfkalaaDoorL1
import Derived.Test.YtnondemehfkalaaDoorTab
import Derived.Test.YtnondemehfkalaaDoorShaV
set_option linter.unusedSimpArgs false
set_option linter.unusedVariables false
namespace Go.Proofs.YtnondemehfkalaaDoor
open Go.Sha

theorem f60 (s : List UInt8) (c : Int) (st : St) : VRet Tryd.prog 53 [.str s, .int .u8 c] st (.int .i64 (Lib.indexByte s c.toNat.toUInt8)) st :=
  indexByteString_v Tryd.func53 (by kernel_rfl) (by kernel_rfl) (by kernel_rfl) (by kernel_rfl) s c st
theorem f57 (s : List UInt8) (c : Int) (st : St) : VRet Tryd.prog 49 [.str s, .int .u8 c] st (.int .i64 (Lib.indexByte s c.toNat.toUInt8)) st := by
  refine VCalls_of F49_ok mixed (Nat.le_of_ble_eq_true rfl) (fun hwf => ?_)
  (repeat' first | ((first | refine go rfl rfl ?_ | refine Cl.by_ (by (first | refine f60 _ _ _)) ?_ | (refine Fk.by_ ?_ ?_ <;> intro hc <;> try simp only [hc]) | refine storeK_eq rfl ?_ | with_reducible refine And.intro ?_ ?_ | fail) <;> try simp only [push_cast, reduceIte, Nat.reduceEqDiff, reduceCtorEq, Nat.reduceAdd, Nat.reduceLeDiff, Nat.reduceBEq]))
  all_goals exact finRet0 hwf rfl rfl rfl
theorem f54 (s : List UInt8) (c : Int) (st : St) : VRet Tryd.prog 44 [.str s, .int .u8 c] st (.int .i64 (Lib.indexByte s c.toNat.toUInt8)) st := by
  refine VCalls_of F44_ok mixed (Nat.le_of_ble_eq_true rfl) (fun hwf => ?_)
  (repeat' first | ((first | refine go rfl rfl ?_ | refine Cl.by_ (by (first | refine f57 _ _ _)) ?_ | (refine Fk.by_ ?_ ?_ <;> intro hc <;> try simp only [hc]) | refine storeK_eq rfl ?_ | with_reducible refine And.intro ?_ ?_ | fail) <;> try simp only [push_cast, reduceIte, Nat.reduceEqDiff, reduceCtorEq, Nat.reduceAdd, Nat.reduceLeDiff, Nat.reduceBEq]))
  all_goals exact finRet0 hwf rfl rfl rfl

theorem indexByte_any (l : List UInt8) (c : UInt8) : decide (0 ≤ Lib.indexByte l c) = l.any fun b => (b.toNat : Int) == (c.toNat : Int) := by
  induction l with
  | nil => rfl
  | cons b l ih =>
    have hb : (b == c) = ((b.toNat : Int) == (c.toNat : Int)) := by
      rw [Bool.eq_iff_iff]
      simp only [beq_iff_eq]
      constructor
      · rintro rfl; rfl
      · intro h; exact UInt8.toNat_inj.1 (by omega)
    have hg := Lib.indexByte_ge l c
    rw [List.any_cons, ← hb, ← ih]
    by_cases h : (b == c) = true
    · simp [Lib.indexByte, h]
    · have h' : (b == c) = false := by simpa using h
      rw [h', Bool.false_or]
      apply decide_eq_decide.2
      have e : Lib.indexByte (b :: l) c = if (b == c) = true then 0 else if (Lib.indexByte l c == -1) = true then -1 else Lib.indexByte l c + 1 := rfl
      rw [e, if_neg h]
      split
      · rename_i h; have : Lib.indexByte l c = -1 := by simpa using h
        omega
      · rename_i h; have : Lib.indexByte l c ≠ -1 := by simpa using h
        omega

theorem isSign_v (b : UInt8) (st : St) : VRet Tryd.prog 34 [.int .u8 b.toNat] st (.bool (isSgn b.toNat)) st := by
  refine VCalls_of F34_ok mixed (Nat.le_of_ble_eq_true rfl) (fun hwf => ?_)
  (repeat' first | ((first | refine go rfl rfl ?_ | refine Cl.by_ (by (first | refine f54 _ _ _)) ?_ | (refine Fk.by_ ?_ ?_ <;> intro hc <;> try simp only [hc]) | refine storeK_eq rfl ?_ | with_reducible refine And.intro ?_ ?_ | fail) <;> try simp only [push_cast, reduceIte, Nat.reduceEqDiff, reduceCtorEq, Nat.reduceAdd, Nat.reduceLeDiff, Nat.reduceBEq]))
  refine finRet0 hwf rfl ?_ rfl
  have : ((b.toNat : Int).toNat).toUInt8 = b := by simp
  simp only [resOne, isSgn, ← indexByte_any, this]
  rfl
end Go.Proofs.YtnondemehfkalaaDoor
