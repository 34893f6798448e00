/- The reader: is, skip. -/
import Derived.Test.YtnondemehfkalaaDoorL2
set_option linter.unusedSimpArgs false
set_option linter.unusedVariables false
namespace Go.Proofs.YtnondemehfkalaaDoor
open Go.Sha

def atIs (ok : UInt8 → Bool) (s : List UInt8) (i : Nat) : Bool := match s[i]? with
  | some b => ok b
  | none => false

theorem is_v {k : FuncId} {ok : UInt8 → Bool} (hk : ∀ (b : UInt8) (st : St), VRet Tryd.prog k [.int .u8 b.toNat] st (.bool (ok b)) st) {st : St} {id : Nat} {s : List UInt8} {i n : Nat}
    (hm : Sha.look st.mem id = some [.str s, .int .i64 (i : Int)]) (hn : i + n < 4611686018427387904) :
    VRet Tryd.prog 26 [.ptr id 0, .int .i64 (n : Int), .fn (.func k) [] []] st (.bool (atIs ok s (i + n))) st := by
  refine VCalls_of F26_ok mixed (Nat.le_of_ble_eq_true rfl) (fun hwf => ?_)
  have hw : IntKind.i64.wrap ((i : Int) + (n : Int)) = (i : Int) + (n : Int) := wrap64 (by omega) (by omega)
  cases hb : s[i + n]? with
  | none =>
    have hlt : decide ((i : Int) + (n : Int) < (s.length : Int)) = false := by
      have := List.getElem?_eq_none_iff.1 hb
      simp; omega
    (repeat' first | ((first | refine go rfl rfl ?_ | (refine Fk.by_ ?_ ?_ <;> intro hc <;> try simp only [hc]) | refine storeK_eq rfl ?_ | with_reducible refine And.intro ?_ ?_ | fail) <;> try simp only [hm, hw, hlt, push_cast, reduceIte, Nat.reduceEqDiff, reduceCtorEq, Nat.reduceAdd, Nat.reduceLeDiff, Nat.reduceBEq]))
    exact finRet0 hwf rfl (by simp [resOne, atIs, hb]) rfl
  | some b =>
    have hlt : decide ((i : Int) + (n : Int) < (s.length : Int)) = true := by
      have := (List.getElem?_eq_some_iff.1 hb).1
      simp; omega
    (repeat' first | ((first | refine go rfl rfl ?_ | refine Cl.by_ (by (first | refine hk _ _)) ?_ | (refine Fk.by_ ?_ ?_ <;> intro hc <;> try simp only [hc]) | refine storeK_eq rfl ?_ | with_reducible refine And.intro ?_ ?_ | fail) <;> try simp only [hm, hw, hlt, hb, push_cast, reduceIte, Nat.reduceEqDiff, reduceCtorEq, Nat.reduceAdd, Nat.reduceLeDiff, Nat.reduceBEq]))
    exact finRet0 hwf rfl (by simp [resOne, atIs, hb]) rfl

/-- The place behind all bytes of a class from a place on. -/
def runTo (ok : UInt8 → Bool) (s : List UInt8) (i : Nat) : Nat := i + ((s.drop i).takeWhile ok).length

theorem runTo_stop {ok : UInt8 → Bool} {s : List UInt8} {i : Nat} (h : atIs ok s i = false) : runTo ok s i = i := by
  unfold runTo
  unfold atIs at h
  cases hb : s[i]? with
  | none => rw [List.drop_eq_nil_of_le (List.getElem?_eq_none_iff.1 hb)]; rfl
  | some b =>
    rw [hb] at h
    obtain ⟨hlt, e⟩ := List.getElem?_eq_some_iff.1 hb
    rw [List.drop_eq_getElem_cons hlt, e, List.takeWhile_cons, if_neg (by simpa using h)]; rfl

theorem runTo_go {ok : UInt8 → Bool} {s : List UInt8} {i : Nat} (h : atIs ok s i = true) : runTo ok s (i + 1) = runTo ok s i ∧ i < s.length := by
  unfold runTo
  unfold atIs at h
  cases hb : s[i]? with
  | none => rw [hb] at h; cases h
  | some b =>
    rw [hb] at h
    obtain ⟨hlt, e⟩ := List.getElem?_eq_some_iff.1 hb
    refine ⟨?_, hlt⟩
    rw [List.drop_eq_getElem_cons hlt, e, List.takeWhile_cons, if_pos (by simpa using h), List.length_cons]; omega

theorem runTo_le {ok : UInt8 → Bool} {s : List UInt8} {i : Nat} (h : i ≤ s.length) : runTo ok s i ≤ s.length := by
  unfold runTo
  have := (List.takeWhile_sublist ok (l := s.drop i)).length_le
  rw [List.length_drop] at this; omega

theorem skip_v {k : FuncId} {ok : UInt8 → Bool} (hk : ∀ (b : UInt8) (st : St), VRet Tryd.prog k [.int .u8 b.toNat] st (.bool (ok b)) st) {st : St} {id : Nat} {s : List UInt8} {i : Nat}
    (hm : Sha.look st.mem id = some [.str s, .int .i64 (i : Int)]) (hi : i ≤ s.length) (hs : s.length < 2305843009213693952) :
    VRet Tryd.prog 23 [.ptr id 0, .fn (.func k) [] []] st (.tup []) (st.put id [.str s, .int .i64 (runTo ok s i : Nat)]) := by
  refine VCalls_of F23_ok mixed (Nat.le_of_ble_eq_true rfl) (fun hwf => ?_)
  have hid := (hwf.mem _ _ hm).1
  (repeat' first | ((first | refine go rfl rfl ?_ | (refine Fk.by_ ?_ ?_ <;> intro hc <;> try simp only [hc]) | refine storeK_eq rfl ?_ | with_reducible refine And.intro ?_ ?_ | fail) <;> try simp only [push_cast, reduceIte, Nat.reduceEqDiff, reduceCtorEq, Nat.reduceAdd, Nat.reduceLeDiff, Nat.reduceBEq]))
  refine WT_loop rfl (fun n e z => ∃ j : Nat, n = s.length - j ∧ j ≤ s.length ∧ runTo ok s j = runTo ok s i ∧ e = [(0, .ptr id 0), (1, .fn (.func k) [] [])] ∧ z = st.put id [.str s, .int .i64 (j : Int)]) st.nx (Nat.le_refl _) (by rintro _ _ _ ⟨j, _, _, _, _, rfl⟩; rfl)
    ⟨_, _, _, ⟨i, rfl, hi, rfl, rfl, rfl⟩, .cons (by simpa [V.bd] using hid) rfl (.cons rfl rfl .nil), by rw [put_self hm]; exact .refl hwf⟩ ?_
  rintro n e z ⟨j, rfl, hj, hr, rfl, rfl⟩
  have hm' : Sha.look (updM st.mem id [.str s, .int .i64 (j : Int)]) id = some [.str s, .int .i64 (j : Int)] := look_upd hm
  have hw : j < s.length → IntKind.i64.wrap ((j : Int) + 1) = (j : Int) + 1 := fun h => wrap64 (by omega) (by omega)
  (repeat' first | ((first | refine go rfl rfl ?_ | refine Cl.by_ (by (first | refine is_v (n := 0) hk hm' (by omega))) ?_ | (refine Fk.by_ ?_ ?_ <;> intro hc <;> try simp only [hc]) | refine storeK_eq rfl ?_ | with_reducible refine And.intro ?_ ?_ | fail) <;> try simp only [hm', push_cast, reduceIte, Nat.reduceEqDiff, reduceCtorEq, Nat.reduceAdd, Nat.reduceLeDiff, Nat.reduceBEq]))
  · obtain ⟨g1, g2⟩ := runTo_go hc
    rw [hw g2]
    exact ⟨_, _, _, by omega, ⟨j + 1, rfl, by omega, by rw [g1, hr], rfl, rfl⟩, .cons (by simpa [V.bd] using hid) rfl (.cons rfl rfl .nil), .refl (hwf.put rfl)⟩
  · refine (finAt (vs := []) (r := .tup []) (hwf.put rfl) (Nat.le_refl _) ?_ rfl rfl rfl).1
    rw [← hr, runTo_stop hc]; rfl
end Go.Proofs.YtnondemehfkalaaDoor
