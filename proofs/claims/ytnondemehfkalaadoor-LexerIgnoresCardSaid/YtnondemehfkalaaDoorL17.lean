/- A copy of tokens without their places. -/
import Derived.Test.YtnondemehfkalaaDoorL18
import Derived.Test.YtnondemehfkalaaDoorTab
set_option linter.unusedSimpArgs false
set_option linter.unusedVariables false
namespace Go.Proofs.YtnondemehfkalaaDoor
open Go.Sha

theorem snap_tks {st : St} : ∀ {l : List Tok}, mapO (snapA st) (l.map tkV) = some (l.map tkV)
  | [] => rfl
  | x :: l => by
    have h := snap_tks (st := st) (l := l)
    rw [List.map_cons, mapO_cons, h]
    rfl
theorem all_tks {l : List Tok} : ((l.map tkV).all fun y => y.cells.length == 3) = true := by
  rw [List.all_eq_true]
  intro y hy
  obtain ⟨x, _, rfl⟩ := List.mem_map.1 hy
  rfl

theorem clone_v (l : List Tok) (st : St) (hne : l ≠ []) (hl : l.length ≤ 4096) : VRet Tryd.prog 22 [.sl (l.map tkV)] st (.osl st.nx l.length) ⟨st.nx + 1, st.mem, (st.nx, ⟨32, 3, l.map tkV, true, false⟩) :: st.arr, st.x⟩ := by
  refine VCalls_of F22_ok mixed (Nat.le_of_ble_eq_true rfl) (fun hwf => ?_)
  have hmn : (l.map tkV = []) = False := eq_false (by simpa using hne)
  (repeat' first | refine WT_thaw (i := 11) 1 rfl (by decide) ?_ | ((first | refine go rfl rfl ?_ | (refine Fk.by_ ?_ ?_ <;> intro hc <;> try simp only [hc]) | refine storeK_eq rfl ?_ | with_reducible refine And.intro ?_ ?_ | fail) <;> try simp only [hmn, push_cast, reduceIte, Nat.reduceEqDiff, reduceCtorEq, Nat.reduceAdd, Nat.reduceLeDiff, Nat.reduceBEq]))
  simp only [List.take, List.drop, push_cast, reduceIte, Nat.reduceEqDiff, reduceCtorEq, Nat.reduceAdd, Nat.reduceLeDiff, Nat.reduceBEq]
  refine ⟨st.nx, ⟨32, 3, [], false, false⟩, by simp [Sha.look], rfl, ?_⟩
  have hrm2 : roomV l.length 32 = true := by
    unfold roomV
    exact (Bool.and_eq_true _ _).mpr ⟨decide_eq_true (by unfold maxLen; omega), decide_eq_true (by omega)⟩
  have hrm : roomV (0 + l.length) 32 = true := by rw [Nat.zero_add]; exact hrm2
  have hbr : V.bd (st.nx + 1) (.osl st.nx l.length) = true := by simp [V.bd]
  simp only [hmn, snap_tks, all_tks, hrm, hrm2, push_cast, reduceIte, Nat.reduceEqDiff, reduceCtorEq, Nat.reduceAdd, Nat.reduceLeDiff, Nat.reduceBEq]
  (repeat' first | ((first | refine go rfl rfl ?_ | (refine Fk.by_ ?_ ?_ <;> intro hc <;> try simp only [hc]) | refine storeK_eq rfl ?_ | with_reducible refine And.intro ?_ ?_ | fail) <;> try simp only [push_cast, reduceIte, Nat.reduceEqDiff, reduceCtorEq, Nat.reduceAdd, Nat.reduceLeDiff, Nat.reduceBEq]))
  refine finB (hwf.newA bdL_tk) (by simp only [F22, push_cast, reduceIte, Nat.reduceEqDiff, reduceCtorEq, Nat.reduceAdd, Nat.reduceLeDiff, Nat.reduceBEq]; exact rfl) (by first | exact .inl rfl | (right; simp only [F22, push_cast, reduceIte, Nat.reduceEqDiff, reduceCtorEq, Nat.reduceAdd, Nat.reduceLeDiff, Nat.reduceBEq]; try rfl)) (by first | rfl | assumption) (by simp) (by simp) (by (repeat first | exact (hwf.newA bdL_tk).subm | exact (hwf.newA bdL_tk).suba | refine Sub.drop (by simp) ?_)) (by (repeat first | exact (hwf.newA bdL_tk).subm | exact (hwf.newA bdL_tk).suba | refine Sub.drop (by simp) ?_)) (by (repeat first | exact (hwf.newA bdL_tk).subx | refine ExSub.drop (by simp) ?_))

def bareN (l : List Tok) (j : Nat) : List Tok := (l.take j).map bareT ++ l.drop j
theorem bareN_len {l : List Tok} {j : Nat} : (bareN l j).length = l.length := by simp [bareN]; omega
theorem bareN_get {l : List Tok} {j : Nat} (h : j ≤ l.length) : (bareN l j)[j]? = l[j]? := by
  unfold bareN
  rw [List.getElem?_append_right (by simp; omega), List.getElem?_drop, List.length_map, List.length_take]
  congr 1; omega
theorem bareN_set {l : List Tok} {j : Nat} {x : Tok} (h : l[j]? = some x) : (bareN l j).set j (bareT x) = bareN l (j + 1) := by
  obtain ⟨h1, h2⟩ := List.getElem?_eq_some_iff.1 h
  unfold bareN
  rw [List.set_append_right _ _ (by simp; omega), List.drop_eq_getElem_cons h1, h2, List.take_add_one, h]
  simp [show min j l.length = j by omega]
theorem bareN_all {l : List Tok} : bareN l l.length = l.map bareT := by simp [bareN]
theorem bareN_zero {l : List Tok} : bareN l 0 = l := by simp [bareN]

theorem bare_v (l : List Tok) (st : St) (hne : l ≠ []) (hl : l.length ≤ 4096) : VRet Tryd.prog 12 [.sl (l.map tkV)] st (.sl ((l.map bareT).map tkV)) st := by
  refine VCalls_of F12_ok mixed (Nat.le_of_ble_eq_true rfl) (fun hwf => ?_)
  have hbr : V.bd st.nx (.sl ((l.map bareT).map tkV)) = true := bdL_tk
  (repeat' first | ((first | refine go rfl rfl ?_ | refine Cl.by_ (by (first | refine clone_v _ _ hne hl)) ?_ | (refine Fk.by_ ?_ ?_ <;> intro hc <;> try simp only [hc]) | refine storeK_eq rfl ?_ | with_reducible refine And.intro ?_ ?_ | fail) <;> try simp only [push_cast, reduceIte, Nat.reduceEqDiff, reduceCtorEq, Nat.reduceAdd, Nat.reduceLeDiff, Nat.reduceBEq]))
  refine WT_loop rfl (fun n e z => ∃ j : Nat, n = l.length - j ∧ j ≤ l.length ∧ e = [(9, .int .i64 (j : Int)), (8, .int .i64 (l.length : Int)), (3, .osl st.nx l.length)] ∧ z = ⟨st.nx + 1, st.mem, (st.nx, ⟨32, 3, (bareN l j).map tkV, true, false⟩) :: st.arr, st.x⟩) (st.nx + 1) (Nat.le_refl _) (by rintro _ _ _ ⟨j, _, _, _, rfl⟩; rfl)
    ⟨_, _, _, ⟨0, rfl, Nat.zero_le _, rfl, by rw [bareN_zero]⟩, (by repeat first | exact .nil | refine .cons (by first | rfl | (simp [V.bd, V.bdL]; try first | omega | assumption)) (by first | rfl | simp only [push_cast, reduceIte, Nat.reduceEqDiff, reduceCtorEq, Nat.reduceAdd, Nat.reduceLeDiff, Nat.reduceBEq]) ?_), .refl (hwf.newA (bdL_tk))⟩ ?_
  rintro n e z ⟨j, rfl, hj, rfl, rfl⟩
  rcases Nat.lt_or_ge j l.length with hlt | hge
  · obtain ⟨x, hx⟩ : ∃ x, l[j]? = some x := ⟨_, List.getElem?_eq_getElem hlt⟩
    have h2 : decide ((j : Int) < (l.length : Int)) = true := decide_eq_true (by omega)
    have hw : IntKind.i64.wrap ((j : Int) + 1) = (j : Int) + 1 := wrap64 (by omega) (by omega)
    have hbx := bareN_get hj
    rw [hx] at hbx
    have hln := bareN_len (l := l) (j := j)
    (repeat' first | ((first | refine go rfl rfl ?_ | (refine Fk.by_ ?_ ?_ <;> intro hc <;> try simp only [hc]) | refine storeK_eq rfl ?_ | with_reducible refine And.intro ?_ ?_ | fail) <;> try simp only [h2, hw, hbx, hln, hlt, cells_tkV, BEq.rfl, decide_true, Bool.and_self, push_cast, reduceIte, Nat.reduceEqDiff, reduceCtorEq, Nat.reduceAdd, Nat.reduceLeDiff, Nat.reduceBEq]))
    rw [show (List.map tkV (bareN l j)).set j (.agg [.int .i64 x.k, .str x.t, .int .i64 0]) = (bareN l (j + 1)).map tkV by rw [← bareN_set hx, List.map_set]; rfl]
    exact ⟨_, _, _, by omega, ⟨j + 1, rfl, by omega, rfl, rfl⟩, (by repeat first | exact .nil | refine .cons (by first | rfl | (simp [V.bd, V.bdL]; try first | omega | assumption)) (by first | rfl | simp only [push_cast, reduceIte, Nat.reduceEqDiff, reduceCtorEq, Nat.reduceAdd, Nat.reduceLeDiff, Nat.reduceBEq]) ?_), .refl (hwf.newA bdL_tk)⟩
  · have h2 : decide ((j : Int) < (l.length : Int)) = false := decide_eq_false (by omega)
    have ej : j = l.length := by omega
    subst ej
    rw [bareN_all]
    refine WT_freeze (id := st.nx) (ar := ⟨32, 3, (l.map bareT).map tkV, true, false⟩) (by simp [Sha.look]) ?_
    (repeat' first | ((first | refine go rfl rfl ?_ | (refine Fk.by_ ?_ ?_ <;> intro hc <;> try simp only [hc]) | refine storeK_eq rfl ?_ | with_reducible refine And.intro ?_ ?_ | fail) <;> try simp only [h2, push_cast, reduceIte, Nat.reduceEqDiff, reduceCtorEq, Nat.reduceAdd, Nat.reduceLeDiff, Nat.reduceBEq]))
    refine finB (hwf) (by simp only [F12, push_cast, reduceIte, Nat.reduceEqDiff, reduceCtorEq, Nat.reduceAdd, Nat.reduceLeDiff, Nat.reduceBEq]; exact rfl) (by first | exact .inl rfl | (right; simp only [F12, push_cast, reduceIte, Nat.reduceEqDiff, reduceCtorEq, Nat.reduceAdd, Nat.reduceLeDiff, Nat.reduceBEq]; try rfl)) (by first | rfl | assumption) (by simp) (by simp) (by (repeat first | exact (hwf).subm | exact (hwf).suba | refine Sub.drop (by simp) ?_)) (by (repeat first | exact (hwf).subm | exact (hwf).suba | refine Sub.drop (by simp) ?_)) (by (repeat first | exact (hwf).subx | refine ExSub.drop (by simp) ?_))

end Go.Proofs.YtnondemehfkalaaDoor
