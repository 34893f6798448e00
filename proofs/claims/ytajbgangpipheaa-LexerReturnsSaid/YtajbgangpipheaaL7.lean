/- The reference's word, number, quoted, Lower. -/
import Derived.Test.YtajbgangpipheaaL6
set_option linter.unusedSimpArgs false
set_option linter.unusedVariables false
namespace Go.Proofs.Ytajbgangpipheaa
open Go.Sha

theorem atIs_some {ok : UInt8 → Bool} {s : List UInt8} {i : Nat} {b : UInt8} (h : s[i]? = some b) : atIs ok s i = ok b := by simp [atIs, h]
theorem atIs_none {ok : UInt8 → Bool} {s : List UInt8} {i : Nat} (h : s.length ≤ i) : atIs ok s i = false := by simp [atIs, List.getElem?_eq_none h]

theorem word_v {s : List UInt8} {i : Nat} (st : St) (hi : i ≤ s.length) (hs : s.length < 140737488355328) : VRet Try.prog 32 [.str s, .int .i64 (i : Int)] st (.int .i64 (runTo wrdB s i : Nat)) st := by
  refine VCalls_of F32_ok mixed (Nat.le_of_ble_eq_true rfl) (fun hwf => ?_)
  (repeat' first | ((first | refine go rfl rfl ?_ | (refine Fk.by_ ?_ ?_ <;> intro hc <;> try simp only [hc]) | refine storeK_eq rfl ?_ | with_reducible refine And.intro ?_ ?_ | fail) <;> try simp only [push_cast, reduceIte, Nat.reduceEqDiff, reduceCtorEq, Nat.reduceAdd, Nat.reduceLeDiff, Nat.reduceBEq]))
  refine WT_loop rfl (fun n e z => ∃ j : Nat, n = s.length - j ∧ j ≤ s.length ∧ runTo wrdB s j = runTo wrdB s i ∧ e = [(1, .int .i64 (j : Int)), (0, .str s)] ∧ z = st) st.nx (Nat.le_refl _) (by rintro _ _ _ ⟨j, _, _, _, _, rfl⟩; rfl)
    ⟨_, _, _, ⟨i, rfl, hi, rfl, rfl, rfl⟩, (by repeat first | exact .nil | refine .cons (by first | rfl | (simp [V.bd, V.bdL]; try omega)) (by first | rfl | simp only [push_cast, reduceIte, Nat.reduceEqDiff, reduceCtorEq, Nat.reduceAdd, Nat.reduceLeDiff, Nat.reduceBEq]) ?_), .refl hwf⟩ ?_
  rintro n e z ⟨j, rfl, hj, hr, rfl, rfl⟩
  rcases Nat.lt_or_ge j s.length with hlt | hge
  · obtain ⟨b, hb⟩ : ∃ b, s[j]? = some b := ⟨_, List.getElem?_eq_getElem hlt⟩
    have h1 : decide ((j : Int) < (s.length : Int)) = true := by simp; omega
    have hw : IntKind.i64.wrap ((j : Int) + 1) = (j : Int) + 1 := wrap64 (by omega) (by omega)
    have h5 : ∀ x, isWrd b.toNat = x → atIs wrdB s j = x := fun x h => by rw [atIs_some hb]; exact h
    (repeat' first | ((first | refine go rfl rfl ?_ | refine Cl.by_ (by (first | refine letter_v _ _ | refine digit_v _ _)) ?_ | (refine Fk.by_ ?_ ?_ <;> intro hc <;> try simp only [hc]) | refine storeK_eq rfl ?_ | with_reducible refine And.intro ?_ ?_ | fail) <;> try simp only [h1, hb, hw, push_cast, reduceIte, Nat.reduceEqDiff, reduceCtorEq, Nat.reduceAdd, Nat.reduceLeDiff, Nat.reduceBEq]))
    all_goals first
      | exact ⟨_, _, _, by omega, ⟨j + 1, rfl, by omega, by rw [(runTo_go (h5 true (by simp [isWrd, *]))).1, hr], rfl, rfl⟩, (by repeat first | exact .nil | refine .cons (by first | rfl | (simp [V.bd, V.bdL]; try omega)) (by first | rfl | simp only [push_cast, reduceIte, Nat.reduceEqDiff, reduceCtorEq, Nat.reduceAdd, Nat.reduceLeDiff, Nat.reduceBEq]) ?_), .refl hwf⟩
      | (rw [← hr, runTo_stop (h5 false (by simp [isWrd, *]))]; refine finB (hwf) (by simp only [F32, push_cast, reduceIte, Nat.reduceEqDiff, reduceCtorEq, Nat.reduceAdd, Nat.reduceLeDiff, Nat.reduceBEq]; exact rfl) (by first | exact .inl rfl | (right; simp only [F32, push_cast, reduceIte, Nat.reduceEqDiff, reduceCtorEq, Nat.reduceAdd, Nat.reduceLeDiff, Nat.reduceBEq]; try rfl)) (by first | rfl | assumption) (by simp) (by simp) (by (repeat first | exact (hwf).subm | exact (hwf).suba | refine Sub.drop (by simp) ?_)) (by (repeat first | exact (hwf).subm | exact (hwf).suba | refine Sub.drop (by simp) ?_)))
  · have h1 : decide ((j : Int) < (s.length : Int)) = false := by simp; omega
    (repeat' first | ((first | refine go rfl rfl ?_ | (refine Fk.by_ ?_ ?_ <;> intro hc <;> try simp only [hc]) | refine storeK_eq rfl ?_ | with_reducible refine And.intro ?_ ?_ | fail) <;> try simp only [h1, push_cast, reduceIte, Nat.reduceEqDiff, reduceCtorEq, Nat.reduceAdd, Nat.reduceLeDiff, Nat.reduceBEq]))
    rw [← hr, runTo_stop (atIs_none hge)]
    refine finB (hwf) (by simp only [F32, push_cast, reduceIte, Nat.reduceEqDiff, reduceCtorEq, Nat.reduceAdd, Nat.reduceLeDiff, Nat.reduceBEq]; exact rfl) (by first | exact .inl rfl | (right; simp only [F32, push_cast, reduceIte, Nat.reduceEqDiff, reduceCtorEq, Nat.reduceAdd, Nat.reduceLeDiff, Nat.reduceBEq]; try rfl)) (by first | rfl | assumption) (by simp) (by simp) (by (repeat first | exact (hwf).subm | exact (hwf).suba | refine Sub.drop (by simp) ?_)) (by (repeat first | exact (hwf).subm | exact (hwf).suba | refine Sub.drop (by simp) ?_))

def numEnd (s : List UInt8) (i : Nat) : Nat := if atIs (isB 46) s (runTo digB s i) && atIs digB s (runTo digB s i + 1) then runTo digB s (runTo digB s i + 1) else runTo digB s i

theorem number_v {s : List UInt8} {i : Nat} (st : St) (hi : i ≤ s.length) (hs : s.length < 140737488355328) : VRet Try.prog 35 [.str s, .int .i64 (i : Int)] st (.int .i64 (numEnd s i : Nat)) st := by
  refine VCalls_of F35_ok mixed (Nat.le_of_ble_eq_true rfl) (fun hwf => ?_)
  unfold numEnd
  obtain ⟨d, hd⟩ : ∃ d, runTo digB s i = d := ⟨_, rfl⟩
  have hdl : d ≤ s.length := by rw [← hd]; exact runTo_le hi
  obtain ⟨c, hdc⟩ : ∃ c, runTo digB s (d + 1) = c := ⟨_, rfl⟩
  rw [hd, hdc]
  have key : ∀ j : Nat, j = d → WT Try.prog F35.N F35.T 14 [(1, .int .i64 (j : Int)), (0, .str s)] st (seqT Try.prog F35.N F35.T 30 (finQ F35.res st.nx fun x z => x = .ret (.int .i64 ((if (atIs (isB 46) s d && atIs digB s (d + 1)) = true then c else d : Nat) : Int)) ∧ z = st)) := by
    intro j ej
    rw [ej]
    clear ej
    have hw : IntKind.i64.wrap ((d : Int) + 1) = (d : Int) + 1 := wrap64 (by omega) (by omega)
    rcases Nat.lt_or_ge (d + 1) s.length with hlt | hge
    · obtain ⟨b, hb⟩ : ∃ b, s[d]? = some b := ⟨_, List.getElem?_eq_getElem (by omega)⟩
      obtain ⟨b2, hb2⟩ : ∃ b, s[d + 1]? = some b := ⟨_, List.getElem?_eq_getElem (by omega)⟩
      have h1 : decide ((d : Int) + 1 < (s.length : Int)) = true := by simp; omega
      rw [atIs_some hb, atIs_some hb2]
      (repeat' first | ((first | refine go rfl rfl ?_ | refine Cl.by_ (by (first | refine digit_v _ _)) ?_ | (refine Fk.by_ ?_ ?_ <;> intro hc <;> try simp only [hc]) | refine storeK_eq rfl ?_ | with_reducible refine And.intro ?_ ?_ | fail) <;> try simp only [h1, hb, hb2, hw, push_cast, reduceIte, Nat.reduceEqDiff, reduceCtorEq, Nat.reduceAdd, Nat.reduceLeDiff, Nat.reduceBEq]))
      · have hc2 : ((isB 46 b && digB b2) = true) = True := by simp [isB, digB, *]
        simp only [hc2, if_true]
        refine WT_loop rfl (fun n e z => ∃ j : Nat, n = s.length - j ∧ j ≤ s.length ∧ runTo digB s j = c ∧ e = [(1, .int .i64 (j : Int)), (0, .str s)] ∧ z = st) st.nx (Nat.le_refl _) (by rintro _ _ _ ⟨j, _, _, _, _, rfl⟩; rfl)
          ⟨_, _, _, ⟨d + 1, rfl, by omega, hdc, rfl, rfl⟩, (by repeat first | exact .nil | refine .cons (by first | rfl | (simp [V.bd, V.bdL]; try omega)) (by first | rfl | simp only [push_cast, reduceIte, Nat.reduceEqDiff, reduceCtorEq, Nat.reduceAdd, Nat.reduceLeDiff, Nat.reduceBEq]) ?_), .refl hwf⟩ ?_
        rintro n e z ⟨j, rfl, hj, hr, rfl, rfl⟩
        rcases Nat.lt_or_ge j s.length with hlt | hge
        · obtain ⟨b, hb⟩ : ∃ b, s[j]? = some b := ⟨_, List.getElem?_eq_getElem hlt⟩
          have h1 : decide ((j : Int) < (s.length : Int)) = true := by simp; omega
          have hw : IntKind.i64.wrap ((j : Int) + 1) = (j : Int) + 1 := wrap64 (by omega) (by omega)
          have h5 : ∀ x, isDig b.toNat = x → atIs digB s j = x := fun x h => by rw [atIs_some hb]; exact h
          (repeat' first | ((first | refine go rfl rfl ?_ | refine Cl.by_ (by (first | refine digit_v _ _)) ?_ | (refine Fk.by_ ?_ ?_ <;> intro hc <;> try simp only [hc]) | refine storeK_eq rfl ?_ | with_reducible refine And.intro ?_ ?_ | fail) <;> try simp only [h1, hb, hw, push_cast, reduceIte, Nat.reduceEqDiff, reduceCtorEq, Nat.reduceAdd, Nat.reduceLeDiff, Nat.reduceBEq]))
          · exact ⟨_, _, _, by omega, ⟨j + 1, rfl, by omega, by rw [(runTo_go (h5 true hc)).1, hr], rfl, rfl⟩, (by repeat first | exact .nil | refine .cons (by first | rfl | (simp [V.bd, V.bdL]; try omega)) (by first | rfl | simp only [push_cast, reduceIte, Nat.reduceEqDiff, reduceCtorEq, Nat.reduceAdd, Nat.reduceLeDiff, Nat.reduceBEq]) ?_), .refl hwf⟩
          · rw [← hr, runTo_stop (h5 false hc)]
            refine finB (hwf) (by simp only [F35, push_cast, reduceIte, Nat.reduceEqDiff, reduceCtorEq, Nat.reduceAdd, Nat.reduceLeDiff, Nat.reduceBEq]; exact rfl) (by first | exact .inl rfl | (right; simp only [F35, push_cast, reduceIte, Nat.reduceEqDiff, reduceCtorEq, Nat.reduceAdd, Nat.reduceLeDiff, Nat.reduceBEq]; try rfl)) (by first | rfl | assumption) (by simp) (by simp) (by (repeat first | exact (hwf).subm | exact (hwf).suba | refine Sub.drop (by simp) ?_)) (by (repeat first | exact (hwf).subm | exact (hwf).suba | refine Sub.drop (by simp) ?_))
        · have h1 : decide ((j : Int) < (s.length : Int)) = false := by simp; omega
          (repeat' first | ((first | refine go rfl rfl ?_ | (refine Fk.by_ ?_ ?_ <;> intro hc <;> try simp only [hc]) | refine storeK_eq rfl ?_ | with_reducible refine And.intro ?_ ?_ | fail) <;> try simp only [h1, push_cast, reduceIte, Nat.reduceEqDiff, reduceCtorEq, Nat.reduceAdd, Nat.reduceLeDiff, Nat.reduceBEq]))
          rw [← hr, runTo_stop (atIs_none hge)]
          refine finB (hwf) (by simp only [F35, push_cast, reduceIte, Nat.reduceEqDiff, reduceCtorEq, Nat.reduceAdd, Nat.reduceLeDiff, Nat.reduceBEq]; exact rfl) (by first | exact .inl rfl | (right; simp only [F35, push_cast, reduceIte, Nat.reduceEqDiff, reduceCtorEq, Nat.reduceAdd, Nat.reduceLeDiff, Nat.reduceBEq]; try rfl)) (by first | rfl | assumption) (by simp) (by simp) (by (repeat first | exact (hwf).subm | exact (hwf).suba | refine Sub.drop (by simp) ?_)) (by (repeat first | exact (hwf).subm | exact (hwf).suba | refine Sub.drop (by simp) ?_))
      all_goals
        have hc2 : ((isB 46 b && digB b2) = true) = False := by simp [isB, digB, *]
        simp only [hc2, if_false]
        refine finB (hwf) (by simp only [F35, push_cast, reduceIte, Nat.reduceEqDiff, reduceCtorEq, Nat.reduceAdd, Nat.reduceLeDiff, Nat.reduceBEq]; exact rfl) (by first | exact .inl rfl | (right; simp only [F35, push_cast, reduceIte, Nat.reduceEqDiff, reduceCtorEq, Nat.reduceAdd, Nat.reduceLeDiff, Nat.reduceBEq]; try rfl)) (by first | rfl | assumption) (by simp) (by simp) (by (repeat first | exact (hwf).subm | exact (hwf).suba | refine Sub.drop (by simp) ?_)) (by (repeat first | exact (hwf).subm | exact (hwf).suba | refine Sub.drop (by simp) ?_))
    · have h1 : decide ((d : Int) + 1 < (s.length : Int)) = false := by simp; omega
      rw [atIs_none (i := d + 1) (by omega)]
      simp only [Bool.and_false, Bool.false_eq_true, if_false]
      (repeat' first | ((first | refine go rfl rfl ?_ | (refine Fk.by_ ?_ ?_ <;> intro hc <;> try simp only [hc]) | refine storeK_eq rfl ?_ | with_reducible refine And.intro ?_ ?_ | fail) <;> try simp only [h1, hw, push_cast, reduceIte, Nat.reduceEqDiff, reduceCtorEq, Nat.reduceAdd, Nat.reduceLeDiff, Nat.reduceBEq]))
      refine finB (hwf) (by simp only [F35, push_cast, reduceIte, Nat.reduceEqDiff, reduceCtorEq, Nat.reduceAdd, Nat.reduceLeDiff, Nat.reduceBEq]; exact rfl) (by first | exact .inl rfl | (right; simp only [F35, push_cast, reduceIte, Nat.reduceEqDiff, reduceCtorEq, Nat.reduceAdd, Nat.reduceLeDiff, Nat.reduceBEq]; try rfl)) (by first | rfl | assumption) (by simp) (by simp) (by (repeat first | exact (hwf).subm | exact (hwf).suba | refine Sub.drop (by simp) ?_)) (by (repeat first | exact (hwf).subm | exact (hwf).suba | refine Sub.drop (by simp) ?_))
  (repeat' first | ((first | refine go rfl rfl ?_ | (refine Fk.by_ ?_ ?_ <;> intro hc <;> try simp only [hc]) | refine storeK_eq rfl ?_ | with_reducible refine And.intro ?_ ?_ | fail) <;> try simp only [push_cast, reduceIte, Nat.reduceEqDiff, reduceCtorEq, Nat.reduceAdd, Nat.reduceLeDiff, Nat.reduceBEq]))
  refine WT_loop rfl (fun n e z => ∃ j : Nat, n = s.length - j ∧ j ≤ s.length ∧ runTo digB s j = d ∧ e = [(1, .int .i64 (j : Int)), (0, .str s)] ∧ z = st) st.nx (Nat.le_refl _) (by rintro _ _ _ ⟨j, _, _, _, _, rfl⟩; rfl)
    ⟨_, _, _, ⟨i, rfl, hi, hd, rfl, rfl⟩, (by repeat first | exact .nil | refine .cons (by first | rfl | (simp [V.bd, V.bdL]; try omega)) (by first | rfl | simp only [push_cast, reduceIte, Nat.reduceEqDiff, reduceCtorEq, Nat.reduceAdd, Nat.reduceLeDiff, Nat.reduceBEq]) ?_), .refl hwf⟩ ?_
  rintro n e z ⟨j, rfl, hj, hr, rfl, rfl⟩
  rcases Nat.lt_or_ge j s.length with hlt | hge
  · obtain ⟨b, hb⟩ : ∃ b, s[j]? = some b := ⟨_, List.getElem?_eq_getElem hlt⟩
    have h1 : decide ((j : Int) < (s.length : Int)) = true := by simp; omega
    have hw : IntKind.i64.wrap ((j : Int) + 1) = (j : Int) + 1 := wrap64 (by omega) (by omega)
    have h5 : ∀ x, isDig b.toNat = x → atIs digB s j = x := fun x h => by rw [atIs_some hb]; exact h
    (repeat' first | exact WT_env (by repeat first | exact .nil | refine .cons (by first | rfl | simp only [push_cast, reduceIte, Nat.reduceEqDiff, reduceCtorEq, Nat.reduceAdd, Nat.reduceLeDiff, Nat.reduceBEq]) ?_) (key j (by rw [← hr, runTo_stop (h5 false hc)])) | ((first | refine go rfl rfl ?_ | refine Cl.by_ (by (first | refine digit_v _ _)) ?_ | (refine Fk.by_ ?_ ?_ <;> intro hc <;> try simp only [hc]) | refine storeK_eq rfl ?_ | with_reducible refine And.intro ?_ ?_ | fail) <;> try simp only [h1, hb, hw, push_cast, reduceIte, Nat.reduceEqDiff, reduceCtorEq, Nat.reduceAdd, Nat.reduceLeDiff, Nat.reduceBEq]))
    exact ⟨_, _, _, by omega, ⟨j + 1, rfl, by omega, by rw [(runTo_go (h5 true hc)).1, hr], rfl, rfl⟩, (by repeat first | exact .nil | refine .cons (by first | rfl | (simp [V.bd, V.bdL]; try omega)) (by first | rfl | simp only [push_cast, reduceIte, Nat.reduceEqDiff, reduceCtorEq, Nat.reduceAdd, Nat.reduceLeDiff, Nat.reduceBEq]) ?_), .refl hwf⟩
  · have h1 : decide ((j : Int) < (s.length : Int)) = false := by simp; omega
    (repeat' first | exact WT_env (by repeat first | exact .nil | refine .cons (by first | rfl | simp only [push_cast, reduceIte, Nat.reduceEqDiff, reduceCtorEq, Nat.reduceAdd, Nat.reduceLeDiff, Nat.reduceBEq]) ?_) (key j (by rw [← hr, runTo_stop (atIs_none hge)])) | ((first | refine go rfl rfl ?_ | (refine Fk.by_ ?_ ?_ <;> intro hc <;> try simp only [hc]) | refine storeK_eq rfl ?_ | with_reducible refine And.intro ?_ ?_ | fail) <;> try simp only [h1, push_cast, reduceIte, Nat.reduceEqDiff, reduceCtorEq, Nat.reduceAdd, Nat.reduceLeDiff, Nat.reduceBEq]))
end Go.Proofs.Ytajbgangpipheaa
