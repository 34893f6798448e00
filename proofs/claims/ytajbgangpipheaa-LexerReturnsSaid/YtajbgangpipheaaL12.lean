/- Word and Number. -/
import Derived.Test.YtajbgangpipheaaL11
set_option linter.unusedSimpArgs false
set_option linter.unusedVariables false
namespace Go.Proofs.Ytajbgangpipheaa
open Go.Sha

def IsWord (s : List UInt8) : Prop := atIs letB s 0 = true ∧ runTo wrdB s 0 = s.length ∧ s.map lowB = s
def IsNumber (s : List UInt8) : Prop := atIs digB s 0 = true ∧ numEnd s 0 = s.length
open Classical in
noncomputable def wordN (s : List UInt8) : Int := if IsWord s then (if 24 < s.length then 13 else 0) else 8
open Classical in
noncomputable def numN (s : List UInt8) : Int := if IsNumber s then 0 else 3

theorem noBlank {ok : UInt8 → Bool} {s : List UInt8} (h : atIs ok s 0 = true) (hok : ∀ b, ok b = true → isB 32 b = false) : runTo (isB 32) s 0 = 0 := by
  refine runTo_stop ?_
  unfold atIs at h ⊢
  cases hs : s[0]? with
  | none => rfl
  | some b => rw [hs] at h; exact hok b h
theorem letB_32 (b : UInt8) (h : letB b = true) : isB 32 b = false := by
  simp only [letB, isLet, isB] at h ⊢; simp at h ⊢; omega
theorem digB_32 (b : UInt8) (h : digB b = true) : isB 32 b = false := by
  simp only [digB, isDig, isB] at h ⊢; simp at h ⊢; omega
theorem atIs_not {ok ok' : UInt8 → Bool} {s : List UInt8} (h : atIs ok s 0 = true) (hok : ∀ b, ok b = true → ok' b = false) : atIs ok' s 0 = false := by
  unfold atIs at h ⊢
  cases hs : s[0]? with
  | none => rfl
  | some b => rw [hs] at h; exact hok b h

theorem one_word {s : List UInt8} (h : IsWord s) : oneR s = (tokV 0 s 0, true) := by
  obtain ⟨h1, h2, h3⟩ := h
  have := atIs_lt h1
  unfold oneR
  rw [noBlank h1 letB_32]
  unfold lexAt
  rw [if_neg (by omega), h1, h2]
  simp [h3]

theorem word_of {s : List UInt8} {t : List UInt8} (h : lexAt s 0 = some (0, t, s.length)) (ht : t = s) (hq : atIs (isB 34) s 0 = false) : IsWord s := by
  unfold lexAt at h
  split at h
  · cases h
  · split at h
    · rename_i h1
      simp only [Option.some.injEq, Prod.mk.injEq, true_and, List.drop_zero] at h
      obtain ⟨h2, h3⟩ := h
      rw [h3, List.take_length] at h2
      exact ⟨h1, h3, h2.trans ht⟩
    · rw [hq] at h
      simp only [Bool.false_eq_true, if_false] at h
      split at h
      · split at h <;> simp at h
      · split at h <;> simp at h

theorem one_number {s : List UInt8} (h : IsNumber s) : oneR s = (tokV 1 s 0, true) := by
  obtain ⟨h1, h2⟩ := h
  have := atIs_lt h1
  unfold oneR
  rw [noBlank h1 digB_32]
  have hl : lexAt s 0 = some (1, s, s.length) := by
    unfold lexAt numEnd at *
    rw [if_neg (by omega), atIs_not h1 (ok' := letB) (fun b hb => by simp only [digB, isDig, letB, isLet] at hb ⊢; simp at hb ⊢; omega), atIs_not h1 (ok' := isB 34) (fun b hb => by simp only [digB, isDig, isB] at hb ⊢; simp at hb ⊢; omega), h1]
    simp only [Bool.false_eq_true, if_false, if_true]
    split at h2
    · rename_i hd; rw [if_pos hd, h2]; simp
    · rename_i hd; rw [if_neg hd, h2]; simp
  rw [hl]
  simp

theorem number_of {s : List UInt8} {t : List UInt8} (h : lexAt s 0 = some (1, t, s.length)) : IsNumber s := by
  unfold lexAt at h
  split at h
  · simp at h
  · split at h
    · simp at h
    · split at h
      · split at h <;> simp at h
      · split at h
        · rename_i h1
          refine ⟨h1, ?_⟩
          unfold numEnd
          split at h
          · rename_i h2
            rw [if_pos h2]; simp at h; exact h.2
          · rename_i h2
            rw [if_neg h2]; simp at h; exact h.2
        · split at h <;> simp at h

theorem Word_v (s : List UInt8) (st : St) (hs : s.length < 140737488355328) : VRet Try.prog 16 [.str s] st (.int .i64 (wordN s)) st := by
  refine VCalls_of F16_ok mixed (Nat.le_of_ble_eq_true rfl) (fun hwf => ?_)
  by_cases h : IsWord s
  · have ho := one_word h
    obtain ⟨x, hx⟩ : ∃ x, s[0]? = some x := ⟨_, List.getElem?_eq_getElem (atIs_lt h.1)⟩
    have hx2 : ((x.toNat : Int) == 34) = false := by have := atIs_not h.1 (ok' := isB 34) (fun b hb => by simp only [letB, isLet, isB] at hb ⊢; simp at hb ⊢; omega); rw [atIs_some hx] at this; exact this
    have hk : ((0 : Int) != 0) = false := rfl
    have ht : (s != s) = false := by simp
    have hw : wordN s = if 24 < s.length then 13 else 0 := if_pos h
    by_cases hl : 24 < s.length
    · have h0 : decide ((24 : Int) < (s.length : Int)) = true := decide_eq_true (by omega)
      rw [hw, if_pos hl]
      (repeat' first | ((first | refine go rfl rfl ?_ | refine Cl.by_ (by (first | refine one_v _ _ hs)) ?_ | (refine Fk.by_ ?_ ?_ <;> intro hc <;> try simp only [hc]) | refine storeK_eq rfl ?_ | with_reducible refine And.intro ?_ ?_ | fail) <;> try simp only [cells_tokV, ho, hx, hx2, hk, ht, h0, push_cast, reduceIte, Nat.reduceEqDiff, reduceCtorEq, Nat.reduceAdd, Nat.reduceLeDiff, Nat.reduceBEq]))
      refine finB (hwf) (by simp only [F16, push_cast, reduceIte, Nat.reduceEqDiff, reduceCtorEq, Nat.reduceAdd, Nat.reduceLeDiff, Nat.reduceBEq]; exact rfl) (by first | exact .inl rfl | (right; simp only [F16, push_cast, reduceIte, Nat.reduceEqDiff, reduceCtorEq, Nat.reduceAdd, Nat.reduceLeDiff, Nat.reduceBEq]; try rfl)) (by first | rfl | assumption) (by simp) (by simp) (by (repeat first | exact (hwf).subm | exact (hwf).suba | refine Sub.drop (by simp) ?_)) (by (repeat first | exact (hwf).subm | exact (hwf).suba | refine Sub.drop (by simp) ?_))
    · have h0 : decide ((24 : Int) < (s.length : Int)) = false := decide_eq_false (by omega)
      rw [hw, if_neg hl]
      (repeat' first | ((first | refine go rfl rfl ?_ | refine Cl.by_ (by (first | refine one_v _ _ hs)) ?_ | (refine Fk.by_ ?_ ?_ <;> intro hc <;> try simp only [hc]) | refine storeK_eq rfl ?_ | with_reducible refine And.intro ?_ ?_ | fail) <;> try simp only [cells_tokV, ho, hx, hx2, hk, ht, h0, push_cast, reduceIte, Nat.reduceEqDiff, reduceCtorEq, Nat.reduceAdd, Nat.reduceLeDiff, Nat.reduceBEq]))
      refine finB (hwf) (by simp only [F16, push_cast, reduceIte, Nat.reduceEqDiff, reduceCtorEq, Nat.reduceAdd, Nat.reduceLeDiff, Nat.reduceBEq]; exact rfl) (by first | exact .inl rfl | (right; simp only [F16, push_cast, reduceIte, Nat.reduceEqDiff, reduceCtorEq, Nat.reduceAdd, Nat.reduceLeDiff, Nat.reduceBEq]; try rfl)) (by first | rfl | assumption) (by simp) (by simp) (by (repeat first | exact (hwf).subm | exact (hwf).suba | refine Sub.drop (by simp) ?_)) (by (repeat first | exact (hwf).subm | exact (hwf).suba | refine Sub.drop (by simp) ?_))
  · have hw : wordN s = 8 := if_neg h
    rw [hw]
    obtain ⟨k, t, a, b, ho, hb⟩ := oneR_ex s
    cases b with
    | false =>
      (repeat' first | ((first | refine go rfl rfl ?_ | refine Cl.by_ (by (first | refine one_v _ _ hs)) ?_ | (refine Fk.by_ ?_ ?_ <;> intro hc <;> try simp only [hc]) | refine storeK_eq rfl ?_ | with_reducible refine And.intro ?_ ?_ | fail) <;> try simp only [cells_tokV, ho, push_cast, reduceIte, Nat.reduceEqDiff, reduceCtorEq, Nat.reduceAdd, Nat.reduceLeDiff, Nat.reduceBEq]))
      refine finB (hwf) (by simp only [F16, push_cast, reduceIte, Nat.reduceEqDiff, reduceCtorEq, Nat.reduceAdd, Nat.reduceLeDiff, Nat.reduceBEq]; exact rfl) (by first | exact .inl rfl | (right; simp only [F16, push_cast, reduceIte, Nat.reduceEqDiff, reduceCtorEq, Nat.reduceAdd, Nat.reduceLeDiff, Nat.reduceBEq]; try rfl)) (by first | rfl | assumption) (by simp) (by simp) (by (repeat first | exact (hwf).subm | exact (hwf).suba | refine Sub.drop (by simp) ?_)) (by (repeat first | exact (hwf).subm | exact (hwf).suba | refine Sub.drop (by simp) ?_))
    | true =>
      obtain ⟨_, h3, _, h4⟩ := hb rfl
      obtain ⟨x, hx⟩ : ∃ x, s[0]? = some x := ⟨_, List.getElem?_eq_getElem (by have := one_ne h4 h3; exact List.length_pos_iff.2 this)⟩
      cases hk : (k != 0) with
      | true =>
        (repeat' first | ((first | refine go rfl rfl ?_ | refine Cl.by_ (by (first | refine one_v _ _ hs)) ?_ | (refine Fk.by_ ?_ ?_ <;> intro hc <;> try simp only [hc]) | refine storeK_eq rfl ?_ | with_reducible refine And.intro ?_ ?_ | fail) <;> try simp only [cells_tokV, ho, hx, hk, push_cast, reduceIte, Nat.reduceEqDiff, reduceCtorEq, Nat.reduceAdd, Nat.reduceLeDiff, Nat.reduceBEq]))
        refine finB (hwf) (by simp only [F16, push_cast, reduceIte, Nat.reduceEqDiff, reduceCtorEq, Nat.reduceAdd, Nat.reduceLeDiff, Nat.reduceBEq]; exact rfl) (by first | exact .inl rfl | (right; simp only [F16, push_cast, reduceIte, Nat.reduceEqDiff, reduceCtorEq, Nat.reduceAdd, Nat.reduceLeDiff, Nat.reduceBEq]; try rfl)) (by first | rfl | assumption) (by simp) (by simp) (by (repeat first | exact (hwf).subm | exact (hwf).suba | refine Sub.drop (by simp) ?_)) (by (repeat first | exact (hwf).subm | exact (hwf).suba | refine Sub.drop (by simp) ?_))
      | false =>
        cases ht : (t != s) with
        | true =>
          (repeat' first | ((first | refine go rfl rfl ?_ | refine Cl.by_ (by (first | refine one_v _ _ hs)) ?_ | (refine Fk.by_ ?_ ?_ <;> intro hc <;> try simp only [hc]) | refine storeK_eq rfl ?_ | with_reducible refine And.intro ?_ ?_ | fail) <;> try simp only [cells_tokV, ho, hx, hk, ht, push_cast, reduceIte, Nat.reduceEqDiff, reduceCtorEq, Nat.reduceAdd, Nat.reduceLeDiff, Nat.reduceBEq]))
          refine finB (hwf) (by simp only [F16, push_cast, reduceIte, Nat.reduceEqDiff, reduceCtorEq, Nat.reduceAdd, Nat.reduceLeDiff, Nat.reduceBEq]; exact rfl) (by first | exact .inl rfl | (right; simp only [F16, push_cast, reduceIte, Nat.reduceEqDiff, reduceCtorEq, Nat.reduceAdd, Nat.reduceLeDiff, Nat.reduceBEq]; try rfl)) (by first | rfl | assumption) (by simp) (by simp) (by (repeat first | exact (hwf).subm | exact (hwf).suba | refine Sub.drop (by simp) ?_)) (by (repeat first | exact (hwf).subm | exact (hwf).suba | refine Sub.drop (by simp) ?_))
        | false =>
          have hx2 : ((x.toNat : Int) == 34) = true := by
            cases hq : ((x.toNat : Int) == 34) with
            | true => rfl
            | false =>
              have hk0 : k = 0 := by simpa [bne] using hk
              subst hk0
              exact absurd (word_of h4 (by simpa [bne] using ht) (by rw [atIs_some hx]; exact hq)) h
          (repeat' first | ((first | refine go rfl rfl ?_ | refine Cl.by_ (by (first | refine one_v _ _ hs)) ?_ | (refine Fk.by_ ?_ ?_ <;> intro hc <;> try simp only [hc]) | refine storeK_eq rfl ?_ | with_reducible refine And.intro ?_ ?_ | fail) <;> try simp only [cells_tokV, ho, hx, hk, ht, hx2, push_cast, reduceIte, Nat.reduceEqDiff, reduceCtorEq, Nat.reduceAdd, Nat.reduceLeDiff, Nat.reduceBEq]))
          refine finB (hwf) (by simp only [F16, push_cast, reduceIte, Nat.reduceEqDiff, reduceCtorEq, Nat.reduceAdd, Nat.reduceLeDiff, Nat.reduceBEq]; exact rfl) (by first | exact .inl rfl | (right; simp only [F16, push_cast, reduceIte, Nat.reduceEqDiff, reduceCtorEq, Nat.reduceAdd, Nat.reduceLeDiff, Nat.reduceBEq]; try rfl)) (by first | rfl | assumption) (by simp) (by simp) (by (repeat first | exact (hwf).subm | exact (hwf).suba | refine Sub.drop (by simp) ?_)) (by (repeat first | exact (hwf).subm | exact (hwf).suba | refine Sub.drop (by simp) ?_))

theorem refWord_v (s : List UInt8) (st : St) (hs : s.length < 140737488355328) : VRet Try.prog 17 [.str s] st (.int .i64 (wordN s)) st := by
  refine VCalls_of F17_ok mixed (Nat.le_of_ble_eq_true rfl) (fun hwf => ?_)
  cases s with
  | nil =>
    have hw : wordN [] = 8 := if_neg (fun h => by cases h.1)
    have h0 : (([] : List UInt8) == []) = true := rfl
    rw [hw]
    (repeat' first | ((first | refine go rfl rfl ?_ | (refine Fk.by_ ?_ ?_ <;> intro hc <;> try simp only [hc]) | refine storeK_eq rfl ?_ | with_reducible refine And.intro ?_ ?_ | fail) <;> try simp only [h0, push_cast, reduceIte, Nat.reduceEqDiff, reduceCtorEq, Nat.reduceAdd, Nat.reduceLeDiff, Nat.reduceBEq]))
    refine finB (hwf) (by simp only [F17, push_cast, reduceIte, Nat.reduceEqDiff, reduceCtorEq, Nat.reduceAdd, Nat.reduceLeDiff, Nat.reduceBEq]; exact rfl) (by first | exact .inl rfl | (right; simp only [F17, push_cast, reduceIte, Nat.reduceEqDiff, reduceCtorEq, Nat.reduceAdd, Nat.reduceLeDiff, Nat.reduceBEq]; try rfl)) (by first | rfl | assumption) (by simp) (by simp) (by (repeat first | exact (hwf).subm | exact (hwf).suba | refine Sub.drop (by simp) ?_)) (by (repeat first | exact (hwf).subm | exact (hwf).suba | refine Sub.drop (by simp) ?_))
  | cons x s' =>
    have h0 : ((x :: s') == []) = false := rfl
    obtain ⟨s, hse⟩ : ∃ s, x :: s' = s := ⟨_, rfl⟩
    have hx : s[0]? = some x := by rw [← hse]; rfl
    rw [hse] at hs h0 ⊢
    have e1 : atIs letB s 0 = isLet x.toNat := atIs_some hx
    cases hl : isLet x.toNat with
    | false =>
      have hw : wordN s = 8 := if_neg (fun h => by rw [h.1, hl] at e1; cases e1)
      rw [hw]
      (repeat' first | ((first | refine go rfl rfl ?_ | refine Cl.by_ (by (first | refine letter_v _ _ | refine word_v (i := 0) _ (Nat.zero_le _) hs)) ?_ | (refine Fk.by_ ?_ ?_ <;> intro hc <;> try simp only [hc]) | refine storeK_eq rfl ?_ | with_reducible refine And.intro ?_ ?_ | fail) <;> try simp only [h0, hx, hl, push_cast, reduceIte, Nat.reduceEqDiff, reduceCtorEq, Nat.reduceAdd, Nat.reduceLeDiff, Nat.reduceBEq]))
      refine finB (hwf) (by simp only [F17, push_cast, reduceIte, Nat.reduceEqDiff, reduceCtorEq, Nat.reduceAdd, Nat.reduceLeDiff, Nat.reduceBEq]; exact rfl) (by first | exact .inl rfl | (right; simp only [F17, push_cast, reduceIte, Nat.reduceEqDiff, reduceCtorEq, Nat.reduceAdd, Nat.reduceLeDiff, Nat.reduceBEq]; try rfl)) (by first | rfl | assumption) (by simp) (by simp) (by (repeat first | exact (hwf).subm | exact (hwf).suba | refine Sub.drop (by simp) ?_)) (by (repeat first | exact (hwf).subm | exact (hwf).suba | refine Sub.drop (by simp) ?_))
    | true =>
      by_cases hr : runTo wrdB s 0 = s.length
      · have hr2 : (((runTo wrdB s 0 : Nat) : Int) != (s.length : Int)) = false := by simp [hr]
        have hasc : ∀ b ∈ s, b.toNat < 128 := by
          have := run_ascii (runTo_all (ok := wrdB) (s := s) _ _ rfl : ∀ k, 0 ≤ k → k < runTo wrdB s 0 → _)
          rw [hr, List.take_length, List.drop_zero] at this
          exact this
        cases hm : (s.map lowB != s) with
        | true =>
          have hw : wordN s = 8 := if_neg (fun h => by rw [h.2.2] at hm; simp at hm)
          rw [hw]
          (repeat' first | ((first | refine go rfl rfl ?_ | refine Cl.by_ (by (first | refine letter_v _ _ | refine word_v (i := 0) _ (Nat.zero_le _) hs | refine Lower_v _ hasc hs)) ?_ | (refine Fk.by_ ?_ ?_ <;> intro hc <;> try simp only [hc]) | refine storeK_eq rfl ?_ | with_reducible refine And.intro ?_ ?_ | fail) <;> try simp only [h0, hx, hl, hr2, hm, push_cast, reduceIte, Nat.reduceEqDiff, reduceCtorEq, Nat.reduceAdd, Nat.reduceLeDiff, Nat.reduceBEq]))
          refine finB (hwf) (by simp only [F17, push_cast, reduceIte, Nat.reduceEqDiff, reduceCtorEq, Nat.reduceAdd, Nat.reduceLeDiff, Nat.reduceBEq]; exact rfl) (by first | exact .inl rfl | (right; simp only [F17, push_cast, reduceIte, Nat.reduceEqDiff, reduceCtorEq, Nat.reduceAdd, Nat.reduceLeDiff, Nat.reduceBEq]; try rfl)) (by first | rfl | assumption) (by simp) (by simp) (by (repeat first | exact (hwf).subm | exact (hwf).suba | refine Sub.drop (by simp) ?_)) (by (repeat first | exact (hwf).subm | exact (hwf).suba | refine Sub.drop (by simp) ?_))
        | false =>
          have hw : wordN s = if 24 < s.length then 13 else 0 := if_pos ⟨by rw [e1, hl], hr, by simpa [bne] using hm⟩
          by_cases hl2 : 24 < s.length
          · have h1 : decide ((24 : Int) < (s.length : Int)) = true := decide_eq_true (by omega)
            rw [hw, if_pos hl2]
            (repeat' first | ((first | refine go rfl rfl ?_ | refine Cl.by_ (by (first | refine letter_v _ _ | refine word_v (i := 0) _ (Nat.zero_le _) hs | refine Lower_v _ hasc hs)) ?_ | (refine Fk.by_ ?_ ?_ <;> intro hc <;> try simp only [hc]) | refine storeK_eq rfl ?_ | with_reducible refine And.intro ?_ ?_ | fail) <;> try simp only [h0, hx, hl, hr2, hm, h1, push_cast, reduceIte, Nat.reduceEqDiff, reduceCtorEq, Nat.reduceAdd, Nat.reduceLeDiff, Nat.reduceBEq]))
            refine finB (hwf) (by simp only [F17, push_cast, reduceIte, Nat.reduceEqDiff, reduceCtorEq, Nat.reduceAdd, Nat.reduceLeDiff, Nat.reduceBEq]; exact rfl) (by first | exact .inl rfl | (right; simp only [F17, push_cast, reduceIte, Nat.reduceEqDiff, reduceCtorEq, Nat.reduceAdd, Nat.reduceLeDiff, Nat.reduceBEq]; try rfl)) (by first | rfl | assumption) (by simp) (by simp) (by (repeat first | exact (hwf).subm | exact (hwf).suba | refine Sub.drop (by simp) ?_)) (by (repeat first | exact (hwf).subm | exact (hwf).suba | refine Sub.drop (by simp) ?_))
          · have h1 : decide ((24 : Int) < (s.length : Int)) = false := decide_eq_false (by omega)
            rw [hw, if_neg hl2]
            (repeat' first | ((first | refine go rfl rfl ?_ | refine Cl.by_ (by (first | refine letter_v _ _ | refine word_v (i := 0) _ (Nat.zero_le _) hs | refine Lower_v _ hasc hs)) ?_ | (refine Fk.by_ ?_ ?_ <;> intro hc <;> try simp only [hc]) | refine storeK_eq rfl ?_ | with_reducible refine And.intro ?_ ?_ | fail) <;> try simp only [h0, hx, hl, hr2, hm, h1, push_cast, reduceIte, Nat.reduceEqDiff, reduceCtorEq, Nat.reduceAdd, Nat.reduceLeDiff, Nat.reduceBEq]))
            refine finB (hwf) (by simp only [F17, push_cast, reduceIte, Nat.reduceEqDiff, reduceCtorEq, Nat.reduceAdd, Nat.reduceLeDiff, Nat.reduceBEq]; exact rfl) (by first | exact .inl rfl | (right; simp only [F17, push_cast, reduceIte, Nat.reduceEqDiff, reduceCtorEq, Nat.reduceAdd, Nat.reduceLeDiff, Nat.reduceBEq]; try rfl)) (by first | rfl | assumption) (by simp) (by simp) (by (repeat first | exact (hwf).subm | exact (hwf).suba | refine Sub.drop (by simp) ?_)) (by (repeat first | exact (hwf).subm | exact (hwf).suba | refine Sub.drop (by simp) ?_))
      · have hr2 : (((runTo wrdB s 0 : Nat) : Int) != (s.length : Int)) = true := by simp; omega
        have hw : wordN s = 8 := if_neg (fun h => hr h.2.1)
        rw [hw]
        (repeat' first | ((first | refine go rfl rfl ?_ | refine Cl.by_ (by (first | refine letter_v _ _ | refine word_v (i := 0) _ (Nat.zero_le _) hs)) ?_ | (refine Fk.by_ ?_ ?_ <;> intro hc <;> try simp only [hc]) | refine storeK_eq rfl ?_ | with_reducible refine And.intro ?_ ?_ | fail) <;> try simp only [h0, hx, hl, hr2, push_cast, reduceIte, Nat.reduceEqDiff, reduceCtorEq, Nat.reduceAdd, Nat.reduceLeDiff, Nat.reduceBEq]))
        refine finB (hwf) (by simp only [F17, push_cast, reduceIte, Nat.reduceEqDiff, reduceCtorEq, Nat.reduceAdd, Nat.reduceLeDiff, Nat.reduceBEq]; exact rfl) (by first | exact .inl rfl | (right; simp only [F17, push_cast, reduceIte, Nat.reduceEqDiff, reduceCtorEq, Nat.reduceAdd, Nat.reduceLeDiff, Nat.reduceBEq]; try rfl)) (by first | rfl | assumption) (by simp) (by simp) (by (repeat first | exact (hwf).subm | exact (hwf).suba | refine Sub.drop (by simp) ?_)) (by (repeat first | exact (hwf).subm | exact (hwf).suba | refine Sub.drop (by simp) ?_))

theorem Number_v (s : List UInt8) (st : St) (hs : s.length < 140737488355328) : VRet Try.prog 18 [.str s] st (.int .i64 (numN s)) st := by
  refine VCalls_of F18_ok mixed (Nat.le_of_ble_eq_true rfl) (fun hwf => ?_)
  by_cases h : IsNumber s
  · have ho := one_number h
    have hw : numN s = 0 := if_pos h
    have hk : ((1 : Int) != 1) = false := rfl
    rw [hw]
    (repeat' first | ((first | refine go rfl rfl ?_ | refine Cl.by_ (by (first | refine one_v _ _ hs)) ?_ | (refine Fk.by_ ?_ ?_ <;> intro hc <;> try simp only [hc]) | refine storeK_eq rfl ?_ | with_reducible refine And.intro ?_ ?_ | fail) <;> try simp only [cells_tokV, ho, hk, push_cast, reduceIte, Nat.reduceEqDiff, reduceCtorEq, Nat.reduceAdd, Nat.reduceLeDiff, Nat.reduceBEq]))
    refine finB (hwf) (by simp only [F18, push_cast, reduceIte, Nat.reduceEqDiff, reduceCtorEq, Nat.reduceAdd, Nat.reduceLeDiff, Nat.reduceBEq]; exact rfl) (by first | exact .inl rfl | (right; simp only [F18, push_cast, reduceIte, Nat.reduceEqDiff, reduceCtorEq, Nat.reduceAdd, Nat.reduceLeDiff, Nat.reduceBEq]; try rfl)) (by first | rfl | assumption) (by simp) (by simp) (by (repeat first | exact (hwf).subm | exact (hwf).suba | refine Sub.drop (by simp) ?_)) (by (repeat first | exact (hwf).subm | exact (hwf).suba | refine Sub.drop (by simp) ?_))
  · have hw : numN s = 3 := if_neg h
    rw [hw]
    obtain ⟨k, t, a, b, ho, hb⟩ := oneR_ex s
    cases b with
    | false =>
      (repeat' first | ((first | refine go rfl rfl ?_ | refine Cl.by_ (by (first | refine one_v _ _ hs)) ?_ | (refine Fk.by_ ?_ ?_ <;> intro hc <;> try simp only [hc]) | refine storeK_eq rfl ?_ | with_reducible refine And.intro ?_ ?_ | fail) <;> try simp only [cells_tokV, ho, push_cast, reduceIte, Nat.reduceEqDiff, reduceCtorEq, Nat.reduceAdd, Nat.reduceLeDiff, Nat.reduceBEq]))
      refine finB (hwf) (by simp only [F18, push_cast, reduceIte, Nat.reduceEqDiff, reduceCtorEq, Nat.reduceAdd, Nat.reduceLeDiff, Nat.reduceBEq]; exact rfl) (by first | exact .inl rfl | (right; simp only [F18, push_cast, reduceIte, Nat.reduceEqDiff, reduceCtorEq, Nat.reduceAdd, Nat.reduceLeDiff, Nat.reduceBEq]; try rfl)) (by first | rfl | assumption) (by simp) (by simp) (by (repeat first | exact (hwf).subm | exact (hwf).suba | refine Sub.drop (by simp) ?_)) (by (repeat first | exact (hwf).subm | exact (hwf).suba | refine Sub.drop (by simp) ?_))
    | true =>
      obtain ⟨_, h3, _, h4⟩ := hb rfl
      have hk : (k != 1) = true := by
        cases hk : (k != 1) with
        | true => rfl
        | false =>
          have hk0 : k = 1 := by simpa [bne] using hk
          subst hk0
          exact absurd (number_of h4) h
      (repeat' first | ((first | refine go rfl rfl ?_ | refine Cl.by_ (by (first | refine one_v _ _ hs)) ?_ | (refine Fk.by_ ?_ ?_ <;> intro hc <;> try simp only [hc]) | refine storeK_eq rfl ?_ | with_reducible refine And.intro ?_ ?_ | fail) <;> try simp only [cells_tokV, ho, hk, push_cast, reduceIte, Nat.reduceEqDiff, reduceCtorEq, Nat.reduceAdd, Nat.reduceLeDiff, Nat.reduceBEq]))
      refine finB (hwf) (by simp only [F18, push_cast, reduceIte, Nat.reduceEqDiff, reduceCtorEq, Nat.reduceAdd, Nat.reduceLeDiff, Nat.reduceBEq]; exact rfl) (by first | exact .inl rfl | (right; simp only [F18, push_cast, reduceIte, Nat.reduceEqDiff, reduceCtorEq, Nat.reduceAdd, Nat.reduceLeDiff, Nat.reduceBEq]; try rfl)) (by first | rfl | assumption) (by simp) (by simp) (by (repeat first | exact (hwf).subm | exact (hwf).suba | refine Sub.drop (by simp) ?_)) (by (repeat first | exact (hwf).subm | exact (hwf).suba | refine Sub.drop (by simp) ?_))

theorem refNumber_v (s : List UInt8) (st : St) (hs : s.length < 140737488355328) : VRet Try.prog 19 [.str s] st (.int .i64 (numN s)) st := by
  refine VCalls_of F19_ok mixed (Nat.le_of_ble_eq_true rfl) (fun hwf => ?_)
  cases s with
  | nil =>
    have hw : numN [] = 3 := if_neg (fun h => by cases h.1)
    have h0 : (([] : List UInt8) == []) = true := rfl
    rw [hw]
    (repeat' first | ((first | refine go rfl rfl ?_ | (refine Fk.by_ ?_ ?_ <;> intro hc <;> try simp only [hc]) | refine storeK_eq rfl ?_ | with_reducible refine And.intro ?_ ?_ | fail) <;> try simp only [h0, push_cast, reduceIte, Nat.reduceEqDiff, reduceCtorEq, Nat.reduceAdd, Nat.reduceLeDiff, Nat.reduceBEq]))
    refine finB (hwf) (by simp only [F19, push_cast, reduceIte, Nat.reduceEqDiff, reduceCtorEq, Nat.reduceAdd, Nat.reduceLeDiff, Nat.reduceBEq]; exact rfl) (by first | exact .inl rfl | (right; simp only [F19, push_cast, reduceIte, Nat.reduceEqDiff, reduceCtorEq, Nat.reduceAdd, Nat.reduceLeDiff, Nat.reduceBEq]; try rfl)) (by first | rfl | assumption) (by simp) (by simp) (by (repeat first | exact (hwf).subm | exact (hwf).suba | refine Sub.drop (by simp) ?_)) (by (repeat first | exact (hwf).subm | exact (hwf).suba | refine Sub.drop (by simp) ?_))
  | cons x s' =>
    have h0 : ((x :: s') == []) = false := rfl
    obtain ⟨s, hse⟩ : ∃ s, x :: s' = s := ⟨_, rfl⟩
    have hx : s[0]? = some x := by rw [← hse]; rfl
    rw [hse] at hs h0 ⊢
    have e1 : atIs digB s 0 = isDig x.toNat := atIs_some hx
    cases hl : isDig x.toNat with
    | false =>
      have hw : numN s = 3 := if_neg (fun h => by rw [h.1, hl] at e1; cases e1)
      rw [hw]
      (repeat' first | ((first | refine go rfl rfl ?_ | refine Cl.by_ (by (first | refine digit_v _ _ | refine number_v (i := 0) _ (Nat.zero_le _) hs)) ?_ | (refine Fk.by_ ?_ ?_ <;> intro hc <;> try simp only [hc]) | refine storeK_eq rfl ?_ | with_reducible refine And.intro ?_ ?_ | fail) <;> try simp only [h0, hx, hl, push_cast, reduceIte, Nat.reduceEqDiff, reduceCtorEq, Nat.reduceAdd, Nat.reduceLeDiff, Nat.reduceBEq]))
      refine finB (hwf) (by simp only [F19, push_cast, reduceIte, Nat.reduceEqDiff, reduceCtorEq, Nat.reduceAdd, Nat.reduceLeDiff, Nat.reduceBEq]; exact rfl) (by first | exact .inl rfl | (right; simp only [F19, push_cast, reduceIte, Nat.reduceEqDiff, reduceCtorEq, Nat.reduceAdd, Nat.reduceLeDiff, Nat.reduceBEq]; try rfl)) (by first | rfl | assumption) (by simp) (by simp) (by (repeat first | exact (hwf).subm | exact (hwf).suba | refine Sub.drop (by simp) ?_)) (by (repeat first | exact (hwf).subm | exact (hwf).suba | refine Sub.drop (by simp) ?_))
    | true =>
      by_cases hr : numEnd s 0 = s.length
      · have hr2 : (((numEnd s 0 : Nat) : Int) != (s.length : Int)) = false := by simp [hr]
        have hw : numN s = 0 := if_pos ⟨by rw [e1, hl], hr⟩
        rw [hw]
        (repeat' first | ((first | refine go rfl rfl ?_ | refine Cl.by_ (by (first | refine digit_v _ _ | refine number_v (i := 0) _ (Nat.zero_le _) hs)) ?_ | (refine Fk.by_ ?_ ?_ <;> intro hc <;> try simp only [hc]) | refine storeK_eq rfl ?_ | with_reducible refine And.intro ?_ ?_ | fail) <;> try simp only [h0, hx, hl, hr2, push_cast, reduceIte, Nat.reduceEqDiff, reduceCtorEq, Nat.reduceAdd, Nat.reduceLeDiff, Nat.reduceBEq]))
        refine finB (hwf) (by simp only [F19, push_cast, reduceIte, Nat.reduceEqDiff, reduceCtorEq, Nat.reduceAdd, Nat.reduceLeDiff, Nat.reduceBEq]; exact rfl) (by first | exact .inl rfl | (right; simp only [F19, push_cast, reduceIte, Nat.reduceEqDiff, reduceCtorEq, Nat.reduceAdd, Nat.reduceLeDiff, Nat.reduceBEq]; try rfl)) (by first | rfl | assumption) (by simp) (by simp) (by (repeat first | exact (hwf).subm | exact (hwf).suba | refine Sub.drop (by simp) ?_)) (by (repeat first | exact (hwf).subm | exact (hwf).suba | refine Sub.drop (by simp) ?_))
      · have hr2 : (((numEnd s 0 : Nat) : Int) != (s.length : Int)) = true := by simp; omega
        have hw : numN s = 3 := if_neg (fun h => hr h.2)
        rw [hw]
        (repeat' first | ((first | refine go rfl rfl ?_ | refine Cl.by_ (by (first | refine digit_v _ _ | refine number_v (i := 0) _ (Nat.zero_le _) hs)) ?_ | (refine Fk.by_ ?_ ?_ <;> intro hc <;> try simp only [hc]) | refine storeK_eq rfl ?_ | with_reducible refine And.intro ?_ ?_ | fail) <;> try simp only [h0, hx, hl, hr2, push_cast, reduceIte, Nat.reduceEqDiff, reduceCtorEq, Nat.reduceAdd, Nat.reduceLeDiff, Nat.reduceBEq]))
        refine finB (hwf) (by simp only [F19, push_cast, reduceIte, Nat.reduceEqDiff, reduceCtorEq, Nat.reduceAdd, Nat.reduceLeDiff, Nat.reduceBEq]; exact rfl) (by first | exact .inl rfl | (right; simp only [F19, push_cast, reduceIte, Nat.reduceEqDiff, reduceCtorEq, Nat.reduceAdd, Nat.reduceLeDiff, Nat.reduceBEq]; try rfl)) (by first | rfl | assumption) (by simp) (by simp) (by (repeat first | exact (hwf).subm | exact (hwf).suba | refine Sub.drop (by simp) ?_)) (by (repeat first | exact (hwf).subm | exact (hwf).suba | refine Sub.drop (by simp) ?_))

theorem words_v (s : List UInt8) (st : St) : VRet Try.prog 5 [.str s] st (.bool true) st := by
  refine VCalls_of F5_ok mixed (Nat.le_of_ble_eq_true rfl) (fun hwf => ?_)
  by_cases hl : 400 < s.length
  · have h0 : decide ((400 : Int) < (s.length : Int)) = true := decide_eq_true (by omega)
    (repeat' first | ((first | refine go rfl rfl ?_ | refine Cl.by_ (by (first | refine awake_v _)) ?_ | (refine Fk.by_ ?_ ?_ <;> intro hc <;> try simp only [hc]) | refine storeK_eq rfl ?_ | with_reducible refine And.intro ?_ ?_ | fail) <;> try simp only [h0, push_cast, reduceIte, Nat.reduceEqDiff, reduceCtorEq, Nat.reduceAdd, Nat.reduceLeDiff, Nat.reduceBEq]))
    refine finB (hwf) (by simp only [F5, push_cast, reduceIte, Nat.reduceEqDiff, reduceCtorEq, Nat.reduceAdd, Nat.reduceLeDiff, Nat.reduceBEq]; exact rfl) (by first | exact .inl rfl | (right; simp only [F5, push_cast, reduceIte, Nat.reduceEqDiff, reduceCtorEq, Nat.reduceAdd, Nat.reduceLeDiff, Nat.reduceBEq]; try rfl)) (by first | rfl | assumption) (by simp) (by simp) (by (repeat first | exact (hwf).subm | exact (hwf).suba | refine Sub.drop (by simp) ?_)) (by (repeat first | exact (hwf).subm | exact (hwf).suba | refine Sub.drop (by simp) ?_))
  · have h0 : decide ((400 : Int) < (s.length : Int)) = false := decide_eq_false (by omega)
    have hs : s.length < 140737488355328 := by omega
    (repeat' first | ((first | refine go rfl rfl ?_ | refine Cl.by_ (by (first | refine awake_v _ | refine Word_v _ _ hs | refine refWord_v _ _ hs | refine Number_v _ _ hs | refine refNumber_v _ _ hs)) ?_ | (refine Fk.by_ ?_ ?_ <;> intro hc <;> try simp only [hc]) | refine storeK_eq rfl ?_ | with_reducible refine And.intro ?_ ?_ | fail) <;> try simp only [h0, BEq.rfl, push_cast, reduceIte, Nat.reduceEqDiff, reduceCtorEq, Nat.reduceAdd, Nat.reduceLeDiff, Nat.reduceBEq]))
    refine finB (hwf) (by simp only [F5, push_cast, reduceIte, Nat.reduceEqDiff, reduceCtorEq, Nat.reduceAdd, Nat.reduceLeDiff, Nat.reduceBEq]; exact rfl) (by first | exact .inl rfl | (right; simp only [F5, push_cast, reduceIte, Nat.reduceEqDiff, reduceCtorEq, Nat.reduceAdd, Nat.reduceLeDiff, Nat.reduceBEq]; try rfl)) (by first | rfl | assumption) (by simp) (by simp) (by (repeat first | exact (hwf).subm | exact (hwf).suba | refine Sub.drop (by simp) ?_)) (by (repeat first | exact (hwf).subm | exact (hwf).suba | refine Sub.drop (by simp) ?_))
end Go.Proofs.Ytajbgangpipheaa
