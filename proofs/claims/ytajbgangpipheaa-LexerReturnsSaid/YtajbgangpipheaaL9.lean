/- The reference's Token, Scan. -/
import Derived.Test.YtajbgangpipheaaL8
set_option linter.unusedSimpArgs false
set_option linter.unusedVariables false
namespace Go.Proofs.Ytajbgangpipheaa
open Go.Sha

theorem run_ascii {s : List UInt8} {a e : Nat} (h : ∀ i, a ≤ i → i < e → atIs wrdB s i = true) : ∀ b ∈ (s.take e).drop a, b.toNat < 128 := by
  intro b hb
  obtain ⟨i, hi⟩ := List.mem_iff_getElem?.1 hb
  rw [List.getElem?_drop, List.getElem?_take] at hi
  split at hi
  · rename_i hlt
    have := h (a + i) (by omega) hlt
    rw [atIs_some hi] at this
    have hl := b.toNat_lt
    simp only [wrdB, isWrd, isLet, isDig, Bool.or_eq_true, Bool.and_eq_true, decide_eq_true_eq, beq_iff_eq] at this
    omega
  · cases hi

theorem runTo_all {ok : UInt8 → Bool} {s : List UInt8} : ∀ (n i : Nat), s.length - i = n → ∀ k, i ≤ k → k < runTo ok s i → atIs ok s k = true := by
  intro n
  induction n with
  | zero =>
    intro i hn k h1 h2
    rw [runTo_stop (atIs_none (by omega))] at h2; omega
  | succ n ih =>
    intro i hn k h1 h2
    cases h : atIs ok s i with
    | false => rw [runTo_stop h] at h2; omega
    | true =>
      rcases Nat.eq_or_lt_of_le h1 with e | e
      · subst e; exact h
      · obtain ⟨g1, g2⟩ := runTo_go h
        exact ih (i + 1) (by omega) k e (by rw [g1]; exact h2)

def refTok (s : List UInt8) (a : Nat) : V := match lexAt s a with
  | some (k, t, e) => .tup [tokV k t a, .int .i64 (e : Int)]
  | none => .tup [tokV 0 [] 0, .int .i64 (-1)]

theorem Token_v {s : List UInt8} {a : Nat} (st : St) (ha : a ≤ s.length) (hs : s.length < 140737488355328) : VRet Try.prog 25 [.str s, .int .i64 (a : Int)] st (refTok s a) st := by
  refine VCalls_of F25_ok mixed (Nat.le_of_ble_eq_true rfl) (fun hwf => ?_)
  have hN : lexAt s a = none → refTok s a = .tup [tokV 0 [] 0, .int .i64 (-1)] := fun h => by rw [refTok, h]
  have hS : ∀ k t e, lexAt s a = some (k, t, e) → refTok s a = .tup [tokV k t a, .int .i64 (e : Int)] := fun k t e h => by rw [refTok, h]
  generalize refTok s a = R at hN hS
  unfold lexAt at hN hS
  rcases Nat.lt_or_ge a s.length with hlt | hge
  · rw [if_neg (by omega)] at hN hS
    obtain ⟨x, hx⟩ : ∃ x, s[a]? = some x := ⟨_, List.getElem?_eq_getElem hlt⟩
    have h0 : ((a : Int) == (s.length : Int)) = false := by simp; omega
    have hw1 : IntKind.i64.wrap ((a : Int) + 1) = (a : Int) + 1 := wrap64 (by omega) (by omega)
    have e1 : atIs letB s a = isLet x.toNat := atIs_some hx
    have e2 : atIs (isB 34) s a = ((x.toNat : Int) == 34) := atIs_some hx
    have e3 : atIs digB s a = isDig x.toNat := atIs_some hx
    have e4 : atIs sgnB s a = isSgn x.toNat := atIs_some hx
    rw [e1, e2, e3, e4] at hN hS
    cases hl : isLet x.toNat with
    | true =>
      have hR := hS _ _ _ (by rw [hl, if_pos rfl])
      have hbb := runTo_bd (ok := wrdB) ha
      have hasc := run_ascii (runTo_all _ _ rfl : ∀ k, a ≤ k → k < runTo wrdB s a → _)
      obtain ⟨b, hb⟩ : ∃ b, runTo wrdB s a = b := ⟨_, rfl⟩
      rw [hb] at hbb hasc hR
      have hlen : ((s.take b).drop a).length < 140737488355328 := by simp only [List.length_drop, List.length_take]; omega
      rw [hR]
      (repeat' first | ((first | refine go rfl rfl ?_ | refine Cl.by_ (by (first | refine letter_v _ _ | refine digit_v _ _ | refine sign_v _ _ | refine word_v _ ha hs | refine Lower_v _ hasc hlen)) ?_ | (refine Fk.by_ ?_ ?_ <;> intro hc <;> try simp only [hc]) | refine storeK_eq rfl ?_ | with_reducible refine And.intro ?_ ?_ | fail) <;> try simp only [cells_tokV, h0, hx, hl, hb, hbb.1, hbb.2, push_cast, reduceIte, Nat.reduceEqDiff, reduceCtorEq, Nat.reduceAdd, Nat.reduceLeDiff, Nat.reduceBEq]))
      refine finB (hwf) (by simp only [F25, cells_tokV, push_cast, reduceIte, Nat.reduceEqDiff, reduceCtorEq, Nat.reduceAdd, Nat.reduceLeDiff, Nat.reduceBEq]; exact rfl) (by first | exact .inl rfl | (right; simp only [F25, cells_tokV, push_cast, reduceIte, Nat.reduceEqDiff, reduceCtorEq, Nat.reduceAdd, Nat.reduceLeDiff, Nat.reduceBEq]; try rfl)) (by first | rfl | assumption) (by simp) (by simp) (by (repeat first | exact (hwf).subm | exact (hwf).suba | refine Sub.drop (by simp) ?_)) (by (repeat first | exact (hwf).subm | exact (hwf).suba | refine Sub.drop (by simp) ?_))
    | false =>
      rw [hl, if_neg Bool.false_ne_true] at hN hS
      cases hq : ((x.toNat : Int) == 34) with
      | true =>
        rw [hq, if_pos rfl] at hN hS
        have hqe : quoEnd s a = if atIs (isB 34) s (runTo plnB s (a + 1)) then ((runTo plnB s (a + 1) : Nat) : Int) + 1 else -1 := rfl
        cases hqq : atIs (isB 34) s (runTo plnB s (a + 1)) with
        | true =>
          have hql := atIs_lt hqq
          have := le_runTo (ok := plnB) (s := s) (i := a + 1)
          have hR := hS _ _ _ (by rw [hqq, if_pos rfl])
          rw [hqq, if_pos rfl] at hqe
          have hqe2 : quoEnd s a = ((runTo plnB s (a + 1) + 1 : Nat) : Int) := hqe
          obtain ⟨q, hq1⟩ : ∃ q, runTo plnB s (a + 1) + 1 = q := ⟨_, rfl⟩
          rw [hq1] at hqe2 hR
          have h5 : decide ((q : Int) < 0) = false := decide_eq_false (by omega)
          have h6 : a ≤ q := by omega
          have h7 : q ≤ s.length := by omega
          rw [hR]
          (repeat' first | ((first | refine go rfl rfl ?_ | refine Cl.by_ (by (first | refine letter_v _ _ | refine digit_v _ _ | refine sign_v _ _ | refine quoted_v _ hlt hs)) ?_ | (refine Fk.by_ ?_ ?_ <;> intro hc <;> try simp only [hc]) | refine storeK_eq rfl ?_ | with_reducible refine And.intro ?_ ?_ | fail) <;> try simp only [cells_tokV, h0, hx, hl, hq, hqe2, h5, h6, h7, push_cast, reduceIte, Nat.reduceEqDiff, reduceCtorEq, Nat.reduceAdd, Nat.reduceLeDiff, Nat.reduceBEq]))
          refine finB (hwf) (by simp only [F25, cells_tokV, push_cast, reduceIte, Nat.reduceEqDiff, reduceCtorEq, Nat.reduceAdd, Nat.reduceLeDiff, Nat.reduceBEq]; exact rfl) (by first | exact .inl rfl | (right; simp only [F25, cells_tokV, push_cast, reduceIte, Nat.reduceEqDiff, reduceCtorEq, Nat.reduceAdd, Nat.reduceLeDiff, Nat.reduceBEq]; try rfl)) (by first | rfl | assumption) (by simp) (by simp) (by (repeat first | exact (hwf).subm | exact (hwf).suba | refine Sub.drop (by simp) ?_)) (by (repeat first | exact (hwf).subm | exact (hwf).suba | refine Sub.drop (by simp) ?_))
        | false =>
          have hR := hN (by rw [hqq, if_neg Bool.false_ne_true])
          rw [hqq, if_neg Bool.false_ne_true] at hqe
          rw [hR]
          have h5 : decide ((-1 : Int) < 0) = true := rfl
          (repeat' first | ((first | refine go rfl rfl ?_ | refine Cl.by_ (by (first | refine letter_v _ _ | refine digit_v _ _ | refine sign_v _ _ | refine quoted_v _ hlt hs)) ?_ | (refine Fk.by_ ?_ ?_ <;> intro hc <;> try simp only [hc]) | refine storeK_eq rfl ?_ | with_reducible refine And.intro ?_ ?_ | fail) <;> try simp only [cells_tokV, h0, hx, hl, hq, hqe, h5, push_cast, reduceIte, Nat.reduceEqDiff, reduceCtorEq, Nat.reduceAdd, Nat.reduceLeDiff, Nat.reduceBEq]))
          refine finB (hwf) (by simp only [F25, cells_tokV, push_cast, reduceIte, Nat.reduceEqDiff, reduceCtorEq, Nat.reduceAdd, Nat.reduceLeDiff, Nat.reduceBEq]; exact rfl) (by first | exact .inl rfl | (right; simp only [F25, cells_tokV, push_cast, reduceIte, Nat.reduceEqDiff, reduceCtorEq, Nat.reduceAdd, Nat.reduceLeDiff, Nat.reduceBEq]; try rfl)) (by first | rfl | assumption) (by simp) (by simp) (by (repeat first | exact (hwf).subm | exact (hwf).suba | refine Sub.drop (by simp) ?_)) (by (repeat first | exact (hwf).subm | exact (hwf).suba | refine Sub.drop (by simp) ?_))
      | false =>
        rw [hq, if_neg Bool.false_ne_true] at hN hS
        cases hd : isDig x.toNat with
        | true =>
          have hne : lexAt s a = some (1, (s.take (numEnd s a)).drop a, numEnd s a) := by
            unfold lexAt numEnd
            rw [if_neg (by omega), e1, e2, e3, hl, hq, hd]
            simp only [Bool.false_eq_true, if_false, if_true]
            split <;> rfl
          obtain ⟨g1, g2, _⟩ := lexAt_bd ha hne
          have hR := hS _ _ _ (by
            have h := hne
            unfold lexAt at h
            rw [if_neg (by omega), e1, e2, e3, e4, hl, hq] at h
            simp only [Bool.false_eq_true, if_false] at h
            exact h)
          obtain ⟨d, hdd⟩ : ∃ d, numEnd s a = d := ⟨_, rfl⟩
          rw [hdd] at hR g1 g2
          have h5 : decide ((d : Int) < 0) = false := decide_eq_false (by omega)
          rw [hR]
          (repeat' first | ((first | refine go rfl rfl ?_ | refine Cl.by_ (by (first | refine letter_v _ _ | refine digit_v _ _ | refine sign_v _ _ | refine number_v _ ha hs)) ?_ | (refine Fk.by_ ?_ ?_ <;> intro hc <;> try simp only [hc]) | refine storeK_eq rfl ?_ | with_reducible refine And.intro ?_ ?_ | fail) <;> try simp only [cells_tokV, h0, hx, hl, hq, hd, hdd, h5, g1, g2, push_cast, reduceIte, Nat.reduceEqDiff, reduceCtorEq, Nat.reduceAdd, Nat.reduceLeDiff, Nat.reduceBEq]))
          refine finB (hwf) (by simp only [F25, cells_tokV, push_cast, reduceIte, Nat.reduceEqDiff, reduceCtorEq, Nat.reduceAdd, Nat.reduceLeDiff, Nat.reduceBEq]; exact rfl) (by first | exact .inl rfl | (right; simp only [F25, cells_tokV, push_cast, reduceIte, Nat.reduceEqDiff, reduceCtorEq, Nat.reduceAdd, Nat.reduceLeDiff, Nat.reduceBEq]; try rfl)) (by first | rfl | assumption) (by simp) (by simp) (by (repeat first | exact (hwf).subm | exact (hwf).suba | refine Sub.drop (by simp) ?_)) (by (repeat first | exact (hwf).subm | exact (hwf).suba | refine Sub.drop (by simp) ?_))
        | false =>
          rw [hd, if_neg Bool.false_ne_true] at hN hS
          cases hg : isSgn x.toNat with
          | true =>
            have hR := hS _ _ _ (by rw [hg, if_pos rfl])
            obtain ⟨d, hdd⟩ : ∃ d, a + 1 = d := ⟨_, rfl⟩
            rw [hdd] at hR
            have hw2 : IntKind.i64.wrap ((a : Int) + 1) = (d : Int) := by rw [hw1]; omega
            have h5 : decide ((d : Int) < 0) = false := decide_eq_false (by omega)
            have h6 : a ≤ d := by omega
            have h7 : d ≤ s.length := by omega
            rw [hR]
            (repeat' first | ((first | refine go rfl rfl ?_ | refine Cl.by_ (by (first | refine letter_v _ _ | refine digit_v _ _ | refine sign_v _ _)) ?_ | (refine Fk.by_ ?_ ?_ <;> intro hc <;> try simp only [hc]) | refine storeK_eq rfl ?_ | with_reducible refine And.intro ?_ ?_ | fail) <;> try simp only [cells_tokV, h0, hx, hl, hq, hd, hg, hw2, h5, h6, h7, push_cast, reduceIte, Nat.reduceEqDiff, reduceCtorEq, Nat.reduceAdd, Nat.reduceLeDiff, Nat.reduceBEq]))
            refine finB (hwf) (by simp only [F25, cells_tokV, push_cast, reduceIte, Nat.reduceEqDiff, reduceCtorEq, Nat.reduceAdd, Nat.reduceLeDiff, Nat.reduceBEq]; exact rfl) (by first | exact .inl rfl | (right; simp only [F25, cells_tokV, push_cast, reduceIte, Nat.reduceEqDiff, reduceCtorEq, Nat.reduceAdd, Nat.reduceLeDiff, Nat.reduceBEq]; try rfl)) (by first | rfl | assumption) (by simp) (by simp) (by (repeat first | exact (hwf).subm | exact (hwf).suba | refine Sub.drop (by simp) ?_)) (by (repeat first | exact (hwf).subm | exact (hwf).suba | refine Sub.drop (by simp) ?_))
          | false =>
            have hR := hN (by rw [hg, if_neg Bool.false_ne_true])
            have h5 : decide ((-1 : Int) < 0) = true := rfl
            rw [hR]
            (repeat' first | ((first | refine go rfl rfl ?_ | refine Cl.by_ (by (first | refine letter_v _ _ | refine digit_v _ _ | refine sign_v _ _)) ?_ | (refine Fk.by_ ?_ ?_ <;> intro hc <;> try simp only [hc]) | refine storeK_eq rfl ?_ | with_reducible refine And.intro ?_ ?_ | fail) <;> try simp only [cells_tokV, h0, hx, hl, hq, hd, hg, h5, push_cast, reduceIte, Nat.reduceEqDiff, reduceCtorEq, Nat.reduceAdd, Nat.reduceLeDiff, Nat.reduceBEq]))
            refine finB (hwf) (by simp only [F25, cells_tokV, push_cast, reduceIte, Nat.reduceEqDiff, reduceCtorEq, Nat.reduceAdd, Nat.reduceLeDiff, Nat.reduceBEq]; exact rfl) (by first | exact .inl rfl | (right; simp only [F25, cells_tokV, push_cast, reduceIte, Nat.reduceEqDiff, reduceCtorEq, Nat.reduceAdd, Nat.reduceLeDiff, Nat.reduceBEq]; try rfl)) (by first | rfl | assumption) (by simp) (by simp) (by (repeat first | exact (hwf).subm | exact (hwf).suba | refine Sub.drop (by simp) ?_)) (by (repeat first | exact (hwf).subm | exact (hwf).suba | refine Sub.drop (by simp) ?_))
  · have hae : a = s.length := by omega
    have h0 : ((a : Int) == (s.length : Int)) = true := by simp [hae]
    have hR2 := hS _ _ _ (if_pos hae)
    rw [hR2]
    (repeat' first | ((first | refine go rfl rfl ?_ | (refine Fk.by_ ?_ ?_ <;> intro hc <;> try simp only [hc]) | refine storeK_eq rfl ?_ | with_reducible refine And.intro ?_ ?_ | fail) <;> try simp only [cells_tokV, h0, push_cast, reduceIte, Nat.reduceEqDiff, reduceCtorEq, Nat.reduceAdd, Nat.reduceLeDiff, Nat.reduceBEq]))
    refine finB (hwf) (by simp only [F25, cells_tokV, push_cast, reduceIte, Nat.reduceEqDiff, reduceCtorEq, Nat.reduceAdd, Nat.reduceLeDiff, Nat.reduceBEq]; exact rfl) (by first | exact .inl rfl | (right; simp only [F25, cells_tokV, push_cast, reduceIte, Nat.reduceEqDiff, reduceCtorEq, Nat.reduceAdd, Nat.reduceLeDiff, Nat.reduceBEq]; try rfl)) (by first | rfl | assumption) (by simp) (by simp) (by (repeat first | exact (hwf).subm | exact (hwf).suba | refine Sub.drop (by simp) ?_)) (by (repeat first | exact (hwf).subm | exact (hwf).suba | refine Sub.drop (by simp) ?_))

theorem refScan_v (s : List UInt8) (st : St) : VRet Try.prog 10 [.str s] st (scanV (scanR s)) st := by
  refine VCalls_of F10_ok mixed (Nat.le_of_ble_eq_true rfl) (fun hwf => ?_)
  by_cases hl : 4096 < s.length
  · have hR : scanR s = ([], 0, 13) := if_pos hl
    have h0 : decide ((4096 : Int) < (s.length : Int)) = true := by simp; omega
    rw [hR]
    (repeat' first | ((first | refine go rfl rfl ?_ | (refine Fk.by_ ?_ ?_ <;> intro hc <;> try simp only [hc]) | refine storeK_eq rfl ?_ | with_reducible refine And.intro ?_ ?_ | fail) <;> try simp only [h0, push_cast, reduceIte, Nat.reduceEqDiff, reduceCtorEq, Nat.reduceAdd, Nat.reduceLeDiff, Nat.reduceBEq]))
    refine finB (hwf) (by simp only [F10, scanV, push_cast, reduceIte, Nat.reduceEqDiff, reduceCtorEq, Nat.reduceAdd, Nat.reduceLeDiff, Nat.reduceBEq]; exact rfl) (by first | exact .inl rfl | (right; simp only [F10, scanV, push_cast, reduceIte, Nat.reduceEqDiff, reduceCtorEq, Nat.reduceAdd, Nat.reduceLeDiff, Nat.reduceBEq]; try rfl)) (by first | rfl | assumption) (by simp) (by simp) (by (repeat first | exact (hwf).subm | exact (hwf).suba | refine Sub.drop (by simp) ?_)) (by (repeat first | exact (hwf).subm | exact (hwf).suba | refine Sub.drop (by simp) ?_))
  · have hR : scanR s = scanG (s.length + 1) s 0 [] := if_neg hl
    have hs : s.length < 140737488355328 := by omega
    have h0 : decide ((4096 : Int) < (s.length : Int)) = false := by simp; omega
    obtain ⟨R, hRR⟩ : ∃ R, scanR s = R := ⟨_, rfl⟩
    rw [hRR]
    rw [hRR] at hR
    (repeat' first | ((first | refine go rfl rfl ?_ | (refine Fk.by_ ?_ ?_ <;> intro hc <;> try simp only [hc]) | refine storeK_eq rfl ?_ | with_reducible refine And.intro ?_ ?_ | fail) <;> try simp only [h0, push_cast, reduceIte, Nat.reduceEqDiff, reduceCtorEq, Nat.reduceAdd, Nat.reduceLeDiff, Nat.reduceBEq]))
    refine WT_own 31 3 (t := 5) rfl ?_
    refine WT_loop rfl (fun n e z => ∃ f i acc, n = s.length - i ∧ i ≤ s.length ∧ s.length - i < f ∧ acc.length ≤ 256 ∧ R = scanG f s i acc ∧ e = [(6, .int .i64 (i : Int)), (5, .osl st.nx acc.length), (0, .str s)] ∧
      z = ⟨st.nx + 1, st.mem, (st.nx, ⟨31, 3, acc.map tkV, false, false⟩) :: st.arr⟩) (st.nx + 1) (Nat.le_refl _) (by rintro _ _ _ ⟨_, _, _, _, _, _, _, _, _, rfl⟩; rfl)
      ⟨_, _, _, ⟨s.length + 1, 0, [], rfl, Nat.zero_le _, by omega, by simp, hR, rfl, rfl⟩, (by repeat first | exact .nil | refine .cons (by first | rfl | (simp [V.bd, V.bdL]; try omega)) (by first | rfl | simp only [push_cast, reduceIte, Nat.reduceEqDiff, reduceCtorEq, Nat.reduceAdd, Nat.reduceLeDiff, Nat.reduceBEq]) ?_), .refl (hwf.newA rfl)⟩ ?_
    rintro n e z ⟨f, i, acc, rfl, hi, hf, hac, hR, rfl, rfl⟩
    cases f with
    | zero => omega
    | succ f =>
    rw [scanG] at hR
    obtain ⟨a, ha⟩ : ∃ a, runTo (isB 32) s i = a := ⟨_, rfl⟩
    have hal : a ≤ s.length := by rw [← ha]; exact runTo_le hi
    have hia : i ≤ a := by rw [← ha]; exact le_runTo
    rw [ha] at hR
    have hle : decide ((i : Int) ≤ (s.length : Int)) = true := decide_eq_true (by omega)
    have key : ∀ j : Nat, j = a → WT Try.prog F10.N F10.T 35 [(6, .int .i64 (j : Int)), (5, .osl st.nx acc.length), (0, .str s)] ⟨st.nx + 1, st.mem, (st.nx, ⟨31, 3, acc.map tkV, false, false⟩) :: st.arr⟩
      (blockPost 1 (seqPost (Again (st.nx + 1) (fun n e z => ∃ f i acc, n = s.length - i ∧ i ≤ s.length ∧ s.length - i < f ∧ acc.length ≤ 256 ∧ R = scanG f s i acc ∧ e = [(6, .int .i64 (i : Int)), (5, .osl st.nx acc.length), (0, .str s)] ∧
      z = ⟨st.nx + 1, st.mem, (st.nx, ⟨31, 3, acc.map tkV, false, false⟩) :: st.arr⟩) (s.length - i)) (blockPost 0 (seqT Try.prog F10.N F10.T 64 (finQ F10.res st.nx fun x z => x = .ret (scanV R) ∧ z = st))))) := by
      intro j ej
      rw [ej]
      clear ej
      cases h : lexAt s a with
      | none =>
        have ht : refTok s a = .tup [tokV 0 [] 0, .int .i64 (-1)] := by rw [refTok, h]
        have h5 : decide ((-1 : Int) < 0) = true := rfl
        rw [h] at hR
        subst hR
        (repeat' first | ((first | refine go rfl rfl ?_ | refine Cl.by_ (by (first | refine Token_v _ hal hs)) ?_ | (refine Fk.by_ ?_ ?_ <;> intro hc <;> try simp only [hc]) | refine storeK_eq rfl ?_ | with_reducible refine And.intro ?_ ?_ | fail) <;> try simp only [ht, cells_tokV, h5, push_cast, reduceIte, Nat.reduceEqDiff, reduceCtorEq, Nat.reduceAdd, Nat.reduceLeDiff, Nat.reduceBEq]))
        refine finB (hwf) (by simp only [F10, scanV, push_cast, reduceIte, Nat.reduceEqDiff, reduceCtorEq, Nat.reduceAdd, Nat.reduceLeDiff, Nat.reduceBEq]; exact rfl) (by first | exact .inl rfl | (right; simp only [F10, scanV, push_cast, reduceIte, Nat.reduceEqDiff, reduceCtorEq, Nat.reduceAdd, Nat.reduceLeDiff, Nat.reduceBEq]; try rfl)) (by first | rfl | assumption) (by simp) (by simp) (by (repeat first | exact (hwf).subm | exact (hwf).suba | refine Sub.drop (by simp) ?_)) (by (repeat first | exact (hwf).subm | exact (hwf).suba | refine Sub.drop (by simp) ?_))
      | some r =>
        obtain ⟨k, t, e⟩ := r
        have ht : refTok s a = .tup [tokV k t a, .int .i64 (e : Int)] := by rw [refTok, h]
        have h5 : decide ((e : Int) < 0) = false := decide_eq_false (by omega)
        simp only [h] at hR
        by_cases hn : acc.length = 256
        · rw [if_pos hn] at hR
          subst hR
          have h1 : ((acc.length : Int) == 256) = true := by simp; omega
          (repeat' first | ((first | refine go rfl rfl ?_ | refine Cl.by_ (by (first | refine Token_v _ hal hs)) ?_ | (refine Fk.by_ ?_ ?_ <;> intro hc <;> try simp only [hc]) | refine storeK_eq rfl ?_ | with_reducible refine And.intro ?_ ?_ | fail) <;> try simp only [ht, cells_tokV, h1, h5, push_cast, reduceIte, Nat.reduceEqDiff, reduceCtorEq, Nat.reduceAdd, Nat.reduceLeDiff, Nat.reduceBEq]))
          refine finB (hwf) (by simp only [F10, scanV, push_cast, reduceIte, Nat.reduceEqDiff, reduceCtorEq, Nat.reduceAdd, Nat.reduceLeDiff, Nat.reduceBEq]; exact rfl) (by first | exact .inl rfl | (right; simp only [F10, scanV, push_cast, reduceIte, Nat.reduceEqDiff, reduceCtorEq, Nat.reduceAdd, Nat.reduceLeDiff, Nat.reduceBEq]; try rfl)) (by first | rfl | assumption) (by simp) (by simp) (by (repeat first | exact (hwf).subm | exact (hwf).suba | refine Sub.drop (by simp) ?_)) (by (repeat first | exact (hwf).subm | exact (hwf).suba | refine Sub.drop (by simp) ?_))
        · rw [if_neg hn] at hR
          have h1 : ((acc.length : Int) == 256) = false := by simp; omega
          by_cases hk : k = 3
          · rw [if_pos hk] at hR
            subst hR
            have h2 : (k == 3) = true := by simp [hk]
            have hrm : roomV (acc.length + 1) 32 = true := by simp [roomV, maxLen]; omega
            have hbr : V.bd st.nx (scanV (acc ++ [⟨k, t, (a : Int)⟩], 0, 0)) = true := by
              simp only [scanV, V.bd, V.bdL, bdL_tk]; rfl
            (repeat' first | ((first | refine go rfl rfl ?_ | refine Cl.by_ (by (first | refine Token_v _ hal hs)) ?_ | (refine Fk.by_ ?_ ?_ <;> intro hc <;> try simp only [hc]) | refine storeK_eq rfl ?_ | with_reducible refine And.intro ?_ ?_ | fail) <;> try simp only [ht, cells_tokV, app_tk, h1, h2, h5, hrm, push_cast, reduceIte, Nat.reduceEqDiff, reduceCtorEq, Nat.reduceAdd, Nat.reduceLeDiff, Nat.reduceBEq]))
            refine finB (hwf) (by simp only [F10, scanV, push_cast, reduceIte, Nat.reduceEqDiff, reduceCtorEq, Nat.reduceAdd, Nat.reduceLeDiff, Nat.reduceBEq]; exact rfl) (by first | exact .inl rfl | (right; simp only [F10, scanV, push_cast, reduceIte, Nat.reduceEqDiff, reduceCtorEq, Nat.reduceAdd, Nat.reduceLeDiff, Nat.reduceBEq]; try rfl)) (by first | rfl | assumption) (by simp) (by simp) (by (repeat first | exact (hwf).subm | exact (hwf).suba | refine Sub.drop (by simp) ?_)) (by (repeat first | exact (hwf).subm | exact (hwf).suba | refine Sub.drop (by simp) ?_))
          · rw [if_neg hk] at hR
            have h2 : (k == 3) = false := by simp [hk]
            have hrm : roomV (acc.length + 1) 32 = true := by simp [roomV, maxLen]; omega
            (repeat' first | ((first | refine go rfl rfl ?_ | refine Cl.by_ (by (first | refine Token_v _ hal hs)) ?_ | (refine Fk.by_ ?_ ?_ <;> intro hc <;> try simp only [hc]) | refine storeK_eq rfl ?_ | with_reducible refine And.intro ?_ ?_ | fail) <;> try simp only [ht, cells_tokV, app_tk, h1, h2, h5, hrm, push_cast, reduceIte, Nat.reduceEqDiff, reduceCtorEq, Nat.reduceAdd, Nat.reduceLeDiff, Nat.reduceBEq]))
            obtain ⟨g1, g2, g3⟩ := lexAt_bd hal h
            have := g3 hk
            exact ⟨_, _, _, by omega, ⟨f, e, acc ++ [⟨k, t, (a : Int)⟩], rfl, by omega, by omega, by simp; omega, hR, rfl, rfl⟩, (by repeat first | exact .nil | refine .cons (by first | rfl | (simp [V.bd, V.bdL]; try omega)) (by first | rfl | simp only [push_cast, reduceIte, Nat.reduceEqDiff, reduceCtorEq, Nat.reduceAdd, Nat.reduceLeDiff, Nat.reduceBEq]) ?_), Weak.wf rfl (by simp) (by (repeat first | exact (hwf.newA (bdL_tk)).subm | exact (hwf.newA (bdL_tk)).suba | refine Sub.drop (by simp) ?_)) (by (repeat first | exact (hwf.newA (bdL_tk)).subm | exact (hwf.newA (bdL_tk)).suba | refine Sub.drop (by simp) ?_)) (hwf.newA (bdL_tk))⟩
    (repeat' first | ((first | refine go rfl rfl ?_ | (refine Fk.by_ ?_ ?_ <;> intro hc <;> try simp only [hc]) | refine storeK_eq rfl ?_ | with_reducible refine And.intro ?_ ?_ | fail) <;> try simp only [hle, push_cast, reduceIte, Nat.reduceEqDiff, reduceCtorEq, Nat.reduceAdd, Nat.reduceLeDiff, Nat.reduceBEq]))
    refine WT_loop rfl (fun n e z => ∃ j : Nat, n = s.length - j ∧ j ≤ s.length ∧ runTo (isB 32) s j = a ∧ e = [(6, .int .i64 (j : Int)), (5, .osl st.nx acc.length), (0, .str s)] ∧ z = ⟨st.nx + 1, st.mem, (st.nx, ⟨31, 3, acc.map tkV, false, false⟩) :: st.arr⟩) (st.nx + 1) (Nat.le_refl _) (by rintro _ _ _ ⟨j, _, _, _, _, rfl⟩; rfl)
      ⟨_, _, _, ⟨i, rfl, hi, ha, rfl, rfl⟩, (by repeat first | exact .nil | refine .cons (by first | rfl | (simp [V.bd, V.bdL]; try omega)) (by first | rfl | simp only [push_cast, reduceIte, Nat.reduceEqDiff, reduceCtorEq, Nat.reduceAdd, Nat.reduceLeDiff, Nat.reduceBEq]) ?_), .refl (hwf.newA (bdL_tk))⟩ ?_
    rintro n e z ⟨j, rfl, hj, hr, rfl, rfl⟩
    rcases Nat.lt_or_ge j s.length with hlt | hge
    · obtain ⟨b, hb⟩ : ∃ b, s[j]? = some b := ⟨_, List.getElem?_eq_getElem hlt⟩
      have h1 : decide ((j : Int) < (s.length : Int)) = true := decide_eq_true (by omega)
      have hw : IntKind.i64.wrap ((j : Int) + 1) = (j : Int) + 1 := wrap64 (by omega) (by omega)
      have h5 : ∀ x, ((b.toNat : Int) == 32) = x → atIs (isB 32) s j = x := fun x h => by rw [atIs_some hb]; exact h
      (repeat' first | exact WT_env (by repeat first | exact .nil | refine .cons (by first | rfl | simp only [push_cast, reduceIte, Nat.reduceEqDiff, reduceCtorEq, Nat.reduceAdd, Nat.reduceLeDiff, Nat.reduceBEq]) ?_) (key j (by rw [← hr, runTo_stop (h5 false hc)])) | ((first | refine go rfl rfl ?_ | (refine Fk.by_ ?_ ?_ <;> intro hc <;> try simp only [hc]) | refine storeK_eq rfl ?_ | with_reducible refine And.intro ?_ ?_ | fail) <;> try simp only [h1, hb, hw, push_cast, reduceIte, Nat.reduceEqDiff, reduceCtorEq, Nat.reduceAdd, Nat.reduceLeDiff, Nat.reduceBEq]))
      exact ⟨_, _, _, by omega, ⟨j + 1, rfl, by omega, by rw [(runTo_go (h5 true hc)).1, hr], rfl, rfl⟩, (by repeat first | exact .nil | refine .cons (by first | rfl | (simp [V.bd, V.bdL]; try omega)) (by first | rfl | simp only [push_cast, reduceIte, Nat.reduceEqDiff, reduceCtorEq, Nat.reduceAdd, Nat.reduceLeDiff, Nat.reduceBEq]) ?_), .refl (hwf.newA (bdL_tk))⟩
    · have h1 : decide ((j : Int) < (s.length : Int)) = false := decide_eq_false (by omega)
      (repeat' first | exact WT_env (by repeat first | exact .nil | refine .cons (by first | rfl | simp only [push_cast, reduceIte, Nat.reduceEqDiff, reduceCtorEq, Nat.reduceAdd, Nat.reduceLeDiff, Nat.reduceBEq]) ?_) (key j (by rw [← hr, runTo_stop (atIs_none hge)])) | ((first | refine go rfl rfl ?_ | (refine Fk.by_ ?_ ?_ <;> intro hc <;> try simp only [hc]) | refine storeK_eq rfl ?_ | with_reducible refine And.intro ?_ ?_ | fail) <;> try simp only [h1, push_cast, reduceIte, Nat.reduceEqDiff, reduceCtorEq, Nat.reduceAdd, Nat.reduceLeDiff, Nat.reduceBEq]))
end Go.Proofs.Ytajbgangpipheaa
