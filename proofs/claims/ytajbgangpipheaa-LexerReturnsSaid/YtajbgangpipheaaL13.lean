/- Few; the reference's token; strings.Join. -/
import Derived.Test.YtajbgangpipheaaL12
import Derived.Test.YtajbgangpipheaaShelf
import Derived.Test.YtajbgangpipheaaShaT
set_option linter.unusedSimpArgs false
set_option linter.unusedVariables false
namespace Go.Proofs.Ytajbgangpipheaa
open Go.Sha Go.RowKit

def totL (l : List Tok) : Nat := (l.map fun x => x.t.length).sum
def fewB (l : List Tok) : Bool := decide (l.length ≤ 400) && decide (totL l ≤ 6000)

theorem totL_take {l : List Tok} {j : Nat} {x : Tok} (h : l[j]? = some x) : totL (l.take (j + 1)) = totL (l.take j) + x.t.length := by
  unfold totL
  rw [List.take_add_one, h]
  simp
theorem totL_le {b : Nat} : ∀ {l : List Tok}, (∀ x ∈ l, x.t.length ≤ b) → totL l ≤ l.length * b
  | [], _ => Nat.zero_le _
  | x :: l, h => by
    have h1 := h x (List.mem_cons_self ..)
    have h2 := totL_le (l := l) (fun y hy => h y (List.mem_cons_of_mem _ hy))
    unfold totL at h2 ⊢
    simp only [List.map_cons, List.sum_cons, List.length_cons, Nat.add_mul]
    omega
theorem le_totL : ∀ {l : List Tok} {x : Tok}, x ∈ l → x.t.length ≤ totL l
  | y :: l, x, h => by
    unfold totL
    simp only [List.map_cons, List.sum_cons]
    rcases List.mem_cons.1 h with rfl | h
    · omega
    · have := le_totL h; unfold totL at this; omega

theorem few_v (l : List Tok) (st : St) (hl : l.length ≤ 140737488351232) (hb : ∀ x ∈ l, x.t.length ≤ 140737488351232) : VRet Try.prog 20 [.sl (l.map tkV)] st (.bool (fewB l)) st := by
  refine VCalls_of F20_ok mixed (Nat.le_of_ble_eq_true rfl) (fun hwf => ?_)
  unfold fewB
  by_cases h4 : 400 < l.length
  · have h0 : decide ((400 : Int) < (l.length : Int)) = true := decide_eq_true (by omega)
    have h1 : decide (l.length ≤ 400) = false := decide_eq_false (by omega)
    rw [h1, Bool.false_and]
    (repeat' first | ((first | refine go rfl rfl ?_ | (refine Fk.by_ ?_ ?_ <;> intro hc <;> try simp only [hc]) | refine storeK_eq rfl ?_ | with_reducible refine And.intro ?_ ?_ | fail) <;> try simp only [h0, push_cast, reduceIte, Nat.reduceEqDiff, reduceCtorEq, Nat.reduceAdd, Nat.reduceLeDiff, Nat.reduceBEq]))
    refine finB (hwf) (by simp only [F20, push_cast, reduceIte, Nat.reduceEqDiff, reduceCtorEq, Nat.reduceAdd, Nat.reduceLeDiff, Nat.reduceBEq]; exact rfl) (by first | exact .inl rfl | (right; simp only [F20, push_cast, reduceIte, Nat.reduceEqDiff, reduceCtorEq, Nat.reduceAdd, Nat.reduceLeDiff, Nat.reduceBEq]; try rfl)) (by first | rfl | assumption) (by simp) (by simp) (by (repeat first | exact (hwf).subm | exact (hwf).suba | refine Sub.drop (by simp) ?_)) (by (repeat first | exact (hwf).subm | exact (hwf).suba | refine Sub.drop (by simp) ?_))
  · have h0 : decide ((400 : Int) < (l.length : Int)) = false := decide_eq_false (by omega)
    have h1 : decide (l.length ≤ 400) = true := decide_eq_true (by omega)
    rw [h1, Bool.true_and]
    (repeat' first | ((first | refine go rfl rfl ?_ | (refine Fk.by_ ?_ ?_ <;> intro hc <;> try simp only [hc]) | refine storeK_eq rfl ?_ | with_reducible refine And.intro ?_ ?_ | fail) <;> try simp only [h0, push_cast, reduceIte, Nat.reduceEqDiff, reduceCtorEq, Nat.reduceAdd, Nat.reduceLeDiff, Nat.reduceBEq]))
    have hbt : ∀ j, totL (l.take j) ≤ 400 * 140737488351232 := fun j => by
      refine Nat.le_trans (totL_le (b := 140737488351232) (fun x hx => hb x (List.mem_of_mem_take hx))) ?_
      exact Nat.mul_le_mul_right _ (by simp; omega)
    refine WT_loop rfl (fun n e z => ∃ j : Nat, n = l.length - j ∧ j ≤ l.length ∧ e = [(4, .int .i64 (j : Int)), (3, .int .i64 (totL (l.take j) : Int)), (0, .sl (l.map tkV))] ∧ z = st) st.nx (Nat.le_refl _) (by rintro _ _ _ ⟨j, _, _, _, rfl⟩; rfl)
      ⟨_, _, _, ⟨0, rfl, Nat.zero_le _, rfl, rfl⟩, .cons rfl rfl (.cons rfl rfl (.cons bdL_tk rfl .nil)), .refl hwf⟩ ?_
    rintro n e z ⟨j, rfl, hj, rfl, rfl⟩
    rcases Nat.lt_or_ge j l.length with hlt | hge
    · obtain ⟨x, hx⟩ : ∃ x, l[j]? = some x := ⟨_, List.getElem?_eq_getElem hlt⟩
      have h2 : decide ((j : Int) < (l.length : Int)) = true := decide_eq_true (by omega)
      have hw : IntKind.i64.wrap ((j : Int) + 1) = (j : Int) + 1 := wrap64 (by omega) (by omega)
      have ht := totL_take hx
      have h3 := hbt (j + 1)
      have hw2 : IntKind.i64.wrap ((totL (l.take j) : Int) + (x.t.length : Int)) = (totL (l.take (j + 1)) : Int) := by rw [wrap64 (by omega) (by omega), ht]; omega
      (repeat' first | ((first | refine go rfl rfl ?_ | (refine Fk.by_ ?_ ?_ <;> intro hc <;> try simp only [hc]) | refine storeK_eq rfl ?_ | with_reducible refine And.intro ?_ ?_ | fail) <;> try simp only [h2, hx, hw, hw2, cells_tkV, push_cast, reduceIte, Nat.reduceEqDiff, reduceCtorEq, Nat.reduceAdd, Nat.reduceLeDiff, Nat.reduceBEq]))
      exact ⟨_, _, _, by omega, ⟨j + 1, rfl, by omega, rfl, rfl⟩, .cons rfl rfl (.cons rfl rfl (.cons bdL_tk rfl .nil)), .refl hwf⟩
    · have h2 : decide ((j : Int) < (l.length : Int)) = false := decide_eq_false (by omega)
      have ej : j = l.length := by omega
      subst ej
      rw [List.take_length]
      have h3 : decide ((totL l : Int) ≤ 6000) = decide (totL l ≤ 6000) := decide_eq_decide.2 (by omega)
      (repeat' first | ((first | refine go rfl rfl ?_ | (refine Fk.by_ ?_ ?_ <;> intro hc <;> try simp only [hc]) | refine storeK_eq rfl ?_ | with_reducible refine And.intro ?_ ?_ | fail) <;> try simp only [h2, h3, push_cast, reduceIte, Nat.reduceEqDiff, reduceCtorEq, Nat.reduceAdd, Nat.reduceLeDiff, Nat.reduceBEq]))
      refine finB (hwf) (by simp only [F20, push_cast, reduceIte, Nat.reduceEqDiff, reduceCtorEq, Nat.reduceAdd, Nat.reduceLeDiff, Nat.reduceBEq]; exact rfl) (by first | exact .inl rfl | (right; simp only [F20, push_cast, reduceIte, Nat.reduceEqDiff, reduceCtorEq, Nat.reduceAdd, Nat.reduceLeDiff, Nat.reduceBEq]; try rfl)) (by first | rfl | assumption) (by simp) (by simp) (by (repeat first | exact (hwf).subm | exact (hwf).suba | refine Sub.drop (by simp) ?_)) (by (repeat first | exact (hwf).subm | exact (hwf).suba | refine Sub.drop (by simp) ?_))

def goodTok (x : Tok) : Prop := lexAt x.t 0 = some (x.k, x.t, x.t.length) ∧ runTo (isB 32) x.t 0 = 0 ∧ x.k ≠ 3
open Classical in
/-- The error of a token that is not the end. -/
noncomputable def tokErr (x : Tok) : Int := if x.k < 0 ∨ 3 ≤ x.k then 1 else if goodTok x then 0 else 3

theorem reftoken_v (x : Tok) (st : St) (hs : x.t.length < 140737488355328) : VRet Try.prog 37 [tkV x] st (.int .i64 (tokErr x)) st := by
  refine VCalls_of F37_ok mixed (Nat.le_of_ble_eq_true rfl) (fun hwf => ?_)
  obtain ⟨k, s, a⟩ := x
  simp only at hs
  by_cases hk : k < 0 ∨ 3 ≤ k
  · have hR : tokErr ⟨k, s, a⟩ = 1 := if_pos hk
    rw [hR]
    by_cases h1 : k < 0
    · have h0 : decide (k < 0) = true := decide_eq_true h1
      (repeat' first | ((first | refine go rfl rfl ?_ | (refine Fk.by_ ?_ ?_ <;> intro hc <;> try simp only [hc]) | refine storeK_eq rfl ?_ | with_reducible refine And.intro ?_ ?_ | fail) <;> try simp only [cells_tkV, h0, push_cast, reduceIte, Nat.reduceEqDiff, reduceCtorEq, Nat.reduceAdd, Nat.reduceLeDiff, Nat.reduceBEq]))
      refine finB (hwf) (by simp only [F37, push_cast, reduceIte, Nat.reduceEqDiff, reduceCtorEq, Nat.reduceAdd, Nat.reduceLeDiff, Nat.reduceBEq]; exact rfl) (by first | exact .inl rfl | (right; simp only [F37, push_cast, reduceIte, Nat.reduceEqDiff, reduceCtorEq, Nat.reduceAdd, Nat.reduceLeDiff, Nat.reduceBEq]; try rfl)) (by first | rfl | assumption) (by simp) (by simp) (by (repeat first | exact (hwf).subm | exact (hwf).suba | refine Sub.drop (by simp) ?_)) (by (repeat first | exact (hwf).subm | exact (hwf).suba | refine Sub.drop (by simp) ?_))
    · have h0 : decide (k < 0) = false := decide_eq_false h1
      have h2 : decide (3 ≤ k) = true := decide_eq_true (by omega)
      (repeat' first | ((first | refine go rfl rfl ?_ | (refine Fk.by_ ?_ ?_ <;> intro hc <;> try simp only [hc]) | refine storeK_eq rfl ?_ | with_reducible refine And.intro ?_ ?_ | fail) <;> try simp only [cells_tkV, h0, h2, push_cast, reduceIte, Nat.reduceEqDiff, reduceCtorEq, Nat.reduceAdd, Nat.reduceLeDiff, Nat.reduceBEq]))
      refine finB (hwf) (by simp only [F37, push_cast, reduceIte, Nat.reduceEqDiff, reduceCtorEq, Nat.reduceAdd, Nat.reduceLeDiff, Nat.reduceBEq]; exact rfl) (by first | exact .inl rfl | (right; simp only [F37, push_cast, reduceIte, Nat.reduceEqDiff, reduceCtorEq, Nat.reduceAdd, Nat.reduceLeDiff, Nat.reduceBEq]; try rfl)) (by first | rfl | assumption) (by simp) (by simp) (by (repeat first | exact (hwf).subm | exact (hwf).suba | refine Sub.drop (by simp) ?_)) (by (repeat first | exact (hwf).subm | exact (hwf).suba | refine Sub.drop (by simp) ?_))
  · have h0 : decide (k < 0) = false := decide_eq_false (by omega)
    have h2 : decide (3 ≤ k) = false := decide_eq_false (by omega)
    have hR : tokErr ⟨k, s, a⟩ = _ := if_neg hk
    cases s with
    | nil =>
      have hg : ¬ goodTok ⟨k, [], a⟩ := fun h => one_ne h.1 h.2.2 rfl
      rw [hR, if_neg hg]
      have h3 : (([] : List UInt8) == []) = true := rfl
      (repeat' first | ((first | refine go rfl rfl ?_ | (refine Fk.by_ ?_ ?_ <;> intro hc <;> try simp only [hc]) | refine storeK_eq rfl ?_ | with_reducible refine And.intro ?_ ?_ | fail) <;> try simp only [cells_tkV, h0, h2, h3, push_cast, reduceIte, Nat.reduceEqDiff, reduceCtorEq, Nat.reduceAdd, Nat.reduceLeDiff, Nat.reduceBEq]))
      refine finB (hwf) (by simp only [F37, push_cast, reduceIte, Nat.reduceEqDiff, reduceCtorEq, Nat.reduceAdd, Nat.reduceLeDiff, Nat.reduceBEq]; exact rfl) (by first | exact .inl rfl | (right; simp only [F37, push_cast, reduceIte, Nat.reduceEqDiff, reduceCtorEq, Nat.reduceAdd, Nat.reduceLeDiff, Nat.reduceBEq]; try rfl)) (by first | rfl | assumption) (by simp) (by simp) (by (repeat first | exact (hwf).subm | exact (hwf).suba | refine Sub.drop (by simp) ?_)) (by (repeat first | exact (hwf).subm | exact (hwf).suba | refine Sub.drop (by simp) ?_))
    | cons y s' =>
      have h3 : ((y :: s') == []) = false := rfl
      obtain ⟨s, hse⟩ : ∃ s, y :: s' = s := ⟨_, rfl⟩
      have hy : s[0]? = some y := by rw [← hse]; rfl
      rw [hse] at hs h3 hR ⊢
      rw [hR]
      cases h4 : ((y.toNat : Int) == 32) with
      | true =>
        have hg : ¬ goodTok ⟨k, s, a⟩ := fun h => by
          have h5 : atIs (isB 32) s 0 = true := by rw [atIs_some hy]; exact h4
          have := runTo_lt h5
          have := h.2.1
          simp only at this
          omega
        rw [if_neg hg]
        (repeat' first | ((first | refine go rfl rfl ?_ | (refine Fk.by_ ?_ ?_ <;> intro hc <;> try simp only [hc]) | refine storeK_eq rfl ?_ | with_reducible refine And.intro ?_ ?_ | fail) <;> try simp only [cells_tkV, h0, h2, h3, hy, h4, push_cast, reduceIte, Nat.reduceEqDiff, reduceCtorEq, Nat.reduceAdd, Nat.reduceLeDiff, Nat.reduceBEq]))
        refine finB (hwf) (by simp only [F37, push_cast, reduceIte, Nat.reduceEqDiff, reduceCtorEq, Nat.reduceAdd, Nat.reduceLeDiff, Nat.reduceBEq]; exact rfl) (by first | exact .inl rfl | (right; simp only [F37, push_cast, reduceIte, Nat.reduceEqDiff, reduceCtorEq, Nat.reduceAdd, Nat.reduceLeDiff, Nat.reduceBEq]; try rfl)) (by first | rfl | assumption) (by simp) (by simp) (by (repeat first | exact (hwf).subm | exact (hwf).suba | refine Sub.drop (by simp) ?_)) (by (repeat first | exact (hwf).subm | exact (hwf).suba | refine Sub.drop (by simp) ?_))
      | false =>
        have hrun : runTo (isB 32) s 0 = 0 := runTo_stop (by rw [atIs_some hy]; exact h4)
        cases h5 : lexAt s 0 with
        | none =>
          have ht : refTok s 0 = .tup [tokV 0 [] 0, .int .i64 (-1)] := by rw [refTok, h5]
          have hg : ¬ goodTok ⟨k, s, a⟩ := fun h => by have := h.1; simp only [h5] at this; cases this
          have h6 : ((-1 : Int) != (s.length : Int)) = true := by simp <;> omega
          rw [if_neg hg]
          (repeat' first | ((first | refine go rfl rfl ?_ | refine Cl.by_ (by (first | refine Token_v (a := 0) _ (Nat.zero_le _) hs)) ?_ | (refine Fk.by_ ?_ ?_ <;> intro hc <;> try simp only [hc]) | refine storeK_eq rfl ?_ | with_reducible refine And.intro ?_ ?_ | fail) <;> try simp only [cells_tkV, cells_tokV, h0, h2, h3, hy, h4, ht, h6, push_cast, reduceIte, Nat.reduceEqDiff, reduceCtorEq, Nat.reduceAdd, Nat.reduceLeDiff, Nat.reduceBEq]))
          refine finB (hwf) (by simp only [F37, push_cast, reduceIte, Nat.reduceEqDiff, reduceCtorEq, Nat.reduceAdd, Nat.reduceLeDiff, Nat.reduceBEq]; exact rfl) (by first | exact .inl rfl | (right; simp only [F37, push_cast, reduceIte, Nat.reduceEqDiff, reduceCtorEq, Nat.reduceAdd, Nat.reduceLeDiff, Nat.reduceBEq]; try rfl)) (by first | rfl | assumption) (by simp) (by simp) (by (repeat first | exact (hwf).subm | exact (hwf).suba | refine Sub.drop (by simp) ?_)) (by (repeat first | exact (hwf).subm | exact (hwf).suba | refine Sub.drop (by simp) ?_))
        | some r =>
          obtain ⟨k', t', e⟩ := r
          have ht : refTok s 0 = .tup [tokV k' t' 0, .int .i64 (e : Int)] := by rw [refTok, h5]
          cases h6 : ((e : Int) != (s.length : Int)) with
          | true =>
            have hg : ¬ goodTok ⟨k, s, a⟩ := fun h => by have := h.1; simp only [h5] at this; cases this; simp at h6
            rw [if_neg hg]
            (repeat' first | ((first | refine go rfl rfl ?_ | refine Cl.by_ (by (first | refine Token_v (a := 0) _ (Nat.zero_le _) hs)) ?_ | (refine Fk.by_ ?_ ?_ <;> intro hc <;> try simp only [hc]) | refine storeK_eq rfl ?_ | with_reducible refine And.intro ?_ ?_ | fail) <;> try simp only [cells_tkV, cells_tokV, h0, h2, h3, hy, h4, ht, h6, push_cast, reduceIte, Nat.reduceEqDiff, reduceCtorEq, Nat.reduceAdd, Nat.reduceLeDiff, Nat.reduceBEq]))
            refine finB (hwf) (by simp only [F37, push_cast, reduceIte, Nat.reduceEqDiff, reduceCtorEq, Nat.reduceAdd, Nat.reduceLeDiff, Nat.reduceBEq]; exact rfl) (by first | exact .inl rfl | (right; simp only [F37, push_cast, reduceIte, Nat.reduceEqDiff, reduceCtorEq, Nat.reduceAdd, Nat.reduceLeDiff, Nat.reduceBEq]; try rfl)) (by first | rfl | assumption) (by simp) (by simp) (by (repeat first | exact (hwf).subm | exact (hwf).suba | refine Sub.drop (by simp) ?_)) (by (repeat first | exact (hwf).subm | exact (hwf).suba | refine Sub.drop (by simp) ?_))
          | false =>
            cases h7 : (k' != k) with
            | true =>
              have hg : ¬ goodTok ⟨k, s, a⟩ := fun h => by have := h.1; simp only [h5] at this; cases this; simp at h7
              rw [if_neg hg]
              (repeat' first | ((first | refine go rfl rfl ?_ | refine Cl.by_ (by (first | refine Token_v (a := 0) _ (Nat.zero_le _) hs)) ?_ | (refine Fk.by_ ?_ ?_ <;> intro hc <;> try simp only [hc]) | refine storeK_eq rfl ?_ | with_reducible refine And.intro ?_ ?_ | fail) <;> try simp only [cells_tkV, cells_tokV, h0, h2, h3, hy, h4, ht, h6, h7, push_cast, reduceIte, Nat.reduceEqDiff, reduceCtorEq, Nat.reduceAdd, Nat.reduceLeDiff, Nat.reduceBEq]))
              refine finB (hwf) (by simp only [F37, push_cast, reduceIte, Nat.reduceEqDiff, reduceCtorEq, Nat.reduceAdd, Nat.reduceLeDiff, Nat.reduceBEq]; exact rfl) (by first | exact .inl rfl | (right; simp only [F37, push_cast, reduceIte, Nat.reduceEqDiff, reduceCtorEq, Nat.reduceAdd, Nat.reduceLeDiff, Nat.reduceBEq]; try rfl)) (by first | rfl | assumption) (by simp) (by simp) (by (repeat first | exact (hwf).subm | exact (hwf).suba | refine Sub.drop (by simp) ?_)) (by (repeat first | exact (hwf).subm | exact (hwf).suba | refine Sub.drop (by simp) ?_))
            | false =>
              cases h8 : (t' != s) with
              | true =>
                have hg : ¬ goodTok ⟨k, s, a⟩ := fun h => by have := h.1; simp only [h5] at this; cases this; simp at h8
                rw [if_neg hg]
                (repeat' first | ((first | refine go rfl rfl ?_ | refine Cl.by_ (by (first | refine Token_v (a := 0) _ (Nat.zero_le _) hs)) ?_ | (refine Fk.by_ ?_ ?_ <;> intro hc <;> try simp only [hc]) | refine storeK_eq rfl ?_ | with_reducible refine And.intro ?_ ?_ | fail) <;> try simp only [cells_tkV, cells_tokV, h0, h2, h3, hy, h4, ht, h6, h7, h8, push_cast, reduceIte, Nat.reduceEqDiff, reduceCtorEq, Nat.reduceAdd, Nat.reduceLeDiff, Nat.reduceBEq]))
                refine finB (hwf) (by simp only [F37, push_cast, reduceIte, Nat.reduceEqDiff, reduceCtorEq, Nat.reduceAdd, Nat.reduceLeDiff, Nat.reduceBEq]; exact rfl) (by first | exact .inl rfl | (right; simp only [F37, push_cast, reduceIte, Nat.reduceEqDiff, reduceCtorEq, Nat.reduceAdd, Nat.reduceLeDiff, Nat.reduceBEq]; try rfl)) (by first | rfl | assumption) (by simp) (by simp) (by (repeat first | exact (hwf).subm | exact (hwf).suba | refine Sub.drop (by simp) ?_)) (by (repeat first | exact (hwf).subm | exact (hwf).suba | refine Sub.drop (by simp) ?_))
              | false =>
                have e1 : e = s.length := by simp at h6; omega
                have e2 : k' = k := by simpa [bne] using h7
                have e3 : t' = s := by simpa [bne] using h8
                have hg : goodTok ⟨k, s, a⟩ := ⟨by rw [h5, e1, e2, e3], hrun, by simp only; omega⟩
                rw [if_pos hg]
                (repeat' first | ((first | refine go rfl rfl ?_ | refine Cl.by_ (by (first | refine Token_v (a := 0) _ (Nat.zero_le _) hs)) ?_ | (refine Fk.by_ ?_ ?_ <;> intro hc <;> try simp only [hc]) | refine storeK_eq rfl ?_ | with_reducible refine And.intro ?_ ?_ | fail) <;> try simp only [cells_tkV, cells_tokV, h0, h2, h3, hy, h4, ht, h6, h7, h8, push_cast, reduceIte, Nat.reduceEqDiff, reduceCtorEq, Nat.reduceAdd, Nat.reduceLeDiff, Nat.reduceBEq]))
                refine finB (hwf) (by simp only [F37, push_cast, reduceIte, Nat.reduceEqDiff, reduceCtorEq, Nat.reduceAdd, Nat.reduceLeDiff, Nat.reduceBEq]; exact rfl) (by first | exact .inl rfl | (right; simp only [F37, push_cast, reduceIte, Nat.reduceEqDiff, reduceCtorEq, Nat.reduceAdd, Nat.reduceLeDiff, Nat.reduceBEq]; try rfl)) (by first | rfl | assumption) (by simp) (by simp) (by (repeat first | exact (hwf).subm | exact (hwf).suba | refine Sub.drop (by simp) ?_)) (by (repeat first | exact (hwf).subm | exact (hwf).suba | refine Sub.drop (by simp) ?_))

theorem callable36 : Callable Try.prog 36 := ⟨_, Try.func36, by kernel_rfl, by kernel_rfl⟩

theorem join_v (xs : List (List UInt8)) (sep : List UInt8) (st : St) (hl : xs.length ≤ 140737488355328) (hj : (Lib.join xs sep).length ≤ 140737488355328) : VRet Try.prog 36 [.sl (xs.map .str), .str sep] st (.str (Lib.join xs sep)) st := by
  refine VRet_of_below callable36 (fun w A vs hs ha => ?_)
  obtain ⟨u, v, rfl, h1, h2⟩ := ha.two
  have e2 := h2.str_inv
  subst e2
  have em : (xs.map fun x => (⟨x.toArray⟩ : ByteArray)).map (fun b => b.data.toList) = xs := by
    clear hl hj h1 hs ha
    induction xs with
    | nil => rfl
    | cons x xs ih => simp only [List.map_cons, ih]
  rcases h1.strs with ⟨⟨a, rfl⟩, rfl⟩ | ⟨b, o, c, rfl, hc, hm, hC, hcell⟩
  · refine (Try.strings_Join_none a 0 ⟨sep.toArray⟩ w).mono fun e w' ⟨he, hw⟩ => ?_
    subst he; subst hw
    exact ⟨_, rfl, fun w' A' => by have := Rep.str (w := w') (A := A') []; exact this, Below.refl _ _⟩
  · cases hx : xs with
    | nil =>
      refine (Try.strings_Join_none _ c ⟨sep.toArray⟩ w).mono fun e w' ⟨he, hw⟩ => ?_
      subst he; subst hw
      exact ⟨_, rfl, fun w' A' => by have := Rep.str (w := w') (A := A') []; exact this, Below.refl _ _⟩
    | cons y ys =>
      have hne : xs ≠ [] := by rw [hx]; simp
      rw [← hx]
      have hq := Try.strings_Join b o c (xs.map fun x => ⟨x.toArray⟩) ⟨sep.toArray⟩ w (fun j x hj => by
        rw [List.getElem?_map] at hj
        obtain ⟨z, hz, rfl⟩ := Option.map_eq_some_iff.1 hj
        exact hcell j z hz) (hs.Clt _ _ (hC hne)) (by rw [List.length_map]; exact hl) (by rw [List.length_map]; exact hc) (by rw [em]; simpa using hj)
      rw [List.length_map, em] at hq
      refine hq.mono fun e w' ⟨he, hb⟩ => ?_
      subst he
      exact ⟨_, rfl, fun w' A' => .str _, hb⟩
end Go.Proofs.Ytajbgangpipheaa
