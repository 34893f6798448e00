/- The reference's Join; LexerJoins. -/
import Derived.Test.YtajbgangpipheaaL14
set_option linter.unusedSimpArgs false
set_option linter.unusedVariables false
namespace Go.Proofs.Ytajbgangpipheaa
open Go.Sha

theorem totL_split (l : List Tok) (j : Nat) : totL l = totL (l.take j) + totL (l.drop j) := by unfold totL; rw [← List.sum_append, ← List.map_append, List.take_append_drop]

/-- The elements with blanks between them, as the reference builds them. -/
def joinN (l : List Tok) (j : Nat) : List UInt8 := Lib.join (texts (l.take j)) [32]
theorem joinN_zero (l : List Tok) : joinN l 0 = [] := rfl
theorem joinN_one {l : List Tok} {x : Tok} (h : l[0]? = some x) : joinN l 1 = x.t := by
  cases l with
  | nil => cases h
  | cons y r => cases h; exact Lib.join_one _ _
theorem joinTail_append (r s : List (List UInt8)) : Lib.joinTail [32] (r ++ s) = Lib.joinTail [32] r ++ Lib.joinTail [32] s := by simp [Lib.joinTail]
theorem joinN_succ {l : List Tok} {x : Tok} {j : Nat} (hj : 0 < j) (h : l[j]? = some x) : joinN l (j + 1) = joinN l j ++ [32] ++ x.t := by
  unfold joinN texts
  rw [List.take_add_one, h]
  cases l with
  | nil => simp at h
  | cons y r =>
    obtain ⟨k, rfl⟩ : ∃ k, j = k + 1 := ⟨j - 1, by omega⟩
    simp only [List.take_succ_cons, List.map_cons, List.cons_append, Lib.join_cons, Option.toList_some, List.map_append, List.map_nil, joinTail_append]
    simp [Lib.joinTail]

theorem refJoin_v (l : List Tok) (st : St) (hl : l.length ≤ 400) (ht : totL l ≤ 6000) : VRet Try.prog 22 [.sl (l.map tkV)] st (joinV (joinR l)) st := by
  refine VCalls_of F22_ok mixed (Nat.le_of_ble_eq_true rfl) (fun hwf => ?_)
  by_cases hnil : l = []
  · subst hnil
    have hR : joinR [] = ([], 12) := if_pos (.inr rfl)
    have h0 : ((([] : List Tok).length : Int) == 0) = true := rfl
    rw [hR]
    (repeat' first | ((first | refine go rfl rfl ?_ | (refine Fk.by_ ?_ ?_ <;> intro hc <;> try simp only [hc]) | refine storeK_eq rfl ?_ | with_reducible refine And.intro ?_ ?_ | fail) <;> try simp only [h0, push_cast, reduceIte, Nat.reduceEqDiff, reduceCtorEq, Nat.reduceAdd, Nat.reduceLeDiff, Nat.reduceBEq]))
    refine finB (hwf) (by simp only [F22, joinV, push_cast, reduceIte, Nat.reduceEqDiff, reduceCtorEq, Nat.reduceAdd, Nat.reduceLeDiff, Nat.reduceBEq]; exact rfl) (by first | exact .inl rfl | (right; simp only [F22, joinV, push_cast, reduceIte, Nat.reduceEqDiff, reduceCtorEq, Nat.reduceAdd, Nat.reduceLeDiff, Nat.reduceBEq]; try rfl)) (by first | rfl | assumption) (by simp) (by simp) (by (repeat first | exact (hwf).subm | exact (hwf).suba | refine Sub.drop (by simp) ?_)) (by (repeat first | exact (hwf).subm | exact (hwf).suba | refine Sub.drop (by simp) ?_))
  have hpos : 0 < l.length := List.length_pos_iff.2 hnil
  have h0 : ((l.length : Int) == 0) = false := by simp; exact hnil
  obtain ⟨m, hm⟩ : ∃ m, l.length = m + 1 := ⟨l.length - 1, by omega⟩
  have hlast : IntKind.i64.wrap ((l.length : Int) - 1) = (m : Int) := by rw [wrap64 (by omega) (by omega)]; omega
  have hdl : l.dropLast = l.take m := by rw [List.dropLast_eq_take, hm]; rfl
  have htj : ∀ j, totL (l.take j) ≤ 6000 := fun j => by have := totL_split l j; omega
  obtain ⟨z, hz⟩ : ∃ z, l[m]? = some z := ⟨_, List.getElem?_eq_getElem (by omega)⟩
  have hlT : lastT l = z.t := by
    unfold lastT
    rw [List.getLast?_eq_getElem?, show l.length - 1 = m by omega, hz]
  have key4 : WT Try.prog F22.N F22.T 97 [(8, .str (joinN l m))] st (finQ F22.res st.nx fun x z => x = .ret (joinV (joinN l m, 0)) ∧ z = st) := by
    (repeat' first | ((first | refine go rfl rfl ?_ | (refine Fk.by_ ?_ ?_ <;> intro hc <;> try simp only [hc]) | refine storeK_eq rfl ?_ | with_reducible refine And.intro ?_ ?_ | fail) <;> try simp only [push_cast, reduceIte, Nat.reduceEqDiff, reduceCtorEq, Nat.reduceAdd, Nat.reduceLeDiff, Nat.reduceBEq]))
    refine finB (hwf) (by simp only [F22, joinV, push_cast, reduceIte, Nat.reduceEqDiff, reduceCtorEq, Nat.reduceAdd, Nat.reduceLeDiff, Nat.reduceBEq]; exact rfl) (by first | exact .inl rfl | (right; simp only [F22, joinV, push_cast, reduceIte, Nat.reduceEqDiff, reduceCtorEq, Nat.reduceAdd, Nat.reduceLeDiff, Nat.reduceBEq]; try rfl)) (by first | rfl | assumption) (by simp) (by simp) (by (repeat first | exact (hwf).subm | exact (hwf).suba | refine Sub.drop (by simp) ?_)) (by (repeat first | exact (hwf).subm | exact (hwf).suba | refine Sub.drop (by simp) ?_))
  have key3 : endsOk l → firstErr l.dropLast = 0 → WT Try.prog F22.N F22.T 58 [(5, .int .i64 ((totL (l.take m) : Int) + (m : Int))), (0, .sl (l.map tkV))] st (finQ F22.res st.nx fun x z => x = .ret (joinV (joinR l)) ∧ z = st) := by
    intro hok hfe
    have hR : joinR l = _ := if_neg (fun h => h.elim (fun h => h hok) hnil)
    rw [if_neg (by simp [hfe])] at hR
    cases hte : (z.t != []) with
    | true =>
      rw [if_pos (by rw [hlT]; simpa [bne] using hte)] at hR
      rw [hR]
      (repeat' first | ((first | refine go rfl rfl ?_ | (refine Fk.by_ ?_ ?_ <;> intro hc <;> try simp only [hc]) | refine storeK_eq rfl ?_ | with_reducible refine And.intro ?_ ?_ | fail) <;> try simp only [hlast, hz, hte, cells_tkV, push_cast, reduceIte, Nat.reduceEqDiff, reduceCtorEq, Nat.reduceAdd, Nat.reduceLeDiff, Nat.reduceBEq]))
      refine finB (hwf) (by simp only [F22, joinV, push_cast, reduceIte, Nat.reduceEqDiff, reduceCtorEq, Nat.reduceAdd, Nat.reduceLeDiff, Nat.reduceBEq]; exact rfl) (by first | exact .inl rfl | (right; simp only [F22, joinV, push_cast, reduceIte, Nat.reduceEqDiff, reduceCtorEq, Nat.reduceAdd, Nat.reduceLeDiff, Nat.reduceBEq]; try rfl)) (by first | rfl | assumption) (by simp) (by simp) (by (repeat first | exact (hwf).subm | exact (hwf).suba | refine Sub.drop (by simp) ?_)) (by (repeat first | exact (hwf).subm | exact (hwf).suba | refine Sub.drop (by simp) ?_))
    | false =>
      rw [if_neg (by rw [hlT]; simpa [bne] using hte)] at hR
      have hjl := join_len (texts (l.take m))
      have hs2 : ((texts (l.take m)).map (·.length)).sum = totL (l.take m) := by simp [texts, totL, List.map_map, Function.comp_def]
      have hs3 : (texts (l.take m)).length = m := by simp [texts]; omega
      rw [hs2, hs3] at hjl
      have hiff : (4096 < (Lib.join (texts l.dropLast) [32]).length) ↔ 4097 < totL (l.take m) + m := by
        rw [hdl]
        by_cases hm0 : texts (l.take m) = []
        · rw [if_pos hm0] at hjl
          have : m = 0 := by rw [← hs3, hm0]; rfl
          subst this
          simp [totL, texts, Lib.join]
        · rw [if_neg hm0] at hjl; omega
      by_cases hbig : 4097 < totL (l.take m) + m
      · rw [if_pos (hiff.2 hbig)] at hR
        have h5 : decide ((4097 : Int) < (totL (l.take m) : Int) + (m : Int)) = true := decide_eq_true (by omega)
        rw [hR]
        (repeat' first | ((first | refine go rfl rfl ?_ | (refine Fk.by_ ?_ ?_ <;> intro hc <;> try simp only [hc]) | refine storeK_eq rfl ?_ | with_reducible refine And.intro ?_ ?_ | fail) <;> try simp only [hlast, hz, hte, h5, cells_tkV, push_cast, reduceIte, Nat.reduceEqDiff, reduceCtorEq, Nat.reduceAdd, Nat.reduceLeDiff, Nat.reduceBEq]))
        refine finB (hwf) (by simp only [F22, joinV, push_cast, reduceIte, Nat.reduceEqDiff, reduceCtorEq, Nat.reduceAdd, Nat.reduceLeDiff, Nat.reduceBEq]; exact rfl) (by first | exact .inl rfl | (right; simp only [F22, joinV, push_cast, reduceIte, Nat.reduceEqDiff, reduceCtorEq, Nat.reduceAdd, Nat.reduceLeDiff, Nat.reduceBEq]; try rfl)) (by first | rfl | assumption) (by simp) (by simp) (by (repeat first | exact (hwf).subm | exact (hwf).suba | refine Sub.drop (by simp) ?_)) (by (repeat first | exact (hwf).subm | exact (hwf).suba | refine Sub.drop (by simp) ?_))
      · rw [if_neg (fun h => hbig (hiff.1 h))] at hR
        have h5 : decide ((4097 : Int) < (totL (l.take m) : Int) + (m : Int)) = false := decide_eq_false (by omega)
        have hR2 : joinR l = (joinN l m, 0) := by rw [hR, hdl]; rfl
        rw [hR2]
        (repeat' first | ((first | refine go rfl rfl ?_ | (refine Fk.by_ ?_ ?_ <;> intro hc <;> try simp only [hc]) | refine storeK_eq rfl ?_ | with_reducible refine And.intro ?_ ?_ | fail) <;> try simp only [hlast, hz, hte, h5, cells_tkV, push_cast, reduceIte, Nat.reduceEqDiff, reduceCtorEq, Nat.reduceAdd, Nat.reduceLeDiff, Nat.reduceBEq]))
        refine WT_loop rfl (fun n e z => ∃ j : Nat, n = m - j ∧ j ≤ m ∧ e = [(9, .int .i64 (j : Int)), (8, .str (joinN l j)), (0, .sl (l.map tkV))] ∧ z = st) st.nx (Nat.le_refl _) (by rintro _ _ _ ⟨j, _, _, _, rfl⟩; rfl)
          ⟨_, _, _, ⟨0, rfl, Nat.zero_le _, rfl, rfl⟩, .cons rfl rfl (.cons rfl rfl (.cons bdL_tk rfl .nil)), .refl hwf⟩ ?_
        rintro n e z ⟨j, rfl, hj, rfl, rfl⟩
        rcases Nat.lt_or_ge j m with hlt | hge
        · obtain ⟨x, hx⟩ : ∃ x, l[j]? = some x := ⟨_, List.getElem?_eq_getElem (by omega)⟩
          have h2 : decide ((j : Int) < (m : Int)) = true := decide_eq_true (by omega)
          have hw : IntKind.i64.wrap ((j : Int) + 1) = (j : Int) + 1 := wrap64 (by omega) (by omega)
          have hjl2 := join_len (texts (l.take j))
          have hs4 : ((texts (l.take j)).map (·.length)).sum = totL (l.take j) := by simp [texts, totL, List.map_map, Function.comp_def]
          have hs5 : (texts (l.take j)).length = j := by simp [texts]; omega
          rw [hs4, hs5] at hjl2
          have hjn : (joinN l j).length ≤ 6400 := by have := htj j; unfold joinN; split at hjl2 <;> omega
          have hxt : x.t.length ≤ 6000 := Nat.le_trans (le_totL (List.mem_of_getElem? hx)) ht
          have c1 : (joinN l j).length + x.t.length ≤ 9223372036854775807 := by omega
          have c2 : (joinN l j).length ≤ 9223372036854775806 := by omega
          have c3 : (joinN l j).length + (1 + x.t.length) ≤ 9223372036854775807 := by omega
          have c4 : (joinN l j).length + 1 + x.t.length ≤ 9223372036854775807 := by omega
          rcases Nat.eq_zero_or_pos j with h00 | h00
          · have h3 : decide ((0 : Int) < (j : Int)) = false := decide_eq_false (by omega)
            have h6 : joinN l j ++ x.t = joinN l (j + 1) := by subst h00; rw [joinN_one hx, joinN_zero]; rfl
            (repeat' first | ((first | refine go rfl rfl ?_ | (refine Fk.by_ ?_ ?_ <;> intro hc <;> try simp only [hc]) | refine storeK_eq rfl ?_ | with_reducible refine And.intro ?_ ?_ | fail) <;> try simp only [hlast, h2, hw, hx, h3, c1, h6, cells_tkV, push_cast, reduceIte, Nat.reduceEqDiff, reduceCtorEq, Nat.reduceAdd, Nat.reduceLeDiff, Nat.reduceBEq]))
            exact ⟨_, _, _, by omega, ⟨j + 1, rfl, by omega, rfl, rfl⟩, .cons rfl rfl (.cons rfl rfl (.cons bdL_tk rfl .nil)), .refl hwf⟩
          · have h3 : decide ((0 : Int) < (j : Int)) = true := decide_eq_true (by omega)
            have h6 := joinN_succ h00 hx
            have h7 : joinN l j ++ ([32] ++ x.t) = joinN l (j + 1) := by rw [h6]; simp
            have h8 : joinN l j ++ [32] ++ x.t = joinN l (j + 1) := h6.symm
            have h9 : joinN l j ++ 32 :: x.t = joinN l (j + 1) := by rw [h6]; simp
            (repeat' first | ((first | refine go rfl rfl ?_ | (refine Fk.by_ ?_ ?_ <;> intro hc <;> try simp only [hc]) | refine storeK_eq rfl ?_ | with_reducible refine And.intro ?_ ?_ | fail) <;> try simp only [hlast, h2, hw, hx, h3, c1, c2, c3, c4, h7, h8, h9, cells_tkV, push_cast, reduceIte, Nat.reduceEqDiff, reduceCtorEq, Nat.reduceAdd, Nat.reduceLeDiff, Nat.reduceBEq]))
            exact ⟨_, _, _, by omega, ⟨j + 1, rfl, by omega, rfl, rfl⟩, .cons rfl rfl (.cons rfl rfl (.cons bdL_tk rfl .nil)), .refl hwf⟩
        · have h2 : decide ((j : Int) < (m : Int)) = false := decide_eq_false (by omega)
          have ej : j = m := by omega
          subst ej
          (repeat' first | exact WT_env (by repeat first | exact .nil | refine .cons (by first | rfl | simp only [push_cast, reduceIte, Nat.reduceEqDiff, reduceCtorEq, Nat.reduceAdd, Nat.reduceLeDiff, Nat.reduceBEq]) ?_) key4 | ((first | refine go rfl rfl ?_ | (refine Fk.by_ ?_ ?_ <;> intro hc <;> try simp only [hc]) | refine storeK_eq rfl ?_ | with_reducible refine And.intro ?_ ?_ | fail) <;> try simp only [hlast, h2, push_cast, reduceIte, Nat.reduceEqDiff, reduceCtorEq, Nat.reduceAdd, Nat.reduceLeDiff, Nat.reduceBEq]))
  have key2 : endsOk l → WT Try.prog F22.N F22.T 31 [(0, .sl (l.map tkV))] st (finQ F22.res st.nx fun x z => x = .ret (joinV (joinR l)) ∧ z = st) := by
    intro hok
    have hR : joinR l = _ := if_neg (fun h => h.elim (fun h => h hok) hnil)
    (repeat' first | ((first | refine go rfl rfl ?_ | (refine Fk.by_ ?_ ?_ <;> intro hc <;> try simp only [hc]) | refine storeK_eq rfl ?_ | with_reducible refine And.intro ?_ ?_ | fail) <;> try simp only [hlast, push_cast, reduceIte, Nat.reduceEqDiff, reduceCtorEq, Nat.reduceAdd, Nat.reduceLeDiff, Nat.reduceBEq]))
    refine WT_loop rfl (fun n e z => ∃ j : Nat, n = m - j ∧ j ≤ m ∧ firstErr l.dropLast = firstErr (l.dropLast.drop j) ∧ e = [(6, .int .i64 (j : Int)), (5, .int .i64 ((totL (l.take j) : Int) + (j : Int))), (0, .sl (l.map tkV))] ∧ z = st) st.nx (Nat.le_refl _) (by rintro _ _ _ ⟨j, _, _, _, _, rfl⟩; rfl)
      ⟨_, _, _, ⟨0, rfl, Nat.zero_le _, by rw [List.drop_zero], rfl, rfl⟩, .cons rfl rfl (.cons rfl rfl (.cons bdL_tk rfl .nil)), .refl hwf⟩ ?_
    rintro n e z ⟨j, rfl, hj, hfe, rfl, rfl⟩
    rcases Nat.lt_or_ge j m with hlt | hge
    · obtain ⟨x, hx⟩ : ∃ x, l[j]? = some x := ⟨_, List.getElem?_eq_getElem (by omega)⟩
      have h2 : decide ((j : Int) < (m : Int)) = true := decide_eq_true (by omega)
      have hw : IntKind.i64.wrap ((j : Int) + 1) = (j : Int) + 1 := wrap64 (by omega) (by omega)
      have hxt : x.t.length ≤ 6000 := Nat.le_trans (le_totL (List.mem_of_getElem? hx)) ht
      have hxd : l.dropLast[j]? = some x := by rw [hdl, List.getElem?_take, if_pos (by omega), hx]
      have hdr : firstErr (l.dropLast.drop j) = if tokErr x = 0 then firstErr (l.dropLast.drop (j + 1)) else tokErr x := by
        obtain ⟨g1, g2⟩ := List.getElem?_eq_some_iff.1 hxd
        rw [List.drop_eq_getElem_cons g1, g2, firstErr]
      have hft : ∀ st, VRet Try.prog 37 [.agg [.int .i64 x.k, .str x.t, .int .i64 x.a]] st (.int .i64 (tokErr x)) st := fun st => reftoken_v x st (by omega)
      by_cases hte : tokErr x = 0
      · rw [if_pos hte] at hdr
        have h3 : (tokErr x != 0) = false := by simp [hte]
        have hw1 : IntKind.i64.wrap ((x.t.length : Int) + 1) = (x.t.length : Int) + 1 := wrap64 (by omega) (by omega)
        have htk := totL_take hx
        have := htj (j + 1)
        have hw2 : IntKind.i64.wrap ((totL (l.take j) : Int) + (j : Int) + ((x.t.length : Int) + 1)) = (totL (l.take (j + 1)) : Int) + ((j + 1 : Nat) : Int) := by rw [wrap64 (by omega) (by omega), htk]; omega
        (repeat' first | ((first | refine go rfl rfl ?_ | refine Cl.by_ (by (first | refine hft _)) ?_ | (refine Fk.by_ ?_ ?_ <;> intro hc <;> try simp only [hc]) | refine storeK_eq rfl ?_ | with_reducible refine And.intro ?_ ?_ | fail) <;> try simp only [hlast, h2, hw, hx, h3, hw1, hw2, cells_tkV, push_cast, reduceIte, Nat.reduceEqDiff, reduceCtorEq, Nat.reduceAdd, Nat.reduceLeDiff, Nat.reduceBEq]))
        exact ⟨_, _, _, by omega, ⟨j + 1, rfl, by omega, by rw [hfe, hdr], rfl, rfl⟩, .cons rfl rfl (.cons rfl rfl (.cons bdL_tk rfl .nil)), .refl hwf⟩
      · rw [if_neg hte] at hdr
        have h3 : (tokErr x != 0) = true := by simpa [bne] using hte
        have hR2 : joinR l = ([], tokErr x) := by rw [hR, hfe, hdr, if_pos hte]
        rw [hR2]
        (repeat' first | ((first | refine go rfl rfl ?_ | refine Cl.by_ (by (first | refine hft _)) ?_ | (refine Fk.by_ ?_ ?_ <;> intro hc <;> try simp only [hc]) | refine storeK_eq rfl ?_ | with_reducible refine And.intro ?_ ?_ | fail) <;> try simp only [hlast, h2, hw, hx, h3, cells_tkV, push_cast, reduceIte, Nat.reduceEqDiff, reduceCtorEq, Nat.reduceAdd, Nat.reduceLeDiff, Nat.reduceBEq]))
        refine finB (hwf) (by simp only [F22, joinV, push_cast, reduceIte, Nat.reduceEqDiff, reduceCtorEq, Nat.reduceAdd, Nat.reduceLeDiff, Nat.reduceBEq]; exact rfl) (by first | exact .inl rfl | (right; simp only [F22, joinV, push_cast, reduceIte, Nat.reduceEqDiff, reduceCtorEq, Nat.reduceAdd, Nat.reduceLeDiff, Nat.reduceBEq]; try rfl)) (by first | rfl | assumption) (by simp) (by simp) (by (repeat first | exact (hwf).subm | exact (hwf).suba | refine Sub.drop (by simp) ?_)) (by (repeat first | exact (hwf).subm | exact (hwf).suba | refine Sub.drop (by simp) ?_))
    · have h2 : decide ((j : Int) < (m : Int)) = false := decide_eq_false (by omega)
      have ej : j = m := by omega
      subst ej
      have hfe0 : firstErr l.dropLast = 0 := by
        rw [hfe, List.drop_eq_nil_of_le (by rw [List.length_dropLast]; omega)]; rfl
      (repeat' first | exact WT_env (by repeat first | exact .nil | refine .cons (by first | rfl | simp only [push_cast, reduceIte, Nat.reduceEqDiff, reduceCtorEq, Nat.reduceAdd, Nat.reduceLeDiff, Nat.reduceBEq]) ?_) (key3 hok hfe0) | ((first | refine go rfl rfl ?_ | (refine Fk.by_ ?_ ?_ <;> intro hc <;> try simp only [hc]) | refine storeK_eq rfl ?_ | with_reducible refine And.intro ?_ ?_ | fail) <;> try simp only [hlast, h2, push_cast, reduceIte, Nat.reduceEqDiff, reduceCtorEq, Nat.reduceAdd, Nat.reduceLeDiff, Nat.reduceBEq]))
  (repeat' first | ((first | refine go rfl rfl ?_ | (refine Fk.by_ ?_ ?_ <;> intro hc <;> try simp only [hc]) | refine storeK_eq rfl ?_ | with_reducible refine And.intro ?_ ?_ | fail) <;> try simp only [h0, push_cast, reduceIte, Nat.reduceEqDiff, reduceCtorEq, Nat.reduceAdd, Nat.reduceLeDiff, Nat.reduceBEq]))
  refine WT_loop rfl (fun n e z => ∃ j : Nat, n = l.length - j ∧ j ≤ l.length ∧ (∀ (i : Nat) (x : Tok), i < j → l[i]? = some x → (x.k = 3 ↔ i + 1 = l.length)) ∧ e = [(4, .int .i64 (j : Int)), (0, .sl (l.map tkV))] ∧ z = st) st.nx (Nat.le_refl _) (by rintro _ _ _ ⟨j, _, _, _, _, rfl⟩; rfl)
    ⟨_, _, _, ⟨0, rfl, Nat.zero_le _, fun i x h => by omega, rfl, rfl⟩, .cons rfl rfl (.cons bdL_tk rfl .nil), .refl hwf⟩ ?_
  rintro n e z ⟨j, rfl, hj, hok, rfl, rfl⟩
  rcases Nat.lt_or_ge j l.length with hlt | hge
  · obtain ⟨x, hx⟩ : ∃ x, l[j]? = some x := ⟨_, List.getElem?_eq_getElem hlt⟩
    have h2 : decide ((j : Int) < (l.length : Int)) = true := decide_eq_true (by omega)
    have hw : IntKind.i64.wrap ((j : Int) + 1) = (j : Int) + 1 := wrap64 (by omega) (by omega)
    by_cases hmm : x.k = 3 ↔ j + 1 = l.length
    · have h3 : ((x.k == 3) != ((j : Int) == (m : Int))) = false := by
        have : ((x.k == 3) = ((j : Int) == (m : Int))) := by
          rw [Bool.eq_iff_iff]; simp only [beq_iff_eq]; rw [hmm]; omega
        rw [this]; simp
      (repeat' first | ((first | refine go rfl rfl ?_ | (refine Fk.by_ ?_ ?_ <;> intro hc <;> try simp only [hc]) | refine storeK_eq rfl ?_ | with_reducible refine And.intro ?_ ?_ | fail) <;> try simp only [hlast, h2, hx, hw, h3, cells_tkV, push_cast, reduceIte, Nat.reduceEqDiff, reduceCtorEq, Nat.reduceAdd, Nat.reduceLeDiff, Nat.reduceBEq]))
      refine ⟨_, _, _, by omega, ⟨j + 1, rfl, by omega, fun i y hi hy => ?_, rfl, rfl⟩, .cons rfl rfl (.cons bdL_tk rfl .nil), .refl hwf⟩
      rcases Nat.lt_or_ge i j with h | h
      · exact hok i y h hy
      · have : i = j := by omega
        subst this; rw [hx] at hy; cases hy; exact hmm
    · have h3 : ((x.k == 3) != ((j : Int) == (m : Int))) = true := by
        cases h : ((x.k == 3) != ((j : Int) == (m : Int))) with
        | true => rfl
        | false =>
          have h' : (x.k == 3) = ((j : Int) == (m : Int)) := by simpa [bne] using h
          refine absurd ?_ hmm
          rw [Bool.eq_iff_iff] at h'; simp only [beq_iff_eq] at h'; rw [h']; omega
      have hR : joinR l = ([], 12) := if_pos (.inl fun h => hmm (h j x hx))
      rw [hR]
      (repeat' first | ((first | refine go rfl rfl ?_ | (refine Fk.by_ ?_ ?_ <;> intro hc <;> try simp only [hc]) | refine storeK_eq rfl ?_ | with_reducible refine And.intro ?_ ?_ | fail) <;> try simp only [hlast, h2, hx, hw, h3, cells_tkV, push_cast, reduceIte, Nat.reduceEqDiff, reduceCtorEq, Nat.reduceAdd, Nat.reduceLeDiff, Nat.reduceBEq]))
      refine finB (hwf) (by simp only [F22, joinV, push_cast, reduceIte, Nat.reduceEqDiff, reduceCtorEq, Nat.reduceAdd, Nat.reduceLeDiff, Nat.reduceBEq]; exact rfl) (by first | exact .inl rfl | (right; simp only [F22, joinV, push_cast, reduceIte, Nat.reduceEqDiff, reduceCtorEq, Nat.reduceAdd, Nat.reduceLeDiff, Nat.reduceBEq]; try rfl)) (by first | rfl | assumption) (by simp) (by simp) (by (repeat first | exact (hwf).subm | exact (hwf).suba | refine Sub.drop (by simp) ?_)) (by (repeat first | exact (hwf).subm | exact (hwf).suba | refine Sub.drop (by simp) ?_))
  · have h2 : decide ((j : Int) < (l.length : Int)) = false := decide_eq_false (by omega)
    (repeat' first | exact WT_env (by repeat first | exact .nil | refine .cons (by first | rfl | simp only [push_cast, reduceIte, Nat.reduceEqDiff, reduceCtorEq, Nat.reduceAdd, Nat.reduceLeDiff, Nat.reduceBEq]) ?_) (key2 (fun i x h => hok i x (by have := (List.getElem?_eq_some_iff.1 h).1; omega) h)) | ((first | refine go rfl rfl ?_ | (refine Fk.by_ ?_ ?_ <;> intro hc <;> try simp only [hc]) | refine storeK_eq rfl ?_ | with_reducible refine And.intro ?_ ?_ | fail) <;> try simp only [h2, push_cast, reduceIte, Nat.reduceEqDiff, reduceCtorEq, Nat.reduceAdd, Nat.reduceLeDiff, Nat.reduceBEq]))

theorem joins_v (l : List Tok) (st : St) (hl : l.length ≤ 140737488351232) (hb : ∀ x ∈ l, x.t.length ≤ 140737488351232) : VRet Try.prog 6 [.sl (l.map tkV)] st (.bool true) st := by
  refine VCalls_of F6_ok mixed (Nat.le_of_ble_eq_true rfl) (fun hwf => ?_)
  cases hf : fewB l with
  | false =>
    (repeat' first | ((first | refine go rfl rfl ?_ | refine Cl.by_ (by (first | refine few_v _ _ hl hb | refine awake_v _)) ?_ | (refine Fk.by_ ?_ ?_ <;> intro hc <;> try simp only [hc]) | refine storeK_eq rfl ?_ | with_reducible refine And.intro ?_ ?_ | fail) <;> try simp only [hf, push_cast, reduceIte, Nat.reduceEqDiff, reduceCtorEq, Nat.reduceAdd, Nat.reduceLeDiff, Nat.reduceBEq]))
    refine finB (hwf) (by simp only [F6, push_cast, reduceIte, Nat.reduceEqDiff, reduceCtorEq, Nat.reduceAdd, Nat.reduceLeDiff, Nat.reduceBEq]; exact rfl) (by first | exact .inl rfl | (right; simp only [F6, push_cast, reduceIte, Nat.reduceEqDiff, reduceCtorEq, Nat.reduceAdd, Nat.reduceLeDiff, Nat.reduceBEq]; try rfl)) (by first | rfl | assumption) (by simp) (by simp) (by (repeat first | exact (hwf).subm | exact (hwf).suba | refine Sub.drop (by simp) ?_)) (by (repeat first | exact (hwf).subm | exact (hwf).suba | refine Sub.drop (by simp) ?_))
  | true =>
    have hf2 : l.length ≤ 400 ∧ totL l ≤ 6000 := by simpa [fewB] using hf
    obtain ⟨s, e, hR⟩ : ∃ s e, joinR l = (s, e) := ⟨_, _, rfl⟩
    have hj1 : ∀ st, VRet Try.prog 21 [.sl (l.map tkV)] st (.tup [.str s, .int .i64 e]) st := fun st => by have := Join_v l st hf2.1 hf2.2; rwa [hR] at this
    have hj2 : ∀ st, VRet Try.prog 22 [.sl (l.map tkV)] st (.tup [.str s, .int .i64 e]) st := fun st => by have := refJoin_v l st hf2.1 hf2.2; rwa [hR] at this
    (repeat' first | ((first | refine go rfl rfl ?_ | refine Cl.by_ (by (first | refine few_v _ _ hl hb | refine awake_v _ | refine hj1 _ | refine hj2 _)) ?_ | (refine Fk.by_ ?_ ?_ <;> intro hc <;> try simp only [hc]) | refine storeK_eq rfl ?_ | with_reducible refine And.intro ?_ ?_ | fail) <;> try simp only [hf, BEq.rfl, push_cast, reduceIte, Nat.reduceEqDiff, reduceCtorEq, Nat.reduceAdd, Nat.reduceLeDiff, Nat.reduceBEq]))
    refine finB (hwf) (by simp only [F6, push_cast, reduceIte, Nat.reduceEqDiff, reduceCtorEq, Nat.reduceAdd, Nat.reduceLeDiff, Nat.reduceBEq]; exact rfl) (by first | exact .inl rfl | (right; simp only [F6, push_cast, reduceIte, Nat.reduceEqDiff, reduceCtorEq, Nat.reduceAdd, Nat.reduceLeDiff, Nat.reduceBEq]; try rfl)) (by first | rfl | assumption) (by simp) (by simp) (by (repeat first | exact (hwf).subm | exact (hwf).suba | refine Sub.drop (by simp) ?_)) (by (repeat first | exact (hwf).subm | exact (hwf).suba | refine Sub.drop (by simp) ?_))
end Go.Proofs.Ytajbgangpipheaa
