/- lexer.Join. -/
import Derived.Test.YtajbgangpipheaaL13
set_option linter.unusedSimpArgs false
set_option linter.unusedVariables false
namespace Go.Proofs.Ytajbgangpipheaa
open Go.Sha

/-- The end is the last token, and no other. -/
def endsOk (l : List Tok) : Prop := ∀ (i : Nat) (x : Tok), l[i]? = some x → (x.k = 3 ↔ i + 1 = l.length)
noncomputable def firstErr : List Tok → Int
  | [] => 0
  | x :: r => if tokErr x = 0 then firstErr r else tokErr x
def texts (l : List Tok) : List (List UInt8) := l.map (·.t)
def lastT (l : List Tok) : List UInt8 := match l.getLast? with
  | some x => x.t
  | none => []
open Classical in
noncomputable def joinR (l : List Tok) : List UInt8 × Int :=
  if ¬ endsOk l ∨ l = [] then ([], 12)
  else if firstErr l.dropLast ≠ 0 then ([], firstErr l.dropLast)
  else if lastT l ≠ [] then ([], 3)
  else if 4096 < (Lib.join (texts l.dropLast) [32]).length then ([], 13)
  else (Lib.join (texts l.dropLast) [32], 0)
def joinV (r : List UInt8 × Int) : V := .tup [.str r.1, .int .i64 r.2]

theorem joinTail_len : ∀ (r : List (List UInt8)), (Lib.joinTail [32] r).length = (r.map (·.length)).sum + r.length
  | [] => rfl
  | x :: r => by
    have := joinTail_len r
    unfold Lib.joinTail at this ⊢
    simp only [List.map_cons, List.flatten_cons, List.length_append, List.length_cons, List.length_nil, this, List.sum_cons]
    omega
theorem join_len : ∀ (xs : List (List UInt8)), (Lib.join xs [32]).length + (if xs = [] then 0 else 1) = (xs.map (·.length)).sum + xs.length
  | [] => rfl
  | x :: r => by
    rw [Lib.join_cons, List.length_append, joinTail_len]
    simp; omega

theorem tokErr_one {x : Tok} (h3 : x.k ≠ 3) (hg : tokErr x = 0) : oneR x.t = (tokV x.k x.t 0, true) := by
  have hk : ¬ (x.k < 0 ∨ 3 ≤ x.k) := fun h => by rw [tokErr, if_pos h] at hg; cases hg
  have hgood : goodTok x := by
    by_cases h : goodTok x
    · exact h
    · rw [tokErr, if_neg hk, if_neg h] at hg; cases hg
  obtain ⟨h1, h2, _⟩ := hgood
  unfold oneR
  rw [h2, h1]
  simp [h3]

theorem oneR_good {x : Tok} (h3 : x.k ≠ 3) {k : Int} {t : List UInt8} {a : Nat} (ho : oneR x.t = (tokV k t a, true)) (hk : k = x.k) (ht : t = x.t) : goodTok x := by
  obtain ⟨k', t', a', b', e1, e2⟩ := oneR_ex x.t
  rw [ho] at e1
  simp only [Prod.mk.injEq, tokV, V.agg.injEq, List.cons.injEq, V.int.injEq, V.str.injEq, and_true, true_and] at e1
  obtain ⟨⟨g1, g2, _⟩, g4⟩ := e1
  obtain ⟨_, _, f3, f4⟩ := e2 g4.symm
  exact ⟨by rw [f4, ← g1, ← g2, hk, ht], f3, h3⟩

theorem Join_v (l : List Tok) (st : St) (hl : l.length ≤ 400) (ht : totL l ≤ 6000) : VRet Try.prog 21 [.sl (l.map tkV)] st (joinV (joinR l)) st := by
  refine VCalls_of F21_ok mixed (Nat.le_of_ble_eq_true rfl) (fun hwf => ?_)
  have hlast : IntKind.i64.wrap ((l.length : Int) - 1) = (l.length : Int) - 1 := wrap64 (by omega) (by omega)
  have key : endsOk l → WT Try.prog F21.N F21.T 27 [(4, .int .i64 ((l.length : Int) - 1)), (0, .sl (l.map tkV))] st (finQ F21.res st.nx fun x z => x = .ret (joinV (joinR l)) ∧ z = st) := by
    intro hok
    by_cases hnil : l = []
    · subst hnil
      have hR : joinR [] = ([], 12) := if_pos (.inr rfl)
      have h0 : decide (((([] : List Tok).length : Nat) : Int) - 1 < 0) = true := rfl
      rw [hR]
      (repeat' first | ((first | refine go rfl rfl ?_ | (refine Fk.by_ ?_ ?_ <;> intro hc <;> try simp only [hc]) | refine storeK_eq rfl ?_ | with_reducible refine And.intro ?_ ?_ | fail) <;> try simp only [h0, push_cast, reduceIte, Nat.reduceEqDiff, reduceCtorEq, Nat.reduceAdd, Nat.reduceLeDiff, Nat.reduceBEq]))
      refine finB (hwf) (by simp only [F21, joinV, push_cast, reduceIte, Nat.reduceEqDiff, reduceCtorEq, Nat.reduceAdd, Nat.reduceLeDiff, Nat.reduceBEq]; exact rfl) (by first | exact .inl rfl | (right; simp only [F21, joinV, push_cast, reduceIte, Nat.reduceEqDiff, reduceCtorEq, Nat.reduceAdd, Nat.reduceLeDiff, Nat.reduceBEq]; try rfl)) (by first | rfl | assumption) (by simp) (by simp) (by (repeat first | exact (hwf).subm | exact (hwf).suba | refine Sub.drop (by simp) ?_)) (by (repeat first | exact (hwf).subm | exact (hwf).suba | refine Sub.drop (by simp) ?_))
    · have hpos : 0 < l.length := List.length_pos_iff.2 hnil
      have h0 : decide ((l.length : Int) - 1 < 0) = false := decide_eq_false (by omega)
      have hR : joinR l = _ := if_neg (fun h => h.elim (fun h => h hok) hnil)
      have hdl : l.dropLast = l.take (l.length - 1) := List.dropLast_eq_take
      (repeat' first | ((first | refine go rfl rfl ?_ | (refine Fk.by_ ?_ ?_ <;> intro hc <;> try simp only [hc]) | refine storeK_eq rfl ?_ | with_reducible refine And.intro ?_ ?_ | fail) <;> try simp only [h0, push_cast, reduceIte, Nat.reduceEqDiff, reduceCtorEq, Nat.reduceAdd, Nat.reduceLeDiff, Nat.reduceBEq]))
      refine WT_own 9 1 (t := 7) rfl ?_
      have htl : ∀ j, j ≤ l.length → (texts (l.take j)).length = j := fun j hj => by simp [texts]; omega
      have hbS : ∀ (n : Nat) (xs : List (List UInt8)), V.bdL n (xs.map V.str) = true := fun n xs => bdL_map fun _ _ => rfl
      have key2 : ∀ (j : Nat) (cs : List V), j + 1 = l.length → firstErr l.dropLast = 0 → lastT l = [] → WT Try.prog F21.N F21.T 86 [(7, .osl st.nx j)] ⟨st.nx + 2, (st.nx + 1, cs) :: st.mem, (st.nx, ⟨9, 1, (texts (l.take j)).map .str, false, false⟩) :: st.arr⟩ (finQ F21.res st.nx fun x z => x = .ret (joinV (joinR l)) ∧ z = st) := by
        intro j cs hj hfe hlt
        rw [if_neg (by simp [hfe]), if_neg (by simp [hlt]), hdl, show l.length - 1 = j by omega] at hR
        have hjl : (Lib.join (texts (l.take j)) [32]).length ≤ 140737488355328 := by
          have h1 := join_len (texts (l.take j))
          have h2 : ((texts (l.take j)).map (·.length)).sum = totL (l.take j) := by simp [texts, totL, List.map_map, Function.comp_def]
          have h3 : totL (l.take j) ≤ totL l := by
            have : totL l = totL (l.take j) + totL (l.drop j) := by unfold totL; rw [← List.sum_append, ← List.map_append, List.take_append_drop]
            omega
          rw [h2, htl j (by omega)] at h1
          omega
        generalize hq : Lib.join (texts (l.take j)) [32] = q at hR hjl
        have hjv : ∀ st, VRet Try.prog 36 [.sl ((texts (l.take j)).map .str), .str [32]] st (.str q) st := fun st => by
          have := join_v (texts (l.take j)) [32] st (by rw [htl j (by omega)]; omega) (by rw [hq]; exact hjl)
          rwa [hq] at this
        by_cases h4 : 4096 < q.length
        · rw [if_pos h4] at hR
          have h5 : decide ((4096 : Int) < (q.length : Int)) = true := decide_eq_true (by omega)
          rw [hR]
          (repeat' first | ((first | refine go rfl rfl ?_ | refine Cl.by_ (by (first | apply VRet.snap (hjv _)) <;> first | omega | (simp only [h5, htl j (by omega), push_cast, reduceIte, Nat.reduceEqDiff, reduceCtorEq, Nat.reduceAdd, Nat.reduceLeDiff, Nat.reduceBEq]; done) | (simp only [h5, htl j (by omega), push_cast, reduceIte, Nat.reduceEqDiff, reduceCtorEq, Nat.reduceAdd, Nat.reduceLeDiff, Nat.reduceBEq]; exact rfl) | fail) ?_ | (refine Fk.by_ ?_ ?_ <;> intro hc <;> try simp only [hc]) | refine storeK_eq rfl ?_ | with_reducible refine And.intro ?_ ?_ | fail) <;> try simp only [h5, htl j (by omega), push_cast, reduceIte, Nat.reduceEqDiff, reduceCtorEq, Nat.reduceAdd, Nat.reduceLeDiff, Nat.reduceBEq]))
          refine finB (hwf) (by simp only [F21, joinV, push_cast, reduceIte, Nat.reduceEqDiff, reduceCtorEq, Nat.reduceAdd, Nat.reduceLeDiff, Nat.reduceBEq]; exact rfl) (by first | exact .inl rfl | (right; simp only [F21, joinV, push_cast, reduceIte, Nat.reduceEqDiff, reduceCtorEq, Nat.reduceAdd, Nat.reduceLeDiff, Nat.reduceBEq]; try rfl)) (by first | rfl | assumption) (by simp) (by simp) (by (repeat first | exact (hwf).subm | exact (hwf).suba | refine Sub.drop (by simp) ?_)) (by (repeat first | exact (hwf).subm | exact (hwf).suba | refine Sub.drop (by simp) ?_))
        · rw [if_neg h4] at hR
          have h5 : decide ((4096 : Int) < (q.length : Int)) = false := decide_eq_false (by omega)
          rw [hR]
          (repeat' first | ((first | refine go rfl rfl ?_ | refine Cl.by_ (by (first | apply VRet.snap (hjv _)) <;> first | omega | (simp only [h5, htl j (by omega), push_cast, reduceIte, Nat.reduceEqDiff, reduceCtorEq, Nat.reduceAdd, Nat.reduceLeDiff, Nat.reduceBEq]; done) | (simp only [h5, htl j (by omega), push_cast, reduceIte, Nat.reduceEqDiff, reduceCtorEq, Nat.reduceAdd, Nat.reduceLeDiff, Nat.reduceBEq]; exact rfl) | fail) ?_ | (refine Fk.by_ ?_ ?_ <;> intro hc <;> try simp only [hc]) | refine storeK_eq rfl ?_ | with_reducible refine And.intro ?_ ?_ | fail) <;> try simp only [h5, htl j (by omega), push_cast, reduceIte, Nat.reduceEqDiff, reduceCtorEq, Nat.reduceAdd, Nat.reduceLeDiff, Nat.reduceBEq]))
          refine finB (hwf) (by simp only [F21, joinV, push_cast, reduceIte, Nat.reduceEqDiff, reduceCtorEq, Nat.reduceAdd, Nat.reduceLeDiff, Nat.reduceBEq]; exact rfl) (by first | exact .inl rfl | (right; simp only [F21, joinV, push_cast, reduceIte, Nat.reduceEqDiff, reduceCtorEq, Nat.reduceAdd, Nat.reduceLeDiff, Nat.reduceBEq]; try rfl)) (by first | rfl | assumption) (by simp) (by simp) (by (repeat first | exact (hwf).subm | exact (hwf).suba | refine Sub.drop (by simp) ?_)) (by (repeat first | exact (hwf).subm | exact (hwf).suba | refine Sub.drop (by simp) ?_))
      refine WT_loop rfl (fun n e z => ∃ j : Nat, n = l.length - j ∧ j < l.length ∧ firstErr l.dropLast = firstErr (l.dropLast.drop j) ∧ e = [(35, .int .i64 (j : Int)), (34, .int .i64 (l.length : Int)), (33, .sl (l.map tkV)), (7, .osl st.nx j), (4, .int .i64 ((l.length : Int) - 1))] ∧
          z = ⟨st.nx + 1, st.mem, (st.nx, ⟨9, 1, (texts (l.take j)).map .str, false, false⟩) :: st.arr⟩) (st.nx + 1) (Nat.le_refl _) (by rintro _ _ _ ⟨j, _, _, _, _, rfl⟩; rfl)
        ⟨_, _, _, ⟨0, rfl, hpos, by rw [List.drop_zero], rfl, rfl⟩, .cons rfl rfl (.cons rfl rfl (.cons bdL_tk rfl (.cons (by simp [V.bd]) rfl (.cons rfl rfl .nil)))), .refl (hwf.newA rfl)⟩ ?_
      rintro n e z ⟨j, rfl, hj, hfe, rfl, rfl⟩
      obtain ⟨x, hx⟩ : ∃ x, l[j]? = some x := ⟨_, List.getElem?_eq_getElem hj⟩
      have h2 : decide ((j : Int) < (l.length : Int)) = true := decide_eq_true (by omega)
      have hw : IntKind.i64.wrap ((j : Int) + 1) = (j : Int) + 1 := wrap64 (by omega) (by omega)
      have hxt : x.t.length ≤ 6000 := Nat.le_trans (le_totL (List.mem_of_getElem? hx)) ht
      have hiff := hok j x hx
      rcases Nat.lt_or_ge (j + 1) l.length with hlt | hge
      · have h3 : x.k ≠ 3 := fun h => by have := hiff.1 h; omega
        have hl1 : ((j : Int) == (l.length : Int) - 1) = false := by simp; omega
        have hxd : l.dropLast[j]? = some x := by rw [hdl, List.getElem?_take, if_pos (by omega), hx]
        have hdr : firstErr (l.dropLast.drop j) = if tokErr x = 0 then firstErr (l.dropLast.drop (j + 1)) else tokErr x := by
          obtain ⟨g1, g2⟩ := List.getElem?_eq_some_iff.1 hxd
          rw [List.drop_eq_getElem_cons g1, g2, firstErr]
        by_cases hte : tokErr x = 0
        · rw [if_pos hte] at hdr
          have hk : ¬ (x.k < 0 ∨ 3 ≤ x.k) := fun h => by rw [tokErr, if_pos h] at hte; cases hte
          have k1 : decide (x.k < 0) = false := decide_eq_false (by omega)
          have k2 : decide (3 < x.k) = false := decide_eq_false (by omega)
          have ho := tokErr_one h3 hte
          have k3 : (x.k != x.k) = false := by simp
          have k4 : (x.t != x.t) = false := by simp
          have hrm : roomV (j + 1) 16 = true := by simp [roomV, maxLen]; omega
          have happ : (texts (l.take j)).map V.str ++ [.str x.t] = (texts (l.take (j + 1))).map V.str := by
            rw [List.take_add_one, hx]; simp [texts]
          (repeat' first | ((first | refine go rfl rfl ?_ | refine Cl.by_ (by (first | refine one_v _ _ (by omega))) ?_ | (refine Fk.by_ ?_ ?_ <;> intro hc <;> try simp only [hc]) | refine storeK_eq rfl ?_ | with_reducible refine And.intro ?_ ?_ | fail) <;> try simp only [h2, hx, hw, hl1, k1, k2, k3, k4, ho, hrm, happ, htl j (by omega), cells_tkV, cells_tokV, push_cast, reduceIte, Nat.reduceEqDiff, reduceCtorEq, Nat.reduceAdd, Nat.reduceLeDiff, Nat.reduceBEq]))
          exact ⟨_, _, _, by omega, ⟨j + 1, rfl, hlt, by rw [hfe, hdr], rfl, rfl⟩, .cons rfl rfl (.cons rfl rfl (.cons bdL_tk rfl (.cons (by simp [V.bd]) rfl (.cons rfl rfl .nil)))), Weak.wf rfl (by simp) (by (repeat first | exact (hwf.newA (hbS _ _)).subm | exact (hwf.newA (hbS _ _)).suba | refine Sub.drop (by simp) ?_)) (by (repeat first | exact (hwf.newA (hbS _ _)).subm | exact (hwf.newA (hbS _ _)).suba | refine Sub.drop (by simp) ?_)) (hwf.newA (hbS _ _))⟩
        · rw [if_neg hte] at hdr
          have hR2 : joinR l = ([], tokErr x) := by rw [hR, hfe, hdr, if_pos hte]
          rw [hR2]
          by_cases hk1 : x.k < 0
          · have hR3 : tokErr x = 1 := if_pos (.inl hk1)
            have k1 : decide (x.k < 0) = true := decide_eq_true hk1
            rw [hR3]
            (repeat' first | ((first | refine go rfl rfl ?_ | (refine Fk.by_ ?_ ?_ <;> intro hc <;> try simp only [hc]) | refine storeK_eq rfl ?_ | with_reducible refine And.intro ?_ ?_ | fail) <;> try simp only [h2, hx, k1, cells_tkV, push_cast, reduceIte, Nat.reduceEqDiff, reduceCtorEq, Nat.reduceAdd, Nat.reduceLeDiff, Nat.reduceBEq]))
            refine finB (hwf) (by simp only [F21, joinV, push_cast, reduceIte, Nat.reduceEqDiff, reduceCtorEq, Nat.reduceAdd, Nat.reduceLeDiff, Nat.reduceBEq]; exact rfl) (by first | exact .inl rfl | (right; simp only [F21, joinV, push_cast, reduceIte, Nat.reduceEqDiff, reduceCtorEq, Nat.reduceAdd, Nat.reduceLeDiff, Nat.reduceBEq]; try rfl)) (by first | rfl | assumption) (by simp) (by simp) (by (repeat first | exact (hwf).subm | exact (hwf).suba | refine Sub.drop (by simp) ?_)) (by (repeat first | exact (hwf).subm | exact (hwf).suba | refine Sub.drop (by simp) ?_))
          · have k1 : decide (x.k < 0) = false := decide_eq_false hk1
            by_cases hk2 : 3 < x.k
            · have hR3 : tokErr x = 1 := if_pos (.inr (by omega))
              have k2 : decide (3 < x.k) = true := decide_eq_true hk2
              rw [hR3]
              (repeat' first | ((first | refine go rfl rfl ?_ | (refine Fk.by_ ?_ ?_ <;> intro hc <;> try simp only [hc]) | refine storeK_eq rfl ?_ | with_reducible refine And.intro ?_ ?_ | fail) <;> try simp only [h2, hx, k1, k2, cells_tkV, push_cast, reduceIte, Nat.reduceEqDiff, reduceCtorEq, Nat.reduceAdd, Nat.reduceLeDiff, Nat.reduceBEq]))
              refine finB (hwf) (by simp only [F21, joinV, push_cast, reduceIte, Nat.reduceEqDiff, reduceCtorEq, Nat.reduceAdd, Nat.reduceLeDiff, Nat.reduceBEq]; exact rfl) (by first | exact .inl rfl | (right; simp only [F21, joinV, push_cast, reduceIte, Nat.reduceEqDiff, reduceCtorEq, Nat.reduceAdd, Nat.reduceLeDiff, Nat.reduceBEq]; try rfl)) (by first | rfl | assumption) (by simp) (by simp) (by (repeat first | exact (hwf).subm | exact (hwf).suba | refine Sub.drop (by simp) ?_)) (by (repeat first | exact (hwf).subm | exact (hwf).suba | refine Sub.drop (by simp) ?_))
            · have k2 : decide (3 < x.k) = false := decide_eq_false hk2
              have hng : ¬ goodTok x := fun h => hte (by rw [tokErr, if_neg (by omega), if_pos h])
              have hR3 : tokErr x = 3 := by rw [tokErr, if_neg (by omega), if_neg hng]
              rw [hR3]
              obtain ⟨k', t', a', b', ho, _⟩ := oneR_ex x.t
              cases b' with
              | false =>
                (repeat' first | ((first | refine go rfl rfl ?_ | refine Cl.by_ (by (first | refine one_v _ _ (by omega))) ?_ | (refine Fk.by_ ?_ ?_ <;> intro hc <;> try simp only [hc]) | refine storeK_eq rfl ?_ | with_reducible refine And.intro ?_ ?_ | fail) <;> try simp only [h2, hx, hl1, k1, k2, ho, cells_tkV, cells_tokV, push_cast, reduceIte, Nat.reduceEqDiff, reduceCtorEq, Nat.reduceAdd, Nat.reduceLeDiff, Nat.reduceBEq]))
                refine finB (hwf) (by simp only [F21, joinV, push_cast, reduceIte, Nat.reduceEqDiff, reduceCtorEq, Nat.reduceAdd, Nat.reduceLeDiff, Nat.reduceBEq]; exact rfl) (by first | exact .inl rfl | (right; simp only [F21, joinV, push_cast, reduceIte, Nat.reduceEqDiff, reduceCtorEq, Nat.reduceAdd, Nat.reduceLeDiff, Nat.reduceBEq]; try rfl)) (by first | rfl | assumption) (by simp) (by simp) (by (repeat first | exact (hwf).subm | exact (hwf).suba | refine Sub.drop (by simp) ?_)) (by (repeat first | exact (hwf).subm | exact (hwf).suba | refine Sub.drop (by simp) ?_))
              | true =>
                cases k3 : (k' != x.k) with
                | true =>
                  (repeat' first | ((first | refine go rfl rfl ?_ | refine Cl.by_ (by (first | refine one_v _ _ (by omega))) ?_ | (refine Fk.by_ ?_ ?_ <;> intro hc <;> try simp only [hc]) | refine storeK_eq rfl ?_ | with_reducible refine And.intro ?_ ?_ | fail) <;> try simp only [h2, hx, hl1, k1, k2, k3, ho, cells_tkV, cells_tokV, push_cast, reduceIte, Nat.reduceEqDiff, reduceCtorEq, Nat.reduceAdd, Nat.reduceLeDiff, Nat.reduceBEq]))
                  refine finB (hwf) (by simp only [F21, joinV, push_cast, reduceIte, Nat.reduceEqDiff, reduceCtorEq, Nat.reduceAdd, Nat.reduceLeDiff, Nat.reduceBEq]; exact rfl) (by first | exact .inl rfl | (right; simp only [F21, joinV, push_cast, reduceIte, Nat.reduceEqDiff, reduceCtorEq, Nat.reduceAdd, Nat.reduceLeDiff, Nat.reduceBEq]; try rfl)) (by first | rfl | assumption) (by simp) (by simp) (by (repeat first | exact (hwf).subm | exact (hwf).suba | refine Sub.drop (by simp) ?_)) (by (repeat first | exact (hwf).subm | exact (hwf).suba | refine Sub.drop (by simp) ?_))
                | false =>
                  have k4 : (t' != x.t) = true := by
                    cases k4 : (t' != x.t) with
                    | true => rfl
                    | false => exact absurd (oneR_good h3 ho (by simpa [bne] using k3) (by simpa [bne] using k4)) hng
                  (repeat' first | ((first | refine go rfl rfl ?_ | refine Cl.by_ (by (first | refine one_v _ _ (by omega))) ?_ | (refine Fk.by_ ?_ ?_ <;> intro hc <;> try simp only [hc]) | refine storeK_eq rfl ?_ | with_reducible refine And.intro ?_ ?_ | fail) <;> try simp only [h2, hx, hl1, k1, k2, k3, k4, ho, cells_tkV, cells_tokV, push_cast, reduceIte, Nat.reduceEqDiff, reduceCtorEq, Nat.reduceAdd, Nat.reduceLeDiff, Nat.reduceBEq]))
                  refine finB (hwf) (by simp only [F21, joinV, push_cast, reduceIte, Nat.reduceEqDiff, reduceCtorEq, Nat.reduceAdd, Nat.reduceLeDiff, Nat.reduceBEq]; exact rfl) (by first | exact .inl rfl | (right; simp only [F21, joinV, push_cast, reduceIte, Nat.reduceEqDiff, reduceCtorEq, Nat.reduceAdd, Nat.reduceLeDiff, Nat.reduceBEq]; try rfl)) (by first | rfl | assumption) (by simp) (by simp) (by (repeat first | exact (hwf).subm | exact (hwf).suba | refine Sub.drop (by simp) ?_)) (by (repeat first | exact (hwf).subm | exact (hwf).suba | refine Sub.drop (by simp) ?_))
      · have hjl : j + 1 = l.length := by omega
        have h3 : x.k = 3 := hiff.2 hjl
        have k1 : decide (x.k < 0) = false := decide_eq_false (by omega)
        have k2 : decide (3 < x.k) = false := decide_eq_false (by omega)
        have hl1 : ((j : Int) == (l.length : Int) - 1) = true := by simp; omega
        have hfe0 : firstErr l.dropLast = 0 := by
          rw [hfe, List.drop_eq_nil_of_le (by rw [List.length_dropLast]; omega)]; rfl
        have hlT : lastT l = x.t := by
          unfold lastT
          rw [List.getLast?_eq_getElem?, show l.length - 1 = j by omega, hx]
        cases hte : (x.t != []) with
        | true =>
          have hR2 : joinR l = ([], 3) := by rw [hR, if_neg (by simp [hfe0]), if_pos (by rw [hlT]; simpa [bne] using hte)]
          rw [hR2]
          (repeat' first | ((first | refine go rfl rfl ?_ | (refine Fk.by_ ?_ ?_ <;> intro hc <;> try simp only [hc]) | refine storeK_eq rfl ?_ | with_reducible refine And.intro ?_ ?_ | fail) <;> try simp only [h2, hx, hl1, k1, k2, hte, cells_tkV, push_cast, reduceIte, Nat.reduceEqDiff, reduceCtorEq, Nat.reduceAdd, Nat.reduceLeDiff, Nat.reduceBEq]))
          refine finB (hwf) (by simp only [F21, joinV, push_cast, reduceIte, Nat.reduceEqDiff, reduceCtorEq, Nat.reduceAdd, Nat.reduceLeDiff, Nat.reduceBEq]; exact rfl) (by first | exact .inl rfl | (right; simp only [F21, joinV, push_cast, reduceIte, Nat.reduceEqDiff, reduceCtorEq, Nat.reduceAdd, Nat.reduceLeDiff, Nat.reduceBEq]; try rfl)) (by first | rfl | assumption) (by simp) (by simp) (by (repeat first | exact (hwf).subm | exact (hwf).suba | refine Sub.drop (by simp) ?_)) (by (repeat first | exact (hwf).subm | exact (hwf).suba | refine Sub.drop (by simp) ?_))
        | false =>
          (repeat' first | exact WT_env (by repeat first | exact .nil | refine .cons (by first | rfl | simp only [push_cast, reduceIte, Nat.reduceEqDiff, reduceCtorEq, Nat.reduceAdd, Nat.reduceLeDiff, Nat.reduceBEq]) ?_) (key2 j _ hjl hfe0 (by rw [hlT]; simpa [bne] using hte)) | ((first | refine go rfl rfl ?_ | (refine Fk.by_ ?_ ?_ <;> intro hc <;> try simp only [hc]) | refine storeK_eq rfl ?_ | with_reducible refine And.intro ?_ ?_ | fail) <;> try simp only [h2, hx, hl1, k1, k2, hte, cells_tkV, push_cast, reduceIte, Nat.reduceEqDiff, reduceCtorEq, Nat.reduceAdd, Nat.reduceLeDiff, Nat.reduceBEq]))
  (repeat' first | ((first | refine go rfl rfl ?_ | (refine Fk.by_ ?_ ?_ <;> intro hc <;> try simp only [hc]) | refine storeK_eq rfl ?_ | with_reducible refine And.intro ?_ ?_ | fail) <;> try simp only [hlast, push_cast, reduceIte, Nat.reduceEqDiff, reduceCtorEq, Nat.reduceAdd, Nat.reduceLeDiff, Nat.reduceBEq]))
  refine WT_loop rfl (fun n e z => ∃ j : Nat, n = l.length - j ∧ j ≤ l.length ∧ (∀ (i : Nat) (x : Tok), i < j → l[i]? = some x → (x.k = 3 ↔ i + 1 = l.length)) ∧ e = [(18, .int .i64 (j : Int)), (17, .int .i64 (l.length : Int)), (16, .sl (l.map tkV)), (4, .int .i64 ((l.length : Int) - 1)), (0, .sl (l.map tkV))] ∧ z = st) st.nx (Nat.le_refl _) (by rintro _ _ _ ⟨j, _, _, _, _, rfl⟩; rfl)
    ⟨_, _, _, ⟨0, rfl, Nat.zero_le _, fun i x h => by omega, rfl, rfl⟩, .cons rfl rfl (.cons rfl rfl (.cons bdL_tk rfl (.cons rfl rfl (.cons bdL_tk rfl .nil)))), .refl hwf⟩ ?_
  rintro n e z ⟨j, rfl, hj, hok, rfl, rfl⟩
  rcases Nat.lt_or_ge j l.length with hlt | hge
  · obtain ⟨x, hx⟩ : ∃ x, l[j]? = some x := ⟨_, List.getElem?_eq_getElem hlt⟩
    have h2 : decide ((j : Int) < (l.length : Int)) = true := decide_eq_true (by omega)
    have hw : IntKind.i64.wrap ((j : Int) + 1) = (j : Int) + 1 := wrap64 (by omega) (by omega)
    by_cases hm : x.k = 3 ↔ j + 1 = l.length
    · have h3 : ((x.k == 3) != ((j : Int) == (l.length : Int) - 1)) = false := by
        have : ((x.k == 3) = ((j : Int) == (l.length : Int) - 1)) := by
          rw [Bool.eq_iff_iff]; simp only [beq_iff_eq]; rw [hm]; omega
        rw [this]; simp
      (repeat' first | ((first | refine go rfl rfl ?_ | (refine Fk.by_ ?_ ?_ <;> intro hc <;> try simp only [hc]) | refine storeK_eq rfl ?_ | with_reducible refine And.intro ?_ ?_ | fail) <;> try simp only [h2, hx, hw, h3, cells_tkV, push_cast, reduceIte, Nat.reduceEqDiff, reduceCtorEq, Nat.reduceAdd, Nat.reduceLeDiff, Nat.reduceBEq]))
      refine ⟨_, _, _, by omega, ⟨j + 1, rfl, by omega, fun i y hi hy => ?_, rfl, rfl⟩, .cons rfl rfl (.cons rfl rfl (.cons bdL_tk rfl (.cons rfl rfl (.cons bdL_tk rfl .nil)))), Weak.wf rfl (by simp) (by (repeat first | exact (hwf).subm | exact (hwf).suba | refine Sub.drop (by simp) ?_)) (by (repeat first | exact (hwf).subm | exact (hwf).suba | refine Sub.drop (by simp) ?_)) (hwf)⟩
      rcases Nat.lt_or_ge i j with h | h
      · exact hok i y h hy
      · have : i = j := by omega
        subst this; rw [hx] at hy; cases hy; exact hm
    · have h3 : ((x.k == 3) != ((j : Int) == (l.length : Int) - 1)) = true := by
        cases h : ((x.k == 3) != ((j : Int) == (l.length : Int) - 1)) with
        | true => rfl
        | false =>
          have h' : (x.k == 3) = ((j : Int) == (l.length : Int) - 1) := by simpa [bne] using h
          refine absurd ?_ hm
          rw [Bool.eq_iff_iff] at h'; simp only [beq_iff_eq] at h'; rw [h']; omega
      have hR : joinR l = ([], 12) := if_pos (.inl fun h => hm (h j x hx))
      rw [hR]
      (repeat' first | ((first | refine go rfl rfl ?_ | (refine Fk.by_ ?_ ?_ <;> intro hc <;> try simp only [hc]) | refine storeK_eq rfl ?_ | with_reducible refine And.intro ?_ ?_ | fail) <;> try simp only [h2, hx, hw, h3, cells_tkV, push_cast, reduceIte, Nat.reduceEqDiff, reduceCtorEq, Nat.reduceAdd, Nat.reduceLeDiff, Nat.reduceBEq]))
      refine finB (hwf) (by simp only [F21, joinV, push_cast, reduceIte, Nat.reduceEqDiff, reduceCtorEq, Nat.reduceAdd, Nat.reduceLeDiff, Nat.reduceBEq]; exact rfl) (by first | exact .inl rfl | (right; simp only [F21, joinV, push_cast, reduceIte, Nat.reduceEqDiff, reduceCtorEq, Nat.reduceAdd, Nat.reduceLeDiff, Nat.reduceBEq]; try rfl)) (by first | rfl | assumption) (by simp) (by simp) (by (repeat first | exact (hwf).subm | exact (hwf).suba | refine Sub.drop (by simp) ?_)) (by (repeat first | exact (hwf).subm | exact (hwf).suba | refine Sub.drop (by simp) ?_))
  · have h2 : decide ((j : Int) < (l.length : Int)) = false := decide_eq_false (by omega)
    (repeat' first | exact WT_env (by repeat first | exact .nil | refine .cons (by first | rfl | simp only [push_cast, reduceIte, Nat.reduceEqDiff, reduceCtorEq, Nat.reduceAdd, Nat.reduceLeDiff, Nat.reduceBEq]) ?_) (key (fun i x h => hok i x (by have := (List.getElem?_eq_some_iff.1 h).1; omega) h)) | ((first | refine go rfl rfl ?_ | (refine Fk.by_ ?_ ?_ <;> intro hc <;> try simp only [hc]) | refine storeK_eq rfl ?_ | with_reducible refine And.intro ?_ ?_ | fail) <;> try simp only [h2, push_cast, reduceIte, Nat.reduceEqDiff, reduceCtorEq, Nat.reduceAdd, Nat.reduceLeDiff, Nat.reduceBEq]))
end Go.Proofs.Ytajbgangpipheaa
