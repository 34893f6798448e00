/- slices.Equal of tokens; the chapter's examples; LexerScans. -/
import Derived.Test.YtnondemehfkalaaDoorL9
set_option linter.unusedSimpArgs false
set_option linter.unusedVariables false
namespace Go.Proofs.YtnondemehfkalaaDoor
open Go.Sha

theorem take_succ_eq {α : Type} [DecidableEq α] {x y : List α} {j : Nat} {a b : α} (hx : x[j]? = some a) (hy : y[j]? = some b) (h : x.take j = y.take j) : x.take (j + 1) = y.take (j + 1) ↔ a = b := by
  rw [List.take_add_one, List.take_add_one, hx, hy, h]
  simp

theorem equal_v (x y : List Tok) (st : St) (hx : x.length < 140737488355328) : VRet Tryd.prog 11 [.sl (x.map tkV), .sl (y.map tkV)] st (.bool (decide (x = y))) st := by
  refine VCalls_of F11_ok mixed (Nat.le_of_ble_eq_true rfl) (fun hwf => ?_)
  by_cases hl : x.length = y.length
  · have h0 : ((x.length : Int) != (y.length : Int)) = false := by simp [hl]
    (repeat' first | ((first | refine go rfl rfl ?_ | (refine Fk.by_ ?_ ?_ <;> intro hc <;> try simp only [hc]) | refine storeK_eq rfl ?_ | with_reducible refine And.intro ?_ ?_ | fail) <;> try simp only [h0, push_cast, reduceIte, Nat.reduceEqDiff, reduceCtorEq, Nat.reduceAdd, Nat.reduceLeDiff, Nat.reduceBEq]))
    refine WT_loop rfl (fun n e z => ∃ j : Nat, n = x.length - j ∧ j ≤ x.length ∧ x.take j = y.take j ∧ e = [(13, .int .i64 (j : Int)), (12, .int .i64 (x.length : Int)), (0, .sl (x.map tkV)), (1, .sl (y.map tkV))] ∧ z = st) st.nx (Nat.le_refl _) (by rintro _ _ _ ⟨j, _, _, _, _, rfl⟩; rfl)
      ⟨_, _, _, ⟨0, rfl, Nat.zero_le _, rfl, rfl, rfl⟩, ?_, .refl hwf⟩ ?_
    · refine .cons rfl rfl (.cons rfl rfl (.cons bdL_tk rfl (.cons bdL_tk rfl .nil)))
    rintro n e z ⟨j, rfl, hj, he, rfl, rfl⟩
    rcases Nat.lt_or_ge j x.length with hlt | hge
    · obtain ⟨a, ha⟩ : ∃ a, x[j]? = some a := ⟨_, List.getElem?_eq_getElem hlt⟩
      obtain ⟨b, hb⟩ : ∃ b, y[j]? = some b := ⟨_, List.getElem?_eq_getElem (hl ▸ hlt)⟩
      have h1 : decide ((j : Int) < (x.length : Int)) = true := decide_eq_true (by omega)
      have hw : IntKind.i64.wrap ((j : Int) + 1) = (j : Int) + 1 := wrap64 (by omega) (by omega)
      have h2 : (!(a.k == b.k && (a.t == b.t && a.a == b.a))) = !decide (a = b) := by
        obtain ⟨a1, a2, a3⟩ := a
        obtain ⟨b1, b2, b3⟩ := b
        rw [Bool.eq_iff_iff]; simp
      (repeat' first | ((first | refine go rfl rfl ?_ | (refine Fk.by_ ?_ ?_ <;> intro hc <;> try simp only [hc]) | refine storeK_eq rfl ?_ | with_reducible refine And.intro ?_ ?_ | fail) <;> try simp only [h1, hw, ha, hb, cells_tkV, h2, push_cast, reduceIte, Nat.reduceEqDiff, reduceCtorEq, Nat.reduceAdd, Nat.reduceLeDiff, Nat.reduceBEq]))
      · exact ⟨_, _, _, by omega, ⟨j + 1, rfl, by omega, (take_succ_eq ha hb he).2 (of_decide_eq_true hc), rfl, rfl⟩, .cons rfl rfl (.cons rfl rfl (.cons bdL_tk rfl (.cons bdL_tk rfl .nil))), .refl hwf⟩
      · rw [decide_eq_false (fun e => of_decide_eq_false hc (by subst e; rw [ha] at hb; exact Option.some.inj hb))]
        refine finB (hwf) (by simp only [F11, push_cast, reduceIte, Nat.reduceEqDiff, reduceCtorEq, Nat.reduceAdd, Nat.reduceLeDiff, Nat.reduceBEq]; exact rfl) (by first | exact .inl rfl | (right; simp only [F11, push_cast, reduceIte, Nat.reduceEqDiff, reduceCtorEq, Nat.reduceAdd, Nat.reduceLeDiff, Nat.reduceBEq]; try rfl)) (by first | rfl | assumption) (by simp) (by simp) (by (repeat first | exact (hwf).subm | exact (hwf).suba | refine Sub.drop (by simp) ?_)) (by (repeat first | exact (hwf).subm | exact (hwf).suba | refine Sub.drop (by simp) ?_)) (by (repeat first | exact (hwf).subx | refine ExSub.drop (by simp) ?_))
    · have h1 : decide ((j : Int) < (x.length : Int)) = false := decide_eq_false (by omega)
      have exy : x = y := by rwa [List.take_of_length_le (by omega), List.take_of_length_le (by omega)] at he
      (repeat' first | ((first | refine go rfl rfl ?_ | (refine Fk.by_ ?_ ?_ <;> intro hc <;> try simp only [hc]) | refine storeK_eq rfl ?_ | with_reducible refine And.intro ?_ ?_ | fail) <;> try simp only [h1, push_cast, reduceIte, Nat.reduceEqDiff, reduceCtorEq, Nat.reduceAdd, Nat.reduceLeDiff, Nat.reduceBEq]))
      rw [decide_eq_true exy]
      refine finB (hwf) (by simp only [F11, push_cast, reduceIte, Nat.reduceEqDiff, reduceCtorEq, Nat.reduceAdd, Nat.reduceLeDiff, Nat.reduceBEq]; exact rfl) (by first | exact .inl rfl | (right; simp only [F11, push_cast, reduceIte, Nat.reduceEqDiff, reduceCtorEq, Nat.reduceAdd, Nat.reduceLeDiff, Nat.reduceBEq]; try rfl)) (by first | rfl | assumption) (by simp) (by simp) (by (repeat first | exact (hwf).subm | exact (hwf).suba | refine Sub.drop (by simp) ?_)) (by (repeat first | exact (hwf).subm | exact (hwf).suba | refine Sub.drop (by simp) ?_)) (by (repeat first | exact (hwf).subx | refine ExSub.drop (by simp) ?_))
  · have h0 : ((x.length : Int) != (y.length : Int)) = true := by simp; omega
    (repeat' first | ((first | refine go rfl rfl ?_ | (refine Fk.by_ ?_ ?_ <;> intro hc <;> try simp only [hc]) | refine storeK_eq rfl ?_ | with_reducible refine And.intro ?_ ?_ | fail) <;> try simp only [h0, push_cast, reduceIte, Nat.reduceEqDiff, reduceCtorEq, Nat.reduceAdd, Nat.reduceLeDiff, Nat.reduceBEq]))
    rw [decide_eq_false (fun e => hl (by rw [e]))]
    refine finB (hwf) (by simp only [F11, push_cast, reduceIte, Nat.reduceEqDiff, reduceCtorEq, Nat.reduceAdd, Nat.reduceLeDiff, Nat.reduceBEq]; exact rfl) (by first | exact .inl rfl | (right; simp only [F11, push_cast, reduceIte, Nat.reduceEqDiff, reduceCtorEq, Nat.reduceAdd, Nat.reduceLeDiff, Nat.reduceBEq]; try rfl)) (by first | rfl | assumption) (by simp) (by simp) (by (repeat first | exact (hwf).subm | exact (hwf).suba | refine Sub.drop (by simp) ?_)) (by (repeat first | exact (hwf).subm | exact (hwf).suba | refine Sub.drop (by simp) ?_)) (by (repeat first | exact (hwf).subx | refine ExSub.drop (by simp) ?_))

def x1 : List UInt8 := [67, 104, 97, 110, 32, 53, 46, 49, 32, 64, 51, 55, 46, 53]
def x2 : List UInt8 := [49, 46, 120, 32, 34, 97, 32, 98, 34]
def x3 : List UInt8 := [51, 32, 35, 32, 52]
def w1 : List Tok := [⟨0, [99, 104, 97, 110], 0⟩, ⟨1, [53, 46, 49], 5⟩, ⟨2, [64], 9⟩, ⟨1, [51, 55, 46, 53], 10⟩, ⟨3, [], 14⟩]
def w2 : List Tok := [⟨1, [49], 0⟩, ⟨2, [46], 1⟩, ⟨0, [120], 2⟩, ⟨0, [34, 97, 32, 98, 34], 4⟩, ⟨3, [], 9⟩]
theorem ex1 : scanR x1 = (w1, 0, 0) := by kernel_rfl
theorem ex2 : scanR x2 = (w2, 0, 0) := by kernel_rfl
theorem ex3 : scanR x3 = ([], 2, 4) := by kernel_rfl

theorem awake_v (st : St) : VRet Tryd.prog 4 [] st (.bool true) st := by
  refine VCalls_of F4_ok mixed (Nat.le_of_ble_eq_true rfl) (fun hwf => ?_)
  have c1 : ∀ st, VRet Tryd.prog 5 [.str [67, 104, 97, 110, 32, 53, 46, 49, 32, 64, 51, 55, 46, 53]] st (.tup [.sl (w1.map tkV), .int .i64 0, .int .i64 0]) st := fun st => by
    have h := scan_v x1 st; rw [ex1] at h; exact h
  have c2 : ∀ st, VRet Tryd.prog 5 [.str [49, 46, 120, 32, 34, 97, 32, 98, 34]] st (.tup [.sl (w2.map tkV), .int .i64 0, .int .i64 0]) st := fun st => by
    have h := scan_v x2 st; rw [ex2] at h; exact h
  have c3 : ∀ st, VRet Tryd.prog 5 [.str [51, 32, 35, 32, 52]] st (.tup [.sl (([] : List Tok).map tkV), .int .i64 2, .int .i64 4]) st := fun st => by
    have h := scan_v x3 st; rw [ex3] at h; exact h
  have c4 : ∀ st, VRet Tryd.prog 11 [.sl (w1.map tkV), .sl (w1.map tkV)] st (.bool true) st := fun st => by
    have h := equal_v w1 w1 st (by decide); rw [decide_eq_true rfl] at h; exact h
  have hl : w2.length = 5 := rfl
  have g0 : w2[0]? = some ⟨1, [49], 0⟩ := rfl
  have g1 : w2[1]? = some ⟨2, [46], 1⟩ := rfl
  have g2 : w2[2]? = some ⟨0, [120], 2⟩ := rfl
  have g3 : w2[3]? = some ⟨0, [34, 97, 32, 98, 34], 4⟩ := rfl
  have b0 : ((0 : Int) != 0) = false := rfl
  have b1 : ((4 : Int) != 4) = false := rfl
  have b2 : ((2 : Int) != 2) = false := rfl
  have b3 : ((5 : Int) != 5) = false := rfl
  (repeat' first | ((first | refine go rfl rfl ?_ | refine Cl.by_ (by (first | refine c1 _ | refine c2 _ | refine c3 _ | apply VRet.snap (c4 _)) <;> first | omega | (simp only [hl, b0, b1, b2, b3, g0, g1, g2, g3, cells_tkV, BEq.rfl, List.map_nil, push_cast, reduceIte, Nat.reduceEqDiff, reduceCtorEq, Nat.reduceAdd, Nat.reduceLeDiff, Nat.reduceBEq]; done) | (simp only [hl, b0, b1, b2, b3, g0, g1, g2, g3, cells_tkV, BEq.rfl, List.map_nil, push_cast, reduceIte, Nat.reduceEqDiff, reduceCtorEq, Nat.reduceAdd, Nat.reduceLeDiff, Nat.reduceBEq]; exact rfl) | fail) ?_ | (refine Fk.by_ ?_ ?_ <;> intro hc <;> try simp only [hc]) | refine storeK_eq rfl ?_ | with_reducible refine And.intro ?_ ?_ | fail) <;> try simp only [hl, b0, b1, b2, b3, g0, g1, g2, g3, cells_tkV, BEq.rfl, List.map_nil, push_cast, reduceIte, Nat.reduceEqDiff, reduceCtorEq, Nat.reduceAdd, Nat.reduceLeDiff, Nat.reduceBEq]))
  refine finB (hwf) (by simp only [F4, push_cast, reduceIte, Nat.reduceEqDiff, reduceCtorEq, Nat.reduceAdd, Nat.reduceLeDiff, Nat.reduceBEq]; exact rfl) (by first | exact .inl rfl | (right; simp only [F4, push_cast, reduceIte, Nat.reduceEqDiff, reduceCtorEq, Nat.reduceAdd, Nat.reduceLeDiff, Nat.reduceBEq]; try rfl)) (by first | rfl | assumption) (by simp) (by simp) (by (repeat first | exact (hwf).subm | exact (hwf).suba | refine Sub.drop (by simp) ?_)) (by (repeat first | exact (hwf).subm | exact (hwf).suba | refine Sub.drop (by simp) ?_)) (by (repeat first | exact (hwf).subx | refine ExSub.drop (by simp) ?_))

theorem scanG_len : ∀ (f : Nat) (s : List UInt8) (i : Nat) (acc : List Tok), acc.length ≤ 256 → (scanG f s i acc).1.length ≤ 256
  | 0, _, _, _, _ => Nat.zero_le _
  | f + 1, s, i, acc, h => by
    rw [scanG]
    split
    · exact Nat.zero_le _
    · split
      · exact Nat.zero_le _
      · split
        · simp; omega
        · exact scanG_len f s _ _ (by simp; omega)
theorem scanR_len (s : List UInt8) : (scanR s).1.length ≤ 256 := by
  unfold scanR
  split
  · exact Nat.zero_le _
  · exact scanG_len _ _ _ _ (Nat.zero_le _)

end Go.Proofs.YtnondemehfkalaaDoor
