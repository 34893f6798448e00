/- one; Quote and Unquote. -/
import Derived.Test.YtajbgangpipheaaL10
set_option linter.unusedSimpArgs false
set_option linter.unusedVariables false
namespace Go.Proofs.Ytajbgangpipheaa
open Go.Sha

/-- The only token of a text: what it is, and whether it is the whole text. -/
def oneR (s : List UInt8) : V × Bool := match lexAt s (runTo (isB 32) s 0) with
  | some (k, t, e) => (tokV k t (runTo (isB 32) s 0), ((runTo (isB 32) s 0 : Nat) : Int) == 0 && ((e : Int) == (s.length : Int) && k != 3))
  | none => (tokV 0 [] 0, false)

theorem one_v (s : List UInt8) (st : St) (hs : s.length < 140737488355328) : VRet Try.prog 29 [.str s] st (.tup [(oneR s).1, .bool (oneR s).2]) st := by
  refine VCalls_of F29_ok mixed (Nat.le_of_ble_eq_true rfl) (fun hwf => ?_)
  unfold oneR
  obtain ⟨a, ha⟩ : ∃ a, runTo (isB 32) s 0 = a := ⟨_, rfl⟩
  rw [ha]
  have hm : ∀ z : List V, Sha.look ((st.nx + 1, [V.str s, .int .i64 ((0 : Nat) : Int)]) :: (st.nx, z) :: st.mem) (st.nx + 1) = some [.str s, .int .i64 ((0 : Nat) : Int)] := fun z => by simp [Sha.look]
  cases h : lexAt s a with
  | none =>
    have ht : tokR s 0 = (.tup [tokV 0 [] 0, .bool false], a) := by rw [tokR, ha, h]
    (repeat' first | ((first | refine go rfl rfl ?_ | refine Cl.by_ (by (first | refine token_v (i := 0) (hm _) (Nat.zero_le _) hs)) ?_ | (refine Fk.by_ ?_ ?_ <;> intro hc <;> try simp only [hc]) | refine storeK_eq rfl ?_ | with_reducible refine And.intro ?_ ?_ | fail) <;> try simp only [cells_tokV, ht, push_cast, reduceIte, Nat.reduceEqDiff, reduceCtorEq, Nat.reduceAdd, Nat.reduceLeDiff, Nat.reduceBEq]))
    refine finB (hwf) (by simp only [F29, cells_tokV, push_cast, reduceIte, Nat.reduceEqDiff, reduceCtorEq, Nat.reduceAdd, Nat.reduceLeDiff, Nat.reduceBEq]; exact rfl) (by first | exact .inl rfl | (right; simp only [F29, cells_tokV, push_cast, reduceIte, Nat.reduceEqDiff, reduceCtorEq, Nat.reduceAdd, Nat.reduceLeDiff, Nat.reduceBEq]; try rfl)) (by first | rfl | assumption) (by simp) (by simp) (by (repeat first | exact (hwf).subm | exact (hwf).suba | refine Sub.drop (by simp) ?_)) (by (repeat first | exact (hwf).subm | exact (hwf).suba | refine Sub.drop (by simp) ?_))
  | some r =>
    obtain ⟨k, t, e⟩ := r
    have ht : tokR s 0 = (.tup [tokV k t a, .bool true], e) := by rw [tokR, ha, h]
    cases h1 : ((a : Int) == 0) with
    | false =>
      (repeat' first | ((first | refine go rfl rfl ?_ | refine Cl.by_ (by (first | refine token_v (i := 0) (hm _) (Nat.zero_le _) hs)) ?_ | (refine Fk.by_ ?_ ?_ <;> intro hc <;> try simp only [hc]) | refine storeK_eq rfl ?_ | with_reducible refine And.intro ?_ ?_ | fail) <;> try simp only [cells_tokV, ht, h1, push_cast, reduceIte, Nat.reduceEqDiff, reduceCtorEq, Nat.reduceAdd, Nat.reduceLeDiff, Nat.reduceBEq]))
      refine finB (hwf) (by simp only [F29, cells_tokV, push_cast, reduceIte, Nat.reduceEqDiff, reduceCtorEq, Nat.reduceAdd, Nat.reduceLeDiff, Nat.reduceBEq]; exact rfl) (by first | exact .inl rfl | (right; simp only [F29, cells_tokV, push_cast, reduceIte, Nat.reduceEqDiff, reduceCtorEq, Nat.reduceAdd, Nat.reduceLeDiff, Nat.reduceBEq]; try rfl)) (by first | rfl | assumption) (by simp) (by simp) (by (repeat first | exact (hwf).subm | exact (hwf).suba | refine Sub.drop (by simp) ?_)) (by (repeat first | exact (hwf).subm | exact (hwf).suba | refine Sub.drop (by simp) ?_))
    | true =>
      cases h2 : ((e : Int) == (s.length : Int)) with
      | false =>
        (repeat' first | ((first | refine go rfl rfl ?_ | refine Cl.by_ (by (first | refine token_v (i := 0) (hm _) (Nat.zero_le _) hs)) ?_ | (refine Fk.by_ ?_ ?_ <;> intro hc <;> try simp only [hc]) | refine storeK_eq rfl ?_ | with_reducible refine And.intro ?_ ?_ | fail) <;> try simp only [cells_tokV, ht, h1, h2, push_cast, reduceIte, Nat.reduceEqDiff, reduceCtorEq, Nat.reduceAdd, Nat.reduceLeDiff, Nat.reduceBEq]))
        refine finB (hwf) (by simp only [F29, cells_tokV, push_cast, reduceIte, Nat.reduceEqDiff, reduceCtorEq, Nat.reduceAdd, Nat.reduceLeDiff, Nat.reduceBEq]; exact rfl) (by first | exact .inl rfl | (right; simp only [F29, cells_tokV, push_cast, reduceIte, Nat.reduceEqDiff, reduceCtorEq, Nat.reduceAdd, Nat.reduceLeDiff, Nat.reduceBEq]; try rfl)) (by first | rfl | assumption) (by simp) (by simp) (by (repeat first | exact (hwf).subm | exact (hwf).suba | refine Sub.drop (by simp) ?_)) (by (repeat first | exact (hwf).subm | exact (hwf).suba | refine Sub.drop (by simp) ?_))
      | true =>
        (repeat' first | ((first | refine go rfl rfl ?_ | refine Cl.by_ (by (first | refine token_v (i := 0) (hm _) (Nat.zero_le _) hs)) ?_ | (refine Fk.by_ ?_ ?_ <;> intro hc <;> try simp only [hc]) | refine storeK_eq rfl ?_ | with_reducible refine And.intro ?_ ?_ | fail) <;> try simp only [cells_tokV, ht, h1, h2, push_cast, reduceIte, Nat.reduceEqDiff, reduceCtorEq, Nat.reduceAdd, Nat.reduceLeDiff, Nat.reduceBEq]))
        refine finB (hwf) (by simp only [F29, cells_tokV, push_cast, reduceIte, Nat.reduceEqDiff, reduceCtorEq, Nat.reduceAdd, Nat.reduceLeDiff, Nat.reduceBEq]; exact rfl) (by first | exact .inl rfl | (right; simp only [F29, cells_tokV, push_cast, reduceIte, Nat.reduceEqDiff, reduceCtorEq, Nat.reduceAdd, Nat.reduceLeDiff, Nat.reduceBEq]; try rfl)) (by first | rfl | assumption) (by simp) (by simp) (by (repeat first | exact (hwf).subm | exact (hwf).suba | refine Sub.drop (by simp) ?_)) (by (repeat first | exact (hwf).subm | exact (hwf).suba | refine Sub.drop (by simp) ?_))

theorem Plain_v (s : List UInt8) (st : St) (hs : s.length < 140737488355328) : VRet Try.prog 28 [.str s] st (.bool (s.length == runTo plnB s 0)) st := by
  refine VCalls_of F28_ok mixed (Nat.le_of_ble_eq_true rfl) (fun hwf => ?_)
  (repeat' first | ((first | refine go rfl rfl ?_ | (refine Fk.by_ ?_ ?_ <;> intro hc <;> try simp only [hc]) | refine storeK_eq rfl ?_ | with_reducible refine And.intro ?_ ?_ | fail) <;> try simp only [push_cast, reduceIte, Nat.reduceEqDiff, reduceCtorEq, Nat.reduceAdd, Nat.reduceLeDiff, Nat.reduceBEq]))
  refine WT_loop rfl (fun n e z => ∃ j : Nat, n = s.length - j ∧ j ≤ s.length ∧ runTo plnB s j = runTo plnB s 0 ∧ e = [(3, .int .i64 (j : Int)), (0, .str s)] ∧ z = st) st.nx (Nat.le_refl _) (by rintro _ _ _ ⟨j, _, _, _, _, rfl⟩; rfl)
    ⟨_, _, _, ⟨0, rfl, Nat.zero_le _, rfl, rfl, rfl⟩, (by repeat first | exact .nil | refine .cons (by first | rfl | (simp [V.bd, V.bdL]; try omega)) (by first | rfl | simp only [push_cast, reduceIte, Nat.reduceEqDiff, reduceCtorEq, Nat.reduceAdd, Nat.reduceLeDiff, Nat.reduceBEq]) ?_), .refl hwf⟩ ?_
  rintro n e z ⟨j, rfl, hj, hr, rfl, rfl⟩
  rcases Nat.lt_or_ge j s.length with hlt | hge
  · obtain ⟨b, hb⟩ : ∃ b, s[j]? = some b := ⟨_, List.getElem?_eq_getElem hlt⟩
    have h1 : decide ((j : Int) < (s.length : Int)) = true := decide_eq_true (by omega)
    have hw : IntKind.i64.wrap ((j : Int) + 1) = (j : Int) + 1 := wrap64 (by omega) (by omega)
    have h5 : ∀ x, isPln b.toNat = x → atIs plnB s j = x := fun x h => by rw [atIs_some hb]; exact h
    (repeat' first | ((first | refine go rfl rfl ?_ | refine Cl.by_ (by (first | refine plain_v _ _)) ?_ | (refine Fk.by_ ?_ ?_ <;> intro hc <;> try simp only [hc]) | refine storeK_eq rfl ?_ | with_reducible refine And.intro ?_ ?_ | fail) <;> try simp only [h1, hb, hw, push_cast, reduceIte, Nat.reduceEqDiff, reduceCtorEq, Nat.reduceAdd, Nat.reduceLeDiff, Nat.reduceBEq]))
    · exact ⟨_, _, _, by omega, ⟨j + 1, rfl, by omega, by rw [(runTo_go (h5 true hc)).1, hr], rfl, rfl⟩, (by repeat first | exact .nil | refine .cons (by first | rfl | (simp [V.bd, V.bdL]; try omega)) (by first | rfl | simp only [push_cast, reduceIte, Nat.reduceEqDiff, reduceCtorEq, Nat.reduceAdd, Nat.reduceLeDiff, Nat.reduceBEq]) ?_), .refl hwf⟩
    · have e0 : (s.length == runTo plnB s 0) = false := by rw [← hr, runTo_stop (h5 false hc)]; simp; omega
      rw [e0]
      refine finB (hwf) (by simp only [F28, push_cast, reduceIte, Nat.reduceEqDiff, reduceCtorEq, Nat.reduceAdd, Nat.reduceLeDiff, Nat.reduceBEq]; exact rfl) (by first | exact .inl rfl | (right; simp only [F28, push_cast, reduceIte, Nat.reduceEqDiff, reduceCtorEq, Nat.reduceAdd, Nat.reduceLeDiff, Nat.reduceBEq]; try rfl)) (by first | rfl | assumption) (by simp) (by simp) (by (repeat first | exact (hwf).subm | exact (hwf).suba | refine Sub.drop (by simp) ?_)) (by (repeat first | exact (hwf).subm | exact (hwf).suba | refine Sub.drop (by simp) ?_))
  · have h1 : decide ((j : Int) < (s.length : Int)) = false := decide_eq_false (by omega)
    have e0 : (s.length == runTo plnB s 0) = true := by rw [← hr, runTo_stop (atIs_none hge)]; simp; omega
    rw [e0]
    (repeat' first | ((first | refine go rfl rfl ?_ | (refine Fk.by_ ?_ ?_ <;> intro hc <;> try simp only [hc]) | refine storeK_eq rfl ?_ | with_reducible refine And.intro ?_ ?_ | fail) <;> try simp only [h1, push_cast, reduceIte, Nat.reduceEqDiff, reduceCtorEq, Nat.reduceAdd, Nat.reduceLeDiff, Nat.reduceBEq]))
    refine finB (hwf) (by simp only [F28, push_cast, reduceIte, Nat.reduceEqDiff, reduceCtorEq, Nat.reduceAdd, Nat.reduceLeDiff, Nat.reduceBEq]; exact rfl) (by first | exact .inl rfl | (right; simp only [F28, push_cast, reduceIte, Nat.reduceEqDiff, reduceCtorEq, Nat.reduceAdd, Nat.reduceLeDiff, Nat.reduceBEq]; try rfl)) (by first | rfl | assumption) (by simp) (by simp) (by (repeat first | exact (hwf).subm | exact (hwf).suba | refine Sub.drop (by simp) ?_)) (by (repeat first | exact (hwf).subm | exact (hwf).suba | refine Sub.drop (by simp) ?_))

def quoR (s : List UInt8) : V := if runTo plnB s 0 < s.length then .tup [.str [], .int .i64 3] else .tup [.str (34 :: (s ++ [34])), .int .i64 0]

theorem Quote_v (s : List UInt8) (st : St) (hs : s.length < 140737488355328) : VRet Try.prog 12 [.str s] st (quoR s) st := by
  refine VCalls_of F12_ok mixed (Nat.le_of_ble_eq_true rfl) (fun hwf => ?_)
  unfold quoR
  obtain ⟨q, hq⟩ : ∃ q, runTo plnB s 0 = q := ⟨_, rfl⟩
  rw [hq]
  have hcat1 : s.length ≤ 9223372036854775806 := by omega
  have hcat2 : s.length ≤ 9223372036854775805 := by omega
  have hc1 : 1 + s.length ≤ 9223372036854775807 := by omega
  have hc2 : 1 + (s.length + 1) ≤ 9223372036854775807 := by omega
  have hc3 : s.length + 1 + 1 ≤ 9223372036854775807 := by omega
  have hm : Sha.look ((st.nx, [V.str s, .int .i64 ((0 : Nat) : Int)]) :: st.mem) st.nx = some [.str s, .int .i64 ((0 : Nat) : Int)] := by simp [Sha.look]
  by_cases h : q < s.length
  · have h0 : decide ((q : Int) < (s.length : Int)) = true := decide_eq_true (by omega)
    rw [if_pos h]
    (repeat' first | ((first | refine go rfl rfl ?_ | refine Cl.by_ (by (first | refine skip_v c27 hm (Nat.zero_le _) (by omega))) ?_ | (refine Fk.by_ ?_ ?_ <;> intro hc <;> try simp only [hc]) | refine storeK_eq rfl ?_ | with_reducible refine And.intro ?_ ?_ | fail) <;> try simp only [hq, h0, push_cast, reduceIte, Nat.reduceEqDiff, reduceCtorEq, Nat.reduceAdd, Nat.reduceLeDiff, Nat.reduceBEq]))
    refine finB (hwf) (by simp only [F12, push_cast, reduceIte, Nat.reduceEqDiff, reduceCtorEq, Nat.reduceAdd, Nat.reduceLeDiff, Nat.reduceBEq]; exact rfl) (by first | exact .inl rfl | (right; simp only [F12, push_cast, reduceIte, Nat.reduceEqDiff, reduceCtorEq, Nat.reduceAdd, Nat.reduceLeDiff, Nat.reduceBEq]; try rfl)) (by first | rfl | assumption) (by simp) (by simp) (by (repeat first | exact (hwf).subm | exact (hwf).suba | refine Sub.drop (by simp) ?_)) (by (repeat first | exact (hwf).subm | exact (hwf).suba | refine Sub.drop (by simp) ?_))
  · have h0 : decide ((q : Int) < (s.length : Int)) = false := decide_eq_false (by omega)
    rw [if_neg h]
    (repeat' first | ((first | refine go rfl rfl ?_ | refine Cl.by_ (by (first | refine skip_v c27 hm (Nat.zero_le _) (by omega))) ?_ | (refine Fk.by_ ?_ ?_ <;> intro hc <;> try simp only [hc]) | refine storeK_eq rfl ?_ | with_reducible refine And.intro ?_ ?_ | fail) <;> try simp only [hq, h0, hcat1, hcat2, hc1, hc2, hc3, push_cast, reduceIte, Nat.reduceEqDiff, reduceCtorEq, Nat.reduceAdd, Nat.reduceLeDiff, Nat.reduceBEq]))
    refine finB (hwf) (by simp only [F12, push_cast, reduceIte, Nat.reduceEqDiff, reduceCtorEq, Nat.reduceAdd, Nat.reduceLeDiff, Nat.reduceBEq]; exact rfl) (by first | exact .inl rfl | (right; simp only [F12, push_cast, reduceIte, Nat.reduceEqDiff, reduceCtorEq, Nat.reduceAdd, Nat.reduceLeDiff, Nat.reduceBEq]; try rfl)) (by first | rfl | assumption) (by simp) (by simp) (by (repeat first | exact (hwf).subm | exact (hwf).suba | refine Sub.drop (by simp) ?_)) (by (repeat first | exact (hwf).subm | exact (hwf).suba | refine Sub.drop (by simp) ?_))

theorem refQuote_v (s : List UInt8) (st : St) (hs : s.length < 140737488355328) : VRet Try.prog 13 [.str s] st (quoR s) st := by
  refine VCalls_of F13_ok mixed (Nat.le_of_ble_eq_true rfl) (fun hwf => ?_)
  unfold quoR
  have hle := runTo_le (ok := plnB) (s := s) (i := 0) (Nat.zero_le _)
  generalize hq : runTo plnB s 0 = q at hle
  have hcat1 : s.length ≤ 9223372036854775806 := by omega
  have hcat2 : s.length ≤ 9223372036854775805 := by omega
  have hc1 : 1 + s.length ≤ 9223372036854775807 := by omega
  have hc2 : 1 + (s.length + 1) ≤ 9223372036854775807 := by omega
  have hc3 : s.length + 1 + 1 ≤ 9223372036854775807 := by omega
  by_cases h : q < s.length
  · have h0 : (s.length == q) = false := by simp; omega
    rw [if_pos h]
    (repeat' first | ((first | refine go rfl rfl ?_ | refine Cl.by_ (by (first | refine Plain_v _ _ hs)) ?_ | (refine Fk.by_ ?_ ?_ <;> intro hc <;> try simp only [hc]) | refine storeK_eq rfl ?_ | with_reducible refine And.intro ?_ ?_ | fail) <;> try simp only [hq, h0, push_cast, reduceIte, Nat.reduceEqDiff, reduceCtorEq, Nat.reduceAdd, Nat.reduceLeDiff, Nat.reduceBEq]))
    refine finB (hwf) (by simp only [F13, push_cast, reduceIte, Nat.reduceEqDiff, reduceCtorEq, Nat.reduceAdd, Nat.reduceLeDiff, Nat.reduceBEq]; exact rfl) (by first | exact .inl rfl | (right; simp only [F13, push_cast, reduceIte, Nat.reduceEqDiff, reduceCtorEq, Nat.reduceAdd, Nat.reduceLeDiff, Nat.reduceBEq]; try rfl)) (by first | rfl | assumption) (by simp) (by simp) (by (repeat first | exact (hwf).subm | exact (hwf).suba | refine Sub.drop (by simp) ?_)) (by (repeat first | exact (hwf).subm | exact (hwf).suba | refine Sub.drop (by simp) ?_))
  · have h0 : (s.length == q) = true := by simp; omega
    rw [if_neg h]
    (repeat' first | ((first | refine go rfl rfl ?_ | refine Cl.by_ (by (first | refine Plain_v _ _ hs)) ?_ | (refine Fk.by_ ?_ ?_ <;> intro hc <;> try simp only [hc]) | refine storeK_eq rfl ?_ | with_reducible refine And.intro ?_ ?_ | fail) <;> try simp only [hq, h0, hcat1, hcat2, hc1, hc2, hc3, push_cast, reduceIte, Nat.reduceEqDiff, reduceCtorEq, Nat.reduceAdd, Nat.reduceLeDiff, Nat.reduceBEq]))
    refine finB (hwf) (by simp only [F13, push_cast, reduceIte, Nat.reduceEqDiff, reduceCtorEq, Nat.reduceAdd, Nat.reduceLeDiff, Nat.reduceBEq]; exact rfl) (by first | exact .inl rfl | (right; simp only [F13, push_cast, reduceIte, Nat.reduceEqDiff, reduceCtorEq, Nat.reduceAdd, Nat.reduceLeDiff, Nat.reduceBEq]; try rfl)) (by first | rfl | assumption) (by simp) (by simp) (by (repeat first | exact (hwf).subm | exact (hwf).suba | refine Sub.drop (by simp) ?_)) (by (repeat first | exact (hwf).subm | exact (hwf).suba | refine Sub.drop (by simp) ?_))

def unqR (s : List UInt8) : V := if atIs (isB 34) s 0 = true ∧ quoEnd s 0 = s.length then .tup [.str ((s.take (s.length - 1)).drop 1), .int .i64 0] else .tup [.str [], .int .i64 3]

theorem one_quote {s : List UInt8} (h : atIs (isB 34) s 0 = true) : oneR s = if quoEnd s 0 = s.length then (tokV 0 s 0, true) else if quoEnd s 0 = -1 then (tokV 0 [] 0, false) else (tokV 0 (s.take (quoEnd s 0).toNat) 0, false) := by
  have hb : runTo (isB 32) s 0 = 0 := by
    refine runTo_stop ?_
    unfold atIs at h ⊢
    cases hs : s[0]? with
    | none => rfl
    | some b => rw [hs] at h; simp only [isB, beq_iff_eq] at h ⊢; simp; omega
  have hl : atIs letB s 0 = false := by
    unfold atIs at h ⊢
    cases hs : s[0]? with
    | none => rfl
    | some b => rw [hs] at h; simp only [isB, letB, isLet, beq_iff_eq] at h ⊢; simp; omega
  have hlt := atIs_lt h
  unfold oneR
  rw [hb]
  unfold lexAt quoEnd
  rw [if_neg (by omega), hl, h]
  simp only [Bool.false_eq_true, if_false, if_true]
  cases hq : atIs (isB 34) s (runTo plnB s (0 + 1)) with
  | false =>
    simp only [Bool.false_eq_true, if_false]
    rw [if_neg (by omega)]; simp
  | true =>
    simp only [if_true]
    have := atIs_lt hq
    split
    · rename_i he
      have e1 : runTo plnB s (0 + 1) + 1 = s.length := by omega
      rw [e1, List.take_length]
      simp
    · rename_i he
      rw [if_neg (by omega)]
      have e2 : ((runTo plnB s (0 + 1) : Int) + 1).toNat = runTo plnB s (0 + 1) + 1 := by omega
      rw [e2]
      have e3 : (((runTo plnB s (0 + 1) + 1 : Nat) : Int) == (s.length : Int)) = false := by simp; omega
      rw [e3]
      simp

theorem oneR_ex (s : List UInt8) : ∃ k t a b, oneR s = (tokV k t a, b) ∧ (b = true → a = 0 ∧ k ≠ 3 ∧ runTo (isB 32) s 0 = 0 ∧ lexAt s 0 = some (k, t, s.length)) := by
  unfold oneR
  cases h : lexAt s (runTo (isB 32) s 0) with
  | none => exact ⟨_, _, _, _, rfl, fun h => by cases h⟩
  | some r =>
    obtain ⟨k, t, e⟩ := r
    refine ⟨_, _, _, _, rfl, fun h2 => ?_⟩
    simp only [Bool.and_eq_true, beq_iff_eq, bne_iff_ne] at h2
    obtain ⟨h3, h4, h5⟩ := h2
    have e1 : runTo (isB 32) s 0 = 0 := by omega
    have e2 : e = s.length := by omega
    rw [e1, e2] at h
    exact ⟨e1, h5, e1, h⟩

theorem lexAt_nil : lexAt [] 0 = some (3, [], 0) := rfl

theorem one_ne {s : List UInt8} {k : Int} {t : List UInt8} (h : lexAt s 0 = some (k, t, s.length)) (hk : k ≠ 3) : s ≠ [] := by
  rintro rfl
  rw [lexAt_nil] at h
  cases h
  exact hk rfl

theorem Unquote_v (s : List UInt8) (st : St) (hs : s.length < 140737488355328) : VRet Try.prog 14 [.str s] st (unqR s) st := by
  refine VCalls_of F14_ok mixed (Nat.le_of_ble_eq_true rfl) (fun hwf => ?_)
  cases h : atIs (isB 34) s 0 with
  | true =>
    obtain ⟨x, hx⟩ : ∃ x, s[0]? = some x := ⟨_, List.getElem?_eq_getElem (atIs_lt h)⟩
    have hlt := atIs_lt h
    have hx2 : ((x.toNat : Int) != 34) = false := by rw [atIs_some hx] at h; simp only [isB, beq_iff_eq] at h; simp [h]
    have ho := one_quote h
    by_cases hq : quoEnd s 0 = s.length
    · rw [if_pos hq] at ho
      have hR : unqR s = .tup [.str ((s.take (s.length - 1)).drop 1), .int .i64 0] := if_pos ⟨h, hq⟩
      obtain ⟨m, hm⟩ : ∃ m, s.length - 1 = m := ⟨_, rfl⟩
      have hw : IntKind.i64.wrap ((s.length : Int) - 1) = (m : Int) := by rw [wrap64 (by omega) (by omega)]; omega
      have h1 : 1 ≤ m := by
        have : quoEnd s 0 ≠ 1 := by unfold quoEnd; have := le_runTo (ok := plnB) (s := s) (i := 0 + 1); split <;> omega
        omega
      have h2 : m ≤ s.length := by omega
      rw [hm] at hR
      rw [hR]
      have hk : ((0 : Int) != 0) = false := rfl
      (repeat' first | ((first | refine go rfl rfl ?_ | refine Cl.by_ (by (first | refine one_v _ _ hs)) ?_ | (refine Fk.by_ ?_ ?_ <;> intro hc <;> try simp only [hc]) | refine storeK_eq rfl ?_ | with_reducible refine And.intro ?_ ?_ | fail) <;> try simp only [cells_tokV, ho, hx, hx2, hw, h1, h2, hk, push_cast, reduceIte, Nat.reduceEqDiff, reduceCtorEq, Nat.reduceAdd, Nat.reduceLeDiff, Nat.reduceBEq]))
      refine finB (hwf) (by simp only [F14, push_cast, reduceIte, Nat.reduceEqDiff, reduceCtorEq, Nat.reduceAdd, Nat.reduceLeDiff, Nat.reduceBEq]; exact rfl) (by first | exact .inl rfl | (right; simp only [F14, push_cast, reduceIte, Nat.reduceEqDiff, reduceCtorEq, Nat.reduceAdd, Nat.reduceLeDiff, Nat.reduceBEq]; try rfl)) (by first | rfl | assumption) (by simp) (by simp) (by (repeat first | exact (hwf).subm | exact (hwf).suba | refine Sub.drop (by simp) ?_)) (by (repeat first | exact (hwf).subm | exact (hwf).suba | refine Sub.drop (by simp) ?_))
    · rw [if_neg hq] at ho
      have hR : unqR s = .tup [.str [], .int .i64 3] := if_neg (fun h => hq h.2)
      rw [hR]
      have hk : ((0 : Int) != 0) = false := rfl
      by_cases hq1 : quoEnd s 0 = -1
      · rw [if_pos hq1] at ho
        (repeat' first | ((first | refine go rfl rfl ?_ | refine Cl.by_ (by (first | refine one_v _ _ hs)) ?_ | (refine Fk.by_ ?_ ?_ <;> intro hc <;> try simp only [hc]) | refine storeK_eq rfl ?_ | with_reducible refine And.intro ?_ ?_ | fail) <;> try simp only [cells_tokV, ho, hx, hx2, hk, push_cast, reduceIte, Nat.reduceEqDiff, reduceCtorEq, Nat.reduceAdd, Nat.reduceLeDiff, Nat.reduceBEq]))
        refine finB (hwf) (by simp only [F14, push_cast, reduceIte, Nat.reduceEqDiff, reduceCtorEq, Nat.reduceAdd, Nat.reduceLeDiff, Nat.reduceBEq]; exact rfl) (by first | exact .inl rfl | (right; simp only [F14, push_cast, reduceIte, Nat.reduceEqDiff, reduceCtorEq, Nat.reduceAdd, Nat.reduceLeDiff, Nat.reduceBEq]; try rfl)) (by first | rfl | assumption) (by simp) (by simp) (by (repeat first | exact (hwf).subm | exact (hwf).suba | refine Sub.drop (by simp) ?_)) (by (repeat first | exact (hwf).subm | exact (hwf).suba | refine Sub.drop (by simp) ?_))
      · rw [if_neg hq1] at ho
        (repeat' first | ((first | refine go rfl rfl ?_ | refine Cl.by_ (by (first | refine one_v _ _ hs)) ?_ | (refine Fk.by_ ?_ ?_ <;> intro hc <;> try simp only [hc]) | refine storeK_eq rfl ?_ | with_reducible refine And.intro ?_ ?_ | fail) <;> try simp only [cells_tokV, ho, hx, hx2, hk, push_cast, reduceIte, Nat.reduceEqDiff, reduceCtorEq, Nat.reduceAdd, Nat.reduceLeDiff, Nat.reduceBEq]))
        refine finB (hwf) (by simp only [F14, push_cast, reduceIte, Nat.reduceEqDiff, reduceCtorEq, Nat.reduceAdd, Nat.reduceLeDiff, Nat.reduceBEq]; exact rfl) (by first | exact .inl rfl | (right; simp only [F14, push_cast, reduceIte, Nat.reduceEqDiff, reduceCtorEq, Nat.reduceAdd, Nat.reduceLeDiff, Nat.reduceBEq]; try rfl)) (by first | rfl | assumption) (by simp) (by simp) (by (repeat first | exact (hwf).subm | exact (hwf).suba | refine Sub.drop (by simp) ?_)) (by (repeat first | exact (hwf).subm | exact (hwf).suba | refine Sub.drop (by simp) ?_))
  | false =>
    have hR : unqR s = .tup [.str [], .int .i64 3] := if_neg (fun h2 => by rw [h2.1] at h; cases h)
    rw [hR]
    obtain ⟨k, t, a, b, ho, hb⟩ := oneR_ex s
    cases b with
    | false =>
      (repeat' first | ((first | refine go rfl rfl ?_ | refine Cl.by_ (by (first | refine one_v _ _ hs)) ?_ | (refine Fk.by_ ?_ ?_ <;> intro hc <;> try simp only [hc]) | refine storeK_eq rfl ?_ | with_reducible refine And.intro ?_ ?_ | fail) <;> try simp only [cells_tokV, ho, push_cast, reduceIte, Nat.reduceEqDiff, reduceCtorEq, Nat.reduceAdd, Nat.reduceLeDiff, Nat.reduceBEq]))
      refine finB (hwf) (by simp only [F14, push_cast, reduceIte, Nat.reduceEqDiff, reduceCtorEq, Nat.reduceAdd, Nat.reduceLeDiff, Nat.reduceBEq]; exact rfl) (by first | exact .inl rfl | (right; simp only [F14, push_cast, reduceIte, Nat.reduceEqDiff, reduceCtorEq, Nat.reduceAdd, Nat.reduceLeDiff, Nat.reduceBEq]; try rfl)) (by first | rfl | assumption) (by simp) (by simp) (by (repeat first | exact (hwf).subm | exact (hwf).suba | refine Sub.drop (by simp) ?_)) (by (repeat first | exact (hwf).subm | exact (hwf).suba | refine Sub.drop (by simp) ?_))
    | true =>
      obtain ⟨_, h3, _, h4⟩ := hb rfl
      obtain ⟨x, hx⟩ : ∃ x, s[0]? = some x := ⟨_, List.getElem?_eq_getElem (by have := one_ne h4 h3; exact List.length_pos_iff.2 this)⟩
      have hx2 : ((x.toNat : Int) != 34) = true := by rw [atIs_some hx] at h; simpa [isB, bne] using h
      (repeat' first | ((first | refine go rfl rfl ?_ | refine Cl.by_ (by (first | refine one_v _ _ hs)) ?_ | (refine Fk.by_ ?_ ?_ <;> intro hc <;> try simp only [hc]) | refine storeK_eq rfl ?_ | with_reducible refine And.intro ?_ ?_ | fail) <;> try simp only [cells_tokV, ho, hx, hx2, push_cast, reduceIte, Nat.reduceEqDiff, reduceCtorEq, Nat.reduceAdd, Nat.reduceLeDiff, Nat.reduceBEq]))
      all_goals refine finB (hwf) (by simp only [F14, push_cast, reduceIte, Nat.reduceEqDiff, reduceCtorEq, Nat.reduceAdd, Nat.reduceLeDiff, Nat.reduceBEq]; exact rfl) (by first | exact .inl rfl | (right; simp only [F14, push_cast, reduceIte, Nat.reduceEqDiff, reduceCtorEq, Nat.reduceAdd, Nat.reduceLeDiff, Nat.reduceBEq]; try rfl)) (by first | rfl | assumption) (by simp) (by simp) (by (repeat first | exact (hwf).subm | exact (hwf).suba | refine Sub.drop (by simp) ?_)) (by (repeat first | exact (hwf).subm | exact (hwf).suba | refine Sub.drop (by simp) ?_))

theorem refUnquote_v (s : List UInt8) (st : St) (hs : s.length < 140737488355328) : VRet Try.prog 15 [.str s] st (unqR s) st := by
  refine VCalls_of F15_ok mixed (Nat.le_of_ble_eq_true rfl) (fun hwf => ?_)
  cases s with
  | nil =>
    have hR : unqR [] = .tup [.str [], .int .i64 3] := rfl
    have h0 : (([] : List UInt8) == []) = true := rfl
    rw [hR]
    (repeat' first | ((first | refine go rfl rfl ?_ | (refine Fk.by_ ?_ ?_ <;> intro hc <;> try simp only [hc]) | refine storeK_eq rfl ?_ | with_reducible refine And.intro ?_ ?_ | fail) <;> try simp only [h0, push_cast, reduceIte, Nat.reduceEqDiff, reduceCtorEq, Nat.reduceAdd, Nat.reduceLeDiff, Nat.reduceBEq]))
    refine finB (hwf) (by simp only [F15, push_cast, reduceIte, Nat.reduceEqDiff, reduceCtorEq, Nat.reduceAdd, Nat.reduceLeDiff, Nat.reduceBEq]; exact rfl) (by first | exact .inl rfl | (right; simp only [F15, push_cast, reduceIte, Nat.reduceEqDiff, reduceCtorEq, Nat.reduceAdd, Nat.reduceLeDiff, Nat.reduceBEq]; try rfl)) (by first | rfl | assumption) (by simp) (by simp) (by (repeat first | exact (hwf).subm | exact (hwf).suba | refine Sub.drop (by simp) ?_)) (by (repeat first | exact (hwf).subm | exact (hwf).suba | refine Sub.drop (by simp) ?_))
  | cons x s' =>
    have h0 : ((x :: s') == []) = false := rfl
    obtain ⟨s, hse⟩ : ∃ s, x :: s' = s := ⟨_, rfl⟩
    have hx : s[0]? = some x := by rw [← hse]; rfl
    have hlt : 0 < s.length := by rw [← hse]; simp
    rw [hse] at hs h0 ⊢
    cases h : isB 34 x with
    | false =>
      have hx2 : ((x.toNat : Int) != 34) = true := by simpa [isB, bne] using h
      have hR : unqR s = .tup [.str [], .int .i64 3] := if_neg (fun h2 => by rw [atIs_some hx, h] at h2; cases h2.1)
      rw [hR]
      (repeat' first | ((first | refine go rfl rfl ?_ | refine Cl.by_ (by (first | refine quoted_v (i := 0) _ hlt hs)) ?_ | (refine Fk.by_ ?_ ?_ <;> intro hc <;> try simp only [hc]) | refine storeK_eq rfl ?_ | with_reducible refine And.intro ?_ ?_ | fail) <;> try simp only [h0, hx, hx2, push_cast, reduceIte, Nat.reduceEqDiff, reduceCtorEq, Nat.reduceAdd, Nat.reduceLeDiff, Nat.reduceBEq]))
      refine finB (hwf) (by simp only [F15, push_cast, reduceIte, Nat.reduceEqDiff, reduceCtorEq, Nat.reduceAdd, Nat.reduceLeDiff, Nat.reduceBEq]; exact rfl) (by first | exact .inl rfl | (right; simp only [F15, push_cast, reduceIte, Nat.reduceEqDiff, reduceCtorEq, Nat.reduceAdd, Nat.reduceLeDiff, Nat.reduceBEq]; try rfl)) (by first | rfl | assumption) (by simp) (by simp) (by (repeat first | exact (hwf).subm | exact (hwf).suba | refine Sub.drop (by simp) ?_)) (by (repeat first | exact (hwf).subm | exact (hwf).suba | refine Sub.drop (by simp) ?_))
    | true =>
      have hx2 : ((x.toNat : Int) != 34) = false := by simp only [isB, beq_iff_eq] at h; simp [h]
      by_cases hq : quoEnd s 0 = s.length
      · have hq2 : (quoEnd s 0 != (s.length : Int)) = false := by simp [hq]
        have hR : unqR s = .tup [.str ((s.take (s.length - 1)).drop 1), .int .i64 0] := if_pos ⟨by rw [atIs_some hx]; exact h, hq⟩
        obtain ⟨m, hm⟩ : ∃ m, s.length - 1 = m := ⟨_, rfl⟩
        have hw : IntKind.i64.wrap ((s.length : Int) - 1) = (m : Int) := by rw [wrap64 (by omega) (by omega)]; omega
        have h1 : 1 ≤ m := by
          have : quoEnd s 0 ≠ 1 := by unfold quoEnd; have := le_runTo (ok := plnB) (s := s) (i := 0 + 1); split <;> omega
          omega
        have h2 : m ≤ s.length := by omega
        rw [hm] at hR
        rw [hR]
        (repeat' first | ((first | refine go rfl rfl ?_ | refine Cl.by_ (by (first | refine quoted_v (i := 0) _ hlt hs)) ?_ | (refine Fk.by_ ?_ ?_ <;> intro hc <;> try simp only [hc]) | refine storeK_eq rfl ?_ | with_reducible refine And.intro ?_ ?_ | fail) <;> try simp only [h0, hx, hx2, hq2, hw, h1, h2, push_cast, reduceIte, Nat.reduceEqDiff, reduceCtorEq, Nat.reduceAdd, Nat.reduceLeDiff, Nat.reduceBEq]))
        refine finB (hwf) (by simp only [F15, push_cast, reduceIte, Nat.reduceEqDiff, reduceCtorEq, Nat.reduceAdd, Nat.reduceLeDiff, Nat.reduceBEq]; exact rfl) (by first | exact .inl rfl | (right; simp only [F15, push_cast, reduceIte, Nat.reduceEqDiff, reduceCtorEq, Nat.reduceAdd, Nat.reduceLeDiff, Nat.reduceBEq]; try rfl)) (by first | rfl | assumption) (by simp) (by simp) (by (repeat first | exact (hwf).subm | exact (hwf).suba | refine Sub.drop (by simp) ?_)) (by (repeat first | exact (hwf).subm | exact (hwf).suba | refine Sub.drop (by simp) ?_))
      · have hq2 : (quoEnd s 0 != (s.length : Int)) = true := by simpa [bne] using hq
        have hR : unqR s = .tup [.str [], .int .i64 3] := if_neg (fun h2 => hq h2.2)
        rw [hR]
        (repeat' first | ((first | refine go rfl rfl ?_ | refine Cl.by_ (by (first | refine quoted_v (i := 0) _ hlt hs)) ?_ | (refine Fk.by_ ?_ ?_ <;> intro hc <;> try simp only [hc]) | refine storeK_eq rfl ?_ | with_reducible refine And.intro ?_ ?_ | fail) <;> try simp only [h0, hx, hx2, hq2, push_cast, reduceIte, Nat.reduceEqDiff, reduceCtorEq, Nat.reduceAdd, Nat.reduceLeDiff, Nat.reduceBEq]))
        refine finB (hwf) (by simp only [F15, push_cast, reduceIte, Nat.reduceEqDiff, reduceCtorEq, Nat.reduceAdd, Nat.reduceLeDiff, Nat.reduceBEq]; exact rfl) (by first | exact .inl rfl | (right; simp only [F15, push_cast, reduceIte, Nat.reduceEqDiff, reduceCtorEq, Nat.reduceAdd, Nat.reduceLeDiff, Nat.reduceBEq]; try rfl)) (by first | rfl | assumption) (by simp) (by simp) (by (repeat first | exact (hwf).subm | exact (hwf).suba | refine Sub.drop (by simp) ?_)) (by (repeat first | exact (hwf).subm | exact (hwf).suba | refine Sub.drop (by simp) ?_))

theorem quotes_v (s : List UInt8) (st : St) : VRet Try.prog 4 [.str s] st (.bool true) st := by
  refine VCalls_of F4_ok mixed (Nat.le_of_ble_eq_true rfl) (fun hwf => ?_)
  by_cases hl : 400 < s.length
  · have h0 : decide ((400 : Int) < (s.length : Int)) = true := decide_eq_true (by omega)
    (repeat' first | ((first | refine go rfl rfl ?_ | refine Cl.by_ (by (first | refine awake_v _)) ?_ | (refine Fk.by_ ?_ ?_ <;> intro hc <;> try simp only [hc]) | refine storeK_eq rfl ?_ | with_reducible refine And.intro ?_ ?_ | fail) <;> try simp only [h0, push_cast, reduceIte, Nat.reduceEqDiff, reduceCtorEq, Nat.reduceAdd, Nat.reduceLeDiff, Nat.reduceBEq]))
    refine finB (hwf) (by simp only [F4, push_cast, reduceIte, Nat.reduceEqDiff, reduceCtorEq, Nat.reduceAdd, Nat.reduceLeDiff, Nat.reduceBEq]; exact rfl) (by first | exact .inl rfl | (right; simp only [F4, push_cast, reduceIte, Nat.reduceEqDiff, reduceCtorEq, Nat.reduceAdd, Nat.reduceLeDiff, Nat.reduceBEq]; try rfl)) (by first | rfl | assumption) (by simp) (by simp) (by (repeat first | exact (hwf).subm | exact (hwf).suba | refine Sub.drop (by simp) ?_)) (by (repeat first | exact (hwf).subm | exact (hwf).suba | refine Sub.drop (by simp) ?_))
  · have h0 : decide ((400 : Int) < (s.length : Int)) = false := decide_eq_false (by omega)
    have hs : s.length < 140737488355328 := by omega
    obtain ⟨a, b, hq⟩ : ∃ a b, quoR s = .tup [.str a, .int .i64 b] := by unfold quoR; split <;> exact ⟨_, _, rfl⟩
    obtain ⟨c, d, hu⟩ : ∃ a b, unqR s = .tup [.str a, .int .i64 b] := by unfold unqR; split <;> exact ⟨_, _, rfl⟩
    (repeat' first | ((first | refine go rfl rfl ?_ | refine Cl.by_ (by (first | refine awake_v _ | refine Quote_v _ _ hs | refine refQuote_v _ _ hs | refine Unquote_v _ _ hs | refine refUnquote_v _ _ hs)) ?_ | (refine Fk.by_ ?_ ?_ <;> intro hc <;> try simp only [hc]) | refine storeK_eq rfl ?_ | with_reducible refine And.intro ?_ ?_ | fail) <;> try simp only [h0, hq, hu, BEq.rfl, push_cast, reduceIte, Nat.reduceEqDiff, reduceCtorEq, Nat.reduceAdd, Nat.reduceLeDiff, Nat.reduceBEq]))

    refine finB (hwf) (by simp only [F4, push_cast, reduceIte, Nat.reduceEqDiff, reduceCtorEq, Nat.reduceAdd, Nat.reduceLeDiff, Nat.reduceBEq]; exact rfl) (by first | exact .inl rfl | (right; simp only [F4, push_cast, reduceIte, Nat.reduceEqDiff, reduceCtorEq, Nat.reduceAdd, Nat.reduceLeDiff, Nat.reduceBEq]; try rfl)) (by first | rfl | assumption) (by simp) (by simp) (by (repeat first | exact (hwf).subm | exact (hwf).suba | refine Sub.drop (by simp) ?_)) (by (repeat first | exact (hwf).subm | exact (hwf).suba | refine Sub.drop (by simp) ?_))
end Go.Proofs.Ytajbgangpipheaa
