/- LexerPlaces. -/
import Derived.Test.YtajbgangpipheaaDoorP1
set_option linter.unusedSimpArgs false
set_option linter.unusedVariables false
namespace Go.Proofs.YtajbgangpipheaaDoor
open Go.Sha

theorem places_v (s : List UInt8) (st : St) : VRet Tryd.prog 4 [.str s] st (.bool true) st := by
  refine VCalls_of F4_ok mixed (Nat.le_of_ble_eq_true rfl) (fun hwf => ?_)
  by_cases hbig : 700 < s.length
  · have h0 : decide ((700 : Int) < (s.length : Int)) = true := decide_eq_true (by omega)
    (repeat' first | ((first | refine go rfl rfl ?_ | refine Cl.by_ (by (first | refine awake_v _)) ?_ | (refine Fk.by_ ?_ ?_ <;> intro hc <;> try simp only [hc]) | refine storeK_eq rfl ?_ | with_reducible refine And.intro ?_ ?_ | fail) <;> try simp only [h0, push_cast, reduceIte, Nat.reduceEqDiff, reduceCtorEq, Nat.reduceAdd, Nat.reduceLeDiff, Nat.reduceBEq]))
    refine finB (hwf) (by simp only [F4, push_cast, reduceIte, Nat.reduceEqDiff, reduceCtorEq, Nat.reduceAdd, Nat.reduceLeDiff, Nat.reduceBEq]; exact rfl) (by first | exact .inl rfl | (right; simp only [F4, push_cast, reduceIte, Nat.reduceEqDiff, reduceCtorEq, Nat.reduceAdd, Nat.reduceLeDiff, Nat.reduceBEq]; try rfl)) (by first | rfl | assumption) (by simp) (by simp) (by (repeat first | exact (hwf).subm | exact (hwf).suba | refine Sub.drop (by simp) ?_)) (by (repeat first | exact (hwf).subm | exact (hwf).suba | refine Sub.drop (by simp) ?_))
  have h0 : decide ((700 : Int) < (s.length : Int)) = false := decide_eq_false (by omega)
  have hsR : scanR s = scanG (s.length + 1) s 0 [] := if_neg (by omega)
  obtain ⟨l, at', er, hs⟩ : ∃ l at' er, scanR s = (l, at', er) := ⟨_, _, _, rfl⟩
  have hsc : ∀ st, VRet Tryd.prog 6 [.str s] st (.tup [.sl (l.map tkV), .int .i64 (at' : Int), .int .i64 er]) st := fun st => by have := scan_v s st; rwa [hs] at this
  rw [hsR] at hs
  cases her : (er != 0) with
  | true =>
    obtain ⟨g1, g2⟩ := scan_err s _ _ _ (Nat.zero_le _) (by omega) hs (by simpa [bne] using her)
    subst g1
    have h1 : decide ((0 : Int) ≤ (at' : Int)) = true := decide_eq_true (by omega)
    have h2 : decide ((at' : Int) ≤ (s.length : Int)) = true := decide_eq_true (by omega)
    have h3 : (((([] : List Tok).map tkV).length : Int) == 0) = true := rfl
    have h4 : ((0 : Int) == 0) = true := rfl
    (repeat' first | ((first | refine go rfl rfl ?_ | refine Cl.by_ (by (first | refine awake_v _ | refine hsc _)) ?_ | (refine Fk.by_ ?_ ?_ <;> intro hc <;> try simp only [hc]) | refine storeK_eq rfl ?_ | with_reducible refine And.intro ?_ ?_ | fail) <;> try simp only [h0, her, h1, h2, h3, h4, List.map_nil, List.length_nil, push_cast, reduceIte, Nat.reduceEqDiff, reduceCtorEq, Nat.reduceAdd, Nat.reduceLeDiff, Nat.reduceBEq]))
    refine finB (hwf) (by simp only [F4, push_cast, reduceIte, Nat.reduceEqDiff, reduceCtorEq, Nat.reduceAdd, Nat.reduceLeDiff, Nat.reduceBEq]; exact rfl) (by first | exact .inl rfl | (right; simp only [F4, push_cast, reduceIte, Nat.reduceEqDiff, reduceCtorEq, Nat.reduceAdd, Nat.reduceLeDiff, Nat.reduceBEq]; try rfl)) (by first | rfl | assumption) (by simp) (by simp) (by (repeat first | exact (hwf).subm | exact (hwf).suba | refine Sub.drop (by simp) ?_)) (by (repeat first | exact (hwf).subm | exact (hwf).suba | refine Sub.drop (by simp) ?_))
  | false =>
    have he0 : er = 0 := by simpa [bne] using her
    subst he0
    obtain ⟨r, hr, hch⟩ := scan_chain s _ _ _ hs
    rw [List.nil_append] at hr
    subst hr
    obtain ⟨z, hz, hza⟩ := chain_last s l 0 (Nat.zero_le _) hch
    have hbl : V.bdL st.nx (l.map tkV) = true := bdL_tk
    have hne : l ≠ [] := fun h => by rw [h] at hz; cases hz
    have hpos : 0 < l.length := List.length_pos_iff.2 hne
    obtain ⟨m, hm⟩ : ∃ m, l.length = m + 1 := ⟨l.length - 1, by omega⟩
    have hl256 : l.length ≤ 256 := by have := scanR_len s; rw [hsR, hs] at this; exact this
    have hwm : IntKind.i64.wrap ((l.length : Int) - 1) = (m : Int) := by rw [wrap64 (by omega) (by omega)]; omega
    have hzm : l[m]? = some z := by rw [List.getLast?_eq_getElem?, show l.length - 1 = m by omega] at hz; exact hz
    have key : WT Tryd.prog F4.N F4.T 57 [(3, .sl (l.map tkV)), (0, .str s)] st (finQ F4.res st.nx fun x z => x = .ret (.bool true) ∧ z = st) := by
      have h1 : decide ((0 : Int) < (l.length : Int)) = true := decide_eq_true (by omega)
      (repeat' first | ((first | refine go rfl rfl ?_ | refine Cl.by_ (by (first | refine awake_v _)) ?_ | (refine Fk.by_ ?_ ?_ <;> intro hc <;> try simp only [hc]) | refine storeK_eq rfl ?_ | with_reducible refine And.intro ?_ ?_ | fail) <;> try simp only [h1, hwm, hzm, cells_tkV, hza, BEq.rfl, push_cast, reduceIte, Nat.reduceEqDiff, reduceCtorEq, Nat.reduceAdd, Nat.reduceLeDiff, Nat.reduceBEq]))
      refine finB (hwf) (by simp only [F4, push_cast, reduceIte, Nat.reduceEqDiff, reduceCtorEq, Nat.reduceAdd, Nat.reduceLeDiff, Nat.reduceBEq]; exact rfl) (by first | exact .inl rfl | (right; simp only [F4, push_cast, reduceIte, Nat.reduceEqDiff, reduceCtorEq, Nat.reduceAdd, Nat.reduceLeDiff, Nat.reduceBEq]; try rfl)) (by first | rfl | assumption) (by simp) (by simp) (by (repeat first | exact (hwf).subm | exact (hwf).suba | refine Sub.drop (by simp) ?_)) (by (repeat first | exact (hwf).subm | exact (hwf).suba | refine Sub.drop (by simp) ?_))
    (repeat' first | ((first | refine go rfl rfl ?_ | refine Cl.by_ (by (first | refine awake_v _ | refine hsc _)) ?_ | (refine Fk.by_ ?_ ?_ <;> intro hc <;> try simp only [hc]) | refine storeK_eq rfl ?_ | with_reducible refine And.intro ?_ ?_ | fail) <;> try simp only [h0, her, push_cast, reduceIte, Nat.reduceEqDiff, reduceCtorEq, Nat.reduceAdd, Nat.reduceLeDiff, Nat.reduceBEq]))
    refine WT_loop rfl (fun n e z => ∃ j i : Nat, n = l.length - j ∧ j ≤ l.length ∧ i ≤ s.length ∧ (j < l.length → Chain s i (l.drop j)) ∧ e = [(40, .int .i64 (j : Int)), (6, .int .i64 (i : Int)), (39, .int .i64 (l.length : Int)), (38, .sl (l.map tkV)), (3, .sl (l.map tkV)), (0, .str s)] ∧ z = st) st.nx (Nat.le_refl _) (by rintro _ _ _ ⟨j, i, _, _, _, _, _, rfl⟩; rfl)
      ⟨_, _, _, ⟨0, 0, rfl, Nat.zero_le _, Nat.zero_le _, fun _ => hch, rfl, rfl⟩, (by repeat first | exact .nil | refine .cons (by first | rfl | (simp [V.bd, V.bdL]; try first | omega | assumption)) (by first | rfl | simp only [push_cast, reduceIte, Nat.reduceEqDiff, reduceCtorEq, Nat.reduceAdd, Nat.reduceLeDiff, Nat.reduceBEq]) ?_), .refl hwf⟩ ?_
    rintro n e z ⟨j, i, rfl, hj, hi, hc, rfl, rfl⟩
    rcases Nat.lt_or_ge j l.length with hlt | hge
    · have h2 : decide ((j : Int) < (l.length : Int)) = true := decide_eq_true (by omega)
      have hw : IntKind.i64.wrap ((j : Int) + 1) = (j : Int) + 1 := wrap64 (by omega) (by omega)
      obtain ⟨x, hx⟩ : ∃ x, l[j]? = some x := ⟨_, List.getElem?_eq_getElem hlt⟩
      have hc := hc hlt
      obtain ⟨q1, q2⟩ := List.getElem?_eq_some_iff.1 hx
      rw [List.drop_eq_getElem_cons q1, q2] at hc
      obtain ⟨k, t, xa⟩ := x
      obtain ⟨c1, e, c2, c3, c4⟩ := hc
      obtain ⟨a, ha⟩ : ∃ a, runTo (isB 32) s i = a := ⟨_, rfl⟩
      have htb := trim_blank (s := s) (i := i)
      have hia : i ≤ a := by rw [← ha]; exact le_runTo
      have hal : a ≤ s.length := by rw [← ha]; exact runTo_le hi
      simp only [ha] at c1 c2 htb
      subst c1
      simp only at c3 c4 c2
      obtain ⟨d1, d2, d3⟩ := lex_text hal c2
      obtain ⟨g1, g2, g3⟩ := lexAt_bd hal c2
      have h3 : decide ((a : Int) < (i : Int)) = false := decide_eq_false (by omega)
      have h4 : IntKind.i64.wrap ((a : Int) + (t.length : Int)) = (e : Int) := by rw [wrap64 (by omega) (by omega)]; omega
      have h5 : decide ((s.length : Int) < (e : Int)) = false := decide_eq_false (by omega)
      have h6 : ∀ st, VRet Tryd.prog 14 [.str ((s.take a).drop i), .str [32]] st (.str []) st := fun st => by have := trim_v ((s.take a).drop i) st (by simp; omega); rwa [htb] at this
      have h7 : (([] : List UInt8) != []) = false := rfl
      have h8 : ((k == 3) != ((j : Int) == (m : Int))) = false := by
        have : ((k == 3) = ((j : Int) == (m : Int))) := by
          rw [Bool.eq_iff_iff]; simp only [beq_iff_eq]
          constructor
          · intro hk
            have := congrArg List.length (c3 hk)
            simp at this; omega
          · intro hjm
            refine Classical.byContradiction fun hk => ?_
            have := c4 hk
            rw [List.drop_eq_nil_of_le (by omega)] at this
            exact this
        rw [this]; simp
      obtain ⟨u, hu⟩ : ∃ u, (s.take e).drop a = u := ⟨_, rfl⟩
      rw [hu] at d2
      have hul : u.length ≤ 140737488355328 := by rw [← hu]; simp; omega
      by_cases hut : u = t
      · have h9 : (u != t) = false := by simp [hut]
        (repeat' first | ((first | refine go rfl rfl ?_ | refine Cl.by_ (by (first | refine h6 _)) ?_ | (refine Fk.by_ ?_ ?_ <;> intro hc <;> try simp only [hc]) | refine storeK_eq rfl ?_ | with_reducible refine And.intro ?_ ?_ | fail) <;> try simp only [h2, hw, hx, cells_tkV, h3, h4, h5, h7, hia, hal, g1, g2, hu, h9, hwm, h8, push_cast, reduceIte, Nat.reduceEqDiff, reduceCtorEq, Nat.reduceAdd, Nat.reduceLeDiff, Nat.reduceBEq]))
        exact ⟨_, _, _, by omega, ⟨j + 1, e, rfl, by omega, g2, fun h => c4 (fun hk => by have := congrArg List.length (c3 hk); simp at this; omega), rfl, rfl⟩, (by repeat first | exact .nil | refine .cons (by first | rfl | (simp [V.bd, V.bdL]; try first | omega | assumption)) (by first | rfl | simp only [push_cast, reduceIte, Nat.reduceEqDiff, reduceCtorEq, Nat.reduceAdd, Nat.reduceLeDiff, Nat.reduceBEq]) ?_), Weak.wf rfl (by simp) (by (repeat first | exact (hwf).subm | exact (hwf).suba | refine Sub.drop (by simp) ?_)) (by (repeat first | exact (hwf).subm | exact (hwf).suba | refine Sub.drop (by simp) ?_)) (hwf)⟩
      · have h9 : (u != t) = true := by simpa [bne] using hut
        obtain ⟨f1, f2⟩ : (∀ b ∈ u, b.toNat < 128) ∧ Lib.toLowerA u = t := d2.resolve_left hut
        have h10 : ∀ st, VRet Tryd.prog 15 [.str u] st (.str t) st := fun st => by have := toLower_v u st hul f1; rwa [f2] at this
        have h11 : (t != t) = false := by simp
        (repeat' first | ((first | refine go rfl rfl ?_ | refine Cl.by_ (by (first | refine h6 _ | refine h10 _)) ?_ | (refine Fk.by_ ?_ ?_ <;> intro hc <;> try simp only [hc]) | refine storeK_eq rfl ?_ | with_reducible refine And.intro ?_ ?_ | fail) <;> try simp only [h2, hw, hx, cells_tkV, h3, h4, h5, h7, hia, hal, g1, g2, hu, h9, h11, hwm, h8, push_cast, reduceIte, Nat.reduceEqDiff, reduceCtorEq, Nat.reduceAdd, Nat.reduceLeDiff, Nat.reduceBEq]))
        exact ⟨_, _, _, by omega, ⟨j + 1, e, rfl, by omega, g2, fun h => c4 (fun hk => by have := congrArg List.length (c3 hk); simp at this; omega), rfl, rfl⟩, (by repeat first | exact .nil | refine .cons (by first | rfl | (simp [V.bd, V.bdL]; try first | omega | assumption)) (by first | rfl | simp only [push_cast, reduceIte, Nat.reduceEqDiff, reduceCtorEq, Nat.reduceAdd, Nat.reduceLeDiff, Nat.reduceBEq]) ?_), Weak.wf rfl (by simp) (by (repeat first | exact (hwf).subm | exact (hwf).suba | refine Sub.drop (by simp) ?_)) (by (repeat first | exact (hwf).subm | exact (hwf).suba | refine Sub.drop (by simp) ?_)) (hwf)⟩
    · have h2 : decide ((j : Int) < (l.length : Int)) = false := decide_eq_false (by omega)
      (repeat' first | exact WT_env (by repeat first | exact .nil | refine .cons (by first | rfl | simp only [push_cast, reduceIte, Nat.reduceEqDiff, reduceCtorEq, Nat.reduceAdd, Nat.reduceLeDiff, Nat.reduceBEq]) ?_) key | ((first | refine go rfl rfl ?_ | (refine Fk.by_ ?_ ?_ <;> intro hc <;> try simp only [hc]) | refine storeK_eq rfl ?_ | with_reducible refine And.intro ?_ ?_ | fail) <;> try simp only [h2, push_cast, reduceIte, Nat.reduceEqDiff, reduceCtorEq, Nat.reduceAdd, Nat.reduceLeDiff, Nat.reduceBEq]))
end Go.Proofs.YtajbgangpipheaaDoor
