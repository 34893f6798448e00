/- What Join joins, Scan finds again. -/
import Derived.Test.YtajbgangpipheaaL16
set_option linter.unusedSimpArgs false
set_option linter.unusedVariables false
namespace Go.Proofs.Ytajbgangpipheaa
open Go.Sha

/-- A rest that stops a token: nothing, or a blank. -/
def Stops (r : List UInt8) : Prop := r = [] ∨ ∃ r', r = 32 :: r'

theorem Stops.while {r : List UInt8} (h : Stops r) {ok : UInt8 → Bool} (ho : ok 32 = false) : r.takeWhile ok = [] := by
  rcases h with rfl | ⟨r', rfl⟩
  · rfl
  · rw [List.takeWhile_cons, if_neg (by simp [ho])]

theorem drop_mid (p t r : List UInt8) {i : Nat} (hi : i ≤ t.length) : (p ++ (t ++ r)).drop (p.length + i) = t.drop i ++ r := by
  rw [List.drop_append, List.drop_of_length_le (by omega), List.nil_append, show p.length + i - p.length = i by omega, List.drop_append_of_le_length hi]

theorem get_mid (p t r : List UInt8) {i : Nat} (hi : i < t.length) : (p ++ (t ++ r))[p.length + i]? = t[i]? := by
  rw [List.getElem?_append_right (by omega), show p.length + i - p.length = i by omega, List.getElem?_append_left hi]

theorem at_mid {ok : UInt8 → Bool} (p t r : List UInt8) {i : Nat} (hi : i < t.length) : atIs ok (p ++ (t ++ r)) (p.length + i) = atIs ok t i := by
  unfold atIs; rw [get_mid p t r hi]

theorem at_stop {ok : UInt8 → Bool} (p t : List UInt8) {r : List UInt8} (hr : Stops r) (ho : ok 32 = false) {i : Nat} (hi : i ≤ t.length) : atIs ok (p ++ (t ++ r)) (p.length + i) = atIs ok t i := by
  rcases Nat.lt_or_ge i t.length with h | h
  · exact at_mid p t r h
  · have e : i = t.length := by omega
    subst e
    rw [atIs_none (Nat.le_refl _)]
    unfold atIs
    rw [List.getElem?_append_right (by omega), show p.length + t.length - p.length = t.length by omega, List.getElem?_append_right (by omega), Nat.sub_self]
    rcases hr with rfl | ⟨r', rfl⟩
    · rfl
    · exact ho

theorem run_stop {ok : UInt8 → Bool} (p t : List UInt8) {r : List UInt8} (hr : Stops r) (ho : ok 32 = false) {i : Nat} (hi : i ≤ t.length) : runTo ok (p ++ (t ++ r)) (p.length + i) = p.length + runTo ok t i := by
  unfold runTo
  rw [drop_mid p t r hi, List.takeWhile_append, hr.while ho]
  split
  · rename_i h; rw [List.append_nil, h]; omega
  · omega

theorem runWithin {ok : UInt8 → Bool} (p t r : List UInt8) {i : Nat} (hi : i ≤ t.length) (h : runTo ok t i < t.length) : runTo ok (p ++ (t ++ r)) (p.length + i) = p.length + runTo ok t i := by
  unfold runTo at h ⊢
  rw [drop_mid p t r hi, List.takeWhile_append, if_neg (by rw [List.length_drop]; omega)]
  omega

theorem cut_mid (p t r : List UInt8) {a e : Nat} (ha : a ≤ t.length) (he : e ≤ t.length) : ((p ++ (t ++ r)).take (p.length + e)).drop (p.length + a) = (t.take e).drop a := by
  rw [List.drop_take, drop_mid p t r ha, List.drop_take, show p.length + e - (p.length + a) = e - a by omega, List.take_append_of_le_length (by rw [List.length_drop]; omega)]

theorem lex_mid {p t r : List UInt8} {k : Int} {u : List UInt8} {e : Nat} (hr : Stops r) (h : lexAt t 0 = some (k, u, e)) (hk : k ≠ 3) : lexAt (p ++ (t ++ r)) p.length = some (k, u, p.length + e) := by
  have hnil : 0 < t.length := by
    rcases Nat.eq_zero_or_pos t.length with h0 | h0
    · unfold lexAt at h
      rw [if_pos h0.symm] at h
      cases h; exact absurd rfl hk
    · exact h0
  have el := at_mid (ok := letB) p t r hnil
  have eq := at_mid (ok := isB 34) p t r hnil
  have ed := at_mid (ok := digB) p t r hnil
  have es := at_mid (ok := sgnB) p t r hnil
  rw [Nat.add_zero] at el eq ed es
  have hw := run_stop (ok := wrdB) p t hr rfl (Nat.zero_le _)
  have hd := run_stop (ok := digB) p t hr rfl (Nat.zero_le _)
  rw [Nat.add_zero] at hw hd
  unfold lexAt at h ⊢
  rw [if_neg (by simp only [List.length_append]; omega), el, eq, ed, es, hw, hd]
  rw [if_neg (by omega)] at h
  split at h
  · rename_i h1
    rw [if_pos h1]
    cases h
    have := cut_mid p t r (a := 0) (e := runTo wrdB t 0) (Nat.zero_le _) (runTo_le (Nat.zero_le _))
    rw [Nat.add_zero] at this
    rw [this]
  · rename_i h1
    rw [if_neg h1]
    split at h
    · rename_i h2
      rw [if_pos h2]
      split at h
      · rename_i h3
        cases h
        have hq := atIs_lt h3
        have e1 := runWithin (ok := plnB) p t r (i := 0 + 1) (by omega) hq
        rw [show p.length + (0 + 1) = p.length + 1 by omega] at e1
        rw [e1, at_mid p t r hq, if_pos h3]
        have := cut_mid p t r (a := 0) (e := runTo plnB t (0 + 1) + 1) (Nat.zero_le _) (by omega)
        rw [Nat.add_zero] at this
        rw [Nat.add_assoc, this]
      · cases h
    · rename_i h2
      rw [if_neg h2]
      split at h
      · rename_i h3
        rw [if_pos h3]
        have hdl : runTo digB t 0 ≤ t.length := runTo_le (Nat.zero_le _)
        have e1 := at_stop (ok := isB 46) p t hr rfl hdl
        have e2 : (atIs (isB 46) t (runTo digB t 0) && atIs digB (p ++ (t ++ r)) (p.length + runTo digB t 0 + 1)) = (atIs (isB 46) t (runTo digB t 0) && atIs digB t (runTo digB t 0 + 1)) := by
          cases h4 : atIs (isB 46) t (runTo digB t 0) with
          | false => rfl
          | true =>
            have := atIs_lt h4
            rw [Nat.add_assoc, at_stop (ok := digB) p t hr rfl (by omega)]
        rw [e1, e2]
        split at h
        · rename_i h4
          rw [if_pos h4]
          cases h
          have h5 : runTo digB t 0 < t.length := by
            rw [Bool.and_eq_true] at h4
            exact atIs_lt h4.1
          rw [Nat.add_assoc, run_stop (ok := digB) p t hr rfl (by omega)]
          have := cut_mid p t r (a := 0) (e := runTo digB t (runTo digB t 0 + 1)) (Nat.zero_le _) (runTo_le (by omega))
          rw [Nat.add_zero] at this
          rw [this]
        · rename_i h4
          rw [if_neg h4]
          cases h
          have := cut_mid p t r (a := 0) (e := runTo digB t 0) (Nat.zero_le _) hdl
          rw [Nat.add_zero] at this
          rw [this]
      · rename_i h3
        rw [if_neg h3]
        split at h
        · rename_i h4
          rw [if_pos h4]
          cases h
          have := cut_mid p t r (a := 0) (e := 0 + 1) (Nat.zero_le _) (by omega)
          rw [Nat.add_zero] at this
          rw [show p.length + 1 = p.length + (0 + 1) by omega, this]
        · cases h

/-- A token without its place. -/
def bareT (x : Tok) : Tok := ⟨x.k, x.t, 0⟩

theorem good_ne {x : Tok} (h : goodTok x) : ∃ b r, x.t = b :: r ∧ isB 32 b = false := by
  obtain ⟨h1, h2, h3⟩ := h
  cases e : x.t with
  | nil =>
    rw [e] at h1
    unfold lexAt at h1
    rw [if_pos (show 0 = ([] : List UInt8).length from rfl)] at h1
    simp only [Option.some.injEq, Prod.mk.injEq] at h1
    exact absurd h1.1.symm h3
  | cons b r =>
    refine ⟨b, r, rfl, ?_⟩
    rw [e] at h2
    cases hb : isB 32 b with
    | false => rfl
    | true =>
      have := runTo_lt (ok := isB 32) (s := b :: r) (i := 0) (by simpa [atIs] using hb)
      omega

theorem stops_tail (xs : List Tok) : Stops (Lib.joinTail [32] (texts xs)) := by
  cases xs with
  | nil => exact .inl rfl
  | cons x xs => exact .inr ⟨_, rfl⟩

theorem scan_tail : ∀ (xs : List Tok) (p : List UInt8) (acc : List Tok) (f : Nat), (∀ x ∈ xs, goodTok x) → xs.length < f → acc.length ≤ 256 →
    ∃ m at' e, scanG f (p ++ Lib.joinTail [32] (texts xs)) p.length acc = (m, at', e) ∧ (256 < acc.length + xs.length + 1 → e = 5) ∧ (acc.length + xs.length + 1 ≤ 256 → e = 0 ∧ m.map bareT = acc.map bareT ++ xs.map bareT ++ [⟨3, [], 0⟩])
  | [], p, acc, f, _, hf, ha => by
    obtain ⟨f, rfl⟩ : ∃ g, f = g + 1 := ⟨f - 1, by simp at hf; omega⟩
    have e0 : p ++ Lib.joinTail [32] (texts []) = p := by simp [texts, Lib.joinTail]
    rw [e0, scanG, runTo_stop (atIs_none (Nat.le_refl _))]
    have e1 : lexAt p p.length = some (3, [], p.length) := by unfold lexAt; rw [if_pos rfl]
    rw [e1]
    by_cases h : acc.length = 256
    · refine ⟨_, _, _, if_pos h, fun _ => rfl, fun h' => ?_⟩
      simp at h'; omega
    · simp only [if_neg h, if_pos]
      refine ⟨_, _, _, rfl, fun h' => ?_, fun _ => ⟨rfl, ?_⟩⟩
      · simp at h'; omega
      · simp [bareT]
  | x :: xs, p, acc, f, hg, hf, ha => by
    obtain ⟨f, rfl⟩ : ∃ g, f = g + 1 := ⟨f - 1, by omega⟩
    have hx := hg x (List.mem_cons_self ..)
    obtain ⟨b, r, hb, hb2⟩ := good_ne hx
    obtain ⟨h1, h2, h3⟩ := hx
    have hs := stops_tail xs
    obtain ⟨u, hu⟩ : ∃ u, Lib.joinTail [32] (texts xs) = u := ⟨_, rfl⟩
    have hjt : Lib.joinTail [32] (texts (x :: xs)) = 32 :: (x.t ++ u) := by rw [← hu]; simp [texts, Lib.joinTail]
    rw [hu] at hs
    have e1 : p ++ 32 :: (x.t ++ u) = (p ++ [32]) ++ (x.t ++ u) := by simp
    rw [hjt, e1]
    have hpl : (p ++ [32]).length = p.length + 1 := by simp
    have hrun : runTo (isB 32) ((p ++ [32]) ++ (x.t ++ u)) p.length = p.length + 1 := by
      have g : atIs (isB 32) ((p ++ [32]) ++ (x.t ++ u)) p.length = true := by
        unfold atIs
        rw [List.append_assoc, List.getElem?_append_right (Nat.le_refl _), Nat.sub_self]
        rfl
      rw [← (runTo_go g).1]
      refine runTo_stop ?_
      have := at_mid (ok := isB 32) (p ++ [32]) x.t u (i := 0) (by rw [hb]; simp)
      rw [hpl, Nat.add_zero] at this
      rw [this, hb]
      simpa [atIs] using hb2
    have hlex := lex_mid (p := p ++ [32]) hs h1 h3
    rw [hpl] at hlex
    rw [scanG, hrun, hlex]
    by_cases h : acc.length = 256
    · refine ⟨_, _, _, if_pos h, fun _ => rfl, fun h' => ?_⟩
      simp at h'; omega
    · simp only [if_neg h, if_neg h3]
      have e3 : (p ++ [32]) ++ (x.t ++ u) = ((p ++ [32]) ++ x.t) ++ Lib.joinTail [32] (texts xs) := by rw [hu]; simp
      have e4 : p.length + 1 + x.t.length = ((p ++ [32]) ++ x.t).length := by simp; omega
      rw [e3, e4]
      obtain ⟨m, at', e, g1, g2, g3⟩ := scan_tail xs ((p ++ [32]) ++ x.t) (acc ++ [⟨x.k, x.t, ((p.length + 1 : Nat) : Int)⟩]) f (fun y hy => hg y (List.mem_cons_of_mem _ hy)) (by simp at hf; omega) (by simp; omega)
      refine ⟨m, at', e, g1, fun h' => g2 (by simp at h' ⊢; omega), fun h' => ?_⟩
      obtain ⟨k1, k2⟩ := g3 (by simp at h' ⊢; omega)
      exact ⟨k1, by rw [k2]; simp [bareT]⟩

theorem firstErr_all : ∀ {xs : List Tok}, firstErr xs = 0 → ∀ x ∈ xs, tokErr x = 0
  | x :: xs, h, y, hy => by
    rw [firstErr] at h
    by_cases h0 : tokErr x = 0
    · rw [if_pos h0] at h
      rcases List.mem_cons.1 hy with rfl | hy
      · exact h0
      · exact firstErr_all h y hy
    · rw [if_neg h0] at h; exact absurd h h0

theorem tokErr_good {x : Tok} (h : tokErr x = 0) : goodTok x := by
  unfold tokErr at h
  split at h
  · cases h
  · split at h
    · assumption
    · cases h

/-- What Join joins, Scan finds again. -/
theorem returns (l : List Tok) {s : List UInt8} (h : joinR l = (s, 0)) : l ≠ [] ∧ ∃ m at' e, scanR s = (m, at', e) ∧ (256 < l.length → e = 5) ∧ (l.length ≤ 256 → e = 0 ∧ m ≠ [] ∧ m.map bareT = l.map bareT) := by
  unfold joinR at h
  split at h
  · cases h
  · rename_i h1
    split at h
    · rename_i h2
      exact absurd (congrArg Prod.snd h) h2
    · rename_i h2
      split at h
      · cases h
      · rename_i h3
        split at h
        · cases h
        · rename_i h4
          have hok : endsOk l := Classical.byContradiction fun g => h1 (.inl g)
          have hne : l ≠ [] := fun g => h1 (.inr g)
          refine ⟨hne, ?_⟩
          cases h
          obtain ⟨xs, z, rfl⟩ : ∃ xs z, l = xs ++ [z] := ⟨l.dropLast, l.getLast hne, (List.dropLast_concat_getLast hne).symm⟩
          rw [List.dropLast_concat] at h2 h4 ⊢
          have hz : z.t = [] := by
            have : lastT (xs ++ [z]) = z.t := by unfold lastT; rw [List.getLast?_concat]
            rw [this] at h3
            exact Decidable.not_not.1 h3
          have hz3 : z.k = 3 := (hok xs.length z (by simp)).2 (by simp)
          have hgood : ∀ x ∈ xs, goodTok x := fun x hx => tokErr_good (firstErr_all (Decidable.not_not.1 h2) x hx)
          have hbz : bareT z = ⟨3, [], 0⟩ := by unfold bareT; rw [hz, hz3]
          have hs : scanR (Lib.join (texts xs) [32]) = scanG ((Lib.join (texts xs) [32]).length + 1) (Lib.join (texts xs) [32]) 0 [] := if_neg h4
          rw [hs]
          suffices hm : ∃ m at' e, scanG ((Lib.join (texts xs) [32]).length + 1) (Lib.join (texts xs) [32]) 0 [] = (m, at', e) ∧ (256 < xs.length + 1 → e = 5) ∧ (xs.length + 1 ≤ 256 → e = 0 ∧ m.map bareT = xs.map bareT ++ [⟨3, [], 0⟩]) by
            obtain ⟨m, at', e, g1, g2, g3⟩ := hm
            refine ⟨m, at', e, g1, fun g => g2 (by simpa using g), fun g => ?_⟩
            obtain ⟨k1, k2⟩ := g3 (by simpa using g)
            refine ⟨k1, fun hm0 => ?_, by rw [k2, List.map_append, List.map_cons, hbz]; rfl⟩
            rw [hm0] at k2
            simp at k2
          cases xs with
          | nil =>
            obtain ⟨m, at', e, g1, g2, g3⟩ := scan_tail [] [] [] 1 (by simp) (by simp) (by simp)
            exact ⟨m, at', e, g1, by simp, by simpa using g3⟩
          | cons x xs =>
            have hx := hgood x (List.mem_cons_self ..)
            obtain ⟨b, r, hb, hb2⟩ := good_ne hx
            obtain ⟨q1, q2, q3⟩ := hx
            obtain ⟨u, hu⟩ : ∃ u, Lib.joinTail [32] (texts xs) = u := ⟨_, rfl⟩
            have hst := stops_tail xs
            rw [hu] at hst
            have hj : Lib.join (texts (x :: xs)) [32] = x.t ++ u := by rw [← hu]; exact Lib.join_cons _ _ _
            have hlen : xs.length < (x.t ++ u).length := by
              rw [List.length_append, ← hu, joinTail_len, hb]
              simp [texts]; omega
            rw [hj]
            have hrun : runTo (isB 32) (x.t ++ u) 0 = 0 := by
              refine runTo_stop ?_
              rw [hb]
              simpa [atIs] using hb2
            have hlex := lex_mid (p := []) hst q1 q3
            rw [List.nil_append, List.length_nil, Nat.zero_add] at hlex
            rw [scanG, hrun, hlex]
            simp only [List.length_nil, if_neg q3, reduceCtorEq, if_neg (show ¬ (0 = 256) by decide)]
            obtain ⟨m, at', e, g1, g2, g3⟩ := scan_tail xs x.t [⟨x.k, x.t, ((0 : Nat) : Int)⟩] (x.t ++ u).length (fun y hy => hgood y (List.mem_cons_of_mem _ hy)) hlen (by simp)
            rw [hu] at g1
            refine ⟨m, at', e, g1, fun h' => g2 (by simp at h' ⊢; omega), fun h' => ?_⟩
            obtain ⟨k1, k2⟩ := g3 (by simp at h' ⊢; omega)
            exact ⟨k1, by rw [k2]; simp [bareT]⟩
end Go.Proofs.Ytajbgangpipheaa
