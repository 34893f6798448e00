/- What Join joins, Scan finds again. -/
import Derived.Test.YtnondemehfkalaaDoorL10
set_option linter.unusedSimpArgs false
set_option linter.unusedVariables false
namespace Go.Proofs.YtnondemehfkalaaDoor
open Go.Sha

/-- A rest that stops a token: nothing, or a blank. -/
def Stops (r : List UInt8) : Prop := r = [] ∨ ∃ r', r = 32 :: r'

theorem Stops.while {r : List UInt8} (h : Stops r) {ok : UInt8 → Bool} (ho : ok 32 = false) : r.takeWhile ok = [] := by
  rcases h with rfl | ⟨r', rfl⟩
  · rfl
  · rw [List.takeWhile_cons, if_neg (by simp [ho])]

theorem drop_mid (p t r : List UInt8) {i : Nat} (hi : i ≤ t.length) : (p ++ (t ++ r)).drop (p.length + i) = t.drop i ++ r := by
  rw [List.drop_append, List.drop_of_length_le (by omega), List.nil_append, show p.length + i - p.length = i by omega, List.drop_append_of_le_length hi]

theorem get_mid (p t r : List UInt8) {i : Nat} (hi : i < t.length) : (p ++ (t ++ r))[p.length + i]? = t[i]? := by
  rw [List.getElem?_append_right (by omega), show p.length + i - p.length = i by omega, List.getElem?_append_left hi]

theorem at_mid {ok : UInt8 → Bool} (p t r : List UInt8) {i : Nat} (hi : i < t.length) : atIs ok (p ++ (t ++ r)) (p.length + i) = atIs ok t i := by
  unfold atIs; rw [get_mid p t r hi]

theorem at_stop {ok : UInt8 → Bool} (p t : List UInt8) {r : List UInt8} (hr : Stops r) (ho : ok 32 = false) {i : Nat} (hi : i ≤ t.length) : atIs ok (p ++ (t ++ r)) (p.length + i) = atIs ok t i := by
  rcases Nat.lt_or_ge i t.length with h | h
  · exact at_mid p t r h
  · have e : i = t.length := by omega
    subst e
    rw [atIs_none (Nat.le_refl _)]
    unfold atIs
    rw [List.getElem?_append_right (by omega), show p.length + t.length - p.length = t.length by omega, List.getElem?_append_right (by omega), Nat.sub_self]
    rcases hr with rfl | ⟨r', rfl⟩
    · rfl
    · exact ho

theorem run_stop {ok : UInt8 → Bool} (p t : List UInt8) {r : List UInt8} (hr : Stops r) (ho : ok 32 = false) {i : Nat} (hi : i ≤ t.length) : runTo ok (p ++ (t ++ r)) (p.length + i) = p.length + runTo ok t i := by
  unfold runTo
  rw [drop_mid p t r hi, List.takeWhile_append, hr.while ho]
  split
  · rename_i h; rw [List.append_nil, h]; omega
  · omega

theorem runWithin {ok : UInt8 → Bool} (p t r : List UInt8) {i : Nat} (hi : i ≤ t.length) (h : runTo ok t i < t.length) : runTo ok (p ++ (t ++ r)) (p.length + i) = p.length + runTo ok t i := by
  unfold runTo at h ⊢
  rw [drop_mid p t r hi, List.takeWhile_append, if_neg (by rw [List.length_drop]; omega)]
  omega

theorem cut_mid (p t r : List UInt8) {a e : Nat} (ha : a ≤ t.length) (he : e ≤ t.length) : ((p ++ (t ++ r)).take (p.length + e)).drop (p.length + a) = (t.take e).drop a := by
  rw [List.drop_take, drop_mid p t r ha, List.drop_take, show p.length + e - (p.length + a) = e - a by omega, List.take_append_of_le_length (by rw [List.length_drop]; omega)]

theorem lex_mid {p t r : List UInt8} {k : Int} {u : List UInt8} {e : Nat} (hr : Stops r) (h : lexAt t 0 = some (k, u, e)) (hk : k ≠ 3) : lexAt (p ++ (t ++ r)) p.length = some (k, u, p.length + e) := by
  have hnil : 0 < t.length := by
    rcases Nat.eq_zero_or_pos t.length with h0 | h0
    · unfold lexAt at h
      rw [if_pos h0.symm] at h
      cases h; exact absurd rfl hk
    · exact h0
  have el := at_mid (ok := letB) p t r hnil
  have eq := at_mid (ok := isB 34) p t r hnil
  have ed := at_mid (ok := digB) p t r hnil
  have es := at_mid (ok := sgnB) p t r hnil
  rw [Nat.add_zero] at el eq ed es
  have hw := run_stop (ok := wrdB) p t hr rfl (Nat.zero_le _)
  have hd := run_stop (ok := digB) p t hr rfl (Nat.zero_le _)
  rw [Nat.add_zero] at hw hd
  unfold lexAt at h ⊢
  rw [if_neg (by simp only [List.length_append]; omega), el, eq, ed, es, hw, hd]
  rw [if_neg (by omega)] at h
  split at h
  · rename_i h1
    rw [if_pos h1]
    cases h
    have := cut_mid p t r (a := 0) (e := runTo wrdB t 0) (Nat.zero_le _) (runTo_le (Nat.zero_le _))
    rw [Nat.add_zero] at this
    rw [this]
  · rename_i h1
    rw [if_neg h1]
    split at h
    · rename_i h2
      rw [if_pos h2]
      split at h
      · rename_i h3
        cases h
        have hq := atIs_lt h3
        have e1 := runWithin (ok := plnB) p t r (i := 0 + 1) (by omega) hq
        rw [show p.length + (0 + 1) = p.length + 1 by omega] at e1
        rw [e1, at_mid p t r hq, if_pos h3]
        have := cut_mid p t r (a := 0) (e := runTo plnB t (0 + 1) + 1) (Nat.zero_le _) (by omega)
        rw [Nat.add_zero] at this
        rw [Nat.add_assoc, this]
      · cases h
    · rename_i h2
      rw [if_neg h2]
      split at h
      · rename_i h3
        rw [if_pos h3]
        have hdl : runTo digB t 0 ≤ t.length := runTo_le (Nat.zero_le _)
        have e1 := at_stop (ok := isB 46) p t hr rfl hdl
        have e2 : (atIs (isB 46) t (runTo digB t 0) && atIs digB (p ++ (t ++ r)) (p.length + runTo digB t 0 + 1)) = (atIs (isB 46) t (runTo digB t 0) && atIs digB t (runTo digB t 0 + 1)) := by
          cases h4 : atIs (isB 46) t (runTo digB t 0) with
          | false => rfl
          | true =>
            have := atIs_lt h4
            rw [Nat.add_assoc, at_stop (ok := digB) p t hr rfl (by omega)]
        rw [e1, e2]
        split at h
        · rename_i h4
          rw [if_pos h4]
          cases h
          have h5 : runTo digB t 0 < t.length := by
            rw [Bool.and_eq_true] at h4
            exact atIs_lt h4.1
          rw [Nat.add_assoc, run_stop (ok := digB) p t hr rfl (by omega)]
          have := cut_mid p t r (a := 0) (e := runTo digB t (runTo digB t 0 + 1)) (Nat.zero_le _) (runTo_le (by omega))
          rw [Nat.add_zero] at this
          rw [this]
        · rename_i h4
          rw [if_neg h4]
          cases h
          have := cut_mid p t r (a := 0) (e := runTo digB t 0) (Nat.zero_le _) hdl
          rw [Nat.add_zero] at this
          rw [this]
      · rename_i h3
        rw [if_neg h3]
        split at h
        · rename_i h4
          rw [if_pos h4]
          cases h
          have := cut_mid p t r (a := 0) (e := 0 + 1) (Nat.zero_le _) (by omega)
          rw [Nat.add_zero] at this
          rw [show p.length + 1 = p.length + (0 + 1) by omega, this]
        · cases h

/-- A token without its place. -/
def bareT (x : Tok) : Tok := ⟨x.k, x.t, 0⟩

end Go.Proofs.YtnondemehfkalaaDoor
