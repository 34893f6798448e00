/- The reference's Token, Scan. -/
import Derived.Test.YtnondemehfkalaaDoorL7
set_option linter.unusedSimpArgs false
set_option linter.unusedVariables false
namespace Go.Proofs.YtnondemehfkalaaDoor
open Go.Sha

theorem run_ascii {s : List UInt8} {a e : Nat} (h : ∀ i, a ≤ i → i < e → atIs wrdB s i = true) : ∀ b ∈ (s.take e).drop a, b.toNat < 128 := by
  intro b hb
  obtain ⟨i, hi⟩ := List.mem_iff_getElem?.1 hb
  rw [List.getElem?_drop, List.getElem?_take] at hi
  split at hi
  · rename_i hlt
    have := h (a + i) (by omega) hlt
    rw [atIs_some hi] at this
    have hl := b.toNat_lt
    simp only [wrdB, isWrd, isLet, isDig, Bool.or_eq_true, Bool.and_eq_true, decide_eq_true_eq, beq_iff_eq] at this
    omega
  · cases hi

theorem runTo_all {ok : UInt8 → Bool} {s : List UInt8} : ∀ (n i : Nat), s.length - i = n → ∀ k, i ≤ k → k < runTo ok s i → atIs ok s k = true := by
  intro n
  induction n with
  | zero =>
    intro i hn k h1 h2
    rw [runTo_stop (atIs_none (by omega))] at h2; omega
  | succ n ih =>
    intro i hn k h1 h2
    cases h : atIs ok s i with
    | false => rw [runTo_stop h] at h2; omega
    | true =>
      rcases Nat.eq_or_lt_of_le h1 with e | e
      · subst e; exact h
      · obtain ⟨g1, g2⟩ := runTo_go h
        exact ih (i + 1) (by omega) k e (by rw [g1]; exact h2)

def refTok (s : List UInt8) (a : Nat) : V := match lexAt s a with
  | some (k, t, e) => .tup [tokV k t a, .int .i64 (e : Int)]
  | none => .tup [tokV 0 [] 0, .int .i64 (-1)]

end Go.Proofs.YtnondemehfkalaaDoor
