/- Where the tokens of a text lie. -/
import Derived.Test.YtnondemehfkalaaDoorL18
import Derived.Test.YtnondemehfkalaaDoorK
set_option linter.unusedSimpArgs false
set_option linter.unusedVariables false
namespace Go.Proofs.YtnondemehfkalaaDoor
open Go.Sha Go.RowKit

theorem lowB_lib (b : UInt8) : Lib.lowerB b = lowB b := by
  unfold Lib.lowerB lowB Lib.isUpperB
  by_cases h : 65 ≤ b.toNat ∧ b.toNat ≤ 90
  · rw [if_pos h, if_pos]
    simp only [Bool.and_eq_true, decide_eq_true_eq, UInt8.le_iff_toNat_le]
    exact h
  · rw [if_neg h, if_neg]
    simp only [Bool.and_eq_true, decide_eq_true_eq, UInt8.le_iff_toNat_le]
    exact h

/-- A token's text against the bytes at its place. -/
theorem lex_text {s : List UInt8} {a : Nat} (ha : a ≤ s.length) {k : Int} {t : List UInt8} {e : Nat} (h : lexAt s a = some (k, t, e)) :
    e = a + t.length ∧ ((s.take e).drop a = t ∨ ((∀ b ∈ (s.take e).drop a, b.toNat < 128) ∧ Lib.toLowerA ((s.take e).drop a) = t)) ∧ (k = 3 → a = s.length) := by
  obtain ⟨g1, g2, g3⟩ := lexAt_bd ha h
  have hlen : ((s.take e).drop a).length = e - a := by simp; omega
  unfold lexAt at h
  split at h
  · rename_i h0
    cases h
    refine ⟨by simp, .inl (List.drop_eq_nil_of_le (by simp; omega)), fun _ => h0⟩
  · split at h
    · cases h
      refine ⟨by rw [List.length_map, hlen]; omega, .inr ⟨run_ascii (runTo_all _ _ rfl), ?_⟩, fun h => by cases h⟩
      unfold Lib.toLowerA
      exact congrArg (fun f => List.map f _) (funext lowB_lib)
    · split at h
      · split at h
        · cases h; exact ⟨by rw [hlen]; omega, .inl rfl, fun h => by cases h⟩
        · cases h
      · split at h
        · split at h <;> (cases h; exact ⟨by rw [hlen]; omega, .inl rfl, fun h => by cases h⟩)
        · split at h
          · cases h; exact ⟨by rw [hlen]; omega, .inl rfl, fun h => by cases h⟩
          · cases h

/-- The tokens from a place on, up to the end. -/
def Chain (s : List UInt8) : Nat → List Tok → Prop
  | _, [] => False
  | i, x :: r => x.a = ((runTo (isB 32) s i : Nat) : Int) ∧ ∃ e, lexAt s (runTo (isB 32) s i) = some (x.k, x.t, e) ∧ (x.k = 3 → r = []) ∧ (x.k ≠ 3 → Chain s e r)

theorem scan_chain (s : List UInt8) : ∀ (f i : Nat) (acc : List Tok) {l : List Tok} {at' : Nat}, scanG f s i acc = (l, at', 0) → ∃ r, l = acc ++ r ∧ Chain s i r
  | 0, i, acc, l, at', h => by rw [scanG] at h; simp at h
  | f + 1, i, acc, l, at', h => by
    rw [scanG] at h
    split at h
    · simp at h
    · rename_i k t e hlex
      split at h
      · simp at h
      · split at h
        · rename_i hk
          simp only [Prod.mk.injEq] at h
          exact ⟨[⟨k, t, ((runTo (isB 32) s i : Nat) : Int)⟩], h.1.symm, rfl, e, hlex, fun _ => rfl, fun h => absurd hk h⟩
        · rename_i hk
          obtain ⟨r, rfl, hr⟩ := scan_chain s f e _ h
          exact ⟨⟨k, t, ((runTo (isB 32) s i : Nat) : Int)⟩ :: r, by rw [List.append_assoc]; rfl, rfl, e, hlex, fun h => absurd h hk, fun _ => hr⟩

theorem scan_err (s : List UInt8) : ∀ (f i : Nat) (acc : List Tok) {l : List Tok} {at' : Nat} {er : Int}, i ≤ s.length → s.length - i < f → scanG f s i acc = (l, at', er) → er ≠ 0 → l = [] ∧ at' ≤ s.length
  | 0, i, acc, l, at', er, hi, hf, h, he => by omega
  | f + 1, i, acc, l, at', er, hi, hf, h, he => by
    have hr := runTo_le (ok := isB 32) hi
    rw [scanG] at h
    split at h
    · cases h; exact ⟨rfl, hr⟩
    · rename_i k t e hlex
      obtain ⟨g1, g2, g3⟩ := lexAt_bd hr hlex
      split at h
      · cases h; exact ⟨rfl, hr⟩
      · split at h
        · cases h; exact absurd rfl he
        · rename_i hk
          have := g3 hk
          have := le_runTo (ok := isB 32) (s := s) (i := i)
          exact scan_err s f e _ g2 (by omega) h he

theorem chain_last (s : List UInt8) : ∀ (r : List Tok) (i : Nat), i ≤ s.length → Chain s i r → ∃ x, r.getLast? = some x ∧ x.a = (s.length : Int)
  | [], i, hi, h => h.elim
  | x :: r, i, hi, h => by
    obtain ⟨h1, e, h2, h3, h4⟩ := h
    have hr := runTo_le (ok := isB 32) hi
    by_cases hk : x.k = 3
    · rw [h3 hk]
      exact ⟨x, rfl, by rw [h1, (lex_text hr h2).2.2 hk]⟩
    · obtain ⟨y, g1, g2⟩ := chain_last s r e (lexAt_bd hr h2).2.1 (h4 hk)
      cases r with
      | nil => cases g1
      | cons z r => exact ⟨y, by rw [List.getLast?_cons_cons]; exact g1, g2⟩

theorem trim_blank {s : List UInt8} {i : Nat} : Lib.trimB ((s.take (runTo (isB 32) s i)).drop i) 32 = [] := by
  have hall : ∀ b ∈ (s.take (runTo (isB 32) s i)).drop i, b = 32 := by
    intro b hb
    obtain ⟨j, hj⟩ := List.mem_iff_getElem?.1 hb
    rw [List.getElem?_drop, List.getElem?_take] at hj
    split at hj
    · rename_i hlt
      have := runTo_all (ok := isB 32) (s := s) (s.length - i) i rfl (i + j) (by omega) hlt
      rw [atIs_some hj] at this
      simp only [isB, beq_iff_eq] at this
      exact UInt8.toNat_inj.1 (by simpa using (by omega : b.toNat = 32))
    · cases hj
  generalize (s.take (runTo (isB 32) s i)).drop i = l at hall
  have h1 : ∀ {m : List UInt8}, (∀ b ∈ m, b = 32) → m.dropWhile (· == 32) = [] := fun {m} hm => by
    induction m with
    | nil => rfl
    | cons b m ih =>
      rw [List.dropWhile_cons, if_pos (by simp [hm b (List.mem_cons_self ..)])]
      exact ih (fun c hc => hm c (List.mem_cons_of_mem _ hc))
  unfold Lib.trimB Lib.trimLeftB Lib.trimRightB
  rw [h1 (m := l.reverse) (fun b hb => hall b (List.mem_reverse.1 hb))]
  rfl
end Go.Proofs.YtnondemehfkalaaDoor
