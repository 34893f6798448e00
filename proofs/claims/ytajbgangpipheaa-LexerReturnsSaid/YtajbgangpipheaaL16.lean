/- A list of tokens, as it comes in. -/
import Derived.Test.YtajbgangpipheaaL15
import Derived.Test.YtajbgangpipheaaShaAA
set_option linter.unusedSimpArgs false
set_option linter.unusedVariables false
namespace Go.Proofs.Ytajbgangpipheaa
open Go.Sha

theorem toks_of {v : V} (h : OkC (.sl true 32 [.int .i64, .str, .int .i64]) v) : ∃ l : List Tok, v = .sl (l.map tkV) ∧ l.length ≤ 140737488351232 ∧ ∀ x ∈ l, x.t.length ≤ 140737488351232 := by
  cases h with
  | sl _ _ _ xs hl h1 h2 =>
    obtain ⟨l, rfl, hp⟩ := exists_map (f := tkV) (p := fun x => x.t.length ≤ 140737488351232) (xs := xs) (fun x hx => by
      obtain ⟨a1, a2⟩ := h1 x hx
      have a3 := h2 x hx
      cases x with
      | agg cs =>
        match cs, a2 with
        | [c0, c1, c2], _ =>
          have b0 := a3 0 _ c0 rfl rfl
          have b1 := a3 1 _ c1 rfl rfl
          have b2 := a3 2 _ c2 rfl rfl
          cases b0 with
          | int _ k _ => cases b1 with
            | str t ht => cases b2 with
              | int _ a _ => exact ⟨⟨k, t, a⟩, rfl, ht⟩
      | _ => cases a1)
    refine ⟨l, rfl, ?_, hp⟩
    rw [List.length_map] at hl
    omega

theorem joins_x {x : V} (h : OkC (.sl true 32 [.int .i64, .str, .int .i64]) x) : VRet Try.prog 6 [x] st0 (.bool true) st0 := by
  obtain ⟨l, rfl, h1, h2⟩ := toks_of h
  exact joins_v l _ h1 h2
end Go.Proofs.Ytajbgangpipheaa
