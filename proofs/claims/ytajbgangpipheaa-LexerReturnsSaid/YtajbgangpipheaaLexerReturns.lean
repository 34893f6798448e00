/- The statement LexerReturnsSaid: What Join joins, Scan finds again, up to the places. No condition. -/
import Derived.Test.YtajbgangpipheaaL17
import Derived.Test.YtajbgangpipheaaRows
import Derived.Test.YtajbgangpipheaaShaAA
import Derived.WalkKit
import Derived.ProofKit
import Derived.OpenShut
import Derived.ChangeMaps5
set_option linter.unusedSimpArgs false
set_option linter.unusedVariables false
namespace Go.Proofs.Ytajbgangpipheaa.lexerReturns
open Go.ChangeShapes Go.WideShapes Go.ChangeAt Go.RowKit Go.Sha
open Go.ChangeMaps (open_string shut_string)

theorem own : ownKnob Try.prog.godebug = none := by kernel_rfl

theorem walk (v : Value) (x : V) (w : World) (hx : OkC (.sl true 32 [.int .i64, .str, .int .i64]) x) (hr : Rep w (abs0 w) v x) : Calls Try.prog 7 #[v] w fun e w' => e = .returned (.bool true) ∧ Kept w w' := by
  have h : VRet Try.prog 7 [x] st0 (.bool true) st0 := returns_x hx
  refine law_calls (vs := [v]) Try.func7 (by kernel_rfl) (by kernel_rfl) h ⟨rfl, fun i u c hu hc => ?_⟩
  cases i with
  | zero => cases hu; cases hc; exact hr
  | succ i => simp at hu

set_option maxRecDepth 100000 in
theorem lifted (os : Os) (started : os.Started) (H : Type) (enc : TypeId × Value → H) :
    ReturnsInHanded {} Try.checked os 7 .any (Rows.lexerReturnsSpec.pre6 enc Try.prog Try.f7 Rows.lexerReturnsRow.domain false) (Rows.lexerReturnsSpec.post enc Try.prog Try.f7 false true false false) := by
  refine returnsInHanded_of_change_sized (C := Try.checked) own started (by kernel_rfl) Try.func7
    (ChangeSpec.witness6 (enc := enc) (C := Try.checked) false ⟨#[], #[.slice none 0 0], []⟩ 8 (by kernel_rfl) (by kernel_rfl) (by kernel_rfl) (by kernel_rfl)) ?_
  intro W base args ds gs before hval0 hW hcnd hsz0 _
  have hval : ∀ (j : Nat) t v, Try.f7.params[j]? = some t → args[j]? = some v → Value.okWide Try.prog W .any base t v := hval0
  have hsz : (DataW.weightsEach Try.prog (Try.f7.params.toList ++ Rows.lexerReturnsSpec.plain.varTypes Try.prog) (ds ++ gs)).all (· ≤ reachBytes) = true := hsz0
  have hW' := hW
  obtain ⟨p, q, hA0, hV, rfl, hfz, hnd⟩ := hW
  have hA : DataW.TrodAll enc Try.prog W 0 (fun _ => true) true Try.f7.params.toList args.toList ds p := hA0
  have hA1 := hA
  rw [Try.params7] at hA hval hsz
  obtain ⟨v0, vs0, d0, ds0, p0, q0, hargs, rfl, rfl, h0, r0⟩ := trodAll_cons hA
  obtain ⟨rfl, rfl, rfl⟩ := trodAll_nil r0
  obtain rfl : args = #[v0] := by cases args; simp_all
  obtain ⟨rfl, rfl⟩ := trodVars_none hV
  obtain ⟨a0, len, cap, rfl⟩ := okWide_slice Try.underlying23 (hval 0 23 v0 rfl rfl)
  simp only [List.append_nil] at hW'
  obtain ⟨x, hx, hr⟩ := arg_rep (n := 9) h0 (by kernel_rfl : shOf Try.prog 9 23 = some [(.sl true 32 [.int .i64, .str, .int .i64])]) rfl (fun k hk => of_decide_eq_true (List.all_eq_true.1 hsz k (DataW.weights_mem_each (j := 0) rfl rfl k hk)))
  refine (walk _ x W hx hr).mono fun e W' ⟨he, hg⟩ => ?_
  subst he
  exact ⟨_, rfl, post_of_kept (pa := p0) (pv := []) hW' (fun _ _ _ => (trodAll_cons_mk (shut_bool Try.underlying4 _) trodAll_mk0))
    (fun sp hsp => args_kept (by kernel_rfl) (by kernel_rfl) (by kernel_rfl) hg (fun t ht => of_decide_eq_true (List.all_eq_true.1 (by kernel_rfl : Try.f7.params.toList.all (fun t => decide (t < Try.prog.types.size)) = true) t ht)) (by have h := hA1; rw [List.append_nil] at h; exact h) (by simpa using hsp)) (fun _ _ => rfl) (by simp)
    hg (ok_one (by kernel_rfl) rfl (okWide_bool_mk Try.underlying4 _))⟩

theorem over : Rows.lexerReturnsRow.holds Try.pinned (OpenSpec.ofChange Rows.lexerReturnsSpec) :=
  OpenClaim.holds_of_wide 7 Try.f7 rfl rfl rfl rfl rfl rfl rfl ⟨rfl, rfl, rfl, rfl, rfl⟩ rfl rfl rfl rfl rfl (by kernel_rfl) Try.func7 (by kernel_rfl)
    (of_decide_eq_true (by kernel_rfl)) (by unfold Func.isWrapper; first | (rw [if_pos (by decide +kernel)]; kernel_rfl) | (rw [if_neg (by decide +kernel)]; exact ⟨rfl, rfl⟩))
    (fun os started H enc _ => lifted os started H enc)

theorem proved : Rows.LexerReturnsSaid := over
end Go.Proofs.Ytajbgangpipheaa.lexerReturns
