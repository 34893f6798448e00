/- The statement LexerIgnoresCardSaid: More blanks between tokens, and capital letters in words without quotes, change nothing but offsets. No condition but what the row lists. -/
import Derived.Test.YtnondemehfkalaaDoorI2
import Derived.Test.YtnondemehfkalaaDoorCards
import Derived.Test.YtnondemehfkalaaDoorTie
import Derived.Test.YtnondemehfkalaaDoorShaZ
import Derived.WalkKit
import Derived.ProofKit
import Derived.OpenShut
import Derived.ChangeMaps5
import Derived.LaidLaws
import Derived.LaidHandle
import Derived.Lay
import Derived.SevenTiedAt
set_option linter.unusedSimpArgs false
set_option linter.unusedVariables false
namespace Go.Proofs.YtnondemehfkalaaDoor.lexerIgnores
open Go.ChangeShapes Go.WideShapes Go.ChangeAt Go.RowKit Go.Sha
open Go.ChangeMaps (open_string shut_string)

theorem own : ownKnob Tryd.prog.godebug = none := by kernel_rfl

theorem walk (x0 : ByteArray) (x1 : Int) (h1 : 0 ≤ x1) (g1 : x1 ≤ 255) (w : World) : Calls Tryd.prog 3 #[.string x0, .int .u8 x1] w fun e w' => e = .returned (.bool true) ∧ Kept w w' := by
  have h := ignores_w x0.data.toList x1 h1 g1 st0
  have hs0 : (⟨x0.data.toList.toArray⟩ : ByteArray) = x0 := by cases x0; simp
  refine law_calls (vs := [.string x0, .int .u8 x1]) Tryd.func3 (by kernel_rfl) (by kernel_rfl) h ⟨rfl, fun i v c hv hc => ?_⟩
  match i, hv, hc with
  | 0, hv, hc =>
    cases hv; cases hc
    have := Rep.str (w := w) (A := abs0 w) x0.data.toList; rw [hs0] at this; exact this
  | 1, hv, hc =>
    cases hv; cases hc
    exact .int _ _
  | _ + 2, hv, hc => simp at hv

theorem met (os : Os) (args : Array Value) : laidMetH Tryd.prog Rows.lexerIgnoresRow.laid ((World.laidAll Tryd.prog os Rows.lexerIgnoresRow.laid).forCall (fun _ _ => 0) ⟨#[], args, []⟩).memory := by
  have e : (Rows.lexerIgnoresRow.laid.filter fun x => x.2.handleName?.isNone) = Rows.lexerIgnoresRow.laid := by kernel_rfl
  exact laidMetH_of_parts (by rw [e]; exact laidMet_laidAll args (by kernel_rfl) (by kernel_rfl)) (by kernel_rfl)

set_option maxRecDepth 100000 in
theorem lifted (os : Os) (started : os.Started) (H : Type) (enc : TypeId × Value → H) :
    ReturnsInHanded {} Tryd.checked os 3 .any (fun w args => (Rows.lexerIgnoresSpec.pre enc Tryd.prog Tryd.f3 Rows.lexerIgnoresRow.domain false w args ∧ laidMetH Tryd.prog Rows.lexerIgnoresRow.laid w) ∧ sizedMet enc Tryd.prog Tryd.f3 (OpenSpec.ofChange Rows.lexerIgnoresSpec) false w args)
      (Rows.lexerIgnoresSpec.post enc Tryd.prog Tryd.f3 false true false false) := by
  refine returnsInHanded_of_change_and (C := Tryd.checked) (X := fun w _ => laidMetH Tryd.prog Rows.lexerIgnoresRow.laid w) (fun _ _ _ hh h => h.of_heap hh) own started (by kernel_rfl) Tryd.func3
    (ChangeSpec.witness_shaped (enc := enc) (C := Tryd.checked) (os := os) (X := fun w _ => laidMetH Tryd.prog Rows.lexerIgnoresRow.laid w) false (World.laidAll Tryd.prog os Rows.lexerIgnoresRow.laid) #[.string ⟨#[]⟩, .int .u8 0] 8 (World.laidAll_os _ _ _)
      (World.shaped_of_ZipB (by kernel_rfl) (by kernel_rfl)) (by kernel_rfl) (by kernel_rfl) (by kernel_rfl) (met os _)) ?_
  intro W base args ds gs before hval0 hW hcnd _ hL _
  have hval : ∀ (j : Nat) t v, Tryd.f3.params[j]? = some t → args[j]? = some v → Value.okWide Tryd.prog W .any base t v := hval0
  have hW' := hW
  obtain ⟨p, q, hA0, hV, rfl, hfz, hnd⟩ := hW
  have hA : DataW.TrodAll enc Tryd.prog W 0 (fun _ => true) true Tryd.f3.params.toList args.toList ds p := hA0
  rw [Tryd.params3] at hA hval
  obtain ⟨v0, vs0, d0, ds0, p0, q0, hargs, rfl, rfl, t0, r0⟩ := trodAll_cons hA
  obtain ⟨v1, vs1, d1, ds1, p1, q1, rfl, rfl, rfl, t1, r1⟩ := trodAll_cons r0
  obtain ⟨rfl, rfl, rfl⟩ := trodAll_nil r1
  obtain rfl : args = #[v0, v1] := by cases args; simp_all
  obtain ⟨rfl, rfl⟩ := trodVars_none hV
  obtain ⟨x0, rfl, rfl, rfl, w0⟩ := open_string Tryd.underlying9 (hval 0 9 v0 rfl rfl) t0
  obtain ⟨x1, rfl, rfl, rfl, w1⟩ := open_int Tryd.underlying5 (hval 1 5 v1 rfl rfl) t1
  have b1 : 0 ≤ x1 ∧ x1 ≤ 255 := by simpa [Lit.wf, IntKind.min, IntKind.max, IntKind.bits, IntKind.signed] using w1
  clear hA0 hval0
  simp only [List.append_nil] at hW'
  refine (walk x0 x1 b1.1 b1.2 W).mono fun e W' ⟨he, hg⟩ => ?_
  subst he
  exact ⟨_, rfl, post_of_kept (pa := []) (pv := []) hW' (fun _ _ _ => (trodAll_cons_mk (shut_bool Tryd.underlying4 _) trodAll_mk0)) (fun sp _ => (trodAll_cons_mk (shut_string Tryd.underlying9 w0) (trodAll_cons_mk (shut_int Tryd.underlying5 w1) trodAll_mk0))) (fun _ _ => rfl) rfl
    hg (ok_one (by kernel_rfl) rfl (okWide_bool_mk Tryd.underlying4 _))⟩

theorem over : Rows.lexerIgnoresRow.holds Tryd.pinned (OpenSpec.ofChange Rows.lexerIgnoresSpec) :=
  OpenClaim.holds_of_wide 3 Tryd.f3 rfl rfl rfl rfl rfl rfl rfl ⟨rfl, rfl, rfl, rfl, rfl⟩ rfl rfl rfl rfl rfl (by kernel_rfl) Tryd.func3 (by kernel_rfl)
    (of_decide_eq_true (by kernel_rfl)) (by unfold Func.isWrapper; first | (rw [if_pos (by decide +kernel)]; kernel_rfl) | (rw [if_neg (by decide +kernel)]; exact ⟨rfl, rfl⟩))
    (fun os started H enc _ => lifted os started H enc)

theorem proved : Rows.LexerIgnoresCardSaid :=
  Claim7.holds_tied_plain_at .later [] Rows.lexerIgnoresCard.laidKinds true Rows.lexerIgnoresCard.stood.harness false
    over (fun _ h => by cases h) (by kernel_rfl) (fun _ h => by cases h) lexerIgnores_row_tie rfl ⟨rfl, rfl⟩ (by kernel_rfl) rfl
    (fun f fn hf hfn => by
      obtain rfl : f = 3 := Option.some.inj ((show Tryd.prog.funcNamed Rows.lexerIgnoresRow.func = some 3 by kernel_rfl).symm.trans hf) |>.symm
      obtain rfl : fn = Tryd.f3 := (Option.some.inj (Tryd.func3.symm.trans hfn)).symm
      exact ⟨by kernel_rfl, fun j t ht => by
        rw [Tryd.params3] at ht
        have hm : t ∈ [9, 5] := by simpa using Array.mem_of_getElem? ht
        have hall : ([9, 5].all fun u => !Tryd.prog.wantsStandIn u) = true := by kernel_rfl
        exact (show Tryd.prog.wantsStandIn t = false by simpa using List.all_eq_true.1 hall t hm)⟩)
    (by kernel_rfl)
end Go.Proofs.YtnondemehfkalaaDoor.lexerIgnores
