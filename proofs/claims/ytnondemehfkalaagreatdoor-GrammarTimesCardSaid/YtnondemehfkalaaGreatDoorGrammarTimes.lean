/- The statement GrammarTimesCardSaid: A number of milliseconds is got from its seconds with three decimals, with and without zeros at their end; twice as many are a later time (luminairelaw39.GrammarTimes gives true). No condition but what the row lists. -/
import Derived.Test.YtnondemehfkalaaGreatDoorV3
import Derived.Test.YtnondemehfkalaaGreatDoorV1
import Derived.Test.YtnondemehfkalaaGreatDoorCards
import Derived.Test.YtnondemehfkalaaGreatDoorTie
import Derived.Test.YtnondemehfkalaaGreatDoorShaZ
import Derived.SizedLaws
import Derived.WalkKit
import Derived.ProofKit
import Derived.OpenShut
import Derived.ChangeMaps5
import Derived.LaidLaws
import Derived.LaidHandle
import Derived.Lay
import Derived.SevenTiedAt
set_option linter.unusedSimpArgs false
set_option linter.unusedVariables false
namespace Go.Proofs.YtnondemehfkalaaGreatDoor.grammarTimes
open Go.ChangeShapes Go.WideShapes Go.ChangeAt Go.RowKit Go.Sha
open Go.ChangeMaps (open_string shut_string)

theorem own : ownKnob Tryz.prog.godebug = none := by kernel_rfl

theorem walk (x0 : Int) (h0 : 0 ≤ x0) (g0 : x0 ≤ 4294967295) (w : World) (hl : laidMetH Tryz.prog Rows.grammarTimesRow.laid w) : Calls Tryz.prog 7 #[.int .u32 x0] w fun e w' => e = .returned (.bool true) ∧ Kept w w' := by
  obtain ⟨gl, hg, hgl⟩ := laid_gl (by kernel_rfl) (.tail _ (.tail _ (.tail _ (.tail _ (.head _))))) (.tail _ (.tail _ (.tail _ (.tail _ (.tail _ (.tail _ (.tail _ (.head _)))))))) (.tail _ (.tail _ (.head _))) hl
  have h := times_w x0 h0 g0 (stG gl) hg
  refine law_callsG (vs := [.int .u32 x0]) Tryz.func7 (by kernel_rfl) (by kernel_rfl) h hgl ⟨rfl, fun i v c hv hc => ?_⟩
  match i, hv, hc with
  | 0, hv, hc =>
    cases hv; cases hc
    exact .int _ _
  | _ + 1, hv, hc => simp at hv

theorem met (os : Os) (args : Array Value) : laidMetH Tryz.prog Rows.grammarTimesRow.laid ((World.laidAll Tryz.prog os Rows.grammarTimesRow.laid).forCall (fun _ _ => 0) ⟨#[], args, []⟩).memory := by
  have e : (Rows.grammarTimesRow.laid.filter fun x => x.2.handleName?.isNone) = Rows.grammarTimesRow.laid := by kernel_rfl
  exact laidMetH_of_parts (by rw [e]; exact laidMet_laidAll args (by kernel_rfl) (by kernel_rfl)) (by kernel_rfl)

set_option maxRecDepth 100000 in
theorem lifted (os : Os) (started : os.Started) (H : Type) (enc : TypeId × Value → H) :
    ReturnsInHanded {} Tryz.checked os 7 .any (fun w args => (Rows.grammarTimesSpec.pre enc Tryz.prog Tryz.f7 Rows.grammarTimesRow.domain false w args ∧ laidMetH Tryz.prog Rows.grammarTimesRow.laid w) ∧ sizedMet enc Tryz.prog Tryz.f7 (OpenSpec.ofChange Rows.grammarTimesSpec) false w args)
      (Rows.grammarTimesSpec.post enc Tryz.prog Tryz.f7 false true false false) := by
  refine returnsInHanded_of_change_and (C := Tryz.checked) (X := fun w _ => laidMetH Tryz.prog Rows.grammarTimesRow.laid w) (fun _ _ _ hh h => h.of_heap hh) own started (by kernel_rfl) Tryz.func7
    (ChangeSpec.witness_shaped (enc := enc) (C := Tryz.checked) (os := os) (X := fun w _ => laidMetH Tryz.prog Rows.grammarTimesRow.laid w) false (World.laidAll Tryz.prog os Rows.grammarTimesRow.laid) #[.int .u32 0] 8 (World.laidAll_os _ _ _)
      (World.shaped_of_ZipB (by kernel_rfl) (by kernel_rfl)) (by kernel_rfl) (by kernel_rfl) (by kernel_rfl) (met os _)) ?_
  intro W base args ds gs before hval0 hW hcnd hz hL _
  have hval : ∀ (j : Nat) t v, Tryz.f7.params[j]? = some t → args[j]? = some v → Value.okWide Tryz.prog W .any base t v := hval0
  have hW' := hW
  obtain ⟨p, q, hA0, hV, rfl, hfz, hnd⟩ := hW
  have hA : DataW.TrodAll enc Tryz.prog W 0 (fun _ => true) true Tryz.f7.params.toList args.toList ds p := hA0
  rw [Tryz.params7] at hA hval
  obtain ⟨v0, vs0, d0, ds0, p0, q0, hargs, rfl, rfl, t0, r0⟩ := trodAll_cons hA
  obtain ⟨rfl, rfl, rfl⟩ := trodAll_nil r0
  obtain rfl : args = #[v0] := by cases args; simp_all
  obtain ⟨rfl, rfl⟩ := trodVars_none hV
  obtain ⟨x0, rfl, rfl, rfl, w0⟩ := open_int Tryz.underlying50 (hval 0 50 v0 rfl rfl) t0
  have b0 : 0 ≤ x0 ∧ x0 ≤ 4294967295 := by simpa [Lit.wf, IntKind.min, IntKind.max, IntKind.bits, IntKind.signed] using w0
  clear hA0 hval0
  simp only [List.append_nil] at hW'
  refine (walk x0 b0.1 b0.2 W hL).mono fun e W' ⟨he, hg⟩ => ?_
  subst he
  exact ⟨_, rfl, post_of_kept (pa := []) (pv := []) hW' (fun _ _ _ => (trodAll_cons_mk (shut_bool Tryz.underlying4 _) trodAll_mk0)) (fun sp _ => (trodAll_cons_mk (shut_int Tryz.underlying50 w0) trodAll_mk0)) (fun _ _ => rfl) rfl
    hg (ok_one (by kernel_rfl) rfl (okWide_bool_mk Tryz.underlying4 _))⟩

theorem over : Rows.grammarTimesRow.holds Tryz.pinned (OpenSpec.ofChange Rows.grammarTimesSpec) :=
  OpenClaim.holds_of_wide 7 Tryz.f7 rfl rfl rfl rfl rfl rfl rfl ⟨rfl, rfl, rfl, rfl, rfl⟩ rfl rfl rfl rfl rfl (by kernel_rfl) Tryz.func7 (by kernel_rfl)
    (of_decide_eq_true (by kernel_rfl)) (by unfold Func.isWrapper; first | (rw [if_pos (by decide +kernel)]; kernel_rfl) | (rw [if_neg (by decide +kernel)]; exact ⟨rfl, rfl⟩))
    (fun os started H enc _ => lifted os started H enc)

theorem proved : Rows.GrammarTimesCardSaid :=
  Claim7.holds_tied_plain_at .later [] Rows.grammarTimesCard.laidKinds true Rows.grammarTimesCard.stood.harness Rows.grammarTimesCard.stood.looks
    over (fun _ h => by cases h) (by kernel_rfl) (fun _ h => by cases h) grammarTimes_row_tie rfl ⟨rfl, rfl⟩ (by kernel_rfl) rfl
    (fun f fn hf hfn => by
      obtain rfl : f = 7 := Option.some.inj ((show Tryz.prog.funcNamed Rows.grammarTimesRow.func = some 7 by kernel_rfl).symm.trans hf) |>.symm
      obtain rfl : fn = Tryz.f7 := (Option.some.inj (Tryz.func7.symm.trans hfn)).symm
      exact ⟨by kernel_rfl, fun j t ht => by
        rw [Tryz.params7] at ht
        have hm : t ∈ [50] := by simpa using Array.mem_of_getElem? ht
        have hall : ([50].all fun u => !Tryz.prog.wantsStandIn u) = true := by kernel_rfl
        exact (show Tryz.prog.wantsStandIn t = false by simpa using List.all_eq_true.1 hall t hm)⟩)
    (by kernel_rfl)
end Go.Proofs.YtnondemehfkalaaGreatDoor.grammarTimes
