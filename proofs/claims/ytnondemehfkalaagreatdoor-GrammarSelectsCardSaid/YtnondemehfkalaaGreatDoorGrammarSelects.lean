/- The statement GrammarSelectsCardSaid: Selection returns the selection, or the offset and the error, of the reference, for all texts. No condition but what the row lists. -/
import Derived.Test.YtnondemehfkalaaGreatDoorS4
import Derived.Test.YtnondemehfkalaaGreatDoorCards
import Derived.Test.YtnondemehfkalaaGreatDoorTie
import Derived.Test.YtnondemehfkalaaGreatDoorSShaZ
import Derived.SizedLaws
import Derived.WalkKit
import Derived.ProofKit
import Derived.OpenShut
import Derived.ChangeMaps5
import Derived.LaidLaws
import Derived.LaidHandle
import Derived.Lay
import Derived.SevenTiedAt
set_option linter.unusedSimpArgs false
set_option linter.unusedVariables false
namespace Go.Proofs.YtnondemehfkalaaGreatDoor.grammarSelects
open Go.ChangeShapes Go.WideShapes Go.ChangeAt Go.RowKit Go.Sha
open Go.ChangeMaps (open_string shut_string)

theorem own : ownKnob Tryz.prog.godebug = none := by kernel_rfl

theorem walk (s : ByteArray) (w : World) (hsz : s.data.toList.length ≤ reachBytes) (hl : laidMetH Tryz.prog Rows.grammarSelectsRow.laid w) : Calls Tryz.prog 6 #[.string s] w fun e w' => e = .returned (.bool true) ∧ Kept w w' := by
  have hrb := reachBytes_lt
  obtain ⟨gl, hg, hgl⟩ := laid_gl (by kernel_rfl) (.tail _ (.tail _ (.tail _ (.tail _ (.head _))))) (.tail _ (.tail _ (.tail _ (.tail _ (.tail _ (.tail _ (.tail _ (.head _)))))))) (.tail _ (.tail _ (.head _))) hl
  have h := selects_v s.data.toList (stG gl) hg.1
  have hs : (⟨s.data.toList.toArray⟩ : ByteArray) = s := by cases s; simp
  refine law_callsG (vs := [.string s]) Tryz.func6 (by kernel_rfl) (by kernel_rfl) h hgl ⟨rfl, fun i v c hv hc => ?_⟩
  cases i with
  | zero =>
    cases hv; cases hc
    have := Rep.str (w := w) (A := abs0 w) s.data.toList
    rw [hs] at this; exact this
  | succ i => simp at hv

theorem met (os : Os) (args : Array Value) : laidMetH Tryz.prog Rows.grammarSelectsRow.laid ((World.laidAll Tryz.prog os Rows.grammarSelectsRow.laid).forCall (fun _ _ => 0) ⟨#[], args, []⟩).memory := by
  have e : (Rows.grammarSelectsRow.laid.filter fun x => x.2.handleName?.isNone) = Rows.grammarSelectsRow.laid := by kernel_rfl
  exact laidMetH_of_parts (by rw [e]; exact laidMet_laidAll args (by kernel_rfl) (by kernel_rfl)) (by kernel_rfl)

set_option maxRecDepth 100000 in
theorem lifted (os : Os) (started : os.Started) (H : Type) (enc : TypeId × Value → H) :
    ReturnsInHanded {} Tryz.checked os 6 .any (fun w args => (Rows.grammarSelectsSpec.pre enc Tryz.prog Tryz.f6 Rows.grammarSelectsRow.domain false w args ∧ laidMetH Tryz.prog Rows.grammarSelectsRow.laid w) ∧ sizedMet enc Tryz.prog Tryz.f6 (OpenSpec.ofChange Rows.grammarSelectsSpec) false w args)
      (Rows.grammarSelectsSpec.post enc Tryz.prog Tryz.f6 false true false false) := by
  refine returnsInHanded_of_change_and (C := Tryz.checked) (X := fun w _ => laidMetH Tryz.prog Rows.grammarSelectsRow.laid w) (fun _ _ _ hh h => h.of_heap hh) own started (by kernel_rfl) Tryz.func6
    (ChangeSpec.witness_shaped (enc := enc) (C := Tryz.checked) (os := os) (X := fun w _ => laidMetH Tryz.prog Rows.grammarSelectsRow.laid w) false (World.laidAll Tryz.prog os Rows.grammarSelectsRow.laid) #[.string ⟨#[]⟩] 8 (World.laidAll_os _ _ _)
      (World.shaped_of_ZipB (by kernel_rfl) (by kernel_rfl)) (by kernel_rfl) (by kernel_rfl) (by kernel_rfl) (met os _)) ?_
  intro W base args ds gs before hval0 hW hcnd hz hL _
  have hval : ∀ (j : Nat) t v, Tryz.f6.params[j]? = some t → args[j]? = some v → Value.okWide Tryz.prog W .any base t v := hval0
  have hW' := hW
  obtain ⟨p, q, hA0, hV, rfl, hfz, hnd⟩ := hW
  have hA : DataW.TrodAll enc Tryz.prog W 0 (fun _ => true) true Tryz.f6.params.toList args.toList ds p := hA0
  rw [Tryz.params6] at hA hval
  obtain ⟨v0, vs0, d0, ds0, p0, q0, hargs, rfl, rfl, h0, r0⟩ := trodAll_cons hA
  obtain ⟨rfl, rfl, rfl⟩ := trodAll_nil r0
  obtain rfl : args = #[v0] := by cases args; simp_all
  obtain ⟨rfl, rfl⟩ := trodVars_none hV
  obtain ⟨s, rfl, rfl, rfl, w0⟩ := open_string Tryz.underlying9 (hval 0 9 v0 rfl rfl) h0
  have hsz : s.data.toList.length ≤ reachBytes := sized_string hz (j := 0) (t := 9) (by rw [Tryz.params6]; rfl) rfl
  clear hA0 hval0
  simp only [List.append_nil] at hW'
  refine (walk s W hsz hL).mono fun e W' ⟨he, hg⟩ => ?_
  subst he
  exact ⟨_, rfl, post_of_kept (pa := []) (pv := []) hW' (fun _ _ _ => (trodAll_cons_mk (shut_bool Tryz.underlying4 _) trodAll_mk0)) (fun sp _ => (trodAll_cons_mk (shut_string Tryz.underlying9 w0) trodAll_mk0)) (fun _ _ => rfl) rfl
    hg (ok_one (by kernel_rfl) rfl (okWide_bool_mk Tryz.underlying4 _))⟩

theorem over : Rows.grammarSelectsRow.holds Tryz.pinned (OpenSpec.ofChange Rows.grammarSelectsSpec) :=
  OpenClaim.holds_of_wide 6 Tryz.f6 rfl rfl rfl rfl rfl rfl rfl ⟨rfl, rfl, rfl, rfl, rfl⟩ rfl rfl rfl rfl rfl (by kernel_rfl) Tryz.func6 (by kernel_rfl)
    (of_decide_eq_true (by kernel_rfl)) (by unfold Func.isWrapper; first | (rw [if_pos (by decide +kernel)]; kernel_rfl) | (rw [if_neg (by decide +kernel)]; exact ⟨rfl, rfl⟩))
    (fun os started H enc _ => lifted os started H enc)

theorem proved : Rows.GrammarSelectsCardSaid :=
  Claim7.holds_tied_plain_at .later [] Rows.grammarSelectsCard.laidKinds true Rows.grammarSelectsCard.stood.harness Rows.grammarSelectsCard.stood.looks
    over (fun _ h => by cases h) (by kernel_rfl) (fun _ h => by cases h) grammarSelects_row_tie rfl ⟨rfl, rfl⟩ (by kernel_rfl) rfl
    (fun f fn hf hfn => by
      obtain rfl : f = 6 := Option.some.inj ((show Tryz.prog.funcNamed Rows.grammarSelectsRow.func = some 6 by kernel_rfl).symm.trans hf) |>.symm
      obtain rfl : fn = Tryz.f6 := (Option.some.inj (Tryz.func6.symm.trans hfn)).symm
      exact ⟨by kernel_rfl, fun j t ht => by
        rw [Tryz.params6] at ht
        have hm : t ∈ [9] := by simpa using Array.mem_of_getElem? ht
        have hall : ([9].all fun u => !Tryz.prog.wantsStandIn u) = true := by kernel_rfl
        exact (show Tryz.prog.wantsStandIn t = false by simpa using List.all_eq_true.1 hall t hm)⟩)
    (by kernel_rfl)
end Go.Proofs.YtnondemehfkalaaGreatDoor.grammarSelects
