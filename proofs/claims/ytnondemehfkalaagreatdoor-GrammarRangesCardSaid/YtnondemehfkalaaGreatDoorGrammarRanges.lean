/- The statement GrammarRangesCardSaid: A range of channels is read with both ends, unless they are out of order, and levels as percentages (luminairelaw39.GrammarRanges gives true). No condition but what the row lists. -/
import Derived.Test.YtnondemehfkalaaGreatDoorV3
import Derived.Test.YtnondemehfkalaaGreatDoorV1
import Derived.Test.YtnondemehfkalaaGreatDoorCards
import Derived.Test.YtnondemehfkalaaGreatDoorTie
import Derived.Test.YtnondemehfkalaaGreatDoorShaZ
import Derived.SizedLaws
import Derived.WalkKit
import Derived.ProofKit
import Derived.OpenShut
import Derived.ChangeMaps5
import Derived.LaidLaws
import Derived.LaidHandle
import Derived.Lay
import Derived.SevenTiedAt
set_option linter.unusedSimpArgs false
set_option linter.unusedVariables false
namespace Go.Proofs.YtnondemehfkalaaGreatDoor.grammarRanges
open Go.ChangeShapes Go.WideShapes Go.ChangeAt Go.RowKit Go.Sha
open Go.ChangeMaps (open_string shut_string)

theorem own : ownKnob Tryz.prog.godebug = none := by kernel_rfl

theorem walk (x0 : Int) (h0 : 0 ≤ x0) (g0 : x0 ≤ 65535) (x1 : Int) (h1 : 0 ≤ x1) (g1 : x1 ≤ 65535) (x2 : Int) (h2 : 0 ≤ x2) (g2 : x2 ≤ 255) (w : World) (hl : laidMetH Tryz.prog Rows.grammarRangesRow.laid w) : Calls Tryz.prog 5 #[.int .u16 x0, .int .u16 x1, .int .u8 x2] w fun e w' => e = .returned (.bool true) ∧ Kept w w' := by
  obtain ⟨gl, hg, hgl⟩ := laid_gl (by kernel_rfl) (.tail _ (.tail _ (.tail _ (.tail _ (.head _))))) (.tail _ (.tail _ (.tail _ (.tail _ (.tail _ (.tail _ (.tail _ (.head _)))))))) (.tail _ (.tail _ (.head _))) hl
  have h := ranges_w x0 h0 g0 x1 h1 g1 x2 h2 g2 (stG gl) hg
  refine law_callsG (vs := [.int .u16 x0, .int .u16 x1, .int .u8 x2]) Tryz.func5 (by kernel_rfl) (by kernel_rfl) h hgl ⟨rfl, fun i v c hv hc => ?_⟩
  match i, hv, hc with
  | 0, hv, hc =>
    cases hv; cases hc
    exact .int _ _
  | 1, hv, hc =>
    cases hv; cases hc
    exact .int _ _
  | 2, hv, hc =>
    cases hv; cases hc
    exact .int _ _
  | _ + 3, hv, hc => simp at hv

theorem met (os : Os) (args : Array Value) : laidMetH Tryz.prog Rows.grammarRangesRow.laid ((World.laidAll Tryz.prog os Rows.grammarRangesRow.laid).forCall (fun _ _ => 0) ⟨#[], args, []⟩).memory := by
  have e : (Rows.grammarRangesRow.laid.filter fun x => x.2.handleName?.isNone) = Rows.grammarRangesRow.laid := by kernel_rfl
  exact laidMetH_of_parts (by rw [e]; exact laidMet_laidAll args (by kernel_rfl) (by kernel_rfl)) (by kernel_rfl)

set_option maxRecDepth 100000 in
theorem lifted (os : Os) (started : os.Started) (H : Type) (enc : TypeId × Value → H) :
    ReturnsInHanded {} Tryz.checked os 5 .any (fun w args => (Rows.grammarRangesSpec.pre enc Tryz.prog Tryz.f5 Rows.grammarRangesRow.domain false w args ∧ laidMetH Tryz.prog Rows.grammarRangesRow.laid w) ∧ sizedMet enc Tryz.prog Tryz.f5 (OpenSpec.ofChange Rows.grammarRangesSpec) false w args)
      (Rows.grammarRangesSpec.post enc Tryz.prog Tryz.f5 false true false false) := by
  refine returnsInHanded_of_change_and (C := Tryz.checked) (X := fun w _ => laidMetH Tryz.prog Rows.grammarRangesRow.laid w) (fun _ _ _ hh h => h.of_heap hh) own started (by kernel_rfl) Tryz.func5
    (ChangeSpec.witness_shaped (enc := enc) (C := Tryz.checked) (os := os) (X := fun w _ => laidMetH Tryz.prog Rows.grammarRangesRow.laid w) false (World.laidAll Tryz.prog os Rows.grammarRangesRow.laid) #[.int .u16 0, .int .u16 0, .int .u8 0] 8 (World.laidAll_os _ _ _)
      (World.shaped_of_ZipB (by kernel_rfl) (by kernel_rfl)) (by kernel_rfl) (by kernel_rfl) (by kernel_rfl) (met os _)) ?_
  intro W base args ds gs before hval0 hW hcnd hz hL _
  have hval : ∀ (j : Nat) t v, Tryz.f5.params[j]? = some t → args[j]? = some v → Value.okWide Tryz.prog W .any base t v := hval0
  have hW' := hW
  obtain ⟨p, q, hA0, hV, rfl, hfz, hnd⟩ := hW
  have hA : DataW.TrodAll enc Tryz.prog W 0 (fun _ => true) true Tryz.f5.params.toList args.toList ds p := hA0
  rw [Tryz.params5] at hA hval
  obtain ⟨v0, vs0, d0, ds0, p0, q0, hargs, rfl, rfl, t0, r0⟩ := trodAll_cons hA
  obtain ⟨v1, vs1, d1, ds1, p1, q1, rfl, rfl, rfl, t1, r1⟩ := trodAll_cons r0
  obtain ⟨v2, vs2, d2, ds2, p2, q2, rfl, rfl, rfl, t2, r2⟩ := trodAll_cons r1
  obtain ⟨rfl, rfl, rfl⟩ := trodAll_nil r2
  obtain rfl : args = #[v0, v1, v2] := by cases args; simp_all
  obtain ⟨rfl, rfl⟩ := trodVars_none hV
  obtain ⟨x0, rfl, rfl, rfl, w0⟩ := open_int Tryz.underlying40 (hval 0 40 v0 rfl rfl) t0
  have b0 : 0 ≤ x0 ∧ x0 ≤ 65535 := by simpa [Lit.wf, IntKind.min, IntKind.max, IntKind.bits, IntKind.signed] using w0
  obtain ⟨x1, rfl, rfl, rfl, w1⟩ := open_int Tryz.underlying40 (hval 1 40 v1 rfl rfl) t1
  have b1 : 0 ≤ x1 ∧ x1 ≤ 65535 := by simpa [Lit.wf, IntKind.min, IntKind.max, IntKind.bits, IntKind.signed] using w1
  obtain ⟨x2, rfl, rfl, rfl, w2⟩ := open_int Tryz.underlying5 (hval 2 5 v2 rfl rfl) t2
  have b2 : 0 ≤ x2 ∧ x2 ≤ 255 := by simpa [Lit.wf, IntKind.min, IntKind.max, IntKind.bits, IntKind.signed] using w2
  clear hA0 hval0
  simp only [List.append_nil] at hW'
  refine (walk x0 b0.1 b0.2 x1 b1.1 b1.2 x2 b2.1 b2.2 W hL).mono fun e W' ⟨he, hg⟩ => ?_
  subst he
  exact ⟨_, rfl, post_of_kept (pa := []) (pv := []) hW' (fun _ _ _ => (trodAll_cons_mk (shut_bool Tryz.underlying4 _) trodAll_mk0)) (fun sp _ => (trodAll_cons_mk (shut_int Tryz.underlying40 w0) (trodAll_cons_mk (shut_int Tryz.underlying40 w1) (trodAll_cons_mk (shut_int Tryz.underlying5 w2) trodAll_mk0)))) (fun _ _ => rfl) rfl
    hg (ok_one (by kernel_rfl) rfl (okWide_bool_mk Tryz.underlying4 _))⟩

theorem over : Rows.grammarRangesRow.holds Tryz.pinned (OpenSpec.ofChange Rows.grammarRangesSpec) :=
  OpenClaim.holds_of_wide 5 Tryz.f5 rfl rfl rfl rfl rfl rfl rfl ⟨rfl, rfl, rfl, rfl, rfl⟩ rfl rfl rfl rfl rfl (by kernel_rfl) Tryz.func5 (by kernel_rfl)
    (of_decide_eq_true (by kernel_rfl)) (by unfold Func.isWrapper; first | (rw [if_pos (by decide +kernel)]; kernel_rfl) | (rw [if_neg (by decide +kernel)]; exact ⟨rfl, rfl⟩))
    (fun os started H enc _ => lifted os started H enc)

theorem proved : Rows.GrammarRangesCardSaid :=
  Claim7.holds_tied_plain_at .later [] Rows.grammarRangesCard.laidKinds true Rows.grammarRangesCard.stood.harness Rows.grammarRangesCard.stood.looks
    over (fun _ h => by cases h) (by kernel_rfl) (fun _ h => by cases h) grammarRanges_row_tie rfl ⟨rfl, rfl⟩ (by kernel_rfl) rfl
    (fun f fn hf hfn => by
      obtain rfl : f = 5 := Option.some.inj ((show Tryz.prog.funcNamed Rows.grammarRangesRow.func = some 5 by kernel_rfl).symm.trans hf) |>.symm
      obtain rfl : fn = Tryz.f5 := (Option.some.inj (Tryz.func5.symm.trans hfn)).symm
      exact ⟨by kernel_rfl, fun j t ht => by
        rw [Tryz.params5] at ht
        have hm : t ∈ [40, 40, 5] := by simpa using Array.mem_of_getElem? ht
        have hall : ([40, 40, 5].all fun u => !Tryz.prog.wantsStandIn u) = true := by kernel_rfl
        exact (show Tryz.prog.wantsStandIn t = false by simpa using List.all_eq_true.1 hall t hm)⟩)
    (by kernel_rfl)
end Go.Proofs.YtnondemehfkalaaGreatDoor.grammarRanges
