/- The statement TopReportsHangCardSaid: The rows of the hook-up, by phases and by cables, add up to the loads of the phases at full, and to what hangs on the cables. No condition but what the row lists. -/
import Derived.Test.YtakiodkbjgdnoaaGreatDoorY3
import Derived.Test.YtakiodkbjgdnoaaGreatDoorCards
import Derived.Test.YtakiodkbjgdnoaaGreatDoorTie
import Derived.Test.YtakiodkbjgdnoaaGreatDoorYShbAE
import Derived.Test.YtakiodkbjgdnoaaGreatDoorYF
namespace Go.Proofs.YtakiodkbjgdnoaaGreatDoor.topReportsHang
open Go.ChangeShapes Go.WideShapes Go.ChangeAt Go.RowKit Go.Sha
open Go.ChangeMaps (open_string shut_string)
set_option linter.unusedVariables false


theorem own : ownKnob Tryz.prog.godebug = none := sown

theorem walk (v0 : Value) (x0 : Sho) (w : World) (h0 : x0.Dk) (r0 : Rep w (abs0 w) v0 (x0.v)) (hl : laidMetH Tryz.prog RW.laid w) (hs : w.ShapedOpen Tryz.prog) : Calls Tryz.prog 4 #[v0] w fun e w' => e = .returned (.bool true) ∧ Kept w w' := by
  obtain ⟨v, hgl⟩ := laid_glK (by kernel_rfl) (List.mem_of_getElem? (i := 2) rfl) hl hs
  have h : VRet Tryz.prog 4 [x0.v] (stG (glK v)) (.bool true) (stG (glK v)) := run_sound mixed soundD _ _ _ _ _ (l4 (s := x0) h0.ok rfl glB_G)
  refine law_callsG (vs := [v0]) Tryz.func4 (by kernel_rfl) (by kernel_rfl) h hgl ⟨rfl, fun i u c hu hc => ?_⟩
  match i, hu, hc with
  | 0, hu, hc => cases hu; cases hc; exact r0
  | _ + 1, hu, hc => simp at hu

theorem met (os : Os) (args : Array Value) : laidMetH Tryz.prog RW.laid ((World.laidAll Tryz.prog os RW.laid).forCall (fun _ _ => 0) ⟨#[], args, []⟩).memory := by
  have e : (RW.laid.filter fun x => x.2.handleName?.isNone) = RW.laid := by kernel_rfl
  exact laidMetH_of_parts (by rw [e]; exact laidMet_laidAll args (by kernel_rfl) (by kernel_rfl)) (by kernel_rfl)

set_option maxRecDepth 100000 in
theorem lifted (os : Os) (started : os.Started) (H : Type) (enc : TypeId × Value → H) :
    ReturnsInHanded {} Tryz.checked os 4 .any (fun w args => (SP.pre enc Tryz.prog Tryz.f4 RW.domain false w args ∧ laidMetH Tryz.prog RW.laid w) ∧ sizedMet enc Tryz.prog Tryz.f4 (OpenSpec.ofChange SP) false w args)
      (SP.post enc Tryz.prog Tryz.f4 false true false false) := by
  refine handed_shaped (C := Tryz.checked) (X := fun w _ => laidMetH Tryz.prog RW.laid w) (fun _ _ _ hh h => h.of_heap hh) own started (by kernel_rfl) Tryz.func4
    (ChangeSpec.witness_shaped (enc := enc) (C := Tryz.checked) (os := os) (X := fun w _ => laidMetH Tryz.prog RW.laid w) false (World.laidAll Tryz.prog os RW.laid) #[.agg #[.string ⟨#[]⟩, .slice none 0 0, .slice none 0 0, .slice none 0 0, .slice none 0 0, .slice none 0 0, .slice none 0 0, .slice none 0 0, .slice none 0 0]] 8 (World.laidAll_os _ _ _)
      (World.shaped_of_ZipB (by kernel_rfl) (by kernel_rfl)) (by kernel_rfl) (by kernel_rfl) (by kernel_rfl) (met os _)) ?_
  intro W base args ds gs before hval0 hW hcnd hsz0 hL hS
  have hval : ∀ (j : Nat) t v, Tryz.f4.params[j]? = some t → args[j]? = some v → Value.okWide Tryz.prog W .any base t v := hval0
  have hsz : (DataW.weightsEach Tryz.prog (Tryz.f4.params.toList ++ SP.plain.varTypes Tryz.prog) (ds ++ gs)).all (· ≤ reachBytes) = true := hsz0
  have hW' := hW
  obtain ⟨p, q, hA0, hV, rfl, hfz, hnd⟩ := hW
  have hA : DataW.TrodAll enc Tryz.prog W 0 (fun _ => true) true Tryz.f4.params.toList args.toList ds p := hA0
  have hA1 := hA
  rw [Tryz.params4] at hA hval hsz
  obtain ⟨v0, vs0, d0, ds0, p0, q0, hargs, rfl, rfl, t0, s0⟩ := trodAll_cons hA
  obtain ⟨rfl, rfl, rfl⟩ := trodAll_nil s0
  obtain rfl : args = #[v0] := by cases args; simp_all
  obtain ⟨rfl, rfl⟩ := trodVars_none hV
  clear hA0 hval0
  simp only [List.append_nil] at hW' hA1
  obtain ⟨cs0, rfl, _⟩ := okWide_struct Tryz.underlying31 (hval 0 31 v0 rfl rfl)
  obtain ⟨ws0, o0, r0⟩ := arg_agg (n := 9) t0 (by kernel_rfl : shOf Tryz.prog 9 31 = some Sho.sh) (fun k hk => of_decide_eq_true (List.all_eq_true.1 hsz k (DataW.weights_mem_each (j := 0) rfl rfl k hk)))
  obtain ⟨x0, e0, h0⟩ := Sho.rd o0
  rw [e0] at r0
  refine (walk _ x0 W h0 r0 hL hS).mono fun e W' ⟨he, hg⟩ => ?_
  subst he
  exact ⟨_, rfl, post_of_kept (pa := _) (pv := []) hW' (fun _ _ _ => (trodAll_cons_mk (shut_bool Tryz.underlying4 _) trodAll_mk0))
    (fun sp hsp => args_kept (by kernel_rfl) (by kernel_rfl) (by kernel_rfl) hg (fun t ht => of_decide_eq_true (List.all_eq_true.1 (by kernel_rfl : Tryz.f4.params.toList.all (fun t => decide (t < Tryz.prog.types.size)) = true) t ht)) hA1 (by simpa using hsp)) (fun _ _ => rfl) (by simp)
    hg (ok_one (by kernel_rfl) rfl (okWide_bool_mk Tryz.underlying4 _))⟩

theorem main : Tryz.prog.mainIs = some (Rows.topReportsHangCard.stood.harness.1, Rows.topReportsHangCard.stood.harness.2.toList) := smain
theorem looks : Rows.topReportsHangCard.stood.looks = Tryz.prog.looks [] := slooks
theorem stand : ([31].all fun u => !Tryz.prog.wantsStandIn u) = true := by kernel_rfl
theorem allg : Tryz.prog.funcs.toList.all (fun g => !g.goes) = true := by kernel_rfl
theorem goes_of {P : Program} (h : P.funcs.toList.all (fun g => !g.goes) = true) (c : OpenClaim) : false = c.goesBy P := by
  have h1 : ∀ g ∈ P.funcs, g.goes = false := fun g hg => by simpa using List.all_eq_true.1 h g (by simpa using hg)
  have h2 : ∀ f, P.goes f = false := fun f => by
    unfold Program.goes
    rw [Bool.or_eq_false_iff]
    refine ⟨?_, ?_⟩
    · rw [List.any_eq_false]
      intro g _
      cases hg : P.funcs[g]? with
      | none => simp
      | some fn => simp [h1 fn (Array.mem_of_getElem? hg)]
    · rw [Bool.and_eq_false_iff]; right
      rw [Array.any_eq_false]
      intro i hi; simp [h1 _ (Array.getElem_mem hi)]
  unfold OpenClaim.goesBy Program.goesAt Program.goesFrom
  have h3 : ∀ l : List FuncId, l.any P.goes = false := fun l => by rw [List.any_eq_false]; intro x _; rw [h2]; simp
  rw [h3]
  cases P.funcNamed c.func <;> cases c.start <;> simp [h2]
theorem goes : false = RW.goesBy Tryz.prog := goes_of allg RW

theorem over : RW.holds Tryz.pinned (OpenSpec.ofChange SP) :=
  OpenClaim.holds_of_wide 4 Tryz.f4 rfl rfl rfl rfl rfl rfl rfl ⟨rfl, rfl, rfl, rfl, rfl⟩ rfl rfl rfl rfl rfl named Tryz.func4 closed
    (of_decide_eq_true (by kernel_rfl)) (by unfold Func.isWrapper; first | (rw [if_pos (by decide +kernel)]; kernel_rfl) | (rw [if_neg (by decide +kernel)]; exact ⟨rfl, rfl⟩))
    (fun os started H enc _ => lifted os started H enc)

theorem proved : Rows.TopReportsHangCardSaid :=
  Claim7.holds_tied_plain_at .later [] Rows.topReportsHangCard.laidKinds true Rows.topReportsHangCard.stood.harness Rows.topReportsHangCard.stood.looks
    over (fun _ h => by cases h) text (fun _ h => by cases h) topReportsHang_row_tie rfl ⟨rfl, rfl⟩ main rfl
    (fun f fn hf hfn => by
      obtain rfl : f = 4 := Option.some.inj (named.symm.trans hf) |>.symm
      obtain rfl : fn = Tryz.f4 := (Option.some.inj (Tryz.func4.symm.trans hfn)).symm
      exact ⟨looks, fun j t ht => by
        rw [Tryz.params4] at ht
        have hm : t ∈ [31] := by simpa using Array.mem_of_getElem? ht
        exact (show Tryz.prog.wantsStandIn t = false by simpa using List.all_eq_true.1 stand t hm)⟩)
    goes
end Go.Proofs.YtakiodkbjgdnoaaGreatDoor.topReportsHang
