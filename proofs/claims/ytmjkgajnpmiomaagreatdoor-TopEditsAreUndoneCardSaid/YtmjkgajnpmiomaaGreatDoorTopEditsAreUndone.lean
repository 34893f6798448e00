/- The statement TopEditsAreUndoneCardSaid: Edits that are made one after the other lead to the show of all of them; undone, in the opposite order, they lead back, and done again to the same show. No condition but what the row lists. -/
import Derived.Test.YtmjkgajnpmiomaaGreatDoorL3
import Derived.Test.YtmjkgajnpmiomaaGreatDoorCards
import Derived.Test.YtmjkgajnpmiomaaGreatDoorTie
import Derived.Test.YtmjkgajnpmiomaaGreatDoorLShbAC
import Derived.Test.YtmjkgajnpmiomaaGreatDoorLF
namespace Go.Proofs.YtmjkgajnpmiomaaGreatDoor.topEditsAreUndone
open Go.ChangeShapes Go.WideShapes Go.ChangeAt Go.RowKit Go.Sha
open Go.ChangeMaps (open_string shut_string)
set_option linter.unusedVariables false


theorem own : ownKnob Tryz.prog.godebug = none := sown

theorem walk (v0 : Value) (x0 : Sho) (v1 : Value) (x1 : List Edi) (w : World) (h0 : x0.Dk) (r0 : Rep w (abs0 w) v0 (x0.v)) (h1 : x1.length ≤ 140737488351232 ∧ ∀ q ∈ x1, q.Dk) (r1 : Rep w (abs0 w) v1 (.sl (x1.map Edi.v))) : Calls Tryz.prog 3 #[v0, v1] w fun e w' => e = .returned (.bool true) ∧ Kept w w' := by
  have h : VRet Tryz.prog 3 [x0.v, .sl (x1.map Edi.v)] st0 (.bool true) st0 := run_sound mixed sound _ _ _ _ _ (law (s := x0) (l := x1) h0 h1)
  refine law_calls (vs := [v0, v1]) Tryz.func3 (by kernel_rfl) (by kernel_rfl) h ⟨rfl, fun i u c hu hc => ?_⟩
  match i, hu, hc with
  | 0, hu, hc => cases hu; cases hc; exact r0
  | 1, hu, hc => cases hu; cases hc; exact r1
  | _ + 2, hu, hc => simp at hu

theorem met (os : Os) (args : Array Value) : laidMetH Tryz.prog RW.laid ((World.laidAll Tryz.prog os RW.laid).forCall (fun _ _ => 0) ⟨#[], args, []⟩).memory := by
  have e : (RW.laid.filter fun x => x.2.handleName?.isNone) = RW.laid := by kernel_rfl
  exact laidMetH_of_parts (by rw [e]; exact laidMet_laidAll args (by kernel_rfl) (by kernel_rfl)) (by kernel_rfl)

set_option maxRecDepth 100000 in
theorem lifted (os : Os) (started : os.Started) (H : Type) (enc : TypeId × Value → H) :
    ReturnsInHanded {} Tryz.checked os 3 .any (fun w args => (SP.pre enc Tryz.prog Tryz.f3 RW.domain false w args ∧ laidMetH Tryz.prog RW.laid w) ∧ sizedMet enc Tryz.prog Tryz.f3 (OpenSpec.ofChange SP) false w args)
      (SP.post enc Tryz.prog Tryz.f3 false true false false) := by
  refine returnsInHanded_of_change_and (C := Tryz.checked) (X := fun w _ => laidMetH Tryz.prog RW.laid w) (fun _ _ _ hh h => h.of_heap hh) own started (by kernel_rfl) Tryz.func3
    (ChangeSpec.witness_shaped (enc := enc) (C := Tryz.checked) (os := os) (X := fun w _ => laidMetH Tryz.prog RW.laid w) false (World.laidAll Tryz.prog os RW.laid) #[.agg #[.string ⟨#[]⟩, .slice none 0 0, .slice none 0 0, .slice none 0 0, .slice none 0 0, .slice none 0 0, .slice none 0 0, .slice none 0 0, .slice none 0 0], .slice none 0 0] 8 (World.laidAll_os _ _ _)
      (World.shaped_of_ZipB (by kernel_rfl) (by kernel_rfl)) (by kernel_rfl) (by kernel_rfl) (by kernel_rfl) (met os _)) ?_
  intro W base args ds gs before hval0 hW hcnd hsz0 hL _
  have hval : ∀ (j : Nat) t v, Tryz.f3.params[j]? = some t → args[j]? = some v → Value.okWide Tryz.prog W .any base t v := hval0
  have hsz : (DataW.weightsEach Tryz.prog (Tryz.f3.params.toList ++ SP.plain.varTypes Tryz.prog) (ds ++ gs)).all (· ≤ reachBytes) = true := hsz0
  have hW' := hW
  obtain ⟨p, q, hA0, hV, rfl, hfz, hnd⟩ := hW
  have hA : DataW.TrodAll enc Tryz.prog W 0 (fun _ => true) true Tryz.f3.params.toList args.toList ds p := hA0
  have hA1 := hA
  rw [Tryz.params3] at hA hval hsz
  obtain ⟨v0, vs0, d0, ds0, p0, q0, hargs, rfl, rfl, t0, s0⟩ := trodAll_cons hA
  obtain ⟨v1, vs1, d1, ds1, p1, q1, rfl, rfl, rfl, t1, s1⟩ := trodAll_cons s0
  obtain ⟨rfl, rfl, rfl⟩ := trodAll_nil s1
  obtain rfl : args = #[v0, v1] := by cases args; simp_all
  obtain ⟨rfl, rfl⟩ := trodVars_none hV
  clear hA0 hval0
  simp only [List.append_nil] at hW' hA1
  obtain ⟨cs0, rfl, _⟩ := okWide_struct Tryz.underlying31 (hval 0 31 v0 rfl rfl)
  obtain ⟨ws0, o0, r0⟩ := arg_agg (n := 9) t0 (by kernel_rfl : shOf Tryz.prog 9 31 = some Sho.sh) (fun k hk => of_decide_eq_true (List.all_eq_true.1 hsz k (DataW.weights_mem_each (j := 0) rfl rfl k hk)))
  obtain ⟨x0, e0, h0⟩ := Sho.rd o0
  rw [e0] at r0
  obtain ⟨b1, l1, c1, rfl⟩ := okWide_slice Tryz.underlying32 (hval 1 32 v1 rfl rfl)
  obtain ⟨z1, o1, r1⟩ := arg_oneS (n := 9) t1 (by kernel_rfl : shOf Tryz.prog 9 32 = some [.sl true 416 Edi.sh]) (fun k hk => of_decide_eq_true (List.all_eq_true.1 hsz k (DataW.weights_mem_each (j := 1) rfl rfl k hk)))
  obtain ⟨x1, rfl, h1⟩ := o1.agg_inv (f := Edi.v) (by decide) (fun _ => Edi.rd)
  refine (walk _ x0 _ x1 W h0 r0 h1 r1).mono fun e W' ⟨he, hg⟩ => ?_
  subst he
  exact ⟨_, rfl, post_of_kept (pa := _) (pv := []) hW' (fun _ _ _ => (trodAll_cons_mk (shut_bool Tryz.underlying4 _) trodAll_mk0))
    (fun sp hsp => args_kept (by kernel_rfl) (by kernel_rfl) (by kernel_rfl) hg (fun t ht => of_decide_eq_true (List.all_eq_true.1 (by kernel_rfl : Tryz.f3.params.toList.all (fun t => decide (t < Tryz.prog.types.size)) = true) t ht)) hA1 (by simpa using hsp)) (fun _ _ => rfl) (by simp)
    hg (ok_one (by kernel_rfl) rfl (okWide_bool_mk Tryz.underlying4 _))⟩

theorem main : Tryz.prog.mainIs = some (Rows.topEditsAreUndoneCard.stood.harness.1, Rows.topEditsAreUndoneCard.stood.harness.2.toList) := smain
theorem looks : Rows.topEditsAreUndoneCard.stood.looks = Tryz.prog.looks [] := slooks
theorem stand : ([31, 32].all fun u => !Tryz.prog.wantsStandIn u) = true := by kernel_rfl
theorem allg : Tryz.prog.funcs.toList.all (fun g => !g.goes) = true := by kernel_rfl
theorem goes_of {P : Program} (h : P.funcs.toList.all (fun g => !g.goes) = true) (c : OpenClaim) : false = c.goesBy P := by
  have h1 : ∀ g ∈ P.funcs, g.goes = false := fun g hg => by simpa using List.all_eq_true.1 h g (by simpa using hg)
  have h2 : ∀ f, P.goes f = false := fun f => by
    unfold Program.goes
    rw [Bool.or_eq_false_iff]
    refine ⟨?_, ?_⟩
    · rw [List.any_eq_false]
      intro g _
      cases hg : P.funcs[g]? with
      | none => simp
      | some fn => simp [h1 fn (Array.mem_of_getElem? hg)]
    · rw [Bool.and_eq_false_iff]; right
      rw [Array.any_eq_false]
      intro i hi; simp [h1 _ (Array.getElem_mem hi)]
  unfold OpenClaim.goesBy Program.goesAt Program.goesFrom
  have h3 : ∀ l : List FuncId, l.any P.goes = false := fun l => by rw [List.any_eq_false]; intro x _; rw [h2]; simp
  rw [h3]
  cases P.funcNamed c.func <;> cases c.start <;> simp [h2]
theorem goes : false = RW.goesBy Tryz.prog := goes_of allg RW

theorem over : RW.holds Tryz.pinned (OpenSpec.ofChange SP) :=
  OpenClaim.holds_of_wide 3 Tryz.f3 rfl rfl rfl rfl rfl rfl rfl ⟨rfl, rfl, rfl, rfl, rfl⟩ rfl rfl rfl rfl rfl named Tryz.func3 closed
    (of_decide_eq_true (by kernel_rfl)) (by unfold Func.isWrapper; first | (rw [if_pos (by decide +kernel)]; kernel_rfl) | (rw [if_neg (by decide +kernel)]; exact ⟨rfl, rfl⟩))
    (fun os started H enc _ => lifted os started H enc)

theorem proved : Rows.TopEditsAreUndoneCardSaid :=
  Claim7.holds_tied_plain_at .later [] Rows.topEditsAreUndoneCard.laidKinds true Rows.topEditsAreUndoneCard.stood.harness Rows.topEditsAreUndoneCard.stood.looks
    over (fun _ h => by cases h) text (fun _ h => by cases h) topEditsAreUndone_row_tie rfl ⟨rfl, rfl⟩ main rfl
    (fun f fn hf hfn => by
      obtain rfl : f = 3 := Option.some.inj (named.symm.trans hf) |>.symm
      obtain rfl : fn = Tryz.f3 := (Option.some.inj (Tryz.func3.symm.trans hfn)).symm
      exact ⟨looks, fun j t ht => by
        rw [Tryz.params3] at ht
        have hm : t ∈ [31, 32] := by simpa using Array.mem_of_getElem? ht
        exact (show Tryz.prog.wantsStandIn t = false by simpa using List.all_eq_true.1 stand t hm)⟩)
    goes
end Go.Proofs.YtmjkgajnpmiomaaGreatDoor.topEditsAreUndone
