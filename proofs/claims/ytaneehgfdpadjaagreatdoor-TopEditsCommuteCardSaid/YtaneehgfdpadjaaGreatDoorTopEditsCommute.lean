/- The statement TopEditsCommuteCardSaid: Edits of different parts of a show may be made in any order. No condition but what the row lists. -/
import Derived.Test.YtaneehgfdpadjaaGreatDoorL3
import Derived.Test.YtaneehgfdpadjaaGreatDoorCards
import Derived.Test.YtaneehgfdpadjaaGreatDoorTie
import Derived.Test.YtaneehgfdpadjaaGreatDoorLShbAC
import Derived.Test.YtaneehgfdpadjaaGreatDoorLF
namespace Go.Proofs.YtaneehgfdpadjaaGreatDoor.topEditsCommute
open Go.ChangeShapes Go.WideShapes Go.ChangeAt Go.RowKit Go.Sha
open Go.ChangeMaps (open_string shut_string)
set_option linter.unusedVariables false


theorem own : ownKnob Tryz.prog.godebug = none := sown

theorem walk (v0 : Value) (x0 : Sho) (v1 : Value) (x1 : Two) (w : World) (h0 : x0.Dk) (r0 : Rep w (abs0 w) v0 (x0.v)) (h1 : x1.Dk) (r1 : Rep w (abs0 w) v1 (x1.v)) : Calls Tryz.prog 3 #[v0, v1] w fun e w' => e = .returned (.bool true) ∧ Kept w w' := by
  have h : VRet Tryz.prog 3 [x0.v, x1.v] st0 (.bool true) st0 := run_sound mixed sound _ _ _ _ _ (law (s := x0) (x := x1) h0 h1)
  refine law_calls (vs := [v0, v1]) Tryz.func3 (by kernel_rfl) (by kernel_rfl) h ⟨rfl, fun i u c hu hc => ?_⟩
  match i, hu, hc with
  | 0, hu, hc => cases hu; cases hc; exact r0
  | 1, hu, hc => cases hu; cases hc; exact r1
  | _ + 2, hu, hc => simp at hu

theorem met (os : Os) (args : Array Value) : laidMetH Tryz.prog RW.laid ((World.laidAll Tryz.prog os RW.laid).forCall (fun _ _ => 0) ⟨#[], args, []⟩).memory := by
  have e : (RW.laid.filter fun x => x.2.handleName?.isNone) = RW.laid := by kernel_rfl
  exact laidMetH_of_parts (by rw [e]; exact laidMet_laidAll args (by kernel_rfl) (by kernel_rfl)) (by kernel_rfl)

set_option maxRecDepth 100000 in
theorem lifted (os : Os) (started : os.Started) (H : Type) (enc : TypeId × Value → H) :
    ReturnsInHanded {} Tryz.checked os 3 .any (fun w args => (SP.pre enc Tryz.prog Tryz.f3 RW.domain false w args ∧ laidMetH Tryz.prog RW.laid w) ∧ sizedMet enc Tryz.prog Tryz.f3 (OpenSpec.ofChange SP) false w args)
      (SP.post enc Tryz.prog Tryz.f3 false true false false) := by
  refine returnsInHanded_of_change_and (C := Tryz.checked) (X := fun w _ => laidMetH Tryz.prog RW.laid w) (fun _ _ _ hh h => h.of_heap hh) own started (by kernel_rfl) Tryz.func3
    (ChangeSpec.witness_shaped (enc := enc) (C := Tryz.checked) (os := os) (X := fun w _ => laidMetH Tryz.prog RW.laid w) false (World.laidAll Tryz.prog os RW.laid) #[.agg #[.string ⟨#[]⟩, .slice none 0 0, .slice none 0 0, .slice none 0 0, .slice none 0 0, .slice none 0 0, .slice none 0 0, .slice none 0 0, .slice none 0 0], .agg #[.int .i64 0, .int .i64 0, .int .i64 0, .int .i64 0, .string ⟨#[]⟩, .string ⟨#[]⟩, .string ⟨#[]⟩, .slice none 0 0, .slice none 0 0, .bool false, .bool false, .int .i64 0, .string ⟨#[]⟩, .int .i64 0, .int .i64 0, .slice none 0 0, .int .i64 0, .slice none 0 0, .int .i64 0, .int .i64 0, .bool false, .slice none 0 0, .int .i64 0, .int .i64 0, .slice none 0 0, .int .i64 0, .int .i64 0, .int .i64 0, .int .i64 0, .int .i64 0, .string ⟨#[]⟩, .int .i64 0, .int .i64 0, .int .i64 0, .string ⟨#[]⟩, .int .i64 0, .int .i64 0, .int .i64 0, .int .i64 0, .string ⟨#[]⟩, .string ⟨#[]⟩, .string ⟨#[]⟩, .slice none 0 0, .slice none 0 0, .bool false, .bool false, .int .i64 0, .string ⟨#[]⟩, .int .i64 0, .int .i64 0, .slice none 0 0, .int .i64 0, .slice none 0 0, .int .i64 0, .int .i64 0, .bool false, .slice none 0 0, .int .i64 0, .int .i64 0, .slice none 0 0, .int .i64 0, .int .i64 0, .int .i64 0, .int .i64 0, .int .i64 0, .string ⟨#[]⟩, .int .i64 0, .int .i64 0, .int .i64 0, .string ⟨#[]⟩]] 8 (World.laidAll_os _ _ _)
      (World.shaped_of_ZipB (by kernel_rfl) (by kernel_rfl)) (by kernel_rfl) (by kernel_rfl) (by kernel_rfl) (met os _)) ?_
  intro W base args ds gs before hval0 hW hcnd hsz0 hL _
  have hval : ∀ (j : Nat) t v, Tryz.f3.params[j]? = some t → args[j]? = some v → Value.okWide Tryz.prog W .any base t v := hval0
  have hsz : (DataW.weightsEach Tryz.prog (Tryz.f3.params.toList ++ SP.plain.varTypes Tryz.prog) (ds ++ gs)).all (· ≤ reachBytes) = true := hsz0
  have hW' := hW
  obtain ⟨p, q, hA0, hV, rfl, hfz, hnd⟩ := hW
  have hA : DataW.TrodAll enc Tryz.prog W 0 (fun _ => true) true Tryz.f3.params.toList args.toList ds p := hA0
  have hA1 := hA
  rw [Tryz.params3] at hA hval hsz
  obtain ⟨v0, vs0, d0, ds0, p0, q0, hargs, rfl, rfl, t0, s0⟩ := trodAll_cons hA
  obtain ⟨v1, vs1, d1, ds1, p1, q1, rfl, rfl, rfl, t1, s1⟩ := trodAll_cons s0
  obtain ⟨rfl, rfl, rfl⟩ := trodAll_nil s1
  obtain rfl : args = #[v0, v1] := by cases args; simp_all
  obtain ⟨rfl, rfl⟩ := trodVars_none hV
  clear hA0 hval0
  simp only [List.append_nil] at hW' hA1
  obtain ⟨cs0, rfl, _⟩ := okWide_struct Tryz.underlying31 (hval 0 31 v0 rfl rfl)
  obtain ⟨ws0, o0, r0⟩ := arg_agg (n := 9) t0 (by kernel_rfl : shOf Tryz.prog 9 31 = some Sho.sh) (fun k hk => of_decide_eq_true (List.all_eq_true.1 hsz k (DataW.weights_mem_each (j := 0) rfl rfl k hk)))
  obtain ⟨x0, e0, h0⟩ := Sho.rd o0
  rw [e0] at r0
  obtain ⟨cs1, rfl, _⟩ := okWide_array Tryz.underlying52 (hval 1 52 v1 rfl rfl)
  obtain ⟨us1, ws1, o1, oo1, r1⟩ := arg_two (n := 9) Tryz.underlying52 (by kernel_rfl) (by kernel_rfl) t1 (by kernel_rfl : shOf Tryz.prog 9 51 = some Edi.sh) (fun k hk => of_decide_eq_true (List.all_eq_true.1 hsz k (DataW.weights_mem_each (j := 1) rfl rfl k hk)))
  obtain ⟨xa1, ea1, ha1⟩ := Edi.rd o1
  obtain ⟨xb1, eb1, hb1⟩ := Edi.rd oo1
  rw [show us1 = xa1.v.cells from congrArg V.cells ea1, show ws1 = xb1.v.cells from congrArg V.cells eb1] at r1
  have h1 : (⟨xa1, xb1⟩ : Two).Dk := ⟨ha1, hb1⟩
  refine (walk _ x0 _ ⟨xa1, xb1⟩ W h0 r0 h1 r1).mono fun e W' ⟨he, hg⟩ => ?_
  subst he
  exact ⟨_, rfl, post_of_kept (pa := _) (pv := []) hW' (fun _ _ _ => (trodAll_cons_mk (shut_bool Tryz.underlying4 _) trodAll_mk0))
    (fun sp hsp => args_kept (by kernel_rfl) (by kernel_rfl) (by kernel_rfl) hg (fun t ht => of_decide_eq_true (List.all_eq_true.1 (by kernel_rfl : Tryz.f3.params.toList.all (fun t => decide (t < Tryz.prog.types.size)) = true) t ht)) hA1 (by simpa using hsp)) (fun _ _ => rfl) (by simp)
    hg (ok_one (by kernel_rfl) rfl (okWide_bool_mk Tryz.underlying4 _))⟩

theorem main : Tryz.prog.mainIs = some (Rows.topEditsCommuteCard.stood.harness.1, Rows.topEditsCommuteCard.stood.harness.2.toList) := smain
theorem looks : Rows.topEditsCommuteCard.stood.looks = Tryz.prog.looks [] := slooks
theorem stand : ([31, 52].all fun u => !Tryz.prog.wantsStandIn u) = true := by kernel_rfl
theorem allg : Tryz.prog.funcs.toList.all (fun g => !g.goes) = true := by kernel_rfl
theorem goes_of {P : Program} (h : P.funcs.toList.all (fun g => !g.goes) = true) (c : OpenClaim) : false = c.goesBy P := by
  have h1 : ∀ g ∈ P.funcs, g.goes = false := fun g hg => by simpa using List.all_eq_true.1 h g (by simpa using hg)
  have h2 : ∀ f, P.goes f = false := fun f => by
    unfold Program.goes
    rw [Bool.or_eq_false_iff]
    refine ⟨?_, ?_⟩
    · rw [List.any_eq_false]
      intro g _
      cases hg : P.funcs[g]? with
      | none => simp
      | some fn => simp [h1 fn (Array.mem_of_getElem? hg)]
    · rw [Bool.and_eq_false_iff]; right
      rw [Array.any_eq_false]
      intro i hi; simp [h1 _ (Array.getElem_mem hi)]
  unfold OpenClaim.goesBy Program.goesAt Program.goesFrom
  have h3 : ∀ l : List FuncId, l.any P.goes = false := fun l => by rw [List.any_eq_false]; intro x _; rw [h2]; simp
  rw [h3]
  cases P.funcNamed c.func <;> cases c.start <;> simp [h2]
theorem goes : false = RW.goesBy Tryz.prog := goes_of allg RW

theorem over : RW.holds Tryz.pinned (OpenSpec.ofChange SP) :=
  OpenClaim.holds_of_wide 3 Tryz.f3 rfl rfl rfl rfl rfl rfl rfl ⟨rfl, rfl, rfl, rfl, rfl⟩ rfl rfl rfl rfl rfl named Tryz.func3 closed
    (of_decide_eq_true (by kernel_rfl)) (by unfold Func.isWrapper; first | (rw [if_pos (by decide +kernel)]; kernel_rfl) | (rw [if_neg (by decide +kernel)]; exact ⟨rfl, rfl⟩))
    (fun os started H enc _ => lifted os started H enc)

theorem proved : Rows.TopEditsCommuteCardSaid :=
  Claim7.holds_tied_plain_at .later [] Rows.topEditsCommuteCard.laidKinds true Rows.topEditsCommuteCard.stood.harness Rows.topEditsCommuteCard.stood.looks
    over (fun _ h => by cases h) text (fun _ h => by cases h) topEditsCommute_row_tie rfl ⟨rfl, rfl⟩ main rfl
    (fun f fn hf hfn => by
      obtain rfl : f = 3 := Option.some.inj (named.symm.trans hf) |>.symm
      obtain rfl : fn = Tryz.f3 := (Option.some.inj (Tryz.func3.symm.trans hfn)).symm
      exact ⟨looks, fun j t ht => by
        rw [Tryz.params3] at ht
        have hm : t ∈ [31, 52] := by simpa using Array.mem_of_getElem? ht
        exact (show Tryz.prog.wantsStandIn t = false by simpa using List.all_eq_true.1 stand t hm)⟩)
    goes
end Go.Proofs.YtaneehgfdpadjaaGreatDoor.topEditsCommute
