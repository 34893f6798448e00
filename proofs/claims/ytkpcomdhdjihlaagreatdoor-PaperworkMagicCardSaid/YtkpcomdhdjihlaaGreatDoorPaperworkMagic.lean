/- The statement PaperworkMagicCardSaid: Magic returns the table or the error of the reference for all shows, lists and cues. No condition but what the row lists. -/
import Derived.Test.YtkpcomdhdjihlaaGreatDoorM3
import Derived.Test.YtkpcomdhdjihlaaGreatDoorCards
import Derived.Test.YtkpcomdhdjihlaaGreatDoorTie
import Derived.Test.YtkpcomdhdjihlaaGreatDoorMShbAE
namespace Go.Proofs.YtkpcomdhdjihlaaGreatDoor.paperworkMagic
open Go.ChangeShapes Go.WideShapes Go.ChangeAt Go.RowKit Go.Sha
open Go.ChangeMaps (open_string shut_string)
set_option linter.unusedVariables false
abbrev RW := Rows.paperworkMagicRow
abbrev SP := Rows.paperworkMagicSpec

theorem own : ownKnob Tryz.prog.godebug = none := sown

theorem walk (v0 : Value) (x0 : Sho) (x1 : Int) (h1 : -9223372036854775808 ≤ x1 ∧ x1 ≤ 9223372036854775807) (x2 : ByteArray) (w : World) (h0 : x0.Dk) (r0 : Rep w (abs0 w) v0 (x0.v)) (hl : laidMetH Tryz.prog RW.laid w) (hs : w.ShapedOpen Tryz.prog) : Calls Tryz.prog 3 #[v0, .int .i64 x1, .string x2] w fun e w' => e = .returned (.bool true) ∧ Kept w w' := by
  obtain ⟨v, hgl⟩ := laid_glK (by kernel_rfl) (List.mem_of_getElem? (i := 7) rfl) (List.mem_of_getElem? (i := 2) rfl) hl hs
  have h : VRet Tryz.prog 3 [x0.v, .int .i64 x1, .str x2.data.toList] (stG (glK v)) (.bool true) (stG (glK v)) := run_sound mixed (soundW h0.ok) _ _ _ _ _ (l4 (s := x0) (lst := x1) (cue := x2.data.toList) h0.ok rfl)
  refine law_callsG (vs := [v0, .int .i64 x1, .string x2]) Tryz.func3 (by kernel_rfl) (by kernel_rfl) h hgl ⟨rfl, fun i u c hu hc => ?_⟩
  match i, hu, hc with
  | 0, hu, hc => cases hu; cases hc; exact r0
  | 1, hu, hc => cases hu; cases hc; exact .int _ _
  | 2, hu, hc =>
    cases hu; cases hc
    have hs : (⟨x2.data.toList.toArray⟩ : ByteArray) = x2 := by cases x2; simp
    have := Rep.str (w := w) (A := abs0 w) x2.data.toList; rw [hs] at this; exact this
  | _ + 3, hu, hc => simp at hu

theorem met (os : Os) (args : Array Value) : laidMetH Tryz.prog RW.laid ((World.laidAll Tryz.prog os RW.laid).forCall (fun _ _ => 0) ⟨#[], args, []⟩).memory := by
  have e : (RW.laid.filter fun x => x.2.handleName?.isNone) = RW.laid := by kernel_rfl
  exact laidMetH_of_parts (by rw [e]; exact laidMet_laidAll args (by kernel_rfl) (by kernel_rfl)) (by kernel_rfl)

set_option maxRecDepth 100000 in
theorem lifted (os : Os) (started : os.Started) (H : Type) (enc : TypeId × Value → H) :
    ReturnsInHanded {} Tryz.checked os 3 .any (fun w args => (SP.pre enc Tryz.prog Tryz.f3 RW.domain false w args ∧ laidMetH Tryz.prog RW.laid w) ∧ sizedMet enc Tryz.prog Tryz.f3 (OpenSpec.ofChange SP) false w args)
      (SP.post enc Tryz.prog Tryz.f3 false true false false) := by
  refine handed_shaped (C := Tryz.checked) (X := fun w _ => laidMetH Tryz.prog RW.laid w) (fun _ _ _ hh h => h.of_heap hh) own started (by kernel_rfl) Tryz.func3
    (ChangeSpec.witness_shaped (enc := enc) (C := Tryz.checked) (os := os) (X := fun w _ => laidMetH Tryz.prog RW.laid w) false (World.laidAll Tryz.prog os RW.laid) #[.agg #[.string ⟨#[]⟩, .slice none 0 0, .slice none 0 0, .slice none 0 0, .slice none 0 0, .slice none 0 0, .slice none 0 0, .slice none 0 0, .slice none 0 0], .int .i64 0, .string ⟨#[]⟩] 8 (World.laidAll_os _ _ _)
      (World.shaped_of_ZipB (by kernel_rfl) (by kernel_rfl)) (by kernel_rfl) (by kernel_rfl) (by kernel_rfl) (met os _)) ?_
  intro W base args ds gs before hval0 hW hcnd hsz0 hL hS
  have hval : ∀ (j : Nat) t v, Tryz.f3.params[j]? = some t → args[j]? = some v → Value.okWide Tryz.prog W .any base t v := hval0
  have hsz : (DataW.weightsEach Tryz.prog (Tryz.f3.params.toList ++ SP.plain.varTypes Tryz.prog) (ds ++ gs)).all (· ≤ reachBytes) = true := hsz0
  have hW' := hW
  obtain ⟨p, q, hA0, hV, rfl, hfz, hnd⟩ := hW
  have hA : DataW.TrodAll enc Tryz.prog W 0 (fun _ => true) true Tryz.f3.params.toList args.toList ds p := hA0
  have hA1 := hA
  rw [Tryz.params3] at hA hval hsz
  obtain ⟨v0, vs0, d0, ds0, p0, q0, hargs, rfl, rfl, t0, s0⟩ := trodAll_cons hA
  obtain ⟨v1, vs1, d1, ds1, p1, q1, rfl, rfl, rfl, t1, s1⟩ := trodAll_cons s0
  obtain ⟨v2, vs2, d2, ds2, p2, q2, rfl, rfl, rfl, t2, s2⟩ := trodAll_cons s1
  obtain ⟨rfl, rfl, rfl⟩ := trodAll_nil s2
  obtain rfl : args = #[v0, v1, v2] := by cases args; simp_all
  obtain ⟨rfl, rfl⟩ := trodVars_none hV
  clear hA0 hval0
  simp only [List.append_nil] at hW' hA1
  obtain ⟨cs0, rfl, _⟩ := okWide_struct Tryz.underlying31 (hval 0 31 v0 rfl rfl)
  obtain ⟨ws0, o0, r0⟩ := arg_agg (n := 9) t0 (by kernel_rfl : shOf Tryz.prog 9 31 = some Sho.sh) (fun k hk => of_decide_eq_true (List.all_eq_true.1 hsz k (DataW.weights_mem_each (j := 0) rfl rfl k hk)))
  obtain ⟨x0, e0, h0⟩ := Sho.rd o0
  rw [e0] at r0
  obtain ⟨x1, rfl, rfl, rfl, w1⟩ := open_int Tryz.underlying3 (hval 1 3 v1 rfl rfl) t1
  have h1 : -9223372036854775808 ≤ x1 ∧ x1 ≤ 9223372036854775807 := by simpa [Lit.wf, IntKind.min, IntKind.max, IntKind.bits, IntKind.signed] using w1
  obtain ⟨x2, rfl, rfl, rfl, w2⟩ := open_string Tryz.underlying9 (hval 2 9 v2 rfl rfl) t2
  refine (walk _ x0 x1 h1 x2 W h0 r0 hL hS).mono fun e W' ⟨he, hg⟩ => ?_
  subst he
  exact ⟨_, rfl, post_of_kept (pa := _) (pv := []) hW' (fun _ _ _ => (trodAll_cons_mk (shut_bool Tryz.underlying4 _) trodAll_mk0))
    (fun sp hsp => args_kept (by kernel_rfl) (by kernel_rfl) (by kernel_rfl) hg (fun t ht => of_decide_eq_true (List.all_eq_true.1 (by kernel_rfl : Tryz.f3.params.toList.all (fun t => decide (t < Tryz.prog.types.size)) = true) t ht)) hA1 (by simpa using hsp)) (fun _ _ => rfl) (by simp)
    hg (ok_one (by kernel_rfl) rfl (okWide_bool_mk Tryz.underlying4 _))⟩

theorem a {x y : Bool} (h : x = true) (k : y = true) : (x && y) = true := by rw [h, k]; rfl
theorem k0 : (RW.wf (OpenSpec.ofChange SP)) = true := by kernel_rfl
theorem k1 : (laidOutB Tryz.prog) = true := sk1
theorem k2 : (mapsRowed Tryz.prog) = true := sk2
theorem k3 : (Tryz.f3.params.all (Tryz.prog.readableRec ·)) = true := by kernel_rfl
theorem k4 : (namedTie Tryz.prog RW.named SP.vars) = true := by kernel_rfl
theorem k5 : ((RW.stops == [])) = true := by kernel_rfl
theorem k6 : ((Tryz.prog.stops == [])) = true := sk6
theorem k7 : ((RW.knobs == [])) = true := by kernel_rfl
theorem k8 : ((Tryz.prog.stopKnobs == [])) = true := sk8
theorem k9 : ((RW.inPlace == Tryz.prog.inPlace 3)) = true := by kernel_rfl
theorem k10 : ((RW.unfollowed == Tryz.prog.unfollowed 3)) = true := by kernel_rfl
theorem k11 : ((RW.recurses == Tryz.prog.recurses 3)) = true := by kernel_rfl
theorem k12 : ((RW.named == Tryz.prog.varsNamed 3)) = true := by kernel_rfl
theorem k13 : ((RW.maps == (Tryz.f3.params.toList ++ SP.plain.varTypes Tryz.prog).any (Tryz.prog.mapsRec ·))) = true := by kernel_rfl
theorem k14 : ((RW.ifaces == (Tryz.f3.params.toList ++ SP.plain.varTypes Tryz.prog).any (Tryz.prog.ifacesRec ·))) = true := by kernel_rfl
theorem k15 : ((RW.mapsOut == Tryz.prog.mapsAmong Tryz.f3.resultTypes.toList)) = true := sk15
theorem k16 : ((RW.loops == (Tryz.f3.params.toList ++ SP.plain.varTypes Tryz.prog).any (Tryz.prog.loopsFrom ·))) = true := by kernel_rfl
theorem k17 : ((RW.wideKeys == (Tryz.f3.params.toList ++ SP.plain.varTypes Tryz.prog ++ Tryz.f3.resultTypes.toList).any (Tryz.prog.wideKeysFrom ·))) = true := by kernel_rfl
theorem k18 : (SP.vars.all (Tryz.prog.varReadable ·)) = true := by kernel_rfl
theorem k19 : (Tryz.f3.resultTypes.all (fun t => Tryz.prog.readableRec t && decide (t < Tryz.prog.types.size))) = true := by kernel_rfl
theorem k20 : ((RW.ifacesOut == Tryz.f3.resultTypes.toList.any (Tryz.prog.ifacesRec ·))) = true := by kernel_rfl
theorem k21 : ((RW.loopsOut == Tryz.f3.resultTypes.toList.any (Tryz.prog.loopsFrom ·))) = true := by kernel_rfl
theorem k22 : ((RW.plainKeys == Tryz.prog.plainKeys)) = true := sk22
theorem k23 : (RW.shortTexts.isNone) = true := by kernel_rfl
theorem k24 : (Tryz.prog.stopsHeard) = true := sk24
theorem k25 : (Tryz.prog.mayEnter) = true := sk25
theorem k26 : ((RW.lifted == Tryz.prog.liftsFinal)) = true := sk26
theorem k27 : ((Tryz.prog.make == some RW.make)) = true := sk27
theorem k28 : ((RW.kinds == (if RW.domain.isEmpty then [] else Tryz.f3.params.toList.map fun t => match Tryz.prog.underlying t with | some (.int k) => some k | _ => none))) = true := by kernel_rfl
theorem k29 : ((RW.pinned == RW.pinnedBy)) = true := by kernel_rfl
theorem k30 : ((RW.veiled == (Tryz.f3.params.toList ++ SP.plain.varTypes Tryz.prog ++ Tryz.f3.resultTypes.toList).any (Tryz.prog.veiledRec ·))) = true := by kernel_rfl
theorem k31 : (RW.veiledFits Tryz.prog Tryz.f3.params.toList (Tryz.f3.params.toList ++ SP.plain.varTypes Tryz.prog ++ Tryz.f3.resultTypes.toList)) = true := by kernel_rfl
set_option maxRecDepth 100000 in
theorem closed : joinedFacts Tryz.prog 3 Tryz.f3 SP RW = true := by unfold joinedFacts; exact (a (a (a (a (a (a (a (a (a (a (a (a (a (a (a (a (a (a (a (a (a (a (a (a (a (a (a (a (a (a (a k0 k1) k2) k3) k4) k5) k6) k7) k8) k9) k10) k11) k12) k13) k14) k15) k16) k17) k18) k19) k20) k21) k22) k23) k24) k25) k26) k27) k28) k29) k30) k31)
theorem named : Tryz.prog.funcNamed RW.func = some 3 := by kernel_rfl
theorem text : RW.wfByText (OpenSpec.ofChange SP) = true := by kernel_rfl
theorem main : Tryz.prog.mainIs = some (Rows.paperworkMagicCard.stood.harness.1, Rows.paperworkMagicCard.stood.harness.2.toList) := smain
theorem looks : Rows.paperworkMagicCard.stood.looks = Tryz.prog.looks [] := slooks
theorem stand : ([31, 3, 9].all fun u => !Tryz.prog.wantsStandIn u) = true := by kernel_rfl
theorem allg : Tryz.prog.funcs.toList.all (fun g => !g.goes) = true := by kernel_rfl
theorem goes_of {P : Program} (h : P.funcs.toList.all (fun g => !g.goes) = true) (c : OpenClaim) : false = c.goesBy P := by
  have h1 : ∀ g ∈ P.funcs, g.goes = false := fun g hg => by simpa using List.all_eq_true.1 h g (by simpa using hg)
  have h2 : ∀ f, P.goes f = false := fun f => by
    unfold Program.goes
    rw [Bool.or_eq_false_iff]
    refine ⟨?_, ?_⟩
    · rw [List.any_eq_false]
      intro g _
      cases hg : P.funcs[g]? with
      | none => simp
      | some fn => simp [h1 fn (Array.mem_of_getElem? hg)]
    · rw [Bool.and_eq_false_iff]; right
      rw [Array.any_eq_false]
      intro i hi; simp [h1 _ (Array.getElem_mem hi)]
  unfold OpenClaim.goesBy Program.goesAt Program.goesFrom
  have h3 : ∀ l : List FuncId, l.any P.goes = false := fun l => by rw [List.any_eq_false]; intro x _; rw [h2]; simp
  rw [h3]
  cases P.funcNamed c.func <;> cases c.start <;> simp [h2]
theorem goes : false = RW.goesBy Tryz.prog := goes_of allg RW

theorem over : RW.holds Tryz.pinned (OpenSpec.ofChange SP) :=
  OpenClaim.holds_of_wide 3 Tryz.f3 rfl rfl rfl rfl rfl rfl rfl ⟨rfl, rfl, rfl, rfl, rfl⟩ rfl rfl rfl rfl rfl named Tryz.func3 closed
    (of_decide_eq_true (by kernel_rfl)) (by unfold Func.isWrapper; first | (rw [if_pos (by decide +kernel)]; kernel_rfl) | (rw [if_neg (by decide +kernel)]; exact ⟨rfl, rfl⟩))
    (fun os started H enc _ => lifted os started H enc)

theorem proved : Rows.PaperworkMagicCardSaid :=
  Claim7.holds_tied_plain_at .later [] Rows.paperworkMagicCard.laidKinds true Rows.paperworkMagicCard.stood.harness Rows.paperworkMagicCard.stood.looks
    over (fun _ h => by cases h) text (fun _ h => by cases h) paperworkMagic_row_tie rfl ⟨rfl, rfl⟩ main rfl
    (fun f fn hf hfn => by
      obtain rfl : f = 3 := Option.some.inj (named.symm.trans hf) |>.symm
      obtain rfl : fn = Tryz.f3 := (Option.some.inj (Tryz.func3.symm.trans hfn)).symm
      exact ⟨looks, fun j t ht => by
        rw [Tryz.params3] at ht
        have hm : t ∈ [31, 3, 9] := by simpa using Array.mem_of_getElem? ht
        exact (show Tryz.prog.wantsStandIn t = false by simpa using List.all_eq_true.1 stand t hm)⟩)
    goes
end Go.Proofs.YtkpcomdhdjihlaaGreatDoor.paperworkMagic
