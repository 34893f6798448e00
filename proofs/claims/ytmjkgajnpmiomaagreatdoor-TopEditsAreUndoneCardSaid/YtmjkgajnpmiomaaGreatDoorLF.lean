/- What is true of the whole program. -/
import Derived.Test.YtmjkgajnpmiomaaGreatDoorL3
import Derived.Test.YtmjkgajnpmiomaaGreatDoorCards
import Derived.Test.YtmjkgajnpmiomaaGreatDoorTie
import Derived.Test.YtmjkgajnpmiomaaGreatDoorLShbAC
namespace Go.Proofs.YtmjkgajnpmiomaaGreatDoor.topEditsAreUndone
open Go.ChangeShapes Go.WideShapes Go.ChangeAt Go.RowKit Go.Sha
open Go.ChangeMaps (open_string shut_string)
set_option linter.unusedVariables false
abbrev RW := Rows.topEditsAreUndoneRow
abbrev SP := Rows.topEditsAreUndoneSpec
theorem a {x y : Bool} (h : x = true) (k : y = true) : (x && y) = true := by rw [h, k]; rfl
theorem k0 : (RW.wf (OpenSpec.ofChange SP)) = true := by kernel_rfl
theorem k1 : (laidOutB Tryz.prog) = true := sk1
theorem k2 : (mapsRowed Tryz.prog) = true := sk2
theorem k3 : (Tryz.f3.params.all (Tryz.prog.readableRec ·)) = true := by kernel_rfl
theorem k4 : (namedTie Tryz.prog RW.named SP.vars) = true := by kernel_rfl
theorem k5 : ((RW.stops == [])) = true := by kernel_rfl
theorem k6 : ((Tryz.prog.stops == [])) = true := sk6
theorem k7 : ((RW.knobs == [])) = true := by kernel_rfl
theorem k8 : ((Tryz.prog.stopKnobs == [])) = true := sk8
theorem k9 : ((RW.inPlace == Tryz.prog.inPlace 3)) = true := by kernel_rfl
theorem k10 : ((RW.unfollowed == Tryz.prog.unfollowed 3)) = true := by kernel_rfl
theorem k11 : ((RW.recurses == Tryz.prog.recurses 3)) = true := by kernel_rfl
theorem k12 : ((RW.named == Tryz.prog.varsNamed 3)) = true := by kernel_rfl
theorem k13 : ((RW.maps == (Tryz.f3.params.toList ++ SP.plain.varTypes Tryz.prog).any (Tryz.prog.mapsRec ·))) = true := by kernel_rfl
theorem k14 : ((RW.ifaces == (Tryz.f3.params.toList ++ SP.plain.varTypes Tryz.prog).any (Tryz.prog.ifacesRec ·))) = true := by kernel_rfl
theorem k15 : ((RW.mapsOut == Tryz.prog.mapsAmong Tryz.f3.resultTypes.toList)) = true := sk15
theorem k16 : ((RW.loops == (Tryz.f3.params.toList ++ SP.plain.varTypes Tryz.prog).any (Tryz.prog.loopsFrom ·))) = true := by kernel_rfl
theorem k17 : ((RW.wideKeys == (Tryz.f3.params.toList ++ SP.plain.varTypes Tryz.prog ++ Tryz.f3.resultTypes.toList).any (Tryz.prog.wideKeysFrom ·))) = true := by kernel_rfl
theorem k18 : (SP.vars.all (Tryz.prog.varReadable ·)) = true := by kernel_rfl
theorem k19 : (Tryz.f3.resultTypes.all (fun t => Tryz.prog.readableRec t && decide (t < Tryz.prog.types.size))) = true := by kernel_rfl
theorem k20 : ((RW.ifacesOut == Tryz.f3.resultTypes.toList.any (Tryz.prog.ifacesRec ·))) = true := by kernel_rfl
theorem k21 : ((RW.loopsOut == Tryz.f3.resultTypes.toList.any (Tryz.prog.loopsFrom ·))) = true := by kernel_rfl
theorem k22 : ((RW.plainKeys == Tryz.prog.plainKeys)) = true := sk22
theorem k23 : (RW.shortTexts.isNone) = true := by kernel_rfl
theorem k24 : (Tryz.prog.stopsHeard) = true := sk24
theorem k25 : (Tryz.prog.mayEnter) = true := sk25
theorem k26 : ((RW.lifted == Tryz.prog.liftsFinal)) = true := sk26
theorem k27 : ((Tryz.prog.make == some RW.make)) = true := sk27
theorem k28 : ((RW.kinds == (if RW.domain.isEmpty then [] else Tryz.f3.params.toList.map fun t => match Tryz.prog.underlying t with | some (.int k) => some k | _ => none))) = true := by kernel_rfl
theorem k29 : ((RW.pinned == RW.pinnedBy)) = true := by kernel_rfl
theorem k30 : ((RW.veiled == (Tryz.f3.params.toList ++ SP.plain.varTypes Tryz.prog ++ Tryz.f3.resultTypes.toList).any (Tryz.prog.veiledRec ·))) = true := by kernel_rfl
theorem k31 : (RW.veiledFits Tryz.prog Tryz.f3.params.toList (Tryz.f3.params.toList ++ SP.plain.varTypes Tryz.prog ++ Tryz.f3.resultTypes.toList)) = true := by kernel_rfl
set_option maxRecDepth 100000 in
theorem closed : joinedFacts Tryz.prog 3 Tryz.f3 SP RW = true := by unfold joinedFacts; exact (a (a (a (a (a (a (a (a (a (a (a (a (a (a (a (a (a (a (a (a (a (a (a (a (a (a (a (a (a (a (a k0 k1) k2) k3) k4) k5) k6) k7) k8) k9) k10) k11) k12) k13) k14) k15) k16) k17) k18) k19) k20) k21) k22) k23) k24) k25) k26) k27) k28) k29) k30) k31)
theorem named : Tryz.prog.funcNamed RW.func = some 3 := by kernel_rfl
theorem text : RW.wfByText (OpenSpec.ofChange SP) = true := by kernel_rfl
end Go.Proofs.YtmjkgajnpmiomaaGreatDoor.topEditsAreUndone
