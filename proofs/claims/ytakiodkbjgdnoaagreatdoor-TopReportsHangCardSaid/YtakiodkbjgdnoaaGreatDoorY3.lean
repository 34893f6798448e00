/- Shows that come in. The laws on what comes in: facts of the whole program. .. -/
import Derived.Test.YtakiodkbjgdnoaaGreatDoorY2
import Derived.Test.YtakiodkbjgdnoaaGreatDoorCards
import Derived.Test.YtakiodkbjgdnoaaGreatDoorYShbAE
import Derived.SizedLaws
import Derived.WalkKit
import Derived.ProofKit
import Derived.OpenShut
import Derived.ChangeMaps5
import Derived.LaidLaws
import Derived.LaidHandle
import Derived.Lay
import Derived.SevenTiedAt
set_option linter.unusedSimpArgs false
set_option linter.unusedVariables false
namespace Go.Proofs.YtakiodkbjgdnoaaGreatDoor
open Go.Sha
set_option maxRecDepth 100000
theorem Cu.Dk.ok {x:Cu}(h:x.Dk):x.ok:=⟨by have:=h.num;omega,by have:=h.label;omega,by have:=h.moves.1;omega,by have:=h.parts.1;omega,by have:=h.link;omega⟩
theorem Lst.Dk.ok {x:Lst}(h:x.Dk):x.ok:=⟨by have:=h.cues.1;omega,fun q hq=>(h.cues.2 q hq).ok⟩
theorem Prof.Dk.ok {x:Prof}(h:x.Dk):x.ok∧x.okR:=⟨⟨by have:=h.feats.1;omega,fun q hq=>by have:=(h.feats.2 q hq).wheel.1;omega,by have:=h.name;omega⟩,
 by have:=h.feats.1;omega,fun q hq=>⟨by have:=(h.feats.2 q hq).wheel.1;omega,fun z hz=>by have:=((h.feats.2 q hq).wheel.2 z hz).name;omega⟩,by have:=h.name;omega⟩
theorem Sho.Dk.ok {x : Sho}(h : x.Dk) : x.ok :=
  ⟨by have := h.title; omega, ⟨by have := h.curves.1; omega, fun q hq => by have := (h.curves.2 q hq).1; omega⟩, ⟨by have := h.profs.1; omega, fun q hq => (h.profs.2 q hq).ok.1, fun q hq => (h.profs.2 q hq).ok.2⟩,
   ⟨by have := h.fixts.1; omega, fun q hq => by have := (h.fixts.2 q hq).cable; omega⟩, ⟨by have := h.grps.1; omega, fun q hq => by have := (h.grps.2 q hq).chans.1; omega⟩, ⟨by have := h.pals.1; omega, fun q hq => by have := (h.pals.2 q hq).hues.1; omega⟩,
   ⟨by have := h.lsts.1; omega, fun q hq => (h.lsts.2 q hq).ok⟩, ⟨by have := h.subs.1; omega, fun q hq => by have := (h.subs.2 q hq).gains.1; omega⟩, ⟨by have := h.effs.1; omega, fun q hq => by have := (h.effs.2 q hq).wave.1; omega⟩⟩
end Go.Proofs.YtakiodkbjgdnoaaGreatDoor

namespace Go.Proofs.YtakiodkbjgdnoaaGreatDoor
open Go.ChangeShapes Go.WideShapes Go.ChangeAt Go.RowKit Go.Sha
theorem soundD:ESound Tryz.prog HM:=HM_ok
theorem glB_G {v:GV}:glB (stG (glK v)).x.gl=true:=glB_K
theorem sk1:(laidOutB Tryz.prog)=true:=by kernel_rfl
theorem sk2:(mapsRowed Tryz.prog)=true:=by kernel_rfl
theorem sk6:(Tryz.prog.stops == [])=true:=by kernel_rfl
theorem sk8:(Tryz.prog.stopKnobs == [])=true:=by kernel_rfl
theorem sk22:(Rows.topReportsHangRow.plainKeys == Tryz.prog.plainKeys)=true:=by kernel_rfl
theorem sk24:(Tryz.prog.stopsHeard)=true:=by kernel_rfl
theorem sk25:(Tryz.prog.mayEnter)=true:=by kernel_rfl
theorem sk26:(Rows.topReportsHangRow.lifted == Tryz.prog.liftsFinal)=true:=by kernel_rfl
theorem sk27:(Tryz.prog.make == some Rows.topReportsHangRow.make)=true:=by kernel_rfl
theorem sk15:(Rows.topReportsHangRow.mapsOut == Tryz.prog.mapsAmong Tryz.f4.resultTypes.toList)=true:=by kernel_rfl
theorem sown:ownKnob Tryz.prog.godebug=none:=by kernel_rfl
theorem smain:Tryz.prog.mainIs=some (Rows.topReportsHangCard.stood.harness.1,Rows.topReportsHangCard.stood.harness.2.toList):=by kernel_rfl
theorem slooks:Rows.topReportsHangCard.stood.looks=Tryz.prog.looks []:=by kernel_rfl
end Go.Proofs.YtakiodkbjgdnoaaGreatDoor

