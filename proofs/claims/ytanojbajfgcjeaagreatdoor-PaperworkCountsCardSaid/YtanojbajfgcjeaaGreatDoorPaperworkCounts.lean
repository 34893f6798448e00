import Derived.Test.YtanojbajfgcjeaaGreatDoorH3
import Derived.Test.YtanojbajfgcjeaaGreatDoorCards
import Derived.Test.YtanojbajfgcjeaaGreatDoorTie
import Derived.Test.YtanojbajfgcjeaaGreatDoorHShbAE
namespace Go.Proofs.YtanojbajfgcjeaaGreatDoor.paperworkCounts
open Go.ChangeShapes Go.WideShapes Go.ChangeAt Go.RowKit Go.Sha
open Go.ChangeMaps (open_string shut_string)
set_option linter.unusedVariables false
open _root_.Go.Proofs.Tryz renaming prog → P,f8 → F
abbrev RW:=Rows.paperworkCountsRow
abbrev SP:=Rows.paperworkCountsSpec

theorem own : ownKnob P.godebug = none:=sown

theorem walk (v0 : Value) (x0 : Sho) (w : World) (h0 : x0.Dk) (r0 : Rep w (abs0 w) v0 (x0.v)) (hl : laidMetH P RW.laid w) (hs : w.ShapedOpen P) : Calls P 8 #[v0] w fun e w'=>e = .returned (.bool true)∧Kept w w':=by
  obtain ⟨v,hgl⟩:=laid_glK (by kernel_rfl) (List.mem_of_getElem? (i:=7) rfl) (List.mem_of_getElem? (i:=2) rfl) hl hs
  have h : VRet P 8 [x0.v] (stG (glK v)) (.bool true) (stG (glK v)):=run_sound mixed soundD _ _ _ _ _ (l11 (s:=x0) h0.ok rfl glB_K)
  refine law_callsG (vs:=[v0]) Tryz.func8 (by kernel_rfl) (by kernel_rfl) h hgl ⟨rfl,fun i u c hu hc=>?_⟩
  match i,hu,hc with
  | 0,hu,hc=>cases hu; cases hc; exact r0
  | _ + 1,hu,hc=>simp at hu

theorem met (os : Os) (args : Array Value) : laidMetH P RW.laid ((World.laidAll P os RW.laid).forCall (fun _ _=>0) ⟨#[],args,[]⟩).memory:=by
  have e : (RW.laid.filter fun x=>x.2.handleName?.isNone) = RW.laid:=by kernel_rfl
  exact laidMetH_of_parts (by rw [e]; exact laidMet_laidAll args (by kernel_rfl) (by kernel_rfl)) (by kernel_rfl)

set_option maxRecDepth 100000 in
theorem lifted (os : Os) (started : os.Started) (H : Type) (enc : TypeId × Value→H) :
    ReturnsInHanded {} Tryz.checked os 8 .any (fun w args=>(SP.pre enc P F RW.domain false w args∧laidMetH P RW.laid w)∧sizedMet enc P F (OpenSpec.ofChange SP) false w args)
      (SP.post enc P F false true false false):=by
  refine handed_shaped (C:=Tryz.checked) (X:=fun w _=>laidMetH P RW.laid w) (fun _ _ _ hh h=>h.of_heap hh) own started (by kernel_rfl) Tryz.func8
    (ChangeSpec.witness_shaped (enc:=enc) (C:=Tryz.checked) (os:=os) (X:=fun w _=>laidMetH P RW.laid w) false (World.laidAll P os RW.laid) #[.agg #[.string ⟨#[]⟩,.slice none 0 0,.slice none 0 0,.slice none 0 0,.slice none 0 0,.slice none 0 0,.slice none 0 0,.slice none 0 0,.slice none 0 0]] 8 (World.laidAll_os _ _ _)
      (World.shaped_of_ZipB (by kernel_rfl) (by kernel_rfl)) (by kernel_rfl) (by kernel_rfl) (by kernel_rfl) (met os _)) ?_
  intro W base args ds gs before hval0 hW hcnd hsz0 hL hS
  have hval : ∀ (j : Nat) t v,F.params[j]? = some t→args[j]? = some v→Value.okWide P W .any base t v:=hval0
  have hsz : (DataW.weightsEach P (F.params.toList++SP.plain.varTypes P) (ds++gs)).all (· ≤ reachBytes) = true:=hsz0
  have hW':=hW
  obtain ⟨p,q,hA0,hV,rfl,hfz,hnd⟩:=hW
  have hA : DataW.TrodAll enc P W 0 (fun _=>true) true F.params.toList args.toList ds p:=hA0
  have hA1:=hA
  rw [Tryz.params8] at hA hval hsz
  obtain ⟨v0,vs0,d0,ds0,p0,q0,hargs,rfl,rfl,t0,s0⟩:=trodAll_cons hA
  obtain ⟨rfl,rfl,rfl⟩:=trodAll_nil s0
  obtain rfl : args = #[v0]:=by cases args; simp_all
  obtain ⟨rfl,rfl⟩:=trodVars_none hV
  clear hA0 hval0
  simp only [List.append_nil] at hW' hA1
  obtain ⟨cs0,rfl,_⟩:=okWide_struct Tryz.underlying50 (hval 0 50 v0 rfl rfl)
  obtain ⟨ws0,o0,r0⟩:=arg_agg (n:=9) t0 (by kernel_rfl : shOf P 9 50 = some Sho.sh) (fun k hk=>of_decide_eq_true (List.all_eq_true.1 hsz k (DataW.weights_mem_each (j:=0) rfl rfl k hk)))
  obtain ⟨x0,e0,h0⟩:=Sho.rd o0
  rw [e0] at r0
  refine (walk _ x0 W h0 r0 hL hS).mono fun e W' ⟨he,hg⟩=>?_
  subst he
  exact ⟨_,rfl,post_of_kept (pa:=_) (pv:=[]) hW' (fun _ _ _=>(trodAll_cons_mk (shut_bool Tryz.underlying4 _) trodAll_mk0))
    (fun sp hsp=>args_kept (by kernel_rfl) (by kernel_rfl) (by kernel_rfl) hg (fun t ht=>of_decide_eq_true (List.all_eq_true.1 (by kernel_rfl : F.params.toList.all (fun t=>decide (t < P.types.size)) = true) t ht)) hA1 (by simpa using hsp)) (fun _ _=>rfl) (by simp)
    hg (ok_one (by kernel_rfl) rfl (okWide_bool_mk Tryz.underlying4 _))⟩

theorem a {x y : Bool} (h : x = true) (k : y = true) : (x&&y) = true:=by rw [h,k]; rfl
theorem k0 : (RW.wf (OpenSpec.ofChange SP)) = true:=by kernel_rfl
theorem k3 : (F.params.all (P.readableRec ·)) = true:=by kernel_rfl
theorem k4 : (namedTie P RW.named SP.vars) = true:=by kernel_rfl
theorem k9 : (RW.inPlace == P.inPlace 8) = true:=by kernel_rfl
theorem k10 : (RW.unfollowed == P.unfollowed 8) = true:=by kernel_rfl
theorem k11 : (RW.recurses == P.recurses 8) = true:=by kernel_rfl
theorem k12 : (RW.named == P.varsNamed 8) = true:=by kernel_rfl
theorem k13 : (RW.maps == (F.params.toList++SP.plain.varTypes P).any (P.mapsRec ·)) = true:=by kernel_rfl
theorem k14 : (RW.ifaces == (F.params.toList++SP.plain.varTypes P).any (P.ifacesRec ·)) = true:=by kernel_rfl
theorem k16 : (RW.loops == (F.params.toList++SP.plain.varTypes P).any (P.loopsFrom ·)) = true:=by kernel_rfl
theorem k17 : (RW.wideKeys == (F.params.toList++SP.plain.varTypes P++F.resultTypes.toList).any (P.wideKeysFrom ·)) = true:=by kernel_rfl
theorem k19 : (F.resultTypes.all (fun t=>P.readableRec t&&decide (t < P.types.size))) = true:=by kernel_rfl
theorem k30 : (RW.veiled == (F.params.toList++SP.plain.varTypes P++F.resultTypes.toList).any (P.veiledRec ·)) = true:=by kernel_rfl
theorem k31 : (RW.veiledFits P F.params.toList (F.params.toList++SP.plain.varTypes P++F.resultTypes.toList)) = true:=by kernel_rfl
set_option maxRecDepth 100000 in
theorem closed : joinedFacts P 8 F SP RW = true:=by unfold joinedFacts; exact (a (a (a (a (a (a (a (a (a (a (a (a (a (a (a (a (a (a (a (a (a (a (a (a (a (a (a (a (a (a (a k0 sk1) sk2) k3) k4) (by kernel_rfl)) sk6) (by kernel_rfl)) sk8) k9) k10) k11) k12) k13) k14) sk15) k16) k17) (by kernel_rfl)) k19) (by kernel_rfl)) (by kernel_rfl)) sk22) (by kernel_rfl)) sk24) sk25) sk26) sk27) (by kernel_rfl)) (by kernel_rfl)) k30) k31)
theorem named : P.funcNamed RW.func = some 8:=by kernel_rfl
theorem text : RW.wfByText (OpenSpec.ofChange SP) = true:=by kernel_rfl
theorem main : P.mainIs = some (Rows.paperworkCountsCard.stood.harness.1,Rows.paperworkCountsCard.stood.harness.2.toList):=smain
theorem looks : Rows.paperworkCountsCard.stood.looks = P.looks []:=slooks
theorem stand : ([50].all fun u=>!P.wantsStandIn u) = true:=by kernel_rfl
theorem goes : false = RW.goesBy P:=by kernel_rfl

theorem over : RW.holds Tryz.pinned (OpenSpec.ofChange SP) :=
  OpenClaim.holds_of_wide 8 F rfl rfl rfl rfl rfl rfl rfl ⟨rfl,rfl,rfl,rfl,rfl⟩ rfl rfl rfl rfl rfl named Tryz.func8 closed
    (of_decide_eq_true (by kernel_rfl)) (by unfold Func.isWrapper; first | (rw [if_pos (by decide +kernel)]; kernel_rfl) | (rw [if_neg (by decide +kernel)]; exact ⟨rfl,rfl⟩))
    (fun os started H enc _=>lifted os started H enc)

theorem proved : Rows.PaperworkCountsCardSaid :=
  Claim7.holds_tied_plain_at .later [] Rows.paperworkCountsCard.laidKinds true Rows.paperworkCountsCard.stood.harness Rows.paperworkCountsCard.stood.looks
    over (fun _ h=>by cases h) text (fun _ h=>by cases h) paperworkCounts_row_tie rfl ⟨rfl,rfl⟩ main rfl
    (fun f fn hf hfn=>by
      obtain rfl : f = 8:=Option.some.inj (named.symm.trans hf) |>.symm
      obtain rfl : fn = F:=(Option.some.inj (Tryz.func8.symm.trans hfn)).symm
      exact ⟨looks,fun j t ht=>by
        rw [Tryz.params8] at ht
        have hm : t ∈ [50]:=by simpa using Array.mem_of_getElem? ht
        exact (show P.wantsStandIn t = false by simpa using List.all_eq_true.1 stand t hm)⟩)
    goes
end Go.Proofs.YtanojbajfgcjeaaGreatDoor.paperworkCounts
