/- slices.Clone: the copy may be written. -/
import Derived.Test.YtdkokbhcjmapdaaGreatDoorKShbXG
set_option linter.unusedSimpArgs false
set_option linter.unusedVariables false
namespace Go.Sha
section
variable {P:Program}{N:Fr}{H:EvF}
def cloneC (e es b:Nat):Cd:=.g [.s 2 (.mv (.c .nils))] (.join [0] (.g [.m 3 0,.s 4 (.nilk false (.t 3))] (.i 4 (.g [.s 2 (.mv (.c .nils))] (.ret [2])) .skip)) (.g [.s 5 (.bslice e es []),.m 6 0,.s 7 (.append e es b (.t 5) (.t 6)),.m 2 7] (.ret [2])))
theorem vcOps_nil {env:Env}{st:St}{Q:Post}(h:Q .normal env st):vcOps P [] env st Q:=by
 unfold vcOps;exact h
theorem vcR_nilk {d:Option Nat}{ne:Bool}{x:Opd}{r:List Ins}{fs:List (Option Bool)}{env:Env}{st:St}{Q:Post}(h:nilK st (fun b=>vcR P r fs (setD env d (.bool (b != ne))) st Q) (x.get env)):vcR P (⟨d,.nilk ne x,none⟩::r) (none::fs) env st Q:=by
 show vcOps P [⟨d,.nilk ne x,none⟩] env st _
 unfold vcOps
 refine upon_intro (x:=true) rfl ?_
 rw[fork_true]
 exact h
theorem WD.skip {env:Env}{st:St}{Q:Post}(h:Q .normal env st):WD P N .skip env st Q:=fun c hc=>by
 cases c<;>simp only[compC,Cd.bare]at hc<;>(repeat' split at hc)<;>first
  |(cases hc;done)
  |(obtain⟨y,hy,e⟩:=Option.map_eq_some_iff.1 hc;cases e;done)
  |skip
 exact W_skip h
theorem WD.ret {lv:List Nat}{env:Env}{st:St}{Q:Post}(h:Q .ret env st):WD P N (.ret lv) env st Q:=fun c hc=>by
 cases c<;>simp only[compC,Cd.bare]at hc<;>(repeat' split at hc)<;>first
  |(cases hc;done)
  |(obtain⟨y,hy,e⟩:=Option.map_eq_some_iff.1 hc;cases e;done)
  |skip
 exact W_ret h
theorem clone_W {e es b:Nat}{xs:List V}{st:St}(hd:∀s,mapO (snapA s) xs=some xs)(hc:xs.all (fun y=>y.cells.length == es)=true)(hr:roomV xs.length b=true){Q:Post}
  (h0:xs=[]→∀env,look env 2=some .nils→Q .ret env st)
  (h1:∀env,look env 2=some (.osl st.nx xs.length)→Q .ret env ⟨st.nx+1,st.mem,(st.nx,⟨e,es,xs,true,false⟩)::st.arr,st.x⟩):WD P N (cloneC e es b) [(0,.sl xs)] st Q:=by
 have hF:WD P N (.g [.s 5 (.bslice e es []),.m 6 0,.s 7 (.append e es b (.t 5) (.t 6)),.m 2 7] (.ret [2])) [(0,.sl xs)] st Q:=by
  refine WD.seq (WD.regR [some true,none,none,none] (vcR_raw true (v:=.osl st.nx 0) (st':=⟨st.nx+1,st.mem,(st.nx,⟨e,es,[],true,false⟩)::st.arr,st.x⟩) rfl (vcR_op rfl (v:=.sl xs) (st':=⟨st.nx+1,st.mem,(st.nx,⟨e,es,[],true,false⟩)::st.arr,st.x⟩) rfl
   (vcR_op rfl (v:=.osl st.nx xs.length) (st':=⟨st.nx+1,st.mem,(st.nx,⟨e,es,xs,true,false⟩)::st.arr,st.x⟩) ?_ (vcR_op rfl (v:=.osl st.nx xs.length) (st':=⟨st.nx+1,st.mem,(st.nx,⟨e,es,xs,true,false⟩)::st.arr,st.x⟩) rfl (vcOps_nil ?_))))))
  ·show appendV _ _ _ _ (.osl st.nx 0) (.sl xs)=_
   simp[appendV,elemsV,hd,hc,appG,appA,look,hr,updA]
  ·refine WD.ret (h1 _ rfl)
 unfold cloneC
 refine WD.seq (WD.regR [none] (vcR_op rfl (v:=.nils) (st':=st) rfl (vcOps_nil ?_)))
 show WD P N _ _ _ _
 refine WD.join (WD.seq (WD.regR [none,none] (vcR_op rfl (v:=.sl xs) (st':=st) rfl (vcR_nilk ?_))))
 have kf:WD P N (.i 4 (.g [.s 2 (.mv (.c .nils))] (.ret [2])) .skip) [(4,.bool false),(3,.sl xs),(2,.nils),(0,.sl xs)] st (seqPost (fun e1 s=>WD P N (.g [.s 5 (.bslice e es []),.m 6 0,.s 7 (.append e es b (.t 5) (.t 6)),.m 2 7] (.ret [2])) (restr [0] e1) s Q) Q) :=
  WD.cond (t:=false) rfl (fun h=>by cases h) fun _=>WD.skip hF
 show nilK st _ (.sl xs)
 cases xs with
 |nil =>
  refine⟨vcOps_nil ?_,vcOps_nil kf⟩
  refine WD.cond (t:=true) rfl (fun _=>?_) (fun h=>by cases h)
  refine WD.seq (WD.regR [none] (vcR_op rfl (v:=.nils) (st':=st) rfl (vcOps_nil ?_)))
  exact WD.ret (h0 rfl _ rfl)
 |cons x r =>
  simp only[nilK]
  exact vcOps_nil kf
def fast1:V→Bool
 | .osl _ _ | .nils | .clip _=>false
 |_=>true
def fastA:V→Bool
 | .agg cs=>cs.all fast1
 |v=>fast1 v
theorem fast1_snap {v:V}(h:fast1 v=true)(s:St):snap1 s v=some v:=by
 cases v<;>first|rfl|cases h
theorem mapO_id {f:V→Option V}:∀{l:List V},(∀v∈l,f v=some v)→mapO f l=some l
 |[],_=>rfl
 |v::r,h=>by
  simp only[mapO,h v (List.mem_cons_self ..),mapO_id (l:=r) fun x hx=>h x (List.mem_cons_of_mem _ hx)]
theorem fastA_snap {v:V}(h:fastA v=true)(s:St):snapA s v=some v:=by
 cases v<;>first|rfl|(cases h;done)|skip
 rename_i cs
 simp only[fastA,List.all_eq_true]at h
 simp only[snapA,mapO_id fun v hv=>fast1_snap (h v hv) s,Option.map_some]
theorem fast_all {xs:List V}(h:xs.all fastA=true)(s:St):mapO (snapA s) xs=some xs:=mapO_id fun v hv=>fastA_snap (List.all_eq_true.1 h v hv) s
def hClone (e es b:Nat):List V→St→Rt
 |[.sl []],st=>some (.ret (.sl []),st)
 |[.sl (x::r)],st=>if(x::r).all fastA=true∧(x::r).all (fun y=>y.cells.length == es)=true∧roomV (x::r).length b=true then some (.ret (.osl st.nx (x::r).length),⟨st.nx+1,st.mem,(st.nx,⟨e,es,x::r,true,false⟩)::st.arr,st.x⟩) else none
 |_,_=>none
theorem clone_ok {f:FuncId}{e es b:Nat}(hF:compF P f=some ⟨8,[.tmp 2],cloneC e es b⟩){args:List V}{st:St}{r:VRes}{s:St}(h:hClone e es b args st=some (r,s)):VCalls P f args st (fun r' s'=>r'=r∧s'=s):=by
 have hz:∀{env:Env}{s:St}{v:V},look env 2=some v→rawE [.tmp 2] (some (.ret,env,s))=some (.ret v,s):=fun h=>by
  simp[rawE,rawO,resV,h,resOne]
 unfold hClone at h
 split at h
 ·cases h
  refine VCalls_shutW (by rfl) (VCalls_WD hF (Nat.le_of_ble_eq_true rfl) fun N=>clone_W (fun _=>rfl) rfl (by simp[roomV]) (fun _ env he=>⟨_,_,hz he,rfl⟩) fun env he=>⟨_,_,hz he,?_⟩)
  rfl
 ·split at h
  ·rename_i hc
   cases h
   exact VCalls_WD hF (Nat.le_of_ble_eq_true rfl) fun N=>clone_W (fast_all hc.1) hc.2.1 hc.2.2 (fun h=>by cases h) fun env he=>⟨_,_,hz he,rfl,rfl⟩
  ·cases h
 ·cases h
end
end Go.Sha
