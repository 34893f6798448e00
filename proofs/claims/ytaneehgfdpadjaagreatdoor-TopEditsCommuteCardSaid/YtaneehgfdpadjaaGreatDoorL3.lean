/- edit.apply at the kinds whose methods leave an owned slice in the show: over a table in which such a method is closed at its end. Fixtures put: over the table HT. Edits of a list of cues: over the tab .. -/
import Derived.Test.YtaneehgfdpadjaaGreatDoorL2
import Derived.Test.YtaneehgfdpadjaaGreatDoorLShbYB
import Derived.Test.YtaneehgfdpadjaaGreatDoorProg
import Derived.KernelRfl
import Derived.Test.YtaneehgfdpadjaaGreatDoorLShbXR
import Derived.Test.YtaneehgfdpadjaaGreatDoorLShbAC
import Derived.OpenShut
import Derived.Test.YtaneehgfdpadjaaGreatDoorL1
import Derived.Shelf.Small.Utf8
import Derived.Shelf.Small.Bits
import Derived.Shelf.Small.Strs
import Derived.Shelf.Strconv.Atoi
import Derived.Shelf.Strconv.Itoa0
import Derived.Shelf.Strconv.Itoa1
import Derived.Shelf.LaysM
import Derived.Shelf.Strconv.Itoa2
import Derived.Shelf.Strconv.Itoa3
import Derived.Shelf.Strconv.AtoiErrFast
import Derived.Shelf.Strconv.ParseIntEmpty
import Derived.Shelf.Strconv.AtoiFail
import Derived.Shelf.Strconv.Clone
import Derived.Shelf.Strconv.SyntaxError
import Derived.Shelf.LaysC
import Derived.Shelf.Strconv.ToError
import Derived.Shelf.Strconv.Lower
import Derived.Shelf.Strconv.ParseUint10
import Derived.Shelf.Strconv.ParseUint10Empty
import Derived.Shelf.Strconv.ParseUint10Any
import Derived.Shelf.Strconv.ParseInt10
import Derived.Shelf.Strconv.AtoiLong
import Derived.Shelf.Strconv.AtoiInnerAll
import Derived.Shelf.Strconv.RangeError
import Derived.Shelf.Strconv.ToErrorRange
import Derived.Shelf.Strconv.AtoiAll
import Derived.Shelf.Strings.Search1
import Derived.Shelf.Strings.Search2
import Derived.Shelf.Strings.Cut
import Derived.Shelf.Strings.Shaped
import Derived.Shelf.GgClosure.StringsIndexFunc
import Derived.Ground.GgwProg
import Derived.Shelf.GgClosure.StringsIndexFuncTop
import Derived.Shelf.Unicode.Decode
import Derived.Shelf.Strings.Runes
import Derived.Shelf.Strings.AsciiSet
import Derived.Shelf.Unicode.DecodeSlow
import Derived.Shelf.Unicode.DecodeAny
import Derived.Shelf.Unicode.DecodeLast
import Derived.Ground.Names2Prog
import Derived.Shelf.Slices.SearchI
import Derived.Test.YtaneehgfdpadjaaGreatDoorLShbT
import Derived.Lib.AtoiAllCases
import Derived.Laws.RangeAny
import Derived.Test.YtaneehgfdpadjaaGreatDoorCards
import Derived.SizedLaws
import Derived.WalkKit
import Derived.ProofKit
import Derived.ChangeMaps5
import Derived.LaidLaws
import Derived.LaidHandle
import Derived.Lay
import Derived.SevenTiedAt
set_option linter.unusedSimpArgs false
set_option linter.unusedVariables false
namespace Go.Proofs.YtaneehgfdpadjaaGreatDoor
open Go.Sha
set_option maxRecDepth 100000
variable {g:List (Nat×Obj)}{n:Nat}
def memT:List Nat:=[20,44,188,189,190]
def clsT:List Nat:=[47,54,55]
def oldK:List V→Bool
 |[_,.agg (.int _ k::_)]=>k == 3||k == 4||k == 5||k == 6||k == 7||k == 8||k == 12||k == 13
 |_=>false
noncomputable def HT:EvF:=⟨HH.raw,fun f args st=>bif Nat.beq f 92 then hCls (run Tryz.prog HP) f args st else bif memL f clsT then hCls (run Tryz.prog HH) f args st else bif Nat.beq f 191 then hFzE (run Tryz.prog HH) f args st else bif memL f memT||(Nat.beq f 21&&oldK args) then run Tryz.prog HH f args st else none⟩
@[push_cast]theorem HT_raw:HT.raw=[103,113,173,179,183,265,270]:=idq rfl
theorem HT_ok (h1:ESound Tryz.prog HH):ESound Tryz.prog HT:=fun f args st r s h=>by
 simp only[HT]at h
 cases h92:Nat.beq f 92 with
 |true=>rw[h92]at h;exact cls_ok (run_sound mixed (HP_ok h1)) h
 |false =>
  rw[h92]at h
  cases hf:memL f clsT with
  |true=>rw[hf]at h;exact cls_ok (run_sound mixed h1) h
  |false =>
   rw[hf]at h
   cases h3:Nat.beq f 191 with
   |true=>rw[h3]at h;exact fz_ok (run_sound mixed h1) h
   |false =>
    rw[h3]at h
    cases hi:memL f memT||(Nat.beq f 21&&oldK args) with
    |false=>rw[hi]at h;cases h
    |true=>rw[hi]at h;exact run_sound mixed h1 _ _ _ _ _ h
theorem upT {k:Nat}{args:List V}{st:St}{r:VRes×St}(h:run Tryz.prog HH k args st=some r)(h0:Nat.beq k 92=false:=by rfl)(h1:memL k clsT=false:=by rfl)(h2:memL k memT=true:=by rfl)(h3:Nat.beq k 191=false:=by rfl):run Tryz.prog HT k args st=some r:=by
 refine run_H ?_
 simp only[HT,h0,h1,h2,h3,Bool.true_or,cond_false,cond_true,h]
theorem up24 {x:V}{e:Edi}{st:St}{r:VRes×St}(hk:e.kind=3∨e.kind=4∨e.kind=5∨e.kind=6∨e.kind=7∨e.kind=8∨e.kind=12∨e.kind=13)(h:run Tryz.prog HH 21 [x,e.v] st=some r):run Tryz.prog HT 21 [x,e.v] st=some r:=by
 refine run_H ?_
 have h1:memL 21 clsT=false:=rfl
 have h2:(memL 21 memT||(Nat.beq 21 21&&oldK [x,e.v]))=true:=by
  have h3:oldK [x,e.v]=true:=by
   simp only[Edi.v,oldK]
   rcases hk with hk|hk|hk|hk|hk|hk|hk|hk<;>simp[hk]
  rw[h3];rfl
 simp only[HT,h1,h2,show Nat.beq 21 92=false from rfl,show Nat.beq 21 191=false from rfl,cond_false,cond_true,h]
theorem new24 {x:V}{e:Edi}{st:St}(hk:¬(e.kind=3∨e.kind=4∨e.kind=5∨e.kind=6∨e.kind=7∨e.kind=8∨e.kind=12∨e.kind=13)):HT 21 [x,e.v] st=none:=by
 have h1:memL 21 clsT=false:=rfl
 have h2:(memL 21 memT||(Nat.beq 21 21&&oldK [x,e.v]))=false:=by
  have h3:oldK [x,e.v]=false:=by
   simp only[not_or]at hk
   simp only[Edi.v,oldK]
   simp[hk]
  rw[h3];rfl
 simp only[HT,h1,h2,show Nat.beq 21 92=false from rfl,show Nat.beq 21 191=false from rfl,cond_false]
theorem f54 {s:Sho}{e:Edi}(hl:s.effs.length<1000000):run Tryz.prog HT 54 [.ptr 3 0] (stE g s e)=some (.ret (.int .i64 0),stE g { s with effs:=effN e.eff s.effs } e):=run_H (f57c hl)
theorem f55 {s:Sho}{e:Edi}(hv:-9223372036854775808≤e.num∧e.num≤9223372036854775807)(hl:s.effs.length<1000000)(hb:∀q∈s.effs,q.wave.length<140737488355328):run Tryz.prog HT 55 [.ptr 3 0] (stE g s e)=some (.ret (.int .i64 (effDl s.effs e.num)),stE g { s with effs:=if effDl s.effs e.num=0 then delT Eff.num e.num s.effs else s.effs } e):=run_H (f58c hv hl hb)
theorem f47 {s:Sho}{e:Edi}(hl:s.lsts.length<1000000):run Tryz.prog HT 47 [.ptr 3 0] (stE g s e)=some (.ret (.int .i64 0),stE g { s with lsts:=priN e.num e.prio s.lsts } e):=run_H (f50c hl)
theorem f21_2 {s s':Sho}{e:Edi}{c:Int}(hk:e.kind=2)(hm:e.cue.moves.length<140737488355328)(hp:e.cue.parts.length<140737488355328)
  (hM:∀g:List (Nat×Obj),run Tryz.prog HT 47 [.ptr 3 0] (stE g s e)=some (.ret (.int .i64 c),stE g s' e)) (hok:c=0→s'.ok) {st:St} :
  run Tryz.prog HT 21 [s.v,e.v] st=some (.ret (.tup [(if appR e s' c=0 then s' else S0).v,.int .i64 (appR e s' c)]),st):=by
 have h14:=fun(st:St)=>upT (f44 hm hp (st:=st))
 have hM':=hM st.x.gl
 unfold stE at hM'
 rw[edC_eq,edC_eq,hk]at hM'
 rw[run_shut F21 (new24 (by simp[hk])) rfl (by simp)]
 push_cast[Edi.v,Sho.v,hk]at h14
 by_cases c1:edtC e=0
 ·by_cases c2:c=0
  ·have h18:=fun(st:St)=>upT (f20 (hok c2) (st:=st))
   have e1:appR e s' 0=shoC s':=by rw[appR,if_neg (by simp[c1]),if_neg (by simp)]
   push_cast[Sho.v]at h18
   by_cases c3:shoC s'=0
   ·push_cast[Edi.v,Sho.v,hk,h14,c1,hM',c2,e1,c3,h18]
   ·push_cast[Edi.v,Sho.v,hk,h14,c1,hM',c2,e1,c3,h18,S0,List.map_nil]
  ·have e1:appR e s' c=c:=by rw[appR,if_neg (by simp[c1]),if_pos c2]
   push_cast[Edi.v,Sho.v,hk,h14,c1,hM',c2,e1,S0,List.map_nil]
 ·have e1:appR e s' c=edtC e:=if_pos c1
  push_cast[Edi.v,Sho.v,hk,h14,c1,e1,S0,List.map_nil]
theorem f21_9 {s s':Sho}{e:Edi}{c:Int}(hk:e.kind=9)(hm:e.cue.moves.length<140737488355328)(hp:e.cue.parts.length<140737488355328)
  (hM:∀g:List (Nat×Obj),run Tryz.prog HT 54 [.ptr 3 0] (stE g s e)=some (.ret (.int .i64 c),stE g s' e)) (hok:c=0→s'.ok) {st:St} :
  run Tryz.prog HT 21 [s.v,e.v] st=some (.ret (.tup [(if appR e s' c=0 then s' else S0).v,.int .i64 (appR e s' c)]),st):=by
 have h14:=fun(st:St)=>upT (f44 hm hp (st:=st))
 have hM':=hM st.x.gl
 unfold stE at hM'
 rw[edC_eq,edC_eq,hk]at hM'
 rw[run_shut F21 (new24 (by simp[hk])) rfl (by simp)]
 push_cast[Edi.v,Sho.v,hk]at h14
 by_cases c1:edtC e=0
 ·by_cases c2:c=0
  ·have h18:=fun(st:St)=>upT (f20 (hok c2) (st:=st))
   have e1:appR e s' 0=shoC s':=by rw[appR,if_neg (by simp[c1]),if_neg (by simp)]
   push_cast[Sho.v]at h18
   by_cases c3:shoC s'=0
   ·push_cast[Edi.v,Sho.v,hk,h14,c1,hM',c2,e1,c3,h18]
   ·push_cast[Edi.v,Sho.v,hk,h14,c1,hM',c2,e1,c3,h18,S0,List.map_nil]
  ·have e1:appR e s' c=c:=by rw[appR,if_neg (by simp[c1]),if_pos c2]
   push_cast[Edi.v,Sho.v,hk,h14,c1,hM',c2,e1,S0,List.map_nil]
 ·have e1:appR e s' c=edtC e:=if_pos c1
  push_cast[Edi.v,Sho.v,hk,h14,c1,e1,S0,List.map_nil]
theorem f21_10 {s s':Sho}{e:Edi}{c:Int}(hk:e.kind=10)(hm:e.cue.moves.length<140737488355328)(hp:e.cue.parts.length<140737488355328)
  (hM:∀g:List (Nat×Obj),run Tryz.prog HT 55 [.ptr 3 0] (stE g s e)=some (.ret (.int .i64 c),stE g s' e)) (hok:c=0→s'.ok) {st:St} :
  run Tryz.prog HT 21 [s.v,e.v] st=some (.ret (.tup [(if appR e s' c=0 then s' else S0).v,.int .i64 (appR e s' c)]),st):=by
 have h14:=fun(st:St)=>upT (f44 hm hp (st:=st))
 have hM':=hM st.x.gl
 unfold stE at hM'
 rw[edC_eq,edC_eq,hk]at hM'
 rw[run_shut F21 (new24 (by simp[hk])) rfl (by simp)]
 push_cast[Edi.v,Sho.v,hk]at h14
 by_cases c1:edtC e=0
 ·by_cases c2:c=0
  ·have h18:=fun(st:St)=>upT (f20 (hok c2) (st:=st))
   have e1:appR e s' 0=shoC s':=by rw[appR,if_neg (by simp[c1]),if_neg (by simp)]
   push_cast[Sho.v]at h18
   by_cases c3:shoC s'=0
   ·push_cast[Edi.v,Sho.v,hk,h14,c1,hM',c2,e1,c3,h18]
   ·push_cast[Edi.v,Sho.v,hk,h14,c1,hM',c2,e1,c3,h18,S0,List.map_nil]
  ·have e1:appR e s' c=c:=by rw[appR,if_neg (by simp[c1]),if_pos c2]
   push_cast[Edi.v,Sho.v,hk,h14,c1,hM',c2,e1,S0,List.map_nil]
 ·have e1:appR e s' c=edtC e:=if_pos c1
  push_cast[Edi.v,Sho.v,hk,h14,c1,e1,S0,List.map_nil]
end Go.Proofs.YtaneehgfdpadjaaGreatDoor

namespace Go.Proofs.YtaneehgfdpadjaaGreatDoor
open Go.Sha
set_option maxRecDepth 100000
variable {g:List (Nat×Obj)}{n:Nat}
theorem f193T {l:List Fixt}{ps:List Prof}(hl:l.length<140737488355328)(hb:∀x∈l,x.cable.length<140737488355328)(hp:ps.length<140737488355328){id k:Nat}{wr:Bool}{st:St}(h:Sha.look st.arr id=some ⟨49,7,l.map Fixt.v,wr,false⟩)(hk:l.length=k) :
  run Tryz.prog HT 191 [.osl id k,.sl (ps.map Prof.v)] st=some (.ret (.tup [.sl ((if fixCR l ps=0 then l else[]).map Fixt.v),.int .i64 (fixCR l ps)]),frzS st id ⟨49,7,l.map Fixt.v,wr,false⟩):=by
 refine run_H ?_
 have h1:memL 191 clsT=false:=rfl
 have h2:Nat.beq 191 191=true:=rfl
 simp only[HT,h1,h2,show Nat.beq 191 92=false from rfl,cond_false,cond_true,hFzE,oslI,h,List.map]
 have e1:(snapA (frzS st id ⟨49,7,l.map Fixt.v,wr,false⟩) (.osl id k)).getD (.osl id k)=.sl (l.map Fixt.v):=by
  simp[snapA,snap1,frzS,look_updA,h,hk]
 rw[e1]
 exact f191 hl hb hp
def fixN (x:Fixt)(l:List Fixt):List Fixt:=if fixI l x.chan x.part<0 then l++[x] else l.set (fixI l x.chan x.part).toNat x
def fixP (l:List Fixt)(ps:List Prof)(x:Fixt):Int:=if fixCR l ps=0 then fixCR (fixN x l) ps else fixCR l ps
theorem f116 {l:List Fixt}{ps:List Prof}{x:Fixt}(hl:l.length<1000000)(hb:∀x∈l,x.cable.length<140737488355328)(hx:x.cable.length<140737488355328)(hp:ps.length<140737488355328){st:St} :
  run Tryz.prog HT 116 [.sl (l.map Fixt.v),.sl (ps.map Prof.v),x.v] st=some (.ret (.tup [.sl ((if fixP l ps x=0 then fixN x l else[]).map Fixt.v),.int .i64 (fixP l ps x)]),st):=by
 have h190:=fun(st:St)=>upT <| f188 (l:=l) (ps:=ps) (st:=st) (by omega) hb hp
 have h192:=fun(st:St)=>upT <| f190 (l:=l) (ps:=dedP ps) (c:=x.chan) (d:=x.part) (st:=st) (by omega)
 have h191:=fun(st:St)=>upT <| r_cln (k:=189) (e:=49) (es:=7) (b:=72) (f:=Fixt.v) (l:=l) (st:=st) (fun _ _=>rfl) (fun _=>rfl) (fun _=>rfl) (by omega) (by omega)
 have hN:(fixN x l).length<140737488355328:=by unfold fixN;split<;>simp<;>omega
 have hB:∀y∈fixN x l,y.cable.length<140737488355328:=by
  intro y hy
  unfold fixN at hy
  split at hy
  ·rcases List.mem_append.1 hy with h|h
   ·exact hb y h
   ·rw[List.mem_singleton.1 h];exact hx
  ·rcases List.mem_or_eq_of_mem_set hy with h|h
   ·exact hb y h
   ·rw[h];exact hx
 rw[run_shut F116 rfl rfl (by simp)]
 rw[show ix (fun y:Fixt=>decide (y.chan=x.chan)&&y.part == x.part) l 0=fixI l x.chan x.part from rfl]at h192
 obtain⟨i1,i2⟩:=fixI_lt (l:=l) (c:=x.chan) (d:=x.part)
 by_cases c1:fixCR l ps=0
 ·rw[c1,if_pos rfl]at h190
  have eP:fixP l ps x=fixCR (fixN x l) ps:=if_pos c1
  rw[eP]
  push_cast[rigV,Fixt.v]at h190 h191 h192
  by_cases c2:fixI l x.chan x.part<0
  ·have c3:¬0≤fixI l x.chan x.part:=by omega
   have e1:fixN x l=l++[x]:=if_pos c2
   have hro:roomV (l.length+1) 72=true:=room_ok (by omega) (by omega)
   have e2:(fixN x l).map Fixt.v=l.map Fixt.v++[x.v]:=by rw[e1];simp
   rw[Fixt.v]at e2
   push_cast[h190,h191,h192,c1,c2,c3,hro,Fixt.v,List.map_append,List.map_cons,List.map_nil]
   rw[f193T (l:=fixN x l) (ps:=ps) (id:=2) (k:=l.length+1) (wr:=true) hN hB hp (by rw[e2];rfl) (by simp[e1])]
   push_cast[frzS]
  ·have c3:0≤fixI l x.chan x.part:=by omega
   have e1:fixN x l=l.set (fixI l x.chan x.part).toNat x:=if_neg c2
   obtain⟨k,hk⟩:∃k:Nat,fixI l x.chan x.part=k:=⟨(fixI l x.chan x.part).toNat,by omega⟩
   rw[hk]at h192 e1 i2
   rw[Int.toNat_natCast]at e1
   have hlt:k<l.length:=by omega
   have hy:l[k]?=some (l[k]'hlt):=List.getElem?_eq_getElem hlt
   generalize l[k]'hlt=y at *
   have hset:(l.map Fixt.v).set k x.v=(l.set k x).map Fixt.v:=by rw[List.map_set]
   rw[e1]at hN hB ⊢
   push_cast[Fixt.v]at hset
   push_cast[h190,h191,h192,c1,hlt,i2,hy,Fixt.v,V.cells,V.recell,stoB,hset,List.length_set]
   rw[f193T (l:=l.set k x) (ps:=ps) (id:=2) (k:=l.length) (wr:=true) hN hB hp rfl (by simp)]
   push_cast[frzS]
 ·rw[if_neg c1]at h190
  have eP:fixP l ps x=fixCR l ps:=if_neg c1
  push_cast[h190,eP,c1,List.map_nil]
theorem f56 {s:Sho}{e:Edi}(hl:s.fixts.length<1000000)(hb:∀x∈s.fixts,x.cable.length<140737488355328)(hx:e.fix.cable.length<140737488355328)(hp:s.profs.length<140737488355328) :
  run Tryz.prog HT 56 [.ptr 3 0] (stE g s e)=some (.ret (.int .i64 (fixP s.fixts s.profs e.fix)),stE g { s with fixts:=if fixP s.fixts s.profs e.fix=0 then fixN e.fix s.fixts else[] } e):=by
 have h118:=fun(st:St)=>f116 hl hb hx hp (st:=st)
 unfold stE
 rw[edC_eq,edC_eq]
 rw[run_open F56 rfl rfl (by simp)]
 push_cast[Fixt.v,Prof.v]at h118
 push_cast[h118]
theorem f24_11T {s s':Sho}{e:Edi}{c:Int}(hk:e.kind=11)(hm:e.cue.moves.length<140737488355328)(hp:e.cue.parts.length<140737488355328)
  (hM:∀g:List (Nat×Obj),run Tryz.prog HT 56 [.ptr 3 0] (stE g s e)=some (.ret (.int .i64 c),stE g s' e)) (hok:c=0→s'.ok) {st:St} :
  run Tryz.prog HT 21 [s.v,e.v] st=some (.ret (.tup [(if appR e s' c=0 then s' else S0).v,.int .i64 (appR e s' c)]),st):=by
 have h14:=fun(st:St)=>upT (f44 hm hp (st:=st))
 have hM':=hM st.x.gl
 unfold stE at hM'
 rw[edC_eq,edC_eq,hk]at hM'
 rw[run_shut F21 (new24 (by simp[hk])) rfl (by simp)]
 push_cast[Edi.v,Sho.v,hk]at h14
 by_cases c1:edtC e=0
 ·by_cases c2:c=0
  ·have h18:=fun(st:St)=>upT (f20 (hok c2) (st:=st))
   have e1:appR e s' 0=shoC s':=by rw[appR,if_neg (by simp[c1]),if_neg (by simp)]
   push_cast[Sho.v]at h18
   by_cases c3:shoC s'=0
   ·push_cast[Edi.v,Sho.v,hk,h14,c1,hM',c2,e1,c3,h18]
   ·push_cast[Edi.v,Sho.v,hk,h14,c1,hM',c2,e1,c3,h18,S0,List.map_nil]
  ·have e1:appR e s' c=c:=by rw[appR,if_neg (by simp[c1]),if_pos c2]
   push_cast[Edi.v,Sho.v,hk,h14,c1,hM',c2,e1,S0,List.map_nil]
 ·have e1:appR e s' c=edtC e:=if_pos c1
  push_cast[Edi.v,Sho.v,hk,h14,c1,e1,S0,List.map_nil]
end Go.Proofs.YtaneehgfdpadjaaGreatDoor

namespace Go.Proofs.YtaneehgfdpadjaaGreatDoor
open Go.Sha
set_option maxRecDepth 100000
variable {g:List (Nat×Obj)}{n:Nat}
theorem f48_of {s s':Sho}{e:Edi}{c:Int}(h:hCls (run Tryz.prog HP) 92 [.ptr 3 0,.fn (.func 93) [] [.ep (.agg [.ptr 3 0]) 0]] (stF g s e)=some (.ret (.int .i64 c),stF g s' e)) :
  run Tryz.prog HT 45 [.ptr 3 0] (stE g s e)=some (.ret (.int .i64 c),stE g s' e):=by
 have h94:run Tryz.prog HT 92 [.ptr 3 0,.fn (.func 93) [] [.ep (.agg [.ptr 3 0]) 0]] (stF g s e)=some (.ret (.int .i64 c),stF g s' e):=run_H h
 unfold stF at h94
 unfold stE
 rw[edC_eq,edC_eq]at h94 ⊢
 rw[run_open F45 rfl rfl (by simp)]
 push_cast[h94]
theorem f49_of {s s':Sho}{e:Edi}{c:Int}(h:hCls (run Tryz.prog HP) 92 [.ptr 3 0,.fn (.func 95) [] [.ep (.agg [.ptr 3 0]) 0]] (stF g s e)=some (.ret (.int .i64 c),stF g s' e)) :
  run Tryz.prog HT 46 [.ptr 3 0] (stE g s e)=some (.ret (.int .i64 c),stE g s' e):=by
 have h94:run Tryz.prog HT 92 [.ptr 3 0,.fn (.func 95) [] [.ep (.agg [.ptr 3 0]) 0]] (stF g s e)=some (.ret (.int .i64 c),stF g s' e):=run_H h
 unfold stF at h94
 unfold stE
 rw[edC_eq,edC_eq]at h94 ⊢
 rw[run_open F46 rfl rfl (by simp)]
 push_cast[h94]
theorem f21_0 {s s':Sho}{e:Edi}{c:Int}(hk:e.kind=0)(hm:e.cue.moves.length<140737488355328)(hp:e.cue.parts.length<140737488355328)
  (hM:∀g:List (Nat×Obj),run Tryz.prog HT 45 [.ptr 3 0] (stE g s e)=some (.ret (.int .i64 c),stE g s' e)) (hok:c=0→s'.ok) {st:St} :
  run Tryz.prog HT 21 [s.v,e.v] st=some (.ret (.tup [(if appR e s' c=0 then s' else S0).v,.int .i64 (appR e s' c)]),st):=by
 have h14:=fun(st:St)=>upT (f44 hm hp (st:=st))
 have hM':=hM st.x.gl
 unfold stE at hM'
 rw[edC_eq,edC_eq,hk]at hM'
 rw[run_shut F21 (new24 (by simp[hk])) rfl (by simp)]
 push_cast[Edi.v,Sho.v,hk]at h14
 by_cases c1:edtC e=0
 ·by_cases c2:c=0
  ·have h18:=fun(st:St)=>upT (f20 (hok c2) (st:=st))
   have e1:appR e s' 0=shoC s':=by rw[appR,if_neg (by simp[c1]),if_neg (by simp)]
   push_cast[Sho.v]at h18
   by_cases c3:shoC s'=0
   ·push_cast[Edi.v,Sho.v,hk,h14,c1,hM',c2,e1,c3,h18]
   ·push_cast[Edi.v,Sho.v,hk,h14,c1,hM',c2,e1,c3,h18,S0,List.map_nil]
  ·have e1:appR e s' c=c:=by rw[appR,if_neg (by simp[c1]),if_pos c2]
   push_cast[Edi.v,Sho.v,hk,h14,c1,hM',c2,e1,S0,List.map_nil]
 ·have e1:appR e s' c=edtC e:=if_pos c1
  push_cast[Edi.v,Sho.v,hk,h14,c1,e1,S0,List.map_nil]
theorem f21_1 {s s':Sho}{e:Edi}{c:Int}(hk:e.kind=1)(hm:e.cue.moves.length<140737488355328)(hp:e.cue.parts.length<140737488355328)
  (hM:∀g:List (Nat×Obj),run Tryz.prog HT 46 [.ptr 3 0] (stE g s e)=some (.ret (.int .i64 c),stE g s' e)) (hok:c=0→s'.ok) {st:St} :
  run Tryz.prog HT 21 [s.v,e.v] st=some (.ret (.tup [(if appR e s' c=0 then s' else S0).v,.int .i64 (appR e s' c)]),st):=by
 have h14:=fun(st:St)=>upT (f44 hm hp (st:=st))
 have hM':=hM st.x.gl
 unfold stE at hM'
 rw[edC_eq,edC_eq,hk]at hM'
 rw[run_shut F21 (new24 (by simp[hk])) rfl (by simp)]
 push_cast[Edi.v,Sho.v,hk]at h14
 by_cases c1:edtC e=0
 ·by_cases c2:c=0
  ·have h18:=fun(st:St)=>upT (f20 (hok c2) (st:=st))
   have e1:appR e s' 0=shoC s':=by rw[appR,if_neg (by simp[c1]),if_neg (by simp)]
   push_cast[Sho.v]at h18
   by_cases c3:shoC s'=0
   ·push_cast[Edi.v,Sho.v,hk,h14,c1,hM',c2,e1,c3,h18]
   ·push_cast[Edi.v,Sho.v,hk,h14,c1,hM',c2,e1,c3,h18,S0,List.map_nil]
  ·have e1:appR e s' c=c:=by rw[appR,if_neg (by simp[c1]),if_pos c2]
   push_cast[Edi.v,Sho.v,hk,h14,c1,hM',c2,e1,S0,List.map_nil]
 ·have e1:appR e s' c=edtC e:=if_pos c1
  push_cast[Edi.v,Sho.v,hk,h14,c1,e1,S0,List.map_nil]
end Go.Proofs.YtaneehgfdpadjaaGreatDoor

namespace Go.Proofs.YtaneehgfdpadjaaGreatDoor
open Go.Sha
set_option maxRecDepth 100000
variable {g:List (Nat×Obj)}{n:Nat}
def lC (l:List Lst)(v:Int)(E:Lst→Int):Int:=if lstI l v<0 then 6 else E (l.getD (lstI l v).toNat default)
def lSet (l:List Lst)(v:Int)(L:Lst→Lst):List Lst:=l.set (lstI l v).toNat (L (l.getD (lstI l v).toNat default))
theorem f45 {s:Sho}{e:Edi}(hs:s.ok)(h0:shoC s=0)(hl:s.lsts.length<1000000)(hq:∀q∈s.lsts,q.cues.length<12)(hc:e.cue.ok) :
  run Tryz.prog HT 45 [.ptr 3 0] (stE g s e)=some (.ret (.int .i64 (lC s.lsts e.num fun y=>puE y e.cue)),stE g { s with lsts:=if lC s.lsts e.num (fun y=>puE y e.cue)=0 then lSet s.lsts e.num (fun y=>puL y e.cue) else s.lsts } e):=by
 have hlt:=@lstI_lt s.lsts e.num
 by_cases h:lstI s.lsts e.num<0
 ·have c1:fndC s e.num=6:=by rw[fndC,if_neg (by simp[h0]),if_pos h]
  have e1:∀E,lC s.lsts e.num E=6:=fun E=>if_pos h
  have:=f94n (g:=g) (e:=e) (k:=93) hs hl (by rw[c1];decide)
  rw[c1]at this
  rw[e1,if_neg (by decide)]
  exact f48_of this
 ·have c1:fndC s e.num=0:=by rw[fndC,if_neg (by simp[h0]),if_neg h]
  obtain⟨i,hi⟩:∃i:Nat,lstI s.lsts e.num=i:=⟨(lstI s.lsts e.num).toNat,by omega⟩
  have hil:i<s.lsts.length:=by omega
  obtain⟨y,hy⟩:∃y,s.lsts[i]?=some y:=⟨_,List.getElem?_eq_getElem hil⟩
  have hyD:s.lsts.getD i default=y:=by rw[List.getD_eq_getElem?_getD,hy];rfl
  have hym:y∈s.lsts:=List.mem_of_getElem? hy
  have e1:∀E:Lst→Int,lC s.lsts e.num E=E y:=fun E=>by rw[lC,if_neg h,hi,Int.toNat_natCast,hyD]
  have e2:∀L:Lst→Lst,lSet s.lsts e.num L=s.lsts.set i (L y):=fun L=>by rw[lSet,hi,Int.toNat_natCast,hyD]
  have:=f94c (g:=g) (s:=s) (e:=e) (k:=93) (i:=i) (.inl rfl) (y:=y) hs hl c1 hi hy (f93 (g:=g) (s:=s) (hs.k.2 y hym) hc (hq y hym))
  rw[e1,e2]
  have k:=f48_of this
  by_cases c:puE y e.cue=0
  ·simpa [c] using k
  ·simpa [c] using k
theorem f46 {s:Sho}{e:Edi}(hs:s.ok)(h0:shoC s=0)(hl:s.lsts.length<1000000)(hq:∀q∈s.lsts,q.cues.length<12)(hk:e.key.length<140737488355328) :
  run Tryz.prog HT 46 [.ptr 3 0] (stE g s e)=some (.ret (.int .i64 (lC s.lsts e.num fun y=>goE y e.key)),stE g { s with lsts:=if lC s.lsts e.num (fun y=>goE y e.key)=0 then lSet s.lsts e.num (fun y=>goL y e.key) else s.lsts } e):=by
 have hlt:=@lstI_lt s.lsts e.num
 by_cases h:lstI s.lsts e.num<0
 ·have c1:fndC s e.num=6:=by rw[fndC,if_neg (by simp[h0]),if_pos h]
  have e1:∀E,lC s.lsts e.num E=6:=fun E=>if_pos h
  have:=f94n (g:=g) (e:=e) (k:=95) hs hl (by rw[c1];decide)
  rw[c1]at this
  rw[e1,if_neg (by decide)]
  exact f49_of this
 ·have c1:fndC s e.num=0:=by rw[fndC,if_neg (by simp[h0]),if_neg h]
  obtain⟨i,hi⟩:∃i:Nat,lstI s.lsts e.num=i:=⟨(lstI s.lsts e.num).toNat,by omega⟩
  have hil:i<s.lsts.length:=by omega
  obtain⟨y,hy⟩:∃y,s.lsts[i]?=some y:=⟨_,List.getElem?_eq_getElem hil⟩
  have hyD:s.lsts.getD i default=y:=by rw[List.getD_eq_getElem?_getD,hy];rfl
  have hym:y∈s.lsts:=List.mem_of_getElem? hy
  have e1:∀E:Lst→Int,lC s.lsts e.num E=E y:=fun E=>by rw[lC,if_neg h,hi,Int.toNat_natCast,hyD]
  have e2:∀L:Lst→Lst,lSet s.lsts e.num L=s.lsts.set i (L y):=fun L=>by rw[lSet,hi,Int.toNat_natCast,hyD]
  have:=f94c (g:=g) (s:=s) (e:=e) (k:=95) (i:=i) (.inr rfl) (y:=y) hs hl c1 hi hy (f95 (g:=g) (s:=s) (hs.k.2 y hym) (by have:=hq y hym;omega) hk)
  rw[e1,e2]
  exact f49_of this
theorem f21_n {s:Sho}{e:Edi}(hk:¬(e.kind=3∨e.kind=4∨e.kind=5∨e.kind=6∨e.kind=7∨e.kind=8∨e.kind=12∨e.kind=13))(hc:¬edtC e=0)(hm:e.cue.moves.length<140737488355328)(hp:e.cue.parts.length<140737488355328){st:St} :
  run Tryz.prog HT 21 [s.v,e.v] st=some (.ret (.tup [S0.v,.int .i64 (edtC e)]),st):=by
 have h14:=fun(st:St)=>upT (f44 hm hp (st:=st))
 rw[run_shut F21 (new24 hk) rfl (by simp)]
 push_cast[Edi.v,Sho.v]at h14
 push_cast[Edi.v,Sho.v,h14,hc,S0,List.map_nil]
end Go.Proofs.YtaneehgfdpadjaaGreatDoor

namespace Go.Proofs.YtaneehgfdpadjaaGreatDoor
open Go.Sha
set_option maxRecDepth 100000
variable {g:List (Nat×Obj)}{n:Nat}
theorem shoC_all {x:Sho}:shoC x=0↔labC x.title=0∧cursC x.curves=0∧profsCR x.profs x.curves=0∧fixCR x.fixts x.profs=0∧grpsC x.grps=0∧palsCR x.pals=0∧lstsC x.lsts=0∧subsCR x.subs=0∧effsC x.effs=0:=by
 constructor
 ·intro h
  unfold shoC uniC at h
  repeat' split at h
  all_goals first|(rename_i a;exact absurd h a)|skip
  simp_all
 ·rintro⟨h1,h2,h3,h4,h5,h6,h7,h8,h9⟩
  simp[shoC,uniC,h1,h2,h3,h4,h5,h6,h7,h8,h9]
structure Edi.ok (e:Edi):Prop where
 n:-9223372036854775808≤e.num∧e.num≤9223372036854775807
 k:e.key.length<140737488355328
 c:e.cue.ok
 p:e.pal.hues.length<140737488355328
 g:e.grp.chans.length<140737488355328
 s:e.sub.gains.length<140737488355328
 x:e.eff.wave.length<140737488355328
 f:e.fix.cable.length<140737488355328
def tV (e:Edi)(t:List UInt8):List UInt8:=if e.kind=13 then e.key else t
def lV (e:Edi)(l:List Lst):List Lst:=if e.kind=0 then lSet l e.num (fun y=>puL y e.cue) else if e.kind=1 then lSet l e.num (fun y=>goL y e.key) else if e.kind=2 then priN e.num e.prio l else l
def pV (e:Edi)(l:List Pal):List Pal:=if e.kind=3 then insT Pal.num e.pal l else if e.kind=4 then delT Pal.num e.num l else l
def gV (e:Edi)(l:List Grp):List Grp:=if e.kind=5 then insT Grp.num e.grp l else if e.kind=6 then delT Grp.num e.num l else l
def sV (e:Edi)(l:List Sb):List Sb:=if e.kind=7 then insT Sb.num e.sub l else if e.kind=8 then delT Sb.num e.num l else l
def xV (e:Edi)(l:List Eff):List Eff:=if e.kind=9 then effN e.eff l else if e.kind=10 then delT Eff.num e.num l else l
def fV (e:Edi)(l:List Fixt):List Fixt:=if e.kind=11 then fixN e.fix l else if e.kind=12 then fixX l e.chan e.num else l
def eS (s:Sho)(e:Edi):Sho:=⟨tV e s.title,s.curves,s.profs,fV e s.fixts,gV e s.grps,pV e s.pals,lV e s.lsts,sV e s.subs,xV e s.effs⟩
def eC (s:Sho)(e:Edi):Int :=
 if e.kind=0 then lC s.lsts e.num (fun y=>puE y e.cue) else if e.kind=1 then lC s.lsts e.num (fun y=>goE y e.key) else if e.kind=3 then palT s.pals e.pal else if e.kind=4 then palD s.pals e.num
 else if e.kind=5 then grpT s.grps e.grp else if e.kind=6 then grpD s.grps e.num else if e.kind=7 then sbT s.subs e.sub else if e.kind=8 then sbD s.subs e.num else if e.kind=10 then effDl s.effs e.num
 else if e.kind=11 then fixP s.fixts s.profs e.fix else if e.kind=12 then fixD s.fixts s.profs e.chan e.num else 0
def apC (s:Sho)(e:Edi):Int:=appR e (eS s e) (eC s e)
def Sz {α:Type}(P:α→Prop)(l r:List α):Prop:=r.length≤2*l.length+1∧∀q∈r,q∈l∨P q
theorem Sz.refl {α:Type}{P:α→Prop}{l:List α}:Sz P l l:=⟨by omega,fun q h=>.inl h⟩
theorem Sz.ins {α:Type}{key:α→Int}{x:α}{l:List α}{P:α→Prop}(h:P x):Sz P l (insT key x l):=by
 have h1:=List.length_filter_le (fun y=>decide (key y<key x)) l
 have h2:=List.length_filter_le (fun y=>decide (key x<key y)) l
 refine⟨by simp only[insT,List.length_append,List.length_cons];omega,fun q hq=>?_⟩
 simp only[insT,List.mem_append,List.mem_cons,List.mem_filter]at hq
 rcases hq with hq|hq|hq
 ·exact .inl hq.1
 ·rw[hq];exact .inr h
 ·exact .inl hq.1
theorem Sz.del {α:Type}{key:α→Int}{v:Int}{l:List α}{P:α→Prop}:Sz P l (delT key v l) :=
 ⟨by have:=List.length_filter_le (fun y=>decide (¬key y=v)) l;simp only[delT];omega,fun q hq=>.inl (List.mem_filter.1 hq).1⟩
theorem Sz.set {α:Type}{x:α}{i:Nat}{l:List α}{P:α→Prop}(h:P x):Sz P l (l.set i x) :=
 ⟨by rw[List.length_set];omega,fun q hq=>(List.mem_or_eq_of_mem_set hq).elim .inl fun e=>by rw[e];exact .inr h⟩
theorem Sz.put {α:Type}{x:α}{i:Nat}{l:List α}{P:α→Prop}(h:P x):Sz P l (l.take i++[x]++l.drop i):=by
 refine⟨by simp;omega,fun q hq=>?_⟩
 simp only[List.mem_append,List.mem_singleton]at hq
 rcases hq with(hq|hq)|hq
 ·exact .inl (List.mem_of_mem_take hq)
 ·rw[hq];exact .inr h
 ·exact .inl (List.mem_of_mem_drop hq)
theorem Sz.all {α:Type}{P:α→Prop}{l r:List α}(h:Sz P l r)(hl:l.length<1000000)(ha:∀q∈l,P q):r.length<140737488355328∧∀q∈r,P q :=
 ⟨by have:=h.1;omega,fun q hq=>(h.2 q hq).elim (ha q) fun a=>a⟩
theorem cuD:(default:Lst).ok:=⟨by decide,fun q hq=>by cases hq⟩
theorem getD_P {α:Type}[Inhabited α]{P:α→Prop}{l:List α}{i:Nat}(ha:∀q∈l,P q)(hd:P default):P (l.getD i default):=by
 rw[List.getD_eq_getElem?_getD]
 cases h:l[i]? with
 |none=>exact hd
 |some x=>exact ha x (List.mem_of_getElem? h)
def cq (x:Lst):Prop:=x.ok∧x.cues.length<12
theorem pu_ok {x:Lst}{c:Cu}(h:cq x)(hc:c.ok):(puL x c).ok:=by
 have hw:=woC_len (s:=c.num) (l:=x.cues)
 refine⟨?_,fun q hq=>?_⟩
 ·show(isort ltC (woC c.num x.cues++[c])).length<_
  rw[isort_len,List.length_append]
  have:=h.2
  simp only[List.length_cons,List.length_nil];omega
 ·rcases List.mem_append.1 (isort_mem.1 hq) with h1|h1
  ·exact h.1.2 q (List.mem_filter.1 h1).1
  ·rw[List.mem_singleton.1 h1];exact hc
theorem go_ok {x:Lst}{k:List UInt8}(h:cq x):(goL x k).ok:=by
 unfold goL drL
 have h0:L0.ok:=⟨by decide,fun q hq=>by cases hq⟩
 split
 ·split
  ·split
   ·refine⟨?_,fun q hq=>?_⟩
    ·have:=h.2
     simp only[drC,List.length_append,List.length_take,List.length_drop];omega
    ·rcases List.mem_append.1 hq with h1|h1
     ·exact h.1.2 q (List.mem_of_mem_take h1)
     ·exact h.1.2 q (List.mem_of_mem_drop h1)
   ·exact h.1
  ·exact h0
 ·exact h0
structure Sho.rt (s:Sho):Prop where
 o:s.ok
 c:shoC s=0
 q:∀q∈s.lsts,q.cues.length<12
theorem Sho.rt.len {s:Sho}(h:s.rt):s.fixts.length<1000000∧s.grps.length<1000000∧s.pals.length<1000000∧s.lsts.length<1000000∧s.subs.length<1000000∧s.effs.length<1000000:=by
 obtain⟨_,_,_,h4,h5,h6,h7,h8,h9⟩:=shoC_all.1 h.c
 unfold fixCR at h4
 unfold grpsC at h5
 unfold palsCR at h6
 unfold lstsC at h7
 unfold subsCR at h8
 unfold effsC at h9
 refine⟨?_,?_,?_,?_,?_,?_⟩
 ·split at h4<;>omega
 ·split at h5<;>omega
 ·split at h6<;>omega
 ·split at h7<;>omega
 ·split at h8<;>omega
 ·split at h9<;>omega
theorem eS_ok {s:Sho}{e:Edi}(h:s.rt)(he:e.ok):(eS s e).ok:=by
 obtain⟨l1,l2,l3,l4,l5,l6⟩:=h.len
 have hcq:∀i,cq (s.lsts.getD i default):=fun i=>getD_P (fun q hq=>⟨h.o.k.2 q hq,h.q q hq⟩) ⟨cuD,by decide⟩
 refine⟨?_,h.o.c,h.o.p,?_,?_,?_,?_,?_,?_⟩
 ·show(tV e s.title).length<_
  unfold tV
  split
  ·exact he.k
  ·exact h.o.t
 ·refine Sz.all (l:=s.fixts) (P:=fun x=>x.cable.length<140737488355328) (r:=fV e s.fixts) ?_ l1 h.o.f.2
  unfold fV fixN fixX
  repeat' split
  ·refine⟨by simp;omega,fun q hq=>?_⟩
   rcases List.mem_append.1 hq with a|a
   ·exact .inl a
   ·rw[List.mem_singleton.1 a];exact .inr he.f
  ·exact .set he.f
  ·exact .refl
  ·refine⟨by simp;omega,fun q hq=>.inl ?_⟩
   rcases List.mem_append.1 hq with a|a
   ·exact List.mem_of_mem_take a
   ·exact List.mem_of_mem_drop a
  ·exact .refl
 ·refine Sz.all (l:=s.grps) (P:=fun x=>x.chans.length<140737488355328) (r:=gV e s.grps) ?_ l2 h.o.g.2
  unfold gV
  repeat' split
  ·exact .ins he.g
  ·exact .del
  ·exact .refl
 ·refine Sz.all (l:=s.pals) (P:=fun x=>x.hues.length<140737488355328) (r:=pV e s.pals) ?_ l3 h.o.l.2
  unfold pV
  repeat' split
  ·exact .ins he.p
  ·exact .del
  ·exact .refl
 ·refine Sz.all (l:=s.lsts) (P:=Lst.ok) (r:=lV e s.lsts) ?_ l4 h.o.k.2
  unfold lV lSet priN
  repeat' split
  ·exact .set (pu_ok (hcq _) he.c)
  ·exact .set (go_ok (hcq _))
  ·rename_i y hy _
   exact .set ⟨(h.o.k.2 y (List.mem_of_getElem? (by assumption))).1,(h.o.k.2 y (List.mem_of_getElem? (by assumption))).2⟩
  ·exact .put ⟨by show 0<_;decide,fun q hq=>by cases hq⟩
  ·exact .refl
 ·refine Sz.all (l:=s.subs) (P:=fun x=>x.gains.length<140737488355328) (r:=sV e s.subs) ?_ l5 h.o.s.2
  unfold sV
  repeat' split
  ·exact .ins he.s
  ·exact .del
  ·exact .refl
 ·refine Sz.all (l:=s.effs) (P:=fun x=>x.wave.length<140737488355328) (r:=xV e s.effs) ?_ l6 h.o.e.2
  unfold xV effN
  repeat' split
  ·exact .set he.x
  ·exact .put he.x
  ·exact .del
  ·exact .refl
end Go.Proofs.YtaneehgfdpadjaaGreatDoor

namespace Go.Proofs.YtaneehgfdpadjaaGreatDoor
open Go.Sha
set_option maxRecDepth 100000
variable {g:List (Nat×Obj)}{n:Nat}
theorem app_eq {s s':Sho}{e:Edi}{c:Int}(hc:eC s e=c)(hs:c=0→s'=eS s e):appR e s' c=apC s e∧(if appR e s' c=0 then s' else S0)=if apC s e=0 then eS s e else S0:=by
 subst hc
 by_cases h:eC s e=0
 ·rw[hs h];exact⟨rfl,rfl⟩
 ·by_cases h1:edtC e=0
  ·have e1:∀z,appR e z (eC s e)=eC s e:=fun z=>by rw[appR,if_neg (by simp[h1]),if_pos h]
   rw[apC,e1,e1]
   exact⟨rfl,by rw[if_neg h,if_neg h]⟩
  ·have e1:∀z,appR e z (eC s e)=edtC e:=fun z=>if_pos h1
   rw[apC,e1,e1]
   exact⟨rfl,by rw[if_neg h1,if_neg h1]⟩
theorem f21 {s:Sho}{e:Edi}(h:s.rt)(he:e.ok){st:St} :
  run Tryz.prog HT 21 [s.v,e.v] st=some (.ret (.tup [(if apC s e=0 then eS s e else S0).v,.int .i64 (apC s e)]),st):=by
 obtain⟨l1,l2,l3,l4,l5,l6⟩:=h.len
 have ho:=eS_ok h he
 have hm:=he.c.c
 have hp:=he.c.d
 by_cases k0:e.kind=0
 ·have hs:lC s.lsts e.num (fun y=>puE y e.cue)=0→({ s with lsts:=if lC s.lsts e.num (fun y=>puE y e.cue)=0 then lSet s.lsts e.num (fun y=>puL y e.cue) else s.lsts }:Sho)=eS s e:=fun c=>by simp[eS,tV,lV,pV,gV,sV,xV,fV,k0,c]
  have hc:eC s e=lC s.lsts e.num (fun y=>puE y e.cue):=by simp[eC,k0]
  obtain⟨a1,a2⟩:=app_eq hc hs
  have:=f21_0 (s:=s) (e:=e) (st:=st) k0 hm hp (fun g=>f45 h.o h.c l4 h.q he.c) (fun c=>by rw[hs c];exact ho)
  rwa [a2,a1]at this
 by_cases k1:e.kind=1
 ·have hs:lC s.lsts e.num (fun y=>goE y e.key)=0→({ s with lsts:=if lC s.lsts e.num (fun y=>goE y e.key)=0 then lSet s.lsts e.num (fun y=>goL y e.key) else s.lsts }:Sho)=eS s e:=fun c=>by simp[eS,tV,lV,pV,gV,sV,xV,fV,k1,c]
  have hc:eC s e=lC s.lsts e.num (fun y=>goE y e.key):=by simp[eC,k1]
  obtain⟨a1,a2⟩:=app_eq hc hs
  have:=f21_1 (s:=s) (e:=e) (st:=st) k1 hm hp (fun g=>f46 h.o h.c l4 h.q he.k) (fun c=>by rw[hs c];exact ho)
  rwa [a2,a1]at this
 by_cases k2:e.kind=2
 ·have hs:(0:Int)=0→({ s with lsts:=priN e.num e.prio s.lsts }:Sho)=eS s e:=fun _=>by simp[eS,tV,lV,pV,gV,sV,xV,fV,k2]
  have hc:eC s e=0:=by simp[eC,k2]
  obtain⟨a1,a2⟩:=app_eq hc hs
  have:=f21_2 (s:=s) (e:=e) (st:=st) k2 hm hp (fun g=>f47 l4) (fun c=>by rw[hs c];exact ho)
  rwa [a2,a1]at this
 by_cases k3:e.kind=3
 ·have hs:palT s.pals e.pal=0→({ s with pals:=if palT s.pals e.pal=0 then insT Pal.num e.pal s.pals else[] }:Sho)=eS s e:=fun c=>by simp[eS,tV,lV,pV,gV,sV,xV,fV,k3,c]
  have hc:eC s e=palT s.pals e.pal:=by simp[eC,k3]
  obtain⟨a1,a2⟩:=app_eq hc hs
  have:=f21_3 (s:=s) (e:=e) (st:=st) k3 hm hp (fun id st hid=>f48 hid l3 h.o.l.2 he.p) (fun c=>by rw[hs c];exact ho)
  rw[a2,a1]at this
  exact up24 (by simp[k3]) this
 by_cases k4:e.kind=4
 ·have hg:palD s.pals e.num=0→palsCR s.pals=0:=fun c=>(shoC_all.1 h.c).2.2.2.2.2.1
  have hs:palD s.pals e.num=0→({ s with pals:=if palsCR s.pals=0 then delT Pal.num e.num s.pals else[] }:Sho)=eS s e:=fun c=>by simp[eS,tV,lV,pV,gV,sV,xV,fV,k4,hg c]
  have hc:eC s e=palD s.pals e.num:=by simp[eC,k4]
  obtain⟨a1,a2⟩:=app_eq hc hs
  have:=f21_4 (s:=s) (e:=e) (st:=st) k4 hm hp (fun id st hid=>f49 hid l3 h.o.l.2) (fun c=>by rw[hs c];exact ho)
  rw[a2,a1]at this
  exact up24 (by simp[k4]) this
 by_cases k5:e.kind=5
 ·have hs:grpT s.grps e.grp=0→({ s with grps:=if grpT s.grps e.grp=0 then insT Grp.num e.grp s.grps else[] }:Sho)=eS s e:=fun c=>by simp[eS,tV,lV,pV,gV,sV,xV,fV,k5,c]
  have hc:eC s e=grpT s.grps e.grp:=by simp[eC,k5]
  obtain⟨a1,a2⟩:=app_eq hc hs
  have:=f21_5 (s:=s) (e:=e) (st:=st) k5 hm hp (fun id st hid=>f50 hid l2 h.o.g.2 he.g) (fun c=>by rw[hs c];exact ho)
  rw[a2,a1]at this
  exact up24 (by simp[k5]) this
 by_cases k6:e.kind=6
 ·have hs:grpD s.grps e.num=0→({ s with grps:=if grpD s.grps e.num=0 then delT Grp.num e.num s.grps else[] }:Sho)=eS s e:=fun c=>by simp[eS,tV,lV,pV,gV,sV,xV,fV,k6,c]
  have hc:eC s e=grpD s.grps e.num:=by simp[eC,k6]
  obtain⟨a1,a2⟩:=app_eq hc hs
  have:=f21_6 (s:=s) (e:=e) (st:=st) k6 hm hp (fun id st hid=>f51 hid l2 h.o.g.2) (fun c=>by rw[hs c];exact ho)
  rw[a2,a1]at this
  exact up24 (by simp[k6]) this
 by_cases k7:e.kind=7
 ·have hs:sbT s.subs e.sub=0→({ s with subs:=if sbT s.subs e.sub=0 then insT Sb.num e.sub s.subs else[] }:Sho)=eS s e:=fun c=>by simp[eS,tV,lV,pV,gV,sV,xV,fV,k7,c]
  have hc:eC s e=sbT s.subs e.sub:=by simp[eC,k7]
  obtain⟨a1,a2⟩:=app_eq hc hs
  have:=f21_7 (s:=s) (e:=e) (st:=st) k7 hm hp (fun id st hid=>f52 hid l5 h.o.s.2 he.s) (fun c=>by rw[hs c];exact ho)
  rw[a2,a1]at this
  exact up24 (by simp[k7]) this
 by_cases k8:e.kind=8
 ·have hs:sbD s.subs e.num=0→({ s with subs:=if sbD s.subs e.num=0 then delT Sb.num e.num s.subs else[] }:Sho)=eS s e:=fun c=>by simp[eS,tV,lV,pV,gV,sV,xV,fV,k8,c]
  have hc:eC s e=sbD s.subs e.num:=by simp[eC,k8]
  obtain⟨a1,a2⟩:=app_eq hc hs
  have:=f21_8 (s:=s) (e:=e) (st:=st) k8 hm hp (fun id st hid=>f53 hid he.n l5 h.o.s.2) (fun c=>by rw[hs c];exact ho)
  rw[a2,a1]at this
  exact up24 (by simp[k8]) this
 by_cases k9:e.kind=9
 ·have hs:(0:Int)=0→({ s with effs:=effN e.eff s.effs }:Sho)=eS s e:=fun _=>by simp[eS,tV,lV,pV,gV,sV,xV,fV,k9]
  have hc:eC s e=0:=by simp[eC,k9]
  obtain⟨a1,a2⟩:=app_eq hc hs
  have:=f21_9 (s:=s) (e:=e) (st:=st) k9 hm hp (fun g=>f54 l6) (fun c=>by rw[hs c];exact ho)
  rwa [a2,a1]at this
 by_cases k10:e.kind=10
 ·have hs:effDl s.effs e.num=0→({ s with effs:=if effDl s.effs e.num=0 then delT Eff.num e.num s.effs else s.effs }:Sho)=eS s e:=fun c=>by simp[eS,tV,lV,pV,gV,sV,xV,fV,k10,c]
  have hc:eC s e=effDl s.effs e.num:=by simp[eC,k10]
  obtain⟨a1,a2⟩:=app_eq hc hs
  have:=f21_10 (s:=s) (e:=e) (st:=st) k10 hm hp (fun g=>f55 he.n l6 h.o.e.2) (fun c=>by rw[hs c];exact ho)
  rwa [a2,a1]at this
 by_cases k11:e.kind=11
 ·have hs:fixP s.fixts s.profs e.fix=0→({ s with fixts:=if fixP s.fixts s.profs e.fix=0 then fixN e.fix s.fixts else[] }:Sho)=eS s e:=fun c=>by simp[eS,tV,lV,pV,gV,sV,xV,fV,k11,c]
  have hc:eC s e=fixP s.fixts s.profs e.fix:=by simp[eC,k11]
  obtain⟨a1,a2⟩:=app_eq hc hs
  have:=f24_11T (s:=s) (e:=e) (st:=st) k11 hm hp (fun g=>f56 l1 h.o.f.2 he.f h.o.p.1) (fun c=>by rw[hs c];exact ho)
  rwa [a2,a1]at this
 by_cases k12:e.kind=12
 ·have hg:fixCR s.fixts s.profs=0:=(shoC_all.1 h.c).2.2.2.1
  have hs:fixD s.fixts s.profs e.chan e.num=0→({ s with fixts:=if fixCR s.fixts s.profs=0 then fixX s.fixts e.chan e.num else[] }:Sho)=eS s e:=fun c=>by simp[eS,tV,lV,pV,gV,sV,xV,fV,k12,hg]
  have hc:eC s e=fixD s.fixts s.profs e.chan e.num:=by simp[eC,k12]
  obtain⟨a1,a2⟩:=app_eq hc hs
  have:=f21_12 (s:=s) (e:=e) (st:=st) k12 hm hp (fun id st hid=>f57 hid l1 h.o.f.2 h.o.p.1) (fun c=>by rw[hs c];exact ho)
  rw[a2,a1]at this
  exact up24 (by simp[k12]) this
 by_cases k13:e.kind=13
 ·have hs:(0:Int)=0→({ s with title:=e.key }:Sho)=eS s e:=fun _=>by simp[eS,tV,lV,pV,gV,sV,xV,fV,k13]
  have hc:eC s e=0:=by simp[eC,k13]
  obtain⟨a1,a2⟩:=app_eq hc hs
  have:=f21_13 (s:=s) (e:=e) (st:=st) k13 hm hp (fun id st hid=>f58 hid) (fun c=>by rw[hs c];exact ho)
  rw[a2,a1]at this
  exact up24 (by simp[k13]) this
 have h1:edtC e=1:=if_pos (by omega)
 have h2:apC s e=1:=by rw[apC,appR,if_pos (by rw[h1];decide),h1]
 rw[h2,if_neg (by decide)]
 have:=f21_n (s:=s) (e:=e) (st:=st) (by omega) (by rw[h1];decide) hm hp
 rwa [h1]at this
theorem f8T {s:Sho}{e:Edi}(h:s.rt)(he:e.ok){st:St} :
  run Tryz.prog HT 8 [s.v,e.v] st=some (.ret (.tup [(if apC s e=0 then eS s e else S0).v,.int .i64 (apC s e)]),st):=by
 have h20:=fun(st:St)=>upT (f20 h.o (st:=st))
 have h21:=fun(st:St)=>f21 h he (st:=st)
 rw[h.c]at h20
 rw[run_shut F8 rfl rfl (by simp)]
 generalize (if apC s e=0 then eS s e else S0)=z at *
 push_cast[Edi.v,Sho.v]at h20 h21
 push_cast[Edi.v,Sho.v,h20,h21]
end Go.Proofs.YtaneehgfdpadjaaGreatDoor

namespace Go.Proofs.YtaneehgfdpadjaaGreatDoor
open Go.Sha
set_option maxRecDepth 10000
theorem F9:compF Tryz.prog 9=some ⟨66,[.tmp 4],(.g [.q 2 31 0,.q 3 31 1,.k 4 false] (.z [2,3] (.join [4] (.reg [.a 5 0 2,.l 6 5,.a 7 0 3,.l 8 7,.b 9 .eql 6 8,.m 10 9,.ay 11 1 2 10,.ly 12 11 10,.ay 13 1 3 10,.ly 14 13 10,.y 15 (.f 22 [.t 12,.t 14]) 10,.e 16 10 15,.m 17 16,.ay 18 2 2 17,.ly 19 18 17,.ay 20 2 3 17,.ly 21 20 17,.y 22 (.f 23 [.t 19,.t 21]) 17,.e 23 17 22,.m 24 23,.ay 25 3 2 24,.ly 26 25 24,.ay 27 3 3 24,.ly 28 27 24,.y 29 (.f 24 [.t 26,.t 28]) 24,.e 30 24 29,.m 31 30,.ay 32 4 2 31,.ly 33 32 31,.ay 34 4 3 31,.ly 35 34 31,.y 36 (.f 25 [.t 33,.t 35]) 31,.e 37 31 36,.m 38 37,.ay 39 5 2 38,.ly 40 39 38,.ay 41 5 3 38,.ly 42 41 38,.y 43 (.f 26 [.t 40,.t 42]) 38,.e 44 38 43,.m 45 44,.ay 46 6 2 45,.ly 47 46 45,.ay 48 6 3 45,.ly 49 48 45,.y 50 (.f 27 [.t 47,.t 49]) 45,.e 51 45 50,.m 52 51,.ay 53 7 2 52,.ly 54 53 52,.ay 55 7 3 52,.ly 56 55 52,.y 57 (.f 28 [.t 54,.t 56]) 52,.e 58 52 57,.m 59 58,.ay 60 8 2 59,.ly 61 60 59,.ay 62 8 3 59,.ly 63 62 59,.y 64 (.f 29 [.t 61,.t 63]) 59,.e 65 59 64,.m 4 65]) (.ret [4]))))⟩:=by kernel_rfl
def B22_0:Cd:=(.join [0,1,5] (.g [.m 11 5,.m 12 0,.u 13 12,.b 14 .lss 11 13] (.i 14 .skip (.exit [] 0))) (.join [0,1,5] (.block 1 (.q (.dreg 10 [.m 17 0,.m 18 5,.r 19 1 17 18,.l 20 19,.m 21 1,.m 22 5,.r 23 1 21 22,.l 24 23,.g' 25 59 20 24,.z 26 25]) (.i 26 (.g [.k 4 false] (.ret [4])) .skip))) (.reg [.m 15 5,.v 16 .add 15 1,.m 5 16])))
theorem F22:compF Tryz.prog 22=some ⟨27,[.tmp 4],(.g [.k 4 false] (.join [0,1] (.g [.m 6 0,.u 7 6,.m 8 1,.u 9 8,.b 10 .neq 7 9] (.i 10 (.g [.k 4 false] (.ret [4])) .skip)) (.join [] (.g [.c 5 0] (.block 0 (.loop [0,1,5] [] B22_0))) (.g [.k 4 true] (.ret [4])))))⟩:=by kernel_rfl
def B23_0:Cd:=(.join [0,1,5] (.g [.m 11 5,.m 12 0,.u 13 12,.b 14 .lss 11 13] (.i 14 .skip (.exit [] 0))) (.join [0,1,5] (.block 1 (.q (.dreg 10 [.m 17 0,.m 18 5,.r 19 4 17 18,.d 20 4 19,.m 21 1,.m 22 5,.r 23 4 21 22,.d 24 4 23,.g' 25 60 20 24,.z 26 25]) (.i 26 (.g [.k 4 false] (.ret [4])) .skip))) (.reg [.m 15 5,.v 16 .add 15 1,.m 5 16])))
theorem F23:compF Tryz.prog 23=some ⟨27,[.tmp 4],(.g [.k 4 false] (.join [0,1] (.g [.m 6 0,.u 7 6,.m 8 1,.u 9 8,.b 10 .neq 7 9] (.i 10 (.g [.k 4 false] (.ret [4])) .skip)) (.join [] (.g [.c 5 0] (.block 0 (.loop [0,1,5] [] B23_0))) (.g [.k 4 true] (.ret [4])))))⟩:=by kernel_rfl
def B24_0:Cd:=(.join [0,1,5] (.g [.m 11 5,.m 12 0,.u 13 12,.b 14 .lss 11 13] (.i 14 .skip (.exit [] 0))) (.join [0,1,5] (.block 1 (.q (.dreg 9 [.m 17 0,.m 18 5,.r 19 7 17 18,.d 20 7 19,.m 21 1,.m 22 5,.r 23 7 21 22,.d 24 7 23,.s 25 (.eqs true [.i,.i,.s,.i,.i,.i,.s] (.t 20) (.t 24))]) (.i 25 (.g [.k 4 false] (.ret [4])) .skip))) (.reg [.m 15 5,.v 16 .add 15 1,.m 5 16])))
theorem F24:compF Tryz.prog 24=some ⟨26,[.tmp 4],(.g [.k 4 false] (.join [0,1] (.g [.m 6 0,.u 7 6,.m 8 1,.u 9 8,.b 10 .neq 7 9] (.i 10 (.g [.k 4 false] (.ret [4])) .skip)) (.join [] (.g [.c 5 0] (.block 0 (.loop [0,1,5] [] B24_0))) (.g [.k 4 true] (.ret [4])))))⟩:=by kernel_rfl
def B25_0:Cd:=(.join [0,1,5] (.g [.m 11 5,.m 12 0,.u 13 12,.b 14 .lss 11 13] (.i 14 .skip (.exit [] 0))) (.join [0,1,5] (.block 1 (.q (.dreg 10 [.m 17 0,.m 18 5,.r 19 2 17 18,.d 20 2 19,.m 21 1,.m 22 5,.r 23 2 21 22,.d 24 2 23,.g' 25 61 20 24,.z 26 25]) (.i 26 (.g [.k 4 false] (.ret [4])) .skip))) (.reg [.m 15 5,.v 16 .add 15 1,.m 5 16])))
theorem F25:compF Tryz.prog 25=some ⟨27,[.tmp 4],(.g [.k 4 false] (.join [0,1] (.g [.m 6 0,.u 7 6,.m 8 1,.u 9 8,.b 10 .neq 7 9] (.i 10 (.g [.k 4 false] (.ret [4])) .skip)) (.join [] (.g [.c 5 0] (.block 0 (.loop [0,1,5] [] B25_0))) (.g [.k 4 true] (.ret [4])))))⟩:=by kernel_rfl
def B26_0:Cd:=(.join [0,1,5,6] (.g [.m 44 6,.m 45 0,.m 46 5,.r 47 2 45 46,.a 48 1 47,.l 49 48,.u 50 49,.b 51 .lss 44 50] (.i 51 .skip (.exit [0,1,5] 2))) (.join [0,1,5,6] (.block 3 (.q (.dreg 17 [.m 54 0,.m 55 5,.r 56 2 54 55,.a 57 1 56,.l 58 57,.m 59 6,.r 60 3 58 59,.d 61 3 60,.m 62 1,.m 63 5,.r 64 2 62 63,.a 65 1 64,.l 66 65,.m 67 6,.r 68 3 66 67,.d 69 3 68,.s 70 (.eqs true [.i,.i,.i] (.t 61) (.t 69))]) (.i 70 (.g [.k 4 false] (.ret [4])) .skip))) (.reg [.m 52 6,.v 53 .add 52 1,.m 6 53])))
def B26_1:Cd:=(.join [0,1,5] (.g [.m 12 5,.m 13 0,.u 14 13,.b 15 .lss 12 14] (.i 15 .skip (.exit [] 0))) (.join [0,1,5] (.block 1 (.join [0,1,5] (.join [0,1,5,43] (.dreg 26 [.m 18 0,.m 19 5,.r 20 2 18 19,.a 21 0 20,.l 22 21,.m 23 1,.m 24 5,.r 25 2 23 24,.a 26 0 25,.l 27 26,.b 28 .neq 22 27,.m 29 28,.mx 30 0 29,.mx 31 5 29,.x 32 (.iadr 2 (.t 30) (.t 31)) 29,.ax 33 1 32 29,.lx 34 33 29,.x 35 (.len (.t 34)) 29,.mx 36 1 29,.mx 37 5 29,.x 38 (.iadr 2 (.t 36) (.t 37)) 29,.ax 39 1 38 29,.lx 40 39 29,.x 41 (.len (.t 40)) 29,.bx 42 .neq 35 41 29,.o 43 29 42]) (.i 43 (.g [.k 4 false] (.ret [4])) .skip)) (.g [.c 6 0] (.block 2 (.loop [0,1,5,6] [] B26_0))))) (.reg [.m 16 5,.v 17 .add 16 1,.m 5 17])))
theorem F26:compF Tryz.prog 26=some ⟨71,[.tmp 4],(.g [.k 4 false] (.join [0,1] (.g [.m 7 0,.u 8 7,.m 9 1,.u 10 9,.b 11 .neq 8 10] (.i 11 (.g [.k 4 false] (.ret [4])) .skip)) (.join [] (.g [.c 5 0] (.block 0 (.loop [0,1,5] [] B26_1))) (.g [.k 4 true] (.ret [4])))))⟩:=by kernel_rfl
def B27_0:Cd:=(.join [0,1,5] (.g [.m 11 5,.m 12 0,.u 13 12,.b 14 .lss 11 13] (.i 14 .skip (.exit [] 0))) (.join [0,1,5] (.block 1 (.q (.dreg 10 [.m 17 0,.m 18 5,.r 19 3 17 18,.d 20 3 19,.m 21 1,.m 22 5,.r 23 3 21 22,.d 24 3 23,.g' 25 62 20 24,.z 26 25]) (.i 26 (.g [.k 4 false] (.ret [4])) .skip))) (.reg [.m 15 5,.v 16 .add 15 1,.m 5 16])))
theorem F27:compF Tryz.prog 27=some ⟨27,[.tmp 4],(.g [.k 4 false] (.join [0,1] (.g [.m 6 0,.u 7 6,.m 8 1,.u 9 8,.b 10 .neq 7 9] (.i 10 (.g [.k 4 false] (.ret [4])) .skip)) (.join [] (.g [.c 5 0] (.block 0 (.loop [0,1,5] [] B27_0))) (.g [.k 4 true] (.ret [4])))))⟩:=by kernel_rfl
def B28_0:Cd:=(.join [0,1,5] (.g [.m 11 5,.m 12 0,.u 13 12,.b 14 .lss 11 13] (.i 14 .skip (.exit [] 0))) (.join [0,1,5] (.block 1 (.q (.dreg 10 [.m 17 0,.m 18 5,.r 19 4 17 18,.d 20 4 19,.m 21 1,.m 22 5,.r 23 4 21 22,.d 24 4 23,.g' 25 63 20 24,.z 26 25]) (.i 26 (.g [.k 4 false] (.ret [4])) .skip))) (.reg [.m 15 5,.v 16 .add 15 1,.m 5 16])))
theorem F28:compF Tryz.prog 28=some ⟨27,[.tmp 4],(.g [.k 4 false] (.join [0,1] (.g [.m 6 0,.u 7 6,.m 8 1,.u 9 8,.b 10 .neq 7 9] (.i 10 (.g [.k 4 false] (.ret [4])) .skip)) (.join [] (.g [.c 5 0] (.block 0 (.loop [0,1,5] [] B28_0))) (.g [.k 4 true] (.ret [4])))))⟩:=by kernel_rfl
def B29_0:Cd:=(.join [0,1,5] (.g [.m 11 5,.m 12 0,.u 13 12,.b 14 .lss 11 13] (.i 14 .skip (.exit [] 0))) (.join [0,1,5] (.block 1 (.q (.dreg 10 [.m 17 0,.m 18 5,.r 19 6 17 18,.d 20 6 19,.m 21 1,.m 22 5,.r 23 6 21 22,.d 24 6 23,.g' 25 64 20 24,.z 26 25]) (.i 26 (.g [.k 4 false] (.ret [4])) .skip))) (.reg [.m 15 5,.v 16 .add 15 1,.m 5 16])))
theorem F29:compF Tryz.prog 29=some ⟨27,[.tmp 4],(.g [.k 4 false] (.join [0,1] (.g [.m 6 0,.u 7 6,.m 8 1,.u 9 8,.b 10 .neq 7 9] (.i 10 (.g [.k 4 false] (.ret [4])) .skip)) (.join [] (.g [.c 5 0] (.block 0 (.loop [0,1,5] [] B29_0))) (.g [.k 4 true] (.ret [4])))))⟩:=by kernel_rfl
def B59_0:Cd:=(.join [0,1,5] (.g [.m 11 5,.m 12 0,.u 13 12,.b 14 .lss 11 13] (.i 14 .skip (.exit [] 0))) (.join [0,1,5] (.block 1 (.q (.dreg 9 [.m 17 0,.m 18 5,.r 19 2 17 18,.d 20 2 19,.m 21 1,.m 22 5,.r 23 2 21 22,.d 24 2 23,.s 25 (.eqs true [.i,.i] (.t 20) (.t 24))]) (.i 25 (.g [.k 4 false] (.ret [4])) .skip))) (.reg [.m 15 5,.v 16 .add 15 1,.m 5 16])))
theorem F59:compF Tryz.prog 59=some ⟨26,[.tmp 4],(.g [.k 4 false] (.join [0,1] (.g [.m 6 0,.u 7 6,.m 8 1,.u 9 8,.b 10 .neq 7 9] (.i 10 (.g [.k 4 false] (.ret [4])) .skip)) (.join [] (.g [.c 5 0] (.block 0 (.loop [0,1,5] [] B59_0))) (.g [.k 4 true] (.ret [4])))))⟩:=by kernel_rfl
def B60_0:Cd:=(.join [2,3,5] (.g [.m 34 5,.a 35 3 2,.l 36 35,.u 37 36,.b 38 .lss 34 37] (.i 38 .skip (.exit [] 0))) (.join [2,3,5] (.block 1 (.q (.dreg 12 [.a 41 3 2,.l 42 41,.m 43 5,.r 44 10 42 43,.d 45 10 44,.a 46 3 3,.l 47 46,.m 48 5,.r 49 10 47 48,.d 50 10 49,.g' 51 118 45 50,.z 52 51]) (.i 52 (.g [.k 4 false] (.ret [4])) .skip))) (.reg [.m 39 5,.v 40 .add 39 1,.m 5 40])))
theorem F60:compF Tryz.prog 60=some ⟨53,[.tmp 4],(.g [.q 2 93 0,.q 3 93 1,.k 4 false] (.z [2,3] (.join [2,3] (.join [2,3,33] (.reg [.a 6 0 2,.l 7 6,.a 8 0 3,.l 9 8,.b 10 .neq 7 9,.m 11 10,.ax 12 1 2 11,.lx 13 12 11,.ax 14 1 3 11,.lx 15 14 11,.bx 16 .neq 13 15 11,.o 17 11 16,.m 18 17,.ax 19 2 2 18,.lx 20 19 18,.ax 21 2 3 18,.lx 22 21 18,.bx 23 .neq 20 22 18,.o 24 18 23,.m 25 24,.ax 26 3 2 25,.lx 27 26 25,.x 28 (.len (.t 27)) 25,.ax 29 3 3 25,.lx 30 29 25,.x 31 (.len (.t 30)) 25,.bx 32 .neq 28 31 25,.o 33 25 32]) (.i 33 (.g [.k 4 false] (.ret [4])) .skip)) (.join [] (.g [.c 5 0] (.block 0 (.loop [2,3,5] [] B60_0))) (.g [.k 4 true] (.ret [4]))))))⟩:=by kernel_rfl
theorem F61:compF Tryz.prog 61=some ⟨17,[.tmp 4],(.g [.q 2 41 0,.q 3 41 1,.k 4 false] (.z [2,3] (.join [4] (.reg [.a 5 0 2,.l 6 5,.a 7 0 3,.l 8 7,.b 9 .eql 6 8,.m 10 9,.ay 11 1 2 10,.ly 12 11 10,.ay 13 1 3 10,.ly 14 13 10,.y 15 (.f 119 [.t 12,.t 14]) 10,.e 16 10 15,.m 4 16]) (.ret [4]))))⟩:=by kernel_rfl
def B62_0:Cd:=(.join [2,3,5] (.g [.m 27 5,.a 28 2 2,.l 29 28,.u 30 29,.b 31 .lss 27 30] (.i 31 .skip (.exit [] 0))) (.join [2,3,5] (.block 1 (.q (.dreg 12 [.a 34 2 2,.l 35 34,.m 36 5,.r 37 9 35 36,.d 38 9 37,.a 39 2 3,.l 40 39,.m 41 5,.r 42 9 40 41,.d 43 9 42,.g' 44 120 38 43,.z 45 44]) (.i 45 (.g [.k 4 false] (.ret [4])) .skip))) (.reg [.m 32 5,.v 33 .add 32 1,.m 5 33])))
theorem F62:compF Tryz.prog 62=some ⟨46,[.tmp 4],(.g [.q 2 97 0,.q 3 97 1,.k 4 false] (.z [2,3] (.join [2,3] (.join [2,3,26] (.reg [.a 6 0 2,.l 7 6,.a 8 0 3,.l 9 8,.b 10 .neq 7 9,.m 11 10,.ax 12 1 2 11,.lx 13 12 11,.ax 14 1 3 11,.lx 15 14 11,.bx 16 .neq 13 15 11,.o 17 11 16,.m 18 17,.ax 19 2 2 18,.lx 20 19 18,.x 21 (.len (.t 20)) 18,.ax 22 2 3 18,.lx 23 22 18,.x 24 (.len (.t 23)) 18,.bx 25 .neq 21 24 18,.o 26 18 25]) (.i 26 (.g [.k 4 false] (.ret [4])) .skip)) (.join [] (.g [.c 5 0] (.block 0 (.loop [2,3,5] [] B62_0))) (.g [.k 4 true] (.ret [4]))))))⟩:=by kernel_rfl
def B63_0:Cd:=(.join [2,3,5] (.g [.m 34 5,.a 35 3 2,.l 36 35,.u 37 36,.b 38 .lss 34 37] (.i 38 .skip (.exit [] 0))) (.join [2,3,5] (.block 1 (.q (.dreg 11 [.a 41 3 2,.l 42 41,.m 43 5,.r 44 3 42 43,.d 45 3 44,.a 46 3 3,.l 47 46,.m 48 5,.r 49 3 47 48,.d 50 3 49,.s 51 (.eqs true [.i,.i,.i] (.t 45) (.t 50))]) (.i 51 (.g [.k 4 false] (.ret [4])) .skip))) (.reg [.m 39 5,.v 40 .add 39 1,.m 5 40])))
theorem F63:compF Tryz.prog 63=some ⟨52,[.tmp 4],(.g [.q 2 44 0,.q 3 44 1,.k 4 false] (.z [2,3] (.join [2,3] (.join [2,3,33] (.reg [.a 6 0 2,.l 7 6,.a 8 0 3,.l 9 8,.b 10 .neq 7 9,.m 11 10,.ax 12 1 2 11,.lx 13 12 11,.ax 14 1 3 11,.lx 15 14 11,.bx 16 .neq 13 15 11,.o 17 11 16,.m 18 17,.ax 19 2 2 18,.lx 20 19 18,.ax 21 2 3 18,.lx 22 21 18,.x 23 (.eqb true (.t 20) (.t 22)) 18,.o 24 18 23,.m 25 24,.ax 26 3 2 25,.lx 27 26 25,.x 28 (.len (.t 27)) 25,.ax 29 3 3 25,.lx 30 29 25,.x 31 (.len (.t 30)) 25,.bx 32 .neq 28 31 25,.o 33 25 32]) (.i 33 (.g [.k 4 false] (.ret [4])) .skip)) (.join [] (.g [.c 5 0] (.block 0 (.loop [2,3,5] [] B63_0))) (.g [.k 4 true] (.ret [4]))))))⟩:=by kernel_rfl
theorem F64:compF Tryz.prog 64=some ⟨45,[.tmp 4],(.g [.q 2 47 0,.q 3 47 1,.k 4 false] (.z [2,3] (.join [4] (.reg [.a 5 0 2,.l 6 5,.a 7 0 3,.l 8 7,.b 9 .eql 6 8,.m 10 9,.ay 11 1 2 10,.ly 12 11 10,.ay 13 1 3 10,.ly 14 13 10,.by' 15 .eql 12 14 10,.e 16 10 15,.m 17 16,.ay 18 2 2 17,.ly 19 18 17,.ay 20 2 3 17,.ly 21 20 17,.y 22 (.f 121 [.t 19,.t 21]) 17,.e 23 17 22,.m 24 23,.ay 25 3 2 24,.ly 26 25 24,.ay 27 3 3 24,.ly 28 27 24,.by' 29 .eql 26 28 24,.e 30 24 29,.m 31 30,.ay 32 4 2 31,.ly 33 32 31,.ay 34 4 3 31,.ly 35 34 31,.by' 36 .eql 33 35 31,.e 37 31 36,.m 38 37,.ay 39 5 2 38,.ly 40 39 38,.ay 41 5 3 38,.ly 42 41 38,.by' 43 .eql 40 42 38,.e 44 38 43,.m 4 44]) (.ret [4]))))⟩:=by kernel_rfl
theorem F118:compF Tryz.prog 118=some ⟨73,[.tmp 4],(.g [.q 2 131 0,.q 3 131 1,.k 4 false] (.z [2,3] (.join [4] (.reg [.a 5 0 2,.l 6 5,.a 7 0 3,.l 8 7,.b 9 .eql 6 8,.m 10 9,.ay 11 1 2 10,.ly 12 11 10,.ay 13 1 3 10,.ly 14 13 10,.by' 15 .eql 12 14 10,.e 16 10 15,.m 17 16,.ay 18 2 2 17,.ly 19 18 17,.ay 20 2 3 17,.ly 21 20 17,.by' 22 .eql 19 21 17,.e 23 17 22,.m 24 23,.ay 25 3 2 24,.ly 26 25 24,.ay 27 3 3 24,.ly 28 27 24,.by' 29 .eql 26 28 24,.e 30 24 29,.m 31 30,.ay 32 4 2 31,.ly 33 32 31,.ay 34 4 3 31,.ly 35 34 31,.by' 36 .eql 33 35 31,.e 37 31 36,.m 38 37,.ay 39 5 2 38,.ly 40 39 38,.ay 41 5 3 38,.ly 42 41 38,.by' 43 .eql 40 42 38,.e 44 38 43,.m 45 44,.ay 46 6 2 45,.ly 47 46 45,.ay 48 6 3 45,.ly 49 48 45,.by' 50 .eql 47 49 45,.e 51 45 50,.m 52 51,.ay 53 7 2 52,.ly 54 53 52,.ay 55 7 3 52,.ly 56 55 52,.by' 57 .eql 54 56 52,.e 58 52 57,.m 59 58,.ay 60 8 2 59,.ly 61 60 59,.ay 62 8 3 59,.ly 63 62 59,.y 64 (.eqb false (.t 61) (.t 63)) 59,.e 65 59 64,.m 66 65,.ay 67 9 2 66,.ly 68 67 66,.ay 69 9 3 66,.ly 70 69 66,.y 71 (.f 193 [.t 68,.t 70]) 66,.e 72 66 71,.m 4 72]) (.ret [4]))))⟩:=by kernel_rfl
def B119_0:Cd:=(.join [0,1,5] (.g [.m 11 5,.m 12 0,.u 13 12,.b 14 .lss 11 13] (.i 14 .skip (.exit [] 0))) (.join [0,1,5] (.block 1 (.q (.dreg 9 [.m 17 0,.m 18 5,.r 19 1 17 18,.l 20 19,.m 21 1,.m 22 5,.r 23 1 21 22,.l 24 23,.b 25 .neq 20 24]) (.i 25 (.g [.k 4 false] (.ret [4])) .skip))) (.reg [.m 15 5,.v 16 .add 15 1,.m 5 16])))
theorem F119:compF Tryz.prog 119=some ⟨26,[.tmp 4],(.g [.k 4 false] (.join [0,1] (.g [.m 6 0,.u 7 6,.m 8 1,.u 9 8,.b 10 .neq 7 9] (.i 10 (.g [.k 4 false] (.ret [4])) .skip)) (.join [] (.g [.c 5 0] (.block 0 (.loop [0,1,5] [] B119_0))) (.g [.k 4 true] (.ret [4])))))⟩:=by kernel_rfl
def B120_0:Cd:=(.join [2,3,5] (.g [.m 68 5,.a 69 3 2,.l 70 69,.u 71 70,.b 72 .lss 68 71] (.i 72 .skip (.exit [] 0))) (.join [2,3,5] (.block 1 (.q (.dreg 11 [.a 75 3 2,.l 76 75,.m 77 5,.r 78 6 76 77,.d 79 6 78,.a 80 3 3,.l 81 80,.m 82 5,.r 83 6 81 82,.d 84 6 83,.s 85 (.eqs true [.i,.i,.i,.i,.i,.i] (.t 79) (.t 84))]) (.i 85 (.g [.k 4 false] (.ret [4])) .skip))) (.reg [.m 73 5,.v 74 .add 73 1,.m 5 74])))
theorem F120:compF Tryz.prog 120=some ⟨86,[.tmp 4],(.g [.q 2 35 0,.q 3 35 1,.k 4 false] (.z [2,3] (.join [2,3] (.join [2,3,52] (.reg [.a 6 0 2,.l 7 6,.a 8 0 3,.l 9 8,.b 10 .neq 7 9,.m 11 10,.ax 12 1 2 11,.lx 13 12 11,.ax 14 1 3 11,.lx 15 14 11,.bx 16 .neq 13 15 11,.o 17 11 16,.m 18 17,.ax 19 4 2 18,.lx 20 19 18,.ax 21 4 3 18,.lx 22 21 18,.x 23 (.eqb true (.t 20) (.t 22)) 18,.o 24 18 23,.m 25 24,.ax 26 5 2 25,.lx 27 26 25,.ax 28 5 3 25,.lx 29 28 25,.x 30 (.eqb true (.t 27) (.t 29)) 25,.o 31 25 30,.m 32 31,.ax 33 6 2 32,.lx 34 33 32,.ax 35 6 3 32,.lx 36 35 32,.bx 37 .neq 34 36 32,.o 38 32 37,.m 39 38,.ax 40 7 2 39,.lx 41 40 39,.ax 42 7 3 39,.lx 43 42 39,.bx 44 .neq 41 43 39,.o 45 39 44,.m 46 45,.ax 47 8 2 46,.lx 48 47 46,.ax 49 8 3 46,.lx 50 49 46,.bx 51 .neq 48 50 46,.o 52 46 51]) (.i 52 (.g [.k 4 false] (.ret [4])) .skip)) (.join [2,3] (.join [2,3,67] (.reg [.a 53 2 2,.l 54 53,.a 55 2 3,.l 56 55,.g' 57 194 54 56,.z 58 57,.m 59 58,.ax 60 3 2 59,.lx 61 60 59,.x 62 (.len (.t 61)) 59,.ax 63 3 3 59,.lx 64 63 59,.x 65 (.len (.t 64)) 59,.bx 66 .neq 62 65 59,.o 67 59 66]) (.i 67 (.g [.k 4 false] (.ret [4])) .skip)) (.join [] (.g [.c 5 0] (.block 0 (.loop [2,3,5] [] B120_0))) (.g [.k 4 true] (.ret [4])))))))⟩:=by kernel_rfl
def B121_0:Cd:=(.join [0,1,5] (.g [.m 11 5,.m 12 0,.u 13 12,.b 14 .lss 11 13] (.i 14 .skip (.exit [] 0))) (.join [0,1,5] (.block 1 (.q (.dreg 9 [.m 17 0,.m 18 5,.r 19 2 17 18,.d 20 2 19,.m 21 1,.m 22 5,.r 23 2 21 22,.d 24 2 23,.s 25 (.eqs true [.i,.i] (.t 20) (.t 24))]) (.i 25 (.g [.k 4 false] (.ret [4])) .skip))) (.reg [.m 15 5,.v 16 .add 15 1,.m 5 16])))
theorem F121:compF Tryz.prog 121=some ⟨26,[.tmp 4],(.g [.k 4 false] (.join [0,1] (.g [.m 6 0,.u 7 6,.m 8 1,.u 9 8,.b 10 .neq 7 9] (.i 10 (.g [.k 4 false] (.ret [4])) .skip)) (.join [] (.g [.c 5 0] (.block 0 (.loop [0,1,5] [] B121_0))) (.g [.k 4 true] (.ret [4])))))⟩:=by kernel_rfl
def B193_0:Cd:=(.join [0,1,5] (.g [.m 11 5,.m 12 0,.u 13 12,.b 14 .lss 11 13] (.i 14 .skip (.exit [] 0))) (.join [0,1,5] (.block 1 (.q (.dreg 9 [.m 17 0,.m 18 5,.r 19 3 17 18,.d 20 3 19,.m 21 1,.m 22 5,.r 23 3 21 22,.d 24 3 23,.s 25 (.eqs true [.s,.i,.i] (.t 20) (.t 24))]) (.i 25 (.g [.k 4 false] (.ret [4])) .skip))) (.reg [.m 15 5,.v 16 .add 15 1,.m 5 16])))
theorem F193:compF Tryz.prog 193=some ⟨26,[.tmp 4],(.g [.k 4 false] (.join [0,1] (.g [.m 6 0,.u 7 6,.m 8 1,.u 9 8,.b 10 .neq 7 9] (.i 10 (.g [.k 4 false] (.ret [4])) .skip)) (.join [] (.g [.c 5 0] (.block 0 (.loop [0,1,5] [] B193_0))) (.g [.k 4 true] (.ret [4])))))⟩:=by kernel_rfl
def B194_0:Cd:=(.join [0,1,5] (.g [.m 11 5,.m 12 0,.u 13 12,.b 14 .lss 11 13] (.i 14 .skip (.exit [] 0))) (.join [0,1,5] (.block 1 (.q (.dreg 9 [.m 17 0,.m 18 5,.r 19 5 17 18,.d 20 5 19,.m 21 1,.m 22 5,.r 23 5 21 22,.d 24 5 23,.s 25 (.eqs true [.i,.i,.i,.i,.i] (.t 20) (.t 24))]) (.i 25 (.g [.k 4 false] (.ret [4])) .skip))) (.reg [.m 15 5,.v 16 .add 15 1,.m 5 16])))
theorem F194:compF Tryz.prog 194=some ⟨26,[.tmp 4],(.g [.k 4 false] (.join [0,1] (.g [.m 6 0,.u 7 6,.m 8 1,.u 9 8,.b 10 .neq 7 9] (.i 10 (.g [.k 4 false] (.ret [4])) .skip)) (.join [] (.g [.c 5 0] (.block 0 (.loop [0,1,5] [] B194_0))) (.g [.k 4 true] (.ret [4])))))⟩:=by kernel_rfl
end Go.Proofs.YtaneehgfdpadjaaGreatDoor

namespace Go.Proofs.YtaneehgfdpadjaaGreatDoor
open Go.Sha
set_option maxRecDepth 100000
variable {g:List (Nat×Obj)}{n:Nat}
theorem L59 {l:List Pt}(hl:l.length<140737488355328):∀r j,(l).drop j=r→runL Tryz.prog HH [0,1,5] n B59_0 [(0,.sl (l.map Pt.v)),(1,.sl (l.map Pt.v)),(5,.int .i64 j)] (stN g n)=some (.exit 0,[],stN g n):=by
 refine drop_ind (fun j h=>?_) (fun q r j h hx hd ih=>?_)
 all_goals rw[runL_of B59_0.eq_1]
 ·have h1:¬(j:Int)<(l).length:=by omega
  push_cast[h1,Pt.v]
 ·have h1:(j:Int)<(l).length:=by omega
  have hw:=iw1 (j:=j) (by omega)
  push_cast[h,h1,hw,hx,Pt.v]at ih ⊢
  first|exact ih|simpa using ih
theorem f59 {l:List Pt}(hl:l.length<140737488355328){st:St}:run Tryz.prog HH 59 [.sl (l.map Pt.v),.sl (l.map Pt.v)] st=some (.ret (.bool true),st):=by
 have hL:=fun n=>L59 (g:=st.x.gl) (n:=n) hl l 0 rfl
 push_cast[Pt.v]at hL
 rw[run_shut F59 rfl rfl (by simp)]
 push_cast[Pt.v,hL]
theorem L24 {l:List Fixt}(hl:l.length<140737488355328):∀r j,(l).drop j=r→runL Tryz.prog HH [0,1,5] n B24_0 [(0,.sl (l.map Fixt.v)),(1,.sl (l.map Fixt.v)),(5,.int .i64 j)] (stN g n)=some (.exit 0,[],stN g n):=by
 refine drop_ind (fun j h=>?_) (fun q r j h hx hd ih=>?_)
 all_goals rw[runL_of B24_0.eq_1]
 ·have h1:¬(j:Int)<(l).length:=by omega
  push_cast[h1,Fixt.v]
 ·have h1:(j:Int)<(l).length:=by omega
  have hw:=iw1 (j:=j) (by omega)
  push_cast[h,h1,hw,hx,Fixt.v]at ih ⊢
  first|exact ih|simpa using ih
theorem f24 {l:List Fixt}(hl:l.length<140737488355328){st:St}:run Tryz.prog HH 24 [.sl (l.map Fixt.v),.sl (l.map Fixt.v)] st=some (.ret (.bool true),st):=by
 have hL:=fun n=>L24 (g:=st.x.gl) (n:=n) hl l 0 rfl
 push_cast[Fixt.v]at hL
 rw[run_shut F24 rfl rfl (by simp)]
 push_cast[Fixt.v,hL]
theorem L121 {l:List Pt}(hl:l.length<140737488355328):∀r j,(l).drop j=r→runL Tryz.prog HH [0,1,5] n B121_0 [(0,.sl (l.map Pt.v)),(1,.sl (l.map Pt.v)),(5,.int .i64 j)] (stN g n)=some (.exit 0,[],stN g n):=by
 refine drop_ind (fun j h=>?_) (fun q r j h hx hd ih=>?_)
 all_goals rw[runL_of B121_0.eq_1]
 ·have h1:¬(j:Int)<(l).length:=by omega
  push_cast[h1,Pt.v]
 ·have h1:(j:Int)<(l).length:=by omega
  have hw:=iw1 (j:=j) (by omega)
  push_cast[h,h1,hw,hx,Pt.v]at ih ⊢
  first|exact ih|simpa using ih
theorem f121 {l:List Pt}(hl:l.length<140737488355328){st:St}:run Tryz.prog HH 121 [.sl (l.map Pt.v),.sl (l.map Pt.v)] st=some (.ret (.bool true),st):=by
 have hL:=fun n=>L121 (g:=st.x.gl) (n:=n) hl l 0 rfl
 push_cast[Pt.v]at hL
 rw[run_shut F121 rfl rfl (by simp)]
 push_cast[Pt.v,hL]
theorem L193 {l:List Slt}(hl:l.length<140737488355328):∀r j,(l).drop j=r→runL Tryz.prog HH [0,1,5] n B193_0 [(0,.sl (l.map Slt.v)),(1,.sl (l.map Slt.v)),(5,.int .i64 j)] (stN g n)=some (.exit 0,[],stN g n):=by
 refine drop_ind (fun j h=>?_) (fun q r j h hx hd ih=>?_)
 all_goals rw[runL_of B193_0.eq_1]
 ·have h1:¬(j:Int)<(l).length:=by omega
  push_cast[h1,Slt.v]
 ·have h1:(j:Int)<(l).length:=by omega
  have hw:=iw1 (j:=j) (by omega)
  push_cast[h,h1,hw,hx,Slt.v]at ih ⊢
  first|exact ih|simpa using ih
theorem f193 {l:List Slt}(hl:l.length<140737488355328){st:St}:run Tryz.prog HH 193 [.sl (l.map Slt.v),.sl (l.map Slt.v)] st=some (.ret (.bool true),st):=by
 have hL:=fun n=>L193 (g:=st.x.gl) (n:=n) hl l 0 rfl
 push_cast[Slt.v]at hL
 rw[run_shut F193 rfl rfl (by simp)]
 push_cast[Slt.v,hL]
theorem L194 {l:List Mov}(hl:l.length<140737488355328):∀r j,(l).drop j=r→runL Tryz.prog HH [0,1,5] n B194_0 [(0,.sl (l.map Mov.v)),(1,.sl (l.map Mov.v)),(5,.int .i64 j)] (stN g n)=some (.exit 0,[],stN g n):=by
 refine drop_ind (fun j h=>?_) (fun q r j h hx hd ih=>?_)
 all_goals rw[runL_of B194_0.eq_1]
 ·have h1:¬(j:Int)<(l).length:=by omega
  push_cast[h1,Mov.v]
 ·have h1:(j:Int)<(l).length:=by omega
  have hw:=iw1 (j:=j) (by omega)
  push_cast[h,h1,hw,hx,Mov.v]at ih ⊢
  first|exact ih|simpa using ih
theorem f194 {l:List Mov}(hl:l.length<140737488355328){st:St}:run Tryz.prog HH 194 [.sl (l.map Mov.v),.sl (l.map Mov.v)] st=some (.ret (.bool true),st):=by
 have hL:=fun n=>L194 (g:=st.x.gl) (n:=n) hl l 0 rfl
 push_cast[Mov.v]at hL
 rw[run_shut F194 rfl rfl (by simp)]
 push_cast[Mov.v,hL]
theorem L119 {l:List Int}(hl:l.length<140737488355328):∀r j,(l).drop j=r→runL Tryz.prog HH [0,1,5] n B119_0 [(0,.sl (l.map (.int .i64))),(1,.sl (l.map (.int .i64))),(5,.int .i64 j)] (stN g n)=some (.exit 0,[],stN g n):=by
 refine drop_ind (fun j h=>?_) (fun q r j h hx hd ih=>?_)
 all_goals rw[runL_of B119_0.eq_1]
 ·have h1:¬(j:Int)<(l).length:=by omega
  push_cast[h1]
 ·have h1:(j:Int)<(l).length:=by omega
  have hw:=iw1 (j:=j) (by omega)
  push_cast[h,h1,hw,hx]at ih ⊢
  first|exact ih|simpa using ih
theorem f119 {l:List Int}(hl:l.length<140737488355328){st:St}:run Tryz.prog HH 119 [.sl (l.map (.int .i64)),.sl (l.map (.int .i64))] st=some (.ret (.bool true),st):=by
 have hL:=fun n=>L119 (g:=st.x.gl) (n:=n) hl l 0 rfl
 push_cast[hl]at hL
 rw[run_shut F119 rfl rfl (by simp)]
 push_cast[hl,hL]
theorem L22 {l:List (List Pt)}(hl:l.length<140737488355328)(hb:∀q∈l,q.length<140737488355328):∀r j,(l).drop j=r→runL Tryz.prog HH [0,1,5] n B22_0 [(0,.sl (l.map Pt.vs)),(1,.sl (l.map Pt.vs)),(5,.int .i64 j)] (stN g n)=some (.exit 0,[],stN g n):=by
 refine drop_ind (fun j h=>?_) (fun q r j h hx hd ih=>?_)
 all_goals rw[runL_of B22_0.eq_1]
 ·have h1:¬(j:Int)<(l).length:=by omega
  push_cast[h1,Pt.vs]
 ·have h1:(j:Int)<(l).length:=by omega
  have hw:=iw1 (j:=j) (by omega)
  have hf:=fun(st:St)=>f59 (hb q (mem_at hd)) (st:=st)
  push_cast[Pt.vs]at hf
  push_cast[h,h1,hw,hx,Pt.vs,hf]at ih ⊢
  first|exact ih|simpa using ih
theorem f22 {l:List (List Pt)}(hl:l.length<140737488355328)(hb:∀q∈l,q.length<140737488355328){st:St}:run Tryz.prog HH 22 [.sl (l.map Pt.vs),.sl (l.map Pt.vs)] st=some (.ret (.bool true),st):=by
 have hL:=fun n=>L22 (g:=st.x.gl) (n:=n) hl hb l 0 rfl
 push_cast[Pt.vs]at hL
 rw[run_shut F22 rfl rfl (by simp)]
 push_cast[Pt.vs,hL]
theorem f118 {x:Ftr}(hb:x.wheel.length<140737488355328){st:St}:run Tryz.prog HH 118 [x.v,x.v] st=some (.ret (.bool true),st):=by
 have hf:=fun(st:St)=>f193 hb (st:=st)
 push_cast[Slt.v]at hf
 rw[run_shut F118 rfl rfl (by simp)]
 push_cast[Ftr.v,hf]
theorem L60 {x:Prof}(hl:x.feats.length<140737488355328)(hb:∀q∈x.feats,q.wheel.length<140737488355328):∀r j,(x.feats).drop j=r→runL Tryz.prog HH [2,3,5] n B60_0 [(2,.ep x.v 0),(3,.ep x.v 0),(5,.int .i64 j)] (stN g n)=some (.exit 0,[],stN g n):=by
 refine drop_ind (fun j h=>?_) (fun q r j h hx hd ih=>?_)
 all_goals rw[runL_of B60_0.eq_1]
 ·have h1:¬(j:Int)<(x.feats).length:=by omega
  push_cast[h1,Prof.v,Ftr.v]
 ·have h1:(j:Int)<(x.feats).length:=by omega
  have hw:=iw1 (j:=j) (by omega)
  have hf:=fun(st:St)=>f118 (hb q (mem_at hd)) (st:=st)
  push_cast[Ftr.v]at hf
  push_cast[h,h1,hw,hx,Prof.v,Ftr.v,hf]at ih ⊢
  first|exact ih|simpa using ih
theorem f60 {x:Prof}(hl:x.feats.length<140737488355328)(hb:∀q∈x.feats,q.wheel.length<140737488355328){st:St}:run Tryz.prog HH 60 [x.v,x.v] st=some (.ret (.bool true),st):=by
 have hL:=fun n=>L60 (g:=st.x.gl) (n:=n) hl hb x.feats 0 rfl
 push_cast[Prof.v]at hL
 rw[run_shut F60 rfl rfl (by simp)]
 push_cast[Prof.v,hL]
theorem L23 {l:List Prof}(hl:l.length<140737488355328)(hb:∀q∈l,q.feats.length<140737488355328∧∀z∈q.feats,z.wheel.length<140737488355328):∀r j,(l).drop j=r→runL Tryz.prog HH [0,1,5] n B23_0 [(0,.sl (l.map Prof.v)),(1,.sl (l.map Prof.v)),(5,.int .i64 j)] (stN g n)=some (.exit 0,[],stN g n):=by
 refine drop_ind (fun j h=>?_) (fun q r j h hx hd ih=>?_)
 all_goals rw[runL_of B23_0.eq_1]
 ·have h1:¬(j:Int)<(l).length:=by omega
  push_cast[h1,Prof.v]
 ·have h1:(j:Int)<(l).length:=by omega
  have hw:=iw1 (j:=j) (by omega)
  have hf:=fun(st:St)=>f60 (hb q (mem_at hd)).1 (hb q (mem_at hd)).2 (st:=st)
  push_cast[Prof.v]at hf
  push_cast[h,h1,hw,hx,Prof.v,hf]at ih ⊢
  first|exact ih|simpa using ih
theorem f23 {l:List Prof}(hl:l.length<140737488355328)(hb:∀q∈l,q.feats.length<140737488355328∧∀z∈q.feats,z.wheel.length<140737488355328){st:St}:run Tryz.prog HH 23 [.sl (l.map Prof.v),.sl (l.map Prof.v)] st=some (.ret (.bool true),st):=by
 have hL:=fun n=>L23 (g:=st.x.gl) (n:=n) hl hb l 0 rfl
 push_cast[Prof.v]at hL
 rw[run_shut F23 rfl rfl (by simp)]
 push_cast[Prof.v,hL]
theorem f61 {x:Grp}(hb:x.chans.length<140737488355328){st:St}:run Tryz.prog HH 61 [x.v,x.v] st=some (.ret (.bool true),st):=by
 have hf:=fun(st:St)=>f119 hb (st:=st)
 rw[run_shut F61 rfl rfl (by simp)]
 push_cast[Grp.v,hf]
theorem L25 {l:List Grp}(hl:l.length<140737488355328)(hb:∀q∈l,q.chans.length<140737488355328):∀r j,(l).drop j=r→runL Tryz.prog HH [0,1,5] n B25_0 [(0,.sl (l.map Grp.v)),(1,.sl (l.map Grp.v)),(5,.int .i64 j)] (stN g n)=some (.exit 0,[],stN g n):=by
 refine drop_ind (fun j h=>?_) (fun q r j h hx hd ih=>?_)
 all_goals rw[runL_of B25_0.eq_1]
 ·have h1:¬(j:Int)<(l).length:=by omega
  push_cast[h1,Grp.v]
 ·have h1:(j:Int)<(l).length:=by omega
  have hw:=iw1 (j:=j) (by omega)
  have hf:=fun(st:St)=>f61 (hb q (mem_at hd)) (st:=st)
  push_cast[Grp.v]at hf
  push_cast[h,h1,hw,hx,Grp.v,hf]at ih ⊢
  first|exact ih|simpa using ih
theorem f25 {l:List Grp}(hl:l.length<140737488355328)(hb:∀q∈l,q.chans.length<140737488355328){st:St}:run Tryz.prog HH 25 [.sl (l.map Grp.v),.sl (l.map Grp.v)] st=some (.ret (.bool true),st):=by
 have hL:=fun n=>L25 (g:=st.x.gl) (n:=n) hl hb l 0 rfl
 push_cast[Grp.v]at hL
 rw[run_shut F25 rfl rfl (by simp)]
 push_cast[Grp.v,hL]
theorem L120 {x:Cu}(hl:x.parts.length<140737488355328):∀r j,(x.parts).drop j=r→runL Tryz.prog HH [2,3,5] n B120_0 [(2,.ep x.v 0),(3,.ep x.v 0),(5,.int .i64 j)] (stN g n)=some (.exit 0,[],stN g n):=by
 refine drop_ind (fun j h=>?_) (fun q r j h hx hd ih=>?_)
 all_goals rw[runL_of B120_0.eq_1]
 ·have h1:¬(j:Int)<(x.parts).length:=by omega
  push_cast[h1,Cu.v,Tim.v]
 ·have h1:(j:Int)<(x.parts).length:=by omega
  have hw:=iw1 (j:=j) (by omega)
  push_cast[h,h1,hw,hx,Cu.v,Tim.v]at ih ⊢
  first|exact ih|simpa using ih
theorem f120 {x:Cu}(hm:x.moves.length<140737488355328)(hl:x.parts.length<140737488355328){st:St}:run Tryz.prog HH 120 [x.v,x.v] st=some (.ret (.bool true),st):=by
 have hf:=fun(st:St)=>f194 hm (st:=st)
 push_cast[Mov.v]at hf
 have hL:=fun n=>L120 (g:=st.x.gl) (n:=n) hl x.parts 0 rfl
 push_cast[Cu.v,hf]at hL
 rw[run_shut F120 rfl rfl (by simp)]
 push_cast[Cu.v,hf,hL]
theorem L62 {x:Lst}(hl:x.cues.length<140737488355328)(hb:∀q∈x.cues,q.ok):∀r j,(x.cues).drop j=r→runL Tryz.prog HH [2,3,5] n B62_0 [(2,.ep x.v 0),(3,.ep x.v 0),(5,.int .i64 j)] (stN g n)=some (.exit 0,[],stN g n):=by
 refine drop_ind (fun j h=>?_) (fun q r j h hx hd ih=>?_)
 all_goals rw[runL_of B62_0.eq_1]
 ·have h1:¬(j:Int)<(x.cues).length:=by omega
  push_cast[h1,Lst.v,Cu.v]
 ·have h1:(j:Int)<(x.cues).length:=by omega
  have hw:=iw1 (j:=j) (by omega)
  have hf:=fun(st:St)=>f120 (hb q (mem_at hd)).c (hb q (mem_at hd)).d (st:=st)
  push_cast[Cu.v]at hf
  push_cast[h,h1,hw,hx,Lst.v,Cu.v,hf]at ih ⊢
  first|exact ih|simpa using ih
theorem f62 {x:Lst}(hl:x.cues.length<140737488355328)(hb:∀q∈x.cues,q.ok){st:St}:run Tryz.prog HH 62 [x.v,x.v] st=some (.ret (.bool true),st):=by
 have hL:=fun n=>L62 (g:=st.x.gl) (n:=n) hl hb x.cues 0 rfl
 push_cast[Lst.v]at hL
 rw[run_shut F62 rfl rfl (by simp)]
 push_cast[Lst.v,hL]
theorem L27 {l:List Lst}(hl:l.length<140737488355328)(hb:∀q∈l,q.ok):∀r j,(l).drop j=r→runL Tryz.prog HH [0,1,5] n B27_0 [(0,.sl (l.map Lst.v)),(1,.sl (l.map Lst.v)),(5,.int .i64 j)] (stN g n)=some (.exit 0,[],stN g n):=by
 refine drop_ind (fun j h=>?_) (fun q r j h hx hd ih=>?_)
 all_goals rw[runL_of B27_0.eq_1]
 ·have h1:¬(j:Int)<(l).length:=by omega
  push_cast[h1,Lst.v]
 ·have h1:(j:Int)<(l).length:=by omega
  have hw:=iw1 (j:=j) (by omega)
  have hf:=fun(st:St)=>f62 (hb q (mem_at hd)).a (hb q (mem_at hd)).b (st:=st)
  push_cast[Lst.v]at hf
  push_cast[h,h1,hw,hx,Lst.v,hf]at ih ⊢
  first|exact ih|simpa using ih
theorem f27 {l:List Lst}(hl:l.length<140737488355328)(hb:∀q∈l,q.ok){st:St}:run Tryz.prog HH 27 [.sl (l.map Lst.v),.sl (l.map Lst.v)] st=some (.ret (.bool true),st):=by
 have hL:=fun n=>L27 (g:=st.x.gl) (n:=n) hl hb l 0 rfl
 push_cast[Lst.v]at hL
 rw[run_shut F27 rfl rfl (by simp)]
 push_cast[Lst.v,hL]
theorem L63 {x:Sb}(hl:x.gains.length<140737488355328):∀r j,(x.gains).drop j=r→runL Tryz.prog HH [2,3,5] n B63_0 [(2,.ep x.v 0),(3,.ep x.v 0),(5,.int .i64 j)] (stN g n)=some (.exit 0,[],stN g n):=by
 refine drop_ind (fun j h=>?_) (fun q r j h hx hd ih=>?_)
 all_goals rw[runL_of B63_0.eq_1]
 ·have h1:¬(j:Int)<(x.gains).length:=by omega
  push_cast[h1,Sb.v,Gan.v]
 ·have h1:(j:Int)<(x.gains).length:=by omega
  have hw:=iw1 (j:=j) (by omega)
  push_cast[h,h1,hw,hx,Sb.v,Gan.v]at ih ⊢
  first|exact ih|simpa using ih
theorem f63 {x:Sb}(hl:x.gains.length<140737488355328){st:St}:run Tryz.prog HH 63 [x.v,x.v] st=some (.ret (.bool true),st):=by
 have hL:=fun n=>L63 (g:=st.x.gl) (n:=n) hl x.gains 0 rfl
 push_cast[Sb.v]at hL
 rw[run_shut F63 rfl rfl (by simp)]
 push_cast[Sb.v,hL]
theorem L28 {l:List Sb}(hl:l.length<140737488355328)(hb:∀q∈l,q.gains.length<140737488355328):∀r j,(l).drop j=r→runL Tryz.prog HH [0,1,5] n B28_0 [(0,.sl (l.map Sb.v)),(1,.sl (l.map Sb.v)),(5,.int .i64 j)] (stN g n)=some (.exit 0,[],stN g n):=by
 refine drop_ind (fun j h=>?_) (fun q r j h hx hd ih=>?_)
 all_goals rw[runL_of B28_0.eq_1]
 ·have h1:¬(j:Int)<(l).length:=by omega
  push_cast[h1,Sb.v]
 ·have h1:(j:Int)<(l).length:=by omega
  have hw:=iw1 (j:=j) (by omega)
  have hf:=fun(st:St)=>f63 (hb q (mem_at hd)) (st:=st)
  push_cast[Sb.v]at hf
  push_cast[h,h1,hw,hx,Sb.v,hf]at ih ⊢
  first|exact ih|simpa using ih
theorem f28 {l:List Sb}(hl:l.length<140737488355328)(hb:∀q∈l,q.gains.length<140737488355328){st:St}:run Tryz.prog HH 28 [.sl (l.map Sb.v),.sl (l.map Sb.v)] st=some (.ret (.bool true),st):=by
 have hL:=fun n=>L28 (g:=st.x.gl) (n:=n) hl hb l 0 rfl
 push_cast[Sb.v]at hL
 rw[run_shut F28 rfl rfl (by simp)]
 push_cast[Sb.v,hL]
theorem f64 {x:Eff}(hb:x.wave.length<140737488355328){st:St}:run Tryz.prog HH 64 [x.v,x.v] st=some (.ret (.bool true),st):=by
 have hf:=fun(st:St)=>f121 hb (st:=st)
 push_cast[Pt.v]at hf
 rw[run_shut F64 rfl rfl (by simp)]
 push_cast[Eff.v,hf,beq_self_eq_true]
theorem L29 {l:List Eff}(hl:l.length<140737488355328)(hb:∀q∈l,q.wave.length<140737488355328):∀r j,(l).drop j=r→runL Tryz.prog HH [0,1,5] n B29_0 [(0,.sl (l.map Eff.v)),(1,.sl (l.map Eff.v)),(5,.int .i64 j)] (stN g n)=some (.exit 0,[],stN g n):=by
 refine drop_ind (fun j h=>?_) (fun q r j h hx hd ih=>?_)
 all_goals rw[runL_of B29_0.eq_1]
 ·have h1:¬(j:Int)<(l).length:=by omega
  push_cast[h1,Eff.v]
 ·have h1:(j:Int)<(l).length:=by omega
  have hw:=iw1 (j:=j) (by omega)
  have hf:=fun(st:St)=>f64 (hb q (mem_at hd)) (st:=st)
  push_cast[Eff.v]at hf
  push_cast[h,h1,hw,hx,Eff.v,hf]at ih ⊢
  first|exact ih|simpa using ih
theorem f29 {l:List Eff}(hl:l.length<140737488355328)(hb:∀q∈l,q.wave.length<140737488355328){st:St}:run Tryz.prog HH 29 [.sl (l.map Eff.v),.sl (l.map Eff.v)] st=some (.ret (.bool true),st):=by
 have hL:=fun n=>L29 (g:=st.x.gl) (n:=n) hl hb l 0 rfl
 push_cast[Eff.v]at hL
 rw[run_shut F29 rfl rfl (by simp)]
 push_cast[Eff.v,hL]
theorem L26_0 {l:List Pal}{i:Nat}{x:Pal}(hi:l[i]?=some x)(hb:x.hues.length<140737488355328):∀r j,x.hues.drop j=r→runL Tryz.prog HH [0,1,5,6] n B26_0 [(0,.sl (l.map Pal.v)),(1,.sl (l.map Pal.v)),(5,.int .i64 i),(6,.int .i64 j)] (stN g n)=some (.exit 2,[(0,.sl (l.map Pal.v)),(1,.sl (l.map Pal.v)),(5,.int .i64 i)],stN g n):=by
 have hil:i<l.length:=(List.getElem?_eq_some_iff.1 hi).1
 have hi2:(i:Int)<l.length:=by omega
 have hiD:l.getD i default=x:=by rw[List.getD_eq_getElem?_getD,hi];rfl
 refine drop_ind (fun j h=>?_) (fun q r j h hx hd ih=>?_)
 all_goals rw[runL_of B26_0.eq_1]
 ·have h1:¬(j:Int)<x.hues.length:=by omega
  push_cast[h1,hil,hi2,hi,hiD,Pal.v]
 ·have h1:(j:Int)<x.hues.length:=by omega
  have hw:=iw1 (j:=j) (by omega)
  push_cast[h,h1,hw,hx,hil,hi2,hi,hiD,Pal.v,Hue.v]at ih ⊢
  first|exact ih|simpa using ih
theorem L26_1 {l:List Pal}(hl:l.length<140737488355328)(hb:∀q∈l,q.hues.length<140737488355328):∀r j,l.drop j=r→runL Tryz.prog HH [0,1,5] n B26_1 [(0,.sl (l.map Pal.v)),(1,.sl (l.map Pal.v)),(5,.int .i64 j)] (stN g n)=some (.exit 0,[],stN g n):=by
 refine drop_ind (fun j h=>?_) (fun q r j h hx hd ih=>?_)
 all_goals rw[runL_of B26_1.eq_1]
 ·have h1:¬(j:Int)<l.length:=by omega
  push_cast[h1,Pal.v]
 ·have h1:(j:Int)<l.length:=by omega
  have hw:=iw1 (j:=j) (by omega)
  have hg:l[j]?=some q:=by rw[←List.head?_drop,hd];rfl
  have hL:=L26_0 (g:=g) (n:=n) hg (hb q (mem_at hd)) _ 0 rfl
  push_cast[Pal.v]at hL
  push_cast[h,h1,hw,hx,hL,Pal.v]at ih ⊢
  first|exact ih|simpa using ih
theorem f26 {l:List Pal}(hl:l.length<140737488355328)(hb:∀q∈l,q.hues.length<140737488355328){st:St}:run Tryz.prog HH 26 [.sl (l.map Pal.v),.sl (l.map Pal.v)] st=some (.ret (.bool true),st):=by
 have hL:=fun n=>L26_1 (g:=st.x.gl) (n:=n) hl hb l 0 rfl
 push_cast[Pal.v]at hL
 rw[run_shut F26 rfl rfl (by simp)]
 push_cast[Pal.v,hL]
theorem f9 {s:Sho}(h:s.ok){st:St}:run Tryz.prog HH 9 [s.v,s.v] st=some (.ret (.bool true),st):=by
 have h1:=fun(st:St)=>f22 h.c.1 h.c.2 (st:=st)
 have h2:=fun(st:St)=>f23 h.p.1 (fun q hq=>⟨(h.p.2.1 q hq).a,(h.p.2.1 q hq).b⟩) (st:=st)
 have h3:=fun(st:St)=>f24 h.f.1 (st:=st)
 have h4:=fun(st:St)=>f25 h.g.1 h.g.2 (st:=st)
 have h5:=fun(st:St)=>f26 h.l.1 h.l.2 (st:=st)
 have h6:=fun(st:St)=>f27 h.k.1 h.k.2 (st:=st)
 have h7:=fun(st:St)=>f28 h.s.1 h.s.2 (st:=st)
 have h8:=fun(st:St)=>f29 h.e.1 h.e.2 (st:=st)
 rw[run_shut F9 rfl rfl (by simp)]
 push_cast[Sho.v,h1,h2,h3,h4,h5,h6,h7,h8]
end Go.Proofs.YtaneehgfdpadjaaGreatDoor

namespace Go.Proofs.YtaneehgfdpadjaaGreatDoor
open Go.Sha
set_option maxRecDepth 10000
-- 3 is not covered
theorem F6:compF Tryz.prog 6=some ⟨57,[.tmp 2],(.g [.q 1 51 0,.k 2 false] (.z [1] (.join [2] (.reg [.a 3 5 1,.d 4 9 3,.f 5 15 4,.m 6 5,.ay 7 5 1 6,.ay 8 2 7 6,.ly 9 8 6,.y 10 (.len (.t 9)) 6,.vy 11 .leq 10 20 6,.e 12 6 11,.m 13 12,.ay 14 14 1 13,.y 15 (.load (some 2) (.t 14)) 13,.y 16 (.bslice 38 2 [.t 15]) 13,.y 17 (.f 16 [.t 16]) 13,.e 18 13 17,.m 19 18,.ay 20 16 1 19,.y 21 (.load (some 2) (.t 20)) 19,.y 22 (.bslice 41 2 [.t 21]) 19,.y 23 (.f 17 [.t 22]) 19,.e 24 19 23,.m 25 24,.ay 26 18 1 25,.y 27 (.load (some 4) (.t 26)) 25,.y 28 (.bslice 44 4 [.t 27]) 25,.y 29 (.f 18 [.t 28]) 25,.e 30 25 29,.m 31 30,.ay 32 22 1 31,.y 33 (.load (some 6) (.t 32)) 31,.y 34 (.bslice 47 6 [.t 33]) 31,.y 35 (.f 19 [.t 34,(.c .nils)]) 31,.e 36 31 35,.m 37 36,.ay 38 4 1 37,.ly 39 38 37,.y 40 (.lens (.t 39)) 37,.vy 41 .leq 40 200 37,.e 42 37 41,.m 43 42,.ay 44 28 1 43,.ay 45 2 44 43,.ly 46 45 43,.y 47 (.lens (.t 46)) 43,.vy 48 .leq 47 100 43,.e 49 43 48,.m 50 49,.ay 51 28 1 50,.ay 52 6 51 50,.ly 53 52 50,.y 54 (.lens (.t 53)) 50,.vy 55 .leq 54 100 50,.e 56 50 55,.m 2 56]) (.ret [2]))))⟩:=by kernel_rfl
theorem F7:compF Tryz.prog 7=some ⟨24,[.tmp 2],(.g [.q 1 51 0,.c 2 0] (.z [1] (.join [] (.g [.a 3 0 1,.l 4 3] (.block 0 (.join [4,5] (.g [.v 6 .eql 4 0,.m 5 6] (.i 5 .skip (.g [.v 7 .eql 4 1,.m 5 7] (.i 5 .skip (.reg [.v 8 .eql 4 2,.m 5 8]))))) (.i 5 (.g [.c 2 1] (.ret [2])) (.join [4,9] (.g [.v 10 .eql 4 3,.m 9 10] (.i 9 .skip (.reg [.v 11 .eql 4 4,.m 9 11]))) (.i 9 (.g [.c 2 2] (.ret [2])) (.join [4,12] (.g [.v 13 .eql 4 5,.m 12 13] (.i 12 .skip (.reg [.v 14 .eql 4 6,.m 12 14]))) (.i 12 (.g [.c 2 3] (.ret [2])) (.join [4,15] (.g [.v 16 .eql 4 7,.m 15 16] (.i 15 .skip (.reg [.v 17 .eql 4 8,.m 15 17]))) (.i 15 (.g [.c 2 4] (.ret [2])) (.join [4,18] (.g [.v 19 .eql 4 9,.m 18 19] (.i 18 .skip (.reg [.v 20 .eql 4 10,.m 18 20]))) (.i 18 (.g [.c 2 5] (.ret [2])) (.join [21] (.g [.v 22 .eql 4 11,.m 21 22] (.i 21 .skip (.reg [.v 23 .eql 4 12,.m 21 23]))) (.i 21 (.g [.c 2 6] (.ret [2])) .skip)))))))))))))) (.g [.c 2 7] (.ret [2])))))⟩:=by kernel_rfl
end Go.Proofs.YtaneehgfdpadjaaGreatDoor

namespace Go.Proofs.YtaneehgfdpadjaaGreatDoor
open Go.Sha
set_option maxRecDepth 100000
variable {g:List (Nat×Obj)}{n:Nat}
theorem f6 {e:Edi}:∃b,∀st,run Tryz.prog HH 6 [e.v] st=some (.ret (.bool b),st):=by
 have h1:=fun(st:St)=>f15 (x:=e.cue) (st:=st)
 obtain⟨b2,h2⟩:=f16 (l:=[e.pal]) (by simp)
 obtain⟨b3,h3⟩:=f17 (l:=[e.grp]) (by simp)
 obtain⟨b4,h4⟩:=f18 (l:=[e.sub]) (by simp)
 obtain⟨b5,h5⟩:=f19 (l:=[e.eff])
 generalize few129 e.cue=b1 at h1
 push_cast[Cu.v,Pal.v,Grp.v,Sb.v,Eff.v,List.map_cons,List.map_nil]at h1 h2 h3 h4 h5
 apply Exists.intro
 intro st
 rw[run_shut F6 rfl rfl (by simp)]
 push_cast[Edi.v,h1,h2,h3,h4,h5]
 exact rfl
def clsE (e:Edi):Int:=if e.kind=0∨e.kind=1∨e.kind=2 then 1 else if e.kind=3∨e.kind=4 then 2 else if e.kind=5∨e.kind=6 then 3 else if e.kind=7∨e.kind=8 then 4 else if e.kind=9∨e.kind=10 then 5 else if e.kind=11∨e.kind=12 then 6 else 7
theorem f7 {e:Edi}{st:St}:run Tryz.prog HH 7 [e.v] st=some (.ret (.int .i64 (clsE e)),st):=by
 rw[run_shut F7 rfl rfl (by simp)]
 by_cases k0:e.kind=0
 ·have ec:clsE e=1:=by simp[clsE,k0]
  push_cast[Edi.v,k0,ec]
 by_cases k1:e.kind=1
 ·have ec:clsE e=1:=by simp[clsE,k1]
  push_cast[Edi.v,k0,k1,ec]
 by_cases k2:e.kind=2
 ·have ec:clsE e=1:=by simp[clsE,k2]
  push_cast[Edi.v,k0,k1,k2,ec]
 by_cases k3:e.kind=3
 ·have ec:clsE e=2:=by simp[clsE,k3]
  push_cast[Edi.v,k0,k1,k2,k3,ec]
 by_cases k4:e.kind=4
 ·have ec:clsE e=2:=by simp[clsE,k4]
  push_cast[Edi.v,k0,k1,k2,k3,k4,ec]
 by_cases k5:e.kind=5
 ·have ec:clsE e=3:=by simp[clsE,k5]
  push_cast[Edi.v,k0,k1,k2,k3,k4,k5,ec]
 by_cases k6:e.kind=6
 ·have ec:clsE e=3:=by simp[clsE,k6]
  push_cast[Edi.v,k0,k1,k2,k3,k4,k5,k6,ec]
 by_cases k7:e.kind=7
 ·have ec:clsE e=4:=by simp[clsE,k7]
  push_cast[Edi.v,k0,k1,k2,k3,k4,k5,k6,k7,ec]
 by_cases k8:e.kind=8
 ·have ec:clsE e=4:=by simp[clsE,k8]
  push_cast[Edi.v,k0,k1,k2,k3,k4,k5,k6,k7,k8,ec]
 by_cases k9:e.kind=9
 ·have ec:clsE e=5:=by simp[clsE,k9]
  push_cast[Edi.v,k0,k1,k2,k3,k4,k5,k6,k7,k8,k9,ec]
 by_cases k10:e.kind=10
 ·have ec:clsE e=5:=by simp[clsE,k10]
  push_cast[Edi.v,k0,k1,k2,k3,k4,k5,k6,k7,k8,k9,k10,ec]
 by_cases k11:e.kind=11
 ·have ec:clsE e=6:=by simp[clsE,k11]
  push_cast[Edi.v,k0,k1,k2,k3,k4,k5,k6,k7,k8,k9,k10,k11,ec]
 by_cases k12:e.kind=12
 ·have ec:clsE e=6:=by simp[clsE,k12]
  push_cast[Edi.v,k0,k1,k2,k3,k4,k5,k6,k7,k8,k9,k10,k11,k12,ec]
 have ec:clsE e=7:=by simp[clsE,k0,k1,k2,k3,k4,k5,k6,k7,k8,k9,k10,k11,k12]
 push_cast[Edi.v,k0,k1,k2,k3,k4,k5,k6,k7,k8,k9,k10,k11,k12,ec]
theorem f35n {x:Lst}(h:x.ok)(h0:lstR x=0)(hl:10<x.cues.length){st:St}:run Tryz.prog HH 35 [x.v] st=some (.ret (.bool false),st):=by
 obtain⟨b,hb⟩:=f67 h.a
 have h91:=fun(st:St)=>f68 (st:=st) h
 have hL:=fun g n=>L35 (g:=g) (n:=n) h x.cues 0 rfl 0
 have h10:(10:Int)<x.cues.length:=by omega
 have h2:(lstR x != 0)=false:=by simp[h0]
 rw[h2]at hL
 rw[h0]at h91
 cases hc:add52 x.cues 0 with
 |none =>
  rw[hc]at hL
  push_cast[Lst.v]at hL hb h91
  rw[run_shut F35 rfl rfl (by simp)]
  cases b with
  |true=>push_cast[Lst.v,hb,h91,hL,h10]
  |false=>push_cast[Lst.v,hb,h91,hL,h10]
 |some k =>
  rw[hc]at hL
  push_cast[Lst.v]at hL hb h91
  rw[run_shut F35 rfl rfl (by simp)]
  cases b with
  |true=>push_cast[Lst.v,hb,h91,hL,h10]
  |false=>push_cast[Lst.v,hb,h91,hL,h10]
theorem few_len {x:Lst}(h:x.ok)(h0:lstR x=0)(hf:few52 x=true):x.cues.length≤10:=by
 rcases Nat.lt_or_ge 10 x.cues.length with hl|hl
 ·have h1:=f35' h (st:=stG [])
  rw[f35n h h0 hl,hf]at h1
  cases h1
 ·exact hl
theorem f13n {x:Sho}(h:x.ok)(ha:anyN 10 (fun q=>few52 q=false) x.lsts 0=true){st:St}:run Tryz.prog HH 13 [x.v] st=some (.ret (.bool false),st):=by
 obtain⟨b1,h1⟩:=f32 h.c.1
 obtain⟨b2,h2⟩:=f33 (l:=x.fixts) h.p.1
 obtain⟨b3,h3⟩:=f17 h.g.1
 obtain⟨b4,h4⟩:=f16 h.l.1
 obtain⟨b5,h5⟩:=f18 h.s.1
 obtain⟨b6,h6⟩:=f19 (l:=x.effs)
 have k0:=fun g n=>L13_0 (g:=g) (n:=n) h x.profs 0 rfl
 have k1:=fun g n=>L13_1 (g:=g) (n:=n) h x.lsts 0 rfl
 rw[ha]at k1
 push_cast[Sho.v]at k0 k1
 rw[run_shut F13 rfl rfl (by simp)]
 push_cast[Sho.v,h1,h2,h3,h4,h5,h6,k0,k1,lpB]
theorem anyN_no {α:Type}{m:Int}{p:α→Prop}[DecidablePred p]:∀{r:List α}{j:Nat},anyN m p r j=false→(j:Int)+r.length≤m→∀q∈r,¬p q
 |[],_,_,_,q,hq=>by cases hq
 |x::r,j,h,hl,q,hq=>by
  unfold anyN at h
  simp only[List.length_cons]at hl
  rw[if_pos (by omega)]at h
  split at h
  ·cases h
  ·rename_i hn
   rcases List.mem_cons.1 hq with rfl|hq
   ·exact hn
   ·exact anyN_no h (by omega) q hq
theorem lstsL_all {l:List Lst}:∀{r:List Lst}{j:Nat},lstsL l r j=0→∀q∈r,lstR q=0
 |[],_,_,q,hq=>by cases hq
 |x::r,j,h,q,hq=>by
  unfold lstsL at h
  split at h
  ·rename_i c;exact absurd h c
  ·rename_i c
   split at h
   ·cases h
   ·rcases List.mem_cons.1 hq with rfl|hq
    ·exact Classical.not_not.1 c
    ·exact lstsL_all h q hq
theorem few_q {s:Sho}(h:s.ok)(h0:shoC s=0)(hF:∀st:St,run Tryz.prog HH 13 [s.v] st=some (.ret (.bool true),st)):∀q∈s.lsts,q.cues.length≤10:=by
 have h7:=(shoC_all.1 h0).2.2.2.2.2.2.1
 unfold lstsC at h7
 split at h7
 ·cases h7
 rename_i h8
 have hr:=lstsL_all h7
 have ha:anyN 10 (fun q=>few52 q=false) s.lsts 0=false:=by
  cases hc:anyN 10 (fun q=>few52 q=false) s.lsts 0 with
  |false=>rfl
  |true =>
   have h1:=hF (stG [])
   rw[f13n h hc]at h1
   cases h1
 intro q hq
 have:=anyN_no ha (by omega) q hq
 exact few_len (h.k.2 q hq) (hr q hq) (by cases hf:few52 q with
  |true=>rfl
  |false=>exact absurd hf this)
end Go.Proofs.YtaneehgfdpadjaaGreatDoor

namespace Go.Proofs.YtaneehgfdpadjaaGreatDoor
open Go.Sha
set_option maxRecDepth 100000
theorem tV_id {e:Edi}(h:¬clsE e=7){t:List UInt8}:tV e t=t:=by
 unfold tV
 split
 ·rename_i k;exact absurd (by simp[clsE,k]) h
 ·rfl
theorem lV_id {e:Edi}(h:¬clsE e=1){l:List Lst}:lV e l=l:=by
 unfold lV
 split
 ·rename_i k;exact absurd (by simp[clsE,k]) h
 split
 ·rename_i k;exact absurd (by simp[clsE,k]) h
 split
 ·rename_i k;exact absurd (by simp[clsE,k]) h
 rfl
theorem pV_id {e:Edi}(h:¬clsE e=2){l:List Pal}:pV e l=l:=by
 unfold pV
 split
 ·rename_i k;exact absurd (by simp[clsE,k]) h
 split
 ·rename_i k;exact absurd (by simp[clsE,k]) h
 rfl
theorem gV_id {e:Edi}(h:¬clsE e=3){l:List Grp}:gV e l=l:=by
 unfold gV
 split
 ·rename_i k;exact absurd (by simp[clsE,k]) h
 split
 ·rename_i k;exact absurd (by simp[clsE,k]) h
 rfl
theorem sV_id {e:Edi}(h:¬clsE e=4){l:List Sb}:sV e l=l:=by
 unfold sV
 split
 ·rename_i k;exact absurd (by simp[clsE,k]) h
 split
 ·rename_i k;exact absurd (by simp[clsE,k]) h
 rfl
theorem xV_id {e:Edi}(h:¬clsE e=5){l:List Eff}:xV e l=l:=by
 unfold xV
 split
 ·rename_i k;exact absurd (by simp[clsE,k]) h
 split
 ·rename_i k;exact absurd (by simp[clsE,k]) h
 rfl
theorem fV_id {e:Edi}(h:¬clsE e=6){l:List Fixt}:fV e l=l:=by
 unfold fV
 split
 ·rename_i k;exact absurd (by simp[clsE,k]) h
 split
 ·rename_i k;exact absurd (by simp[clsE,k]) h
 rfl
theorem two {α:Type}{a b:α→α}(x:α)(h:(∀y,a y=y)∨∀y,b y=y):b (a x)=a (b x):=by
 rcases h with h|h
 ·rw[h,h]
 ·rw[h,h]
theorem eS_comm {s:Sho}{a b:Edi}(h:¬clsE a=clsE b):eS (eS s a) b=eS (eS s b) a:=by
 have o:∀k:Int,¬clsE a=k∨¬clsE b=k:=fun k=>by
  by_cases c:clsE a=k
  ·exact .inr fun e=>h (c.trans e.symm)
  ·exact .inl c
 have e1:=two (a:=tV a) (b:=tV b) s.title ((o 7).imp (fun c y=>tV_id c) (fun c y=>tV_id c))
 have e2:=two (a:=fV a) (b:=fV b) s.fixts ((o 6).imp (fun c y=>fV_id c) (fun c y=>fV_id c))
 have e3:=two (a:=gV a) (b:=gV b) s.grps ((o 3).imp (fun c y=>gV_id c) (fun c y=>gV_id c))
 have e4:=two (a:=pV a) (b:=pV b) s.pals ((o 2).imp (fun c y=>pV_id c) (fun c y=>pV_id c))
 have e5:=two (a:=lV a) (b:=lV b) s.lsts ((o 1).imp (fun c y=>lV_id c) (fun c y=>lV_id c))
 have e6:=two (a:=sV a) (b:=sV b) s.subs ((o 4).imp (fun c y=>sV_id c) (fun c y=>sV_id c))
 have e7:=two (a:=xV a) (b:=xV b) s.effs ((o 5).imp (fun c y=>xV_id c) (fun c y=>xV_id c))
 show(⟨tV b (tV a s.title),s.curves,s.profs,fV b (fV a s.fixts),gV b (gV a s.grps),pV b (pV a s.pals),lV b (lV a s.lsts),sV b (sV a s.subs),xV b (xV a s.effs)⟩:Sho)=⟨tV a (tV b s.title),s.curves,s.profs,fV a (fV b s.fixts),gV a (gV b s.grps),pV a (pV b s.pals),lV a (lV b s.lsts),sV a (sV b s.subs),xV a (xV b s.effs)⟩
 rw[e1,e2,e3,e4,e5,e6,e7]
theorem eC_same {s:Sho}{a b:Edi}(h:¬clsE a=clsE b):eC (eS s a) b=eC s b:=by
 by_cases k0:b.kind=0
 ·have e0:∀z:Sho,eC z b=lC z.lsts b.num (fun y=>puE y b.cue):=fun z=>by simp only[eC,k0,Int.reduceEq,if_true,if_false]
  rw[e0,e0,show(eS s a).lsts=s.lsts from lV_id fun e=>h (by rw[e];simp[clsE,k0])]
 by_cases k1:b.kind=1
 ·have e0:∀z:Sho,eC z b=lC z.lsts b.num (fun y=>goE y b.key):=fun z=>by simp only[eC,k1,Int.reduceEq,if_true,if_false]
  rw[e0,e0,show(eS s a).lsts=s.lsts from lV_id fun e=>h (by rw[e];simp[clsE,k1])]
 by_cases k3:b.kind=3
 ·have e0:∀z:Sho,eC z b=palT z.pals b.pal:=fun z=>by simp only[eC,k3,Int.reduceEq,if_true,if_false]
  rw[e0,e0,show(eS s a).pals=s.pals from pV_id fun e=>h (by rw[e];simp[clsE,k3])]
 by_cases k4:b.kind=4
 ·have e0:∀z:Sho,eC z b=palD z.pals b.num:=fun z=>by simp only[eC,k4,Int.reduceEq,if_true,if_false]
  rw[e0,e0,show(eS s a).pals=s.pals from pV_id fun e=>h (by rw[e];simp[clsE,k4])]
 by_cases k5:b.kind=5
 ·have e0:∀z:Sho,eC z b=grpT z.grps b.grp:=fun z=>by simp only[eC,k5,Int.reduceEq,if_true,if_false]
  rw[e0,e0,show(eS s a).grps=s.grps from gV_id fun e=>h (by rw[e];simp[clsE,k5])]
 by_cases k6:b.kind=6
 ·have e0:∀z:Sho,eC z b=grpD z.grps b.num:=fun z=>by simp only[eC,k6,Int.reduceEq,if_true,if_false]
  rw[e0,e0,show(eS s a).grps=s.grps from gV_id fun e=>h (by rw[e];simp[clsE,k6])]
 by_cases k7:b.kind=7
 ·have e0:∀z:Sho,eC z b=sbT z.subs b.sub:=fun z=>by simp only[eC,k7,Int.reduceEq,if_true,if_false]
  rw[e0,e0,show(eS s a).subs=s.subs from sV_id fun e=>h (by rw[e];simp[clsE,k7])]
 by_cases k8:b.kind=8
 ·have e0:∀z:Sho,eC z b=sbD z.subs b.num:=fun z=>by simp only[eC,k8,Int.reduceEq,if_true,if_false]
  rw[e0,e0,show(eS s a).subs=s.subs from sV_id fun e=>h (by rw[e];simp[clsE,k8])]
 by_cases k10:b.kind=10
 ·have e0:∀z:Sho,eC z b=effDl z.effs b.num:=fun z=>by simp only[eC,k10,Int.reduceEq,if_true,if_false]
  rw[e0,e0,show(eS s a).effs=s.effs from xV_id fun e=>h (by rw[e];simp[clsE,k10])]
 by_cases k11:b.kind=11
 ·have e0:∀z:Sho,eC z b=fixP z.fixts z.profs b.fix:=fun z=>by simp only[eC,k11,Int.reduceEq,if_true,if_false]
  rw[e0,e0,show(eS s a).fixts=s.fixts from fV_id fun e=>h (by rw[e];simp[clsE,k11])];rfl
 by_cases k12:b.kind=12
 ·have e0:∀z:Sho,eC z b=fixD z.fixts z.profs b.chan b.num:=fun z=>by simp only[eC,k12,Int.reduceEq,if_true,if_false]
  rw[e0,e0,show(eS s a).fixts=s.fixts from fV_id fun e=>h (by rw[e];simp[clsE,k12])];rfl
 have e0:∀z:Sho,eC z b=0:=fun z=>by simp only[eC,k0,k1,k3,k4,k5,k6,k7,k8,k10,k11,k12,if_false]
 rw[e0,e0]
theorem apC_0 {s:Sho}{e:Edi}:apC s e=0↔edtC e=0∧eC s e=0∧shoC (eS s e)=0:=by
 unfold apC appR
 by_cases h:edtC e=0
 ·by_cases h1:eC s e=0
  ·simp[h,h1]
  ·simp[h,h1]
 ·simp[h]
theorem sho_comm {s:Sho}{a b:Edi}(h:¬clsE a=clsE b)(ha:shoC (eS s a)=0)(hb:shoC (eS s b)=0):shoC (eS (eS s a) b)=0:=by
 obtain⟨a1,a2,a3,a4,a5,a6,a7,a8,a9⟩:=shoC_all.1 ha
 obtain⟨b1,b2,b3,b4,b5,b6,b7,b8,b9⟩:=shoC_all.1 hb
 have o:∀k:Int,¬clsE a=k∨¬clsE b=k:=fun k=>by
  by_cases c:clsE a=k
  ·exact .inr fun e=>h (c.trans e.symm)
  ·exact .inl c
 refine shoC_all.2 ⟨?_,a2,a3,?_,?_,?_,?_,?_,?_⟩
 ·rcases o 7 with c|c
  ·show labC (tV b (tV a s.title))=0;rw[tV_id c];exact b1
  ·show labC (tV b (tV a s.title))=0;rw[tV_id c];exact a1
 ·rcases o 6 with c|c
  ·show fixCR (fV b (fV a s.fixts)) s.profs=0;rw[fV_id c];exact b4
  ·show fixCR (fV b (fV a s.fixts)) s.profs=0;rw[fV_id c];exact a4
 ·rcases o 3 with c|c
  ·show grpsC (gV b (gV a s.grps))=0;rw[gV_id c];exact b5
  ·show grpsC (gV b (gV a s.grps))=0;rw[gV_id c];exact a5
 ·rcases o 2 with c|c
  ·show palsCR (pV b (pV a s.pals))=0;rw[pV_id c];exact b6
  ·show palsCR (pV b (pV a s.pals))=0;rw[pV_id c];exact a6
 ·rcases o 1 with c|c
  ·show lstsC (lV b (lV a s.lsts))=0;rw[lV_id c];exact b7
  ·show lstsC (lV b (lV a s.lsts))=0;rw[lV_id c];exact a7
 ·rcases o 4 with c|c
  ·show subsCR (sV b (sV a s.subs))=0;rw[sV_id c];exact b8
  ·show subsCR (sV b (sV a s.subs))=0;rw[sV_id c];exact a8
 ·rcases o 5 with c|c
  ·show effsC (xV b (xV a s.effs))=0;rw[xV_id c];exact b9
  ·show effsC (xV b (xV a s.effs))=0;rw[xV_id c];exact a9
theorem comm {s:Sho}{a b:Edi}(h:¬clsE a=clsE b)(ha:apC s a=0)(hb:apC s b=0):apC (eS s a) b=0∧apC (eS s b) a=0∧eS (eS s a) b=eS (eS s b) a:=by
 obtain⟨a1,a2,a3⟩:=apC_0.1 ha
 obtain⟨b1,b2,b3⟩:=apC_0.1 hb
 have h':¬clsE b=clsE a:=fun e=>h e.symm
 exact⟨apC_0.2 ⟨b1,by rw[eC_same h];exact b2,sho_comm h a3 b3⟩,apC_0.2 ⟨a1,by rw[eC_same h'];exact a2,sho_comm h' b3 a3⟩,eS_comm h⟩
theorem lV_q {l:List Lst}{e:Edi}(h:∀q∈l,q.cues.length≤10):∀q∈lV e l,q.cues.length<12:=by
 have hD:∀i,(l.getD i default).cues.length≤10:=fun i=>getD_P (P:=fun q:Lst=>q.cues.length≤10) h (by decide)
 have h0:∀q∈l,q.cues.length<12:=fun q hq=>by have:=h q hq;omega
 have st:∀(i:Nat) (z:Lst),z.cues.length<12→∀q∈l.set i z,q.cues.length<12:=fun i z hz q hq=>(List.mem_or_eq_of_mem_set hq).elim (h0 q) fun e=>by rw[e];exact hz
 unfold lV lSet priN
 split
 ·refine st _ _ ?_
  have:=hD (lstI l e.num).toNat
  generalize l.getD (lstI l e.num).toNat default=y at *
  have hw:=woC_len (s:=e.cue.num) (l:=y.cues)
  show(isort ltC (woC e.cue.num y.cues++[e.cue])).length<12
  rw[isort_len,List.length_append,List.length_cons,List.length_nil];omega
 split
 ·refine st _ _ ?_
  have:=hD (lstI l e.num).toNat
  generalize l.getD (lstI l e.num).toNat default=y at *
  show(goL y e.key).cues.length<12
  unfold goL
  split
  ·unfold drL
   split
   ·split
    ·simp only[drC,List.length_append,List.length_take,List.length_drop];omega
    ·omega
   ·exact(by decide:L0.cues.length<12)
  ·exact(by decide:L0.cues.length<12)
 split
 ·split
  ·refine st _ _ ?_
   have:=h _ (List.mem_of_getElem? (by assumption))
   exact Nat.lt_of_le_of_lt this (by decide)
  ·intro q hq
   simp only[List.mem_append,List.mem_singleton]at hq
   rcases hq with(hq|hq)|hq
   ·exact h0 q (List.mem_of_mem_take hq)
   ·rw[hq];exact(by decide:(0:Nat)<12)
   ·exact h0 q (List.mem_of_mem_drop hq)
 ·exact h0
theorem eS_rt {s:Sho}{e:Edi}(h:s.ok)(h0:shoC s=0)(hq:∀q∈s.lsts,q.cues.length≤10)(he:e.ok)(hc:apC s e=0):(eS s e).rt :=
 ⟨eS_ok ⟨h,h0,fun q hm=>by have:=hq q hm;omega⟩ he,(apC_0.1 hc).2.2,lV_q hq⟩
end Go.Proofs.YtaneehgfdpadjaaGreatDoor

namespace Go.Proofs.YtaneehgfdpadjaaGreatDoor
open Go.Sha
set_option maxRecDepth 10000
def C3 : Cd := (.join [2, 5, 6] (.join [2, 5, 6, 38] (.dreg 20 [⟨(some 19), .load (some 9) (.t 2), none⟩,
      ⟨(some 20), .call (.c (.fn (.func 5) [] [])) [(.t 19)], none⟩,
      ⟨(some 21), .un .not (.t 20), none⟩,
      ⟨(some 22), .mv (.t 21), none⟩,
      ⟨(some 23), .load (some 35) (.t 5), some (22, false)⟩,
      ⟨(some 24), .call (.c (.fn (.func 6) [] [])) [(.t 23)], some (22, false)⟩,
      ⟨(some 25), .un .not (.t 24), some (22, false)⟩,
      ⟨(some 26), .pick (.t 22) (.c (.bool true)) (.t 25), none⟩,
      ⟨(some 27), .mv (.t 26), none⟩,
      ⟨(some 28), .load (some 35) (.t 6), some (27, false)⟩,
      ⟨(some 29), .call (.c (.fn (.func 6) [] [])) [(.t 28)], some (27, false)⟩,
      ⟨(some 30), .un .not (.t 29), some (27, false)⟩,
      ⟨(some 31), .pick (.t 27) (.c (.bool true)) (.t 30), none⟩,
      ⟨(some 32), .mv (.t 31), none⟩,
      ⟨(some 33), .load (some 35) (.t 5), some (32, false)⟩,
      ⟨(some 34), .call (.c (.fn (.func 7) [] [])) [(.t 33)], some (32, false)⟩,
      ⟨(some 35), .load (some 35) (.t 6), some (32, false)⟩,
      ⟨(some 36), .call (.c (.fn (.func 7) [] [])) [(.t 35)], some (32, false)⟩,
      ⟨(some 37), .bin .eql (.t 34) (.t 36), some (32, false)⟩,
      ⟨(some 38), .pick (.t 32) (.c (.bool true)) (.t 37), none⟩])
 (.i 38 (.g [⟨(some 4), .mv (.c (.bool true)), none⟩]
 (.ret [4]))
 .skip))
 (.g [⟨(some 40), .load (some 9) (.t 2), none⟩,
      ⟨(some 41), .load (some 35) (.t 5), none⟩,
      ⟨(some 42), .call (.c (.fn (.func 8) [] [])) [(.t 40), (.t 41)], none⟩,
      ⟨(some 39), .mv (.t 42), none⟩,
      ⟨(some 43), .ext 0 (.t 39), none⟩,
      ⟨(some 44), .ext 1 (.t 39), none⟩,
      ⟨(some 7), .alloc 31 [(.str []), .nils, .nils, .nils, .nils, .nils, .nils, .nils, .nils], none⟩,
      ⟨none, .store 9 (.t 7) (.t 43), none⟩,
      ⟨(some 8), .mv (.t 44), none⟩]
 (.g [⟨(some 46), .load (some 9) (.t 2), none⟩,
      ⟨(some 47), .load (some 35) (.t 6), none⟩,
      ⟨(some 48), .call (.c (.fn (.func 8) [] [])) [(.t 46), (.t 47)], none⟩,
      ⟨(some 45), .mv (.t 48), none⟩,
      ⟨(some 49), .ext 0 (.t 45), none⟩,
      ⟨(some 50), .ext 1 (.t 45), none⟩,
      ⟨(some 9), .alloc 31 [(.str []), .nils, .nils, .nils, .nils, .nils, .nils, .nils, .nils], none⟩,
      ⟨none, .store 9 (.t 9) (.t 49), none⟩,
      ⟨(some 10), .mv (.t 50), none⟩]
 (.join [5, 6, 7, 9] (.join [5, 6, 7, 9, 56] (.reg [⟨(some 51), .mv (.t 8), none⟩,
      ⟨(some 52), .bin .neq (.t 51) (.c (.int .i64 0)), none⟩,
      ⟨(some 53), .mv (.t 52), none⟩,
      ⟨(some 54), .mv (.t 10), some (53, false)⟩,
      ⟨(some 55), .bin .neq (.t 54) (.c (.int .i64 0)), some (53, false)⟩,
      ⟨(some 56), .pick (.t 53) (.c (.bool true)) (.t 55), none⟩])
 (.i 56 (.g [⟨(some 4), .mv (.c (.bool true)), none⟩]
 (.ret [4]))
 .skip))
 (.g [⟨(some 58), .load (some 9) (.t 7), none⟩,
      ⟨(some 59), .load (some 35) (.t 6), none⟩,
      ⟨(some 60), .call (.c (.fn (.func 8) [] [])) [(.t 58), (.t 59)], none⟩,
      ⟨(some 57), .mv (.t 60), none⟩,
      ⟨(some 61), .ext 0 (.t 57), none⟩,
      ⟨(some 62), .ext 1 (.t 57), none⟩,
      ⟨(some 11), .alloc 31 [(.str []), .nils, .nils, .nils, .nils, .nils, .nils, .nils, .nils], none⟩,
      ⟨none, .store 9 (.t 11) (.t 61), none⟩,
      ⟨(some 8), .mv (.t 62), none⟩]
 (.g [⟨(some 64), .load (some 9) (.t 9), none⟩,
      ⟨(some 65), .load (some 35) (.t 5), none⟩,
      ⟨(some 66), .call (.c (.fn (.func 8) [] [])) [(.t 64), (.t 65)], none⟩,
      ⟨(some 63), .mv (.t 66), none⟩,
      ⟨(some 67), .ext 0 (.t 63), none⟩,
      ⟨(some 68), .ext 1 (.t 63), none⟩,
      ⟨(some 12), .alloc 31 [(.str []), .nils, .nils, .nils, .nils, .nils, .nils, .nils, .nils], none⟩,
      ⟨none, .store 9 (.t 12) (.t 67), none⟩,
      ⟨(some 10), .mv (.t 68), none⟩]
 (.join [4] (.reg [⟨(some 69), .mv (.t 8), none⟩,
      ⟨(some 70), .bin .eql (.t 69) (.c (.int .i64 0)), none⟩,
      ⟨(some 71), .mv (.t 70), none⟩,
      ⟨(some 72), .mv (.t 10), some (71, true)⟩,
      ⟨(some 73), .bin .eql (.t 72) (.c (.int .i64 0)), some (71, true)⟩,
      ⟨(some 74), .pick (.t 71) (.t 73) (.c (.bool false)), none⟩,
      ⟨(some 75), .mv (.t 74), none⟩,
      ⟨(some 76), .load (some 9) (.t 11), some (75, true)⟩,
      ⟨(some 77), .load (some 9) (.t 12), some (75, true)⟩,
      ⟨(some 78), .call (.c (.fn (.func 9) [] [])) [(.t 76), (.t 77)], some (75, true)⟩,
      ⟨(some 79), .pick (.t 75) (.t 78) (.c (.bool false)), none⟩,
      ⟨(some 4), .mv (.t 79), none⟩])
 (.ret [4]))))))))
theorem Y3 : cpY Tryz.prog [3] 3 = some ⟨80, [.tmp 4], (.seq (.cd (.reg [⟨(some 2), .box 31 (.t 0), none⟩,
      ⟨(some 3), .box 52 (.t 1), none⟩,
      ⟨(some 4), .mv (.c (.bool false)), none⟩]))
 (.seq (.cd (.g [⟨(some 13), .call (.c (.fn (.func 4) [] [])) [], none⟩,
      ⟨(some 14), .un .not (.t 13), none⟩]
 (.i 14 (.g [⟨(some 4), .mv (.c (.bool false)), none⟩]
 (.ret [4]))
 .skip)))
 (.seq (.areg [⟨(some 15), .iadra 2 35 (.t 3) (.c (.int .i64 0)), none⟩,
      ⟨(some 16), .load (some 35) (.t 15), none⟩,
      ⟨(some 17), .iadra 2 35 (.t 3) (.c (.int .i64 1)), none⟩,
      ⟨(some 18), .load (some 35) (.t 17), none⟩,
      ⟨(some 5), .alloc 51 [(.int .i64 0), (.int .i64 0), (.int .i64 0), (.int .i64 0), (.str []), (.str []), (.str []), .nils, .nils, (.bool false), (.bool false), (.int .i64 0), (.str []), (.int .i64 0), (.int .i64 0), .nils, (.int .i64 0), .nils, (.int .i64 0), (.int .i64 0), (.bool false), .nils, (.int .i64 0), (.int .i64 0), .nils, (.int .i64 0), (.int .i64 0), (.int .i64 0), (.int .i64 0), (.int .i64 0), (.str []), (.int .i64 0), (.int .i64 0), (.int .i64 0), (.str [])], none⟩,
      ⟨(some 6), .alloc 51 [(.int .i64 0), (.int .i64 0), (.int .i64 0), (.int .i64 0), (.str []), (.str []), (.str []), .nils, .nils, (.bool false), (.bool false), (.int .i64 0), (.str []), (.int .i64 0), (.int .i64 0), .nils, (.int .i64 0), .nils, (.int .i64 0), (.int .i64 0), (.bool false), .nils, (.int .i64 0), (.int .i64 0), .nils, (.int .i64 0), (.int .i64 0), (.int .i64 0), (.int .i64 0), (.int .i64 0), (.str []), (.int .i64 0), (.int .i64 0), (.int .i64 0), (.str [])], none⟩,
      ⟨none, .store 35 (.t 5) (.t 16), none⟩,
      ⟨none, .store 35 (.t 6) (.t 18), none⟩]
 [[], [0], [], [2], [], [], [4, 1, 0, 1, 4, 5], [5, 3, 6, 0, 1, 2, 3, 4, 5, 6]])
 (.cd C3))))⟩ := by kernel_rfl
end Go.Proofs.YtaneehgfdpadjaaGreatDoor

namespace Go.Proofs.YtaneehgfdpadjaaGreatDoor
open Go.Sha
set_option maxRecDepth 100000
def memW:List Nat:=[4,5,6,7,9]
noncomputable def HL:EvF:=⟨[103,113,173,179,183,265,270],fun f args st=>bif memL f memW then run Tryz.prog HH f args st else bif Nat.beq f 8 then run Tryz.prog HT f args st else none⟩
@[push_cast]theorem HL_raw:HL.raw=[103,113,173,179,183,265,270]:=idq rfl
theorem HL_ok (h1:ESound Tryz.prog HH):ESound Tryz.prog HL:=fun f args st r s h=>by
 simp only[HL]at h
 cases hi:memL f memW with
 |true=>rw[hi]at h;exact run_sound mixed h1 _ _ _ _ _ h
 |false =>
  rw[hi]at h
  cases h2:Nat.beq f 8 with
  |true=>rw[h2]at h;exact run_sound mixed (HT_ok h1) _ _ _ _ _ h
  |false=>rw[h2]at h;cases h
theorem upW {k:Nat}{args:List V}{st:St}{r:VRes×St}(h:run Tryz.prog HH k args st=some r)(h3:memL k memW=true:=by rfl):run Tryz.prog HL k args st=some r:=by
 refine run_H ?_
 simp only[HL,h3,cond_true,h]
theorem e8 {s:Sho}{e:Edi}(h:s.rt)(he:e.ok){st:St}:run Tryz.prog HL 8 [s.v,e.v] st=some (.ret (.tup [(if apC s e=0 then eS s e else S0).v,.int .i64 (apC s e)]),st):=run_H (by
 simp only[HL,show memL 8 memW=false from rfl,show Nat.beq 8 8=true from rfl,cond_true,cond_false];exact f8T h he)
def Qt:Post:=fun x e _=>x=.ret∧Sha.look e 4=some (.bool true)
theorem Qt_s {e:Env}{s:St}(h:Sha.look e 4=some (.bool true)):Has Qt (some (.ret,e,s)):=⟨.ret,e,s,rfl,rfl,h⟩
theorem body23 {s:Sho}{a b:Edi}(hs:s.ok)(ha:a.ok)(hb:b.ok){env:Env}{g:List (Nat×Obj)}{M:List (Nat×List V)}(e2:Sha.look env 2=some (.ptr 0 0))(e5:Sha.look env 5=some (.ptr 2 0))(e6:Sha.look env 6=some (.ptr 3 0))
  (m0:Sha.look M 0=some s.v.cells) (mp:Sha.look M 2=some a.v.cells) (mq:Sha.look M 3=some b.v.cells):Has Qt (runC Tryz.prog HL C3 env ⟨4,M,[],⟨[],g,[]⟩⟩):=by
 obtain⟨bf,hF⟩:=f13 hs
 have h5:=fun(st:St)=>upW (f5 hs hF (st:=st))
 obtain⟨b1,h6a'⟩:=f6 (e:=a)
 obtain⟨b2,h6b'⟩:=f6 (e:=b)
 have h6a:=fun(st:St)=>upW (h6a' st)
 have h6b:=fun(st:St)=>upW (h6b' st)
 have h7a:=fun(st:St)=>upW (f7 (e:=a) (st:=st))
 have h7b:=fun(st:St)=>upW (f7 (e:=b) (st:=st))
 unfold C3
 by_cases c1:¬(bf&&shoC s == 0)=true
 ·have c1':(bf&&shoC s == 0)=false:=by simpa using c1
  rw[c1']at h5
  push_cast[Sho.v,V.cells,Edi.v]at h5 m0 mp mq
  push_cast[e2,e5,e6,m0,mp,mq,h5]
  exact Qt_s rfl
 rw[Classical.not_not]at c1
 rw[c1]at h5
 cases b1 with
 |false =>
  push_cast[Sho.v,V.cells,Edi.v]at h5 h6a m0 mp mq
  push_cast[e2,e5,e6,m0,mp,mq,h5,h6a]
  exact Qt_s rfl
 |true =>
 cases b2 with
 |false =>
  push_cast[Sho.v,V.cells,Edi.v]at h5 h6a h6b m0 mp mq
  push_cast[e2,e5,e6,m0,mp,mq,h5,h6a,h6b]
  exact Qt_s rfl
 |true =>
 by_cases c2:clsE a=clsE b
 ·push_cast[Sho.v,V.cells,Edi.v]at h5 h6a h6b h7a h7b m0 mp mq
  push_cast[e2,e5,e6,m0,mp,mq,h5,h6a,h6b,h7a,h7b,c2]
  exact Qt_s rfl
 have c0:shoC s=0:=by simp at c1;exact c1.2
 have cf:bf=true:=by simp at c1;exact c1.1
 subst cf
 have hq:=few_q hs c0 hF
 have hrt:s.rt:=⟨hs,c0,fun q hm=>by have:=hq q hm;omega⟩
 have k1:=fun(st:St)=>e8 hrt ha (st:=st)
 have k2:=fun(st:St)=>e8 hrt hb (st:=st)
 by_cases c3:¬apC s a=0
 ·rw[if_neg c3]at k1
  generalize (if apC s b=0 then eS s b else S0)=y at *
  generalize apC s a=x1 at *
  generalize apC s b=x2 at *
  push_cast[Sho.v,V.cells,Edi.v,S0,List.map_nil]at h5 h6a h6b h7a h7b m0 mp mq k1 k2
  push_cast[e2,e5,e6,m0,mp,mq,h5,h6a,h6b,h7a,h7b,c2,k1,k2,c3]
  exact Qt_s rfl
 rw[Classical.not_not]at c3
 by_cases c4:¬apC s b=0
 ·rw[if_neg c4]at k2
  rw[if_pos c3,c3]at k1
  generalize eS s a=y at *
  generalize apC s b=x2 at *
  push_cast[Sho.v,V.cells,Edi.v,S0,List.map_nil]at h5 h6a h6b h7a h7b m0 mp mq k1 k2
  push_cast[e2,e5,e6,m0,mp,mq,h5,h6a,h6b,h7a,h7b,c2,k1,k2,c4]
  exact Qt_s rfl
 rw[Classical.not_not]at c4
 obtain⟨d1,d2,d3⟩:=comm c2 c3 c4
 have rx:=eS_rt hs c0 hq ha c3
 have ry:=eS_rt hs c0 hq hb c4
 have k3:=fun(st:St)=>e8 rx hb (st:=st)
 have k4:=fun(st:St)=>e8 ry ha (st:=st)
 have ok:=eS_ok rx hb
 rw[if_pos c3,c3]at k1
 rw[if_pos c4,c4]at k2
 rw[if_pos d1,d1]at k3
 rw[if_pos d2,d2,←d3]at k4
 generalize eS (eS s a) b=z at *
 generalize eS s a=x at *
 generalize eS s b=y at *
 have k9:=fun(st:St)=>upW (f9 ok (st:=st))
 push_cast[Sho.v,V.cells,Edi.v]at h5 h6a h6b h7a h7b m0 mp mq k1 k2 k3 k4 k9
 push_cast[e2,e5,e6,m0,mp,mq,h5,h6a,h6b,h7a,h7b,c2,k1,k2,k3,k4,k9]
 exact Qt_s rfl
theorem body32 {s:Sho}{a b:Edi}(hs:s.ok)(ha:a.ok)(hb:b.ok){env:Env}{g:List (Nat×Obj)}{M:List (Nat×List V)}(e2:Sha.look env 2=some (.ptr 0 0))(e5:Sha.look env 5=some (.ptr 3 0))(e6:Sha.look env 6=some (.ptr 2 0))
  (m0:Sha.look M 0=some s.v.cells) (mp:Sha.look M 3=some a.v.cells) (mq:Sha.look M 2=some b.v.cells):Has Qt (runC Tryz.prog HL C3 env ⟨4,M,[],⟨[],g,[]⟩⟩):=by
 obtain⟨bf,hF⟩:=f13 hs
 have h5:=fun(st:St)=>upW (f5 hs hF (st:=st))
 obtain⟨b1,h6a'⟩:=f6 (e:=a)
 obtain⟨b2,h6b'⟩:=f6 (e:=b)
 have h6a:=fun(st:St)=>upW (h6a' st)
 have h6b:=fun(st:St)=>upW (h6b' st)
 have h7a:=fun(st:St)=>upW (f7 (e:=a) (st:=st))
 have h7b:=fun(st:St)=>upW (f7 (e:=b) (st:=st))
 unfold C3
 by_cases c1:¬(bf&&shoC s == 0)=true
 ·have c1':(bf&&shoC s == 0)=false:=by simpa using c1
  rw[c1']at h5
  push_cast[Sho.v,V.cells,Edi.v]at h5 m0 mp mq
  push_cast[e2,e5,e6,m0,mp,mq,h5]
  exact Qt_s rfl
 rw[Classical.not_not]at c1
 rw[c1]at h5
 cases b1 with
 |false =>
  push_cast[Sho.v,V.cells,Edi.v]at h5 h6a m0 mp mq
  push_cast[e2,e5,e6,m0,mp,mq,h5,h6a]
  exact Qt_s rfl
 |true =>
 cases b2 with
 |false =>
  push_cast[Sho.v,V.cells,Edi.v]at h5 h6a h6b m0 mp mq
  push_cast[e2,e5,e6,m0,mp,mq,h5,h6a,h6b]
  exact Qt_s rfl
 |true =>
 by_cases c2:clsE a=clsE b
 ·push_cast[Sho.v,V.cells,Edi.v]at h5 h6a h6b h7a h7b m0 mp mq
  push_cast[e2,e5,e6,m0,mp,mq,h5,h6a,h6b,h7a,h7b,c2]
  exact Qt_s rfl
 have c0:shoC s=0:=by simp at c1;exact c1.2
 have cf:bf=true:=by simp at c1;exact c1.1
 subst cf
 have hq:=few_q hs c0 hF
 have hrt:s.rt:=⟨hs,c0,fun q hm=>by have:=hq q hm;omega⟩
 have k1:=fun(st:St)=>e8 hrt ha (st:=st)
 have k2:=fun(st:St)=>e8 hrt hb (st:=st)
 by_cases c3:¬apC s a=0
 ·rw[if_neg c3]at k1
  generalize (if apC s b=0 then eS s b else S0)=y at *
  generalize apC s a=x1 at *
  generalize apC s b=x2 at *
  push_cast[Sho.v,V.cells,Edi.v,S0,List.map_nil]at h5 h6a h6b h7a h7b m0 mp mq k1 k2
  push_cast[e2,e5,e6,m0,mp,mq,h5,h6a,h6b,h7a,h7b,c2,k1,k2,c3]
  exact Qt_s rfl
 rw[Classical.not_not]at c3
 by_cases c4:¬apC s b=0
 ·rw[if_neg c4]at k2
  rw[if_pos c3,c3]at k1
  generalize eS s a=y at *
  generalize apC s b=x2 at *
  push_cast[Sho.v,V.cells,Edi.v,S0,List.map_nil]at h5 h6a h6b h7a h7b m0 mp mq k1 k2
  push_cast[e2,e5,e6,m0,mp,mq,h5,h6a,h6b,h7a,h7b,c2,k1,k2,c4]
  exact Qt_s rfl
 rw[Classical.not_not]at c4
 obtain⟨d1,d2,d3⟩:=comm c2 c3 c4
 have rx:=eS_rt hs c0 hq ha c3
 have ry:=eS_rt hs c0 hq hb c4
 have k3:=fun(st:St)=>e8 rx hb (st:=st)
 have k4:=fun(st:St)=>e8 ry ha (st:=st)
 have ok:=eS_ok rx hb
 rw[if_pos c3,c3]at k1
 rw[if_pos c4,c4]at k2
 rw[if_pos d1,d1]at k3
 rw[if_pos d2,d2,←d3]at k4
 generalize eS (eS s a) b=z at *
 generalize eS s a=x at *
 generalize eS s b=y at *
 have k9:=fun(st:St)=>upW (f9 ok (st:=st))
 push_cast[Sho.v,V.cells,Edi.v]at h5 h6a h6b h7a h7b m0 mp mq k1 k2 k3 k4 k9
 push_cast[e2,e5,e6,m0,mp,mq,h5,h6a,h6b,h7a,h7b,c2,k1,k2,k3,k4,k9]
 exact Qt_s rfl
end Go.Proofs.YtaneehgfdpadjaaGreatDoor

namespace Go.Proofs.YtaneehgfdpadjaaGreatDoor
open Go.Sha
def HasN (K:Env→St→Prop)(r:Rc):Prop:=∃e s,r=some (.normal,e,s)∧K e s
theorem HasN_s {K:Env→St→Prop}{e:Env}{s:St}(h:K e s):HasN K (some (.normal,e,s)):=⟨e,s,rfl,h⟩
theorem WX_seq {P:Program}{H:EvF}{c:Cd}{b:Cx}{env:Env}{st:St}{Q:Post}(h:HasN (fun e s=>WX P H b e s Q) (runC P H c env st)):WX P H (.seq (.cd c) b) env st Q:=by
 obtain⟨e,s,h1,h2⟩:=h
 exact⟨.normal,e,s,h1,h2⟩
def Keep (st s:St):Prop:=∀id,id<st.nx→Sha.look s.mem id=Sha.look st.mem id
theorem WX_area {P:Program}{H:EvF}{l:List Ins}{bs:List (List Nat)}{b:Cx}{env:Env}{st:St}{Q:Post}(h:Ord P l (fun i=>bs.getD i []) (Keep st) (fun e s=>WX P H b e s Q) (List.range l.length) env st):WX P H (.seq (.areg l bs) b) env st Q:=⟨Keep st,fun _ _=>rfl,h⟩
theorem Ord.p {P:Program}{H:EvF}(hm:P.follows .mixedOrders=true)(hH:ESound P H){l:List Ins}{bs:List (List Nat)}{I:St→Prop}{K:Env→St→Prop}{rem:List Nat}{env:Env}{st:St}(i k:Nat)(d:V)(rem':List Nat)(x:Ins)(hi:(rdy bs rem).contains i=true)(hx:l.getD i default=x)(hd:x.dst=some k)(hr:rem.filter (·≠i)=rem')
  (hq:∀s,I s→evQ1 (run P H) x env s (fun e=>some (.normal,e,s))=some (.normal,(k,d)::env,s))
  (h:Ord P l (fun i=>bs.getD i []) I K rem' ((k,d)::env) st):Ord P l (fun i=>bs.getD i []) I K rem env st:=by
 subst hr hx
 have hs:setD env (l.getD i default).dst d=(k,d)::env:=by rw[hd];rfl
 exact Ord.pure hm hH i d hi (by rw[hd];rfl) (fun s h=>by rw[hs];exact hq s h) (by rw[hs];exact h)
theorem Ord.q {P:Program}{H:EvF}(hm:P.follows .mixedOrders=true)(hH:ESound P H){l:List Ins}{bs:List (List Nat)}{I:St→Prop}{K:Env→St→Prop}{rem:List Nat}{env:Env}{st:St}(L:List Nat)(h0:rem≠[])(hL:rdy bs rem=L)
  (h:∀i∈L,(l.getD i default).op.odd=false∧HasN (fun e s=>I s∧Ord P l (fun i=>bs.getD i []) I K (rem.filter (·≠i)) e s) (evOne (run P H) (l.getD i default) env st (fun e s=>some (.normal,e,s)))) :
  Ord P l (fun i=>bs.getD i []) I K rem env st:=Ord.go hm hH L h0 hL h
theorem all1 {p:Nat→Prop}{i:Nat}(h:p i):∀j∈[i],p j:=fun j hj=>by rw[List.mem_singleton.1 hj];exact h
theorem all2 {p:Nat→Prop}{i k:Nat}(h:p i)(h':p k):∀j∈[i,k],p j:=fun j hj=>by
 rcases List.mem_cons.1 hj with rfl|hj
 ·exact h
 ·rw[List.mem_singleton.1 hj];exact h'
theorem WX_end {P:Program}{H:EvF}{c:Cd}{env:Env}{st:St}{Q:Post}(h:Has Q (runC P H c env st)):WX P H (.cd c) env st Q:=h
end Go.Proofs.YtaneehgfdpadjaaGreatDoor

namespace Go.Proofs.YtaneehgfdpadjaaGreatDoor
open Go.Sha
set_option maxRecDepth 100000
theorem keep2 {st s:St}(hn:st.nx=2)(h0:Sha.look s.mem 0=Sha.look st.mem 0)(h1:Sha.look s.mem 1=Sha.look st.mem 1):Keep st s:=fun id hid=>by
 rcases(show id=0∨id=1 by omega) with rfl|rfl
 ·exact h0
 ·exact h1
theorem Has_mono {Q Q':Post}{r:Rc}(h:Has Q r)(hq:∀x e s,Q x e s→Q' x e s):Has Q' r:=by
 obtain⟨x,e,s,h1,h2⟩:=h
 exact⟨x,e,s,h1,hq _ _ _ h2⟩
def bothV (a b:Edi):V:=.agg (a.v.cells++b.v.cells)
theorem law3 (hH:ESound Tryz.prog HH){s:Sho}{a b:Edi}(hs:s.ok)(ha:a.ok)(hb:b.ok){st:St}:VCalls Tryz.prog 3 [s.v,bothV a b] st (fun x y=>x=.ret (.bool true)∧y=st):=by
 have hK:=HL_ok hH
 have h4:=fun(st:St)=>upW (f4 (st:=st))
 refine X_shut mixed hK Y3 rfl (by simp[bothV,Edi.v,V.cells,V.bdL,V.bd,bdL_map']) ?_
 refine WX_seq ?_
 push_cast[bothV,Edi.v,V.cells,Sho.v,List.cons_append,List.nil_append]
 refine HasN_s ?_
 refine WX_seq ?_
 push_cast[h4]
 refine HasN_s ?_
 refine WX_area ?_
 refine Ord.p mixed hK 0 15 (.ptr 1 0) [1,2,3,4,5,6,7] _ rfl rfl rfl rfl (fun s1 hs1=>?_) ?_
 ·push_cast
 refine Ord.p mixed hK 1 16 (a.v) [2,3,4,5,6,7] _ rfl rfl rfl rfl (fun s1 hs1=>?_) ?_
 ·have h0:=hs1 1 (by show 1<2;decide)
  push_cast at h0
  push_cast[h0,Edi.v,V.cells]
 refine Ord.p mixed hK 2 17 (.ptr 1 35) [3,4,5,6,7] _ rfl rfl rfl rfl (fun s1 hs1=>?_) ?_
 ·push_cast
 refine Ord.p mixed hK 3 18 (b.v) [4,5,6,7] _ rfl rfl rfl rfl (fun s1 hs1=>?_) ?_
 ·have h0:=hs1 1 (by show 1<2;decide)
  push_cast at h0
  push_cast[h0,Edi.v,V.cells]
 refine Ord.q mixed hK [4,5] (by decide) rfl (all2 ⟨rfl,?_⟩ ⟨rfl,?_⟩)
 ·push_cast
  refine HasN_s ⟨keep2 rfl rfl rfl,?_⟩
  refine Ord.q mixed hK [5] (by decide) rfl (all1 ⟨rfl,?_⟩)
  push_cast
  refine HasN_s ⟨keep2 rfl rfl rfl,?_⟩
  refine Ord.q mixed hK [6] (by decide) rfl (all1 ⟨rfl,?_⟩)
  push_cast[Edi.v,V.cells]
  refine HasN_s ⟨keep2 rfl rfl rfl,?_⟩
  refine Ord.q mixed hK [7] (by decide) rfl (all1 ⟨rfl,?_⟩)
  push_cast[Edi.v,V.cells]
  refine HasN_s ⟨keep2 rfl rfl rfl,?_⟩
  refine .done ?_
  refine WX_end ?_
  refine Has_mono (Q:=Qt) ?_ ?_
  ·exact body23 hs ha hb rfl rfl rfl rfl rfl rfl
  ·rintro x e s1 ⟨rfl,q3⟩
   simp[rawE,resV,q3,conV,rawO,resOne,shutR]
   rfl
 ·push_cast
  refine HasN_s ⟨keep2 rfl rfl rfl,?_⟩
  refine Ord.q mixed hK [4] (by decide) rfl (all1 ⟨rfl,?_⟩)
  push_cast
  refine HasN_s ⟨keep2 rfl rfl rfl,?_⟩
  refine Ord.q mixed hK [6] (by decide) rfl (all1 ⟨rfl,?_⟩)
  push_cast[Edi.v,V.cells]
  refine HasN_s ⟨keep2 rfl rfl rfl,?_⟩
  refine Ord.q mixed hK [7] (by decide) rfl (all1 ⟨rfl,?_⟩)
  push_cast[Edi.v,V.cells]
  refine HasN_s ⟨keep2 rfl rfl rfl,?_⟩
  refine .done ?_
  refine WX_end ?_
  refine Has_mono (Q:=Qt) ?_ ?_
  ·exact body32 hs ha hb rfl rfl rfl rfl rfl rfl
  ·rintro x e s1 ⟨rfl,q3⟩
   simp[rawE,resV,q3,conV,rawO,resOne,shutR]
   rfl
end Go.Proofs.YtaneehgfdpadjaaGreatDoor

namespace Go.Proofs.YtaneehgfdpadjaaGreatDoor
open Go.Sha
set_option maxRecDepth 100000
section
open Go.ChangeShapes Go.WideShapes Go.ChangeAt Go.RowKit
variable {H:Type}{enc:TypeId×Value→H}{P:Program}{w:World}
theorem okWide_array {t e:TypeId}{k:Nat}{r:Reach}{b:Nat}{v:Value}(ht:P.underlying t=some (.array k e))(h:Value.okWide P w r b t v):∃cs,v=.agg cs∧cs.size=P.cellsOf t:=by
 simp only[Value.okWide,ht]at h
 obtain⟨cs,h1,h2,_⟩:=h
 exact⟨cs,h1,h2⟩
theorem arg_two {n:Nat}{t e:TypeId}{cs:Array Value}{d:DataW H}{ps:List MemPlace}{sh:List CSh}(ht:P.underlying t=some (.array 2 e))(hc:P.cellsOf t=P.cellsOf e+P.cellsOf e)(he:sh.length=P.cellsOf e)(h:DataW.Trod enc P w 0 (fun _=>true) true t (.agg cs) d ps)(hsh:shOf P n e=some sh)
  (hw:∀k∈d.weights P t,k≤reachBytes):∃us vs,OkCs sh us∧OkCs sh vs∧Rep w (abs0 w) (.agg cs) (.agg (us++vs)):=by
 obtain⟨fuel,hf⟩:=h
 obtain⟨xs,m,rfl,hx,hl,hxl,hd⟩:=DataW.trod_array ht hf
 obtain⟨x0,x1,rfl⟩:∃a b,xs=[a,b]:=by
  match xs,hxl with
  |[a,b],_=>exact⟨a,b,rfl⟩
 obtain⟨rfl,_⟩:=Prod.mk.inj hx
 have d0:=hd 0 (by decide)
 have d1:=hd 1 (by decide)
 simp only[Nat.zero_mul,List.drop_zero,Nat.one_mul]at d0 d1
 have hw':∀y∈[x0.1,x1.1],∀k∈y.weights P e,k≤reachBytes:=fun y hy k hk=>hw k (by
  simp only[DataW.weights,ht]
  exact weightsAll_mem (by simpa using hy) k hk)
 obtain⟨us,a1,a2,a3⟩:=trod_sh n m e _ x0 sh d0 hsh (hw' _ (by simp))
 obtain⟨vs,b1,b2,b3⟩:=trod_sh n m e _ x1 sh d1 hsh (hw' _ (by simp))
 have hcs:cs.toList=(cs.toList.take (P.cellsOf e))++((cs.toList.drop (P.cellsOf e)).take (P.cellsOf e)):=by
  have hl':cs.toList.length=P.cellsOf e+P.cellsOf e:=by rw[←hc];exact hl
  rw[List.take_of_length_le (l:=cs.toList.drop (P.cellsOf e)) (by rw[List.length_drop];omega),List.take_append_drop]
 have key:Reps w (abs0 w) cs.toList (us++vs):=by
  rw[hcs];exact Reps.append a2 b2
 refine⟨us,vs,a1,b1,?_⟩
 have:=Rep.agg (w:=w) (A:=abs0 w) cs.toList (us++vs) key.1 (fun v hv=>by
  rw[hcs]at hv
  rcases List.mem_append.1 hv with hv|hv
  ·exact a3 v hv
  ·exact b3 v hv) key.2
 rwa [Array.toArray_toList]at this
end
structure Two where
 a:Edi
 b:Edi
@[reducible] def Two.v (x:Two):V:=bothV x.a x.b
structure Two.Dk (x:Two):Prop where
 a:x.a.Dk
 b:x.b.Dk
theorem Edi.Dk.ok {x:Edi}(h:x.Dk):x.ok :=
 ⟨h.num,by have:=h.key;omega,h.cue.ok,by have:=h.pal.hues.1;omega,by have:=h.grp.chans.1;omega,by have:=h.sub.gains.1;omega,by have:=h.eff.wave.1;omega,by have:=h.fix.cable;omega⟩
def lawP (args:List V):Prop:=∃(s:Sho) (a b:Edi),s.ok∧a.ok∧b.ok∧args=[s.v,bothV a b]
open Classical in
noncomputable def HF:EvF:=⟨HH.raw,fun f args st=>if f=3∧lawP args then some (.ret (.bool true),st) else none⟩
theorem HF_ok (h1:ESound Tryz.prog HH):ESound Tryz.prog HF:=fun f args st r s h=>by
 simp only[HF]at h
 split at h
 ·rename_i hc
  obtain⟨rfl,x,a,b,hx,ha,hb,rfl⟩:=hc
  cases h
  exact law3 h1 hx ha hb
 ·cases h
theorem l3 {s:Sho}{x:Two}(h:s.Dk)(hx:x.Dk){st:St}:run Tryz.prog HF 3 [s.v,x.v] st=some (.ret (.bool true),st):=run_H (by
 simp only[HF]
 exact if_pos ⟨rfl,s,x.a,x.b,h.ok,hx.a.ok,hx.b.ok,rfl⟩)
end Go.Proofs.YtaneehgfdpadjaaGreatDoor

namespace Go.Proofs.YtaneehgfdpadjaaGreatDoor
open Go.Sha Go.Shelf Go.RowKit
set_option maxRecDepth 100000
theorem basT:BasT Tryz.prog:=⟨by kernel_rfl,Tryz.underlying0,Tryz.isAgg0,Tryz.sizeOf0,Tryz.zeroValue0,Tryz.underlying3,Tryz.isAgg3,Tryz.sizeOf3,Tryz.zeroValue3,Tryz.underlying4,Tryz.isAgg4,Tryz.sizeOf4,Tryz.zeroValue4,Tryz.underlying9,Tryz.isAgg9,Tryz.sizeOf9,Tryz.zeroValue9,Tryz.underlying20,Tryz.isAgg20,Tryz.sizeOf20,Tryz.zeroValue20⟩
def rnL:Ren:=⟨fun x=>if x=29 then 169 else 170,fun x=>if x=24 then 27 else if x=9 then 97 else x,fun x=>x⟩
theorem slL:SlB Tryz.prog 24 9 3 40 rnL:=slT basT rfl rfl rfl Tryz.underlying27 Tryz.isAgg27 Tryz.sizeOf27 Tryz.zeroValue27 Tryz.isAgg97 Tryz.sizeOf97 Tryz.zeroValue97 (by kernel_rfl) (by kernel_rfl) (by kernel_rfl)
theorem bearsL:Bears Tryz.prog 103 (Body2.n22 rnL):=⟨"slices.Insert[[]luminaire/api.List,luminaire/api.List]",by decide,by kernel_rfl⟩
theorem ovL:OvL Tryz.prog 169 27 4:=fun args w=>by
 rw[run_callFunc_extern Tryz.func169 (by kernel_rfl) (by kernel_rfl) (by kernel_rfl) (e:=Extern.SlicesOverlaps.overlaps #[27,27] #[4]) (by kernel_rfl)]
def rnE:Ren:=⟨fun x=>if x=29 then 185 else 186,fun x=>if x=24 then 29 else if x=9 then 47 else x,fun x=>x⟩
theorem slE:SlB Tryz.prog 24 9 6 64 rnE:=slT basT rfl rfl rfl Tryz.underlying29 Tryz.isAgg29 Tryz.sizeOf29 Tryz.zeroValue29 Tryz.isAgg47 Tryz.sizeOf47 Tryz.zeroValue47 (by kernel_rfl) (by kernel_rfl) (by kernel_rfl)
theorem bearsE:Bears Tryz.prog 113 (Body2.n22 rnE):=⟨"slices.Insert[[]luminaire/api.Effect,luminaire/api.Effect]",by decide,by kernel_rfl⟩
theorem ovE:OvL Tryz.prog 185 29 4:=fun args w=>by
 rw[run_callFunc_extern Tryz.func185 (by kernel_rfl) (by kernel_rfl) (by kernel_rfl) (e:=Extern.SlicesOverlaps.overlaps #[29,29] #[4]) (by kernel_rfl)]
def rdE:Ren:=⟨fun x=>x,fun x=>if x=22 then 29 else if x=23 then 47 else x,fun x=>x⟩
theorem dlE:SlB Tryz.prog 22 23 6 64 rdE:=slT basT rfl rfl rfl Tryz.underlying29 Tryz.isAgg29 Tryz.sizeOf29 Tryz.zeroValue29 Tryz.isAgg47 Tryz.sizeOf47 Tryz.zeroValue47 (by kernel_rfl) (by kernel_rfl) (by kernel_rfl)
theorem bearsDE:Bears Tryz.prog 115 (SlBodyN.n45 rdE):=⟨"slices.Delete[[]luminaire/api.Effect,luminaire/api.Effect]",by decide,by kernel_rfl⟩
def rnP:Ren:=⟨fun x=>if x=29 then 254 else 255,fun x=>if x=24 then 26 else if x=9 then 38 else x,fun x=>x⟩
theorem slP:SlB Tryz.prog 24 9 2 32 rnP:=slT basT rfl rfl rfl Tryz.underlying26 Tryz.isAgg26 Tryz.sizeOf26 Tryz.zeroValue26 Tryz.isAgg38 Tryz.sizeOf38 Tryz.zeroValue38 (by kernel_rfl) (by kernel_rfl) (by kernel_rfl)
theorem bearsP:Bears Tryz.prog 173 (Body2.n22 rnP):=⟨"slices.Insert[[]luminaire/api.Palette,luminaire/api.Palette]",by decide,by kernel_rfl⟩
theorem ovP:OvL Tryz.prog 254 26 4:=fun args w=>by
 rw[run_callFunc_extern Tryz.func254 (by kernel_rfl) (by kernel_rfl) (by kernel_rfl) (e:=Extern.SlicesOverlaps.overlaps #[26,26] #[4]) (by kernel_rfl)]
def rnG:Ren:=⟨fun x=>if x=29 then 259 else 260,fun x=>if x=24 then 25 else if x=9 then 41 else x,fun x=>x⟩
theorem slG:SlB Tryz.prog 24 9 2 32 rnG:=slT basT rfl rfl rfl Tryz.underlying25 Tryz.isAgg25 Tryz.sizeOf25 Tryz.zeroValue25 Tryz.isAgg41 Tryz.sizeOf41 Tryz.zeroValue41 (by kernel_rfl) (by kernel_rfl) (by kernel_rfl)
theorem bearsG:Bears Tryz.prog 179 (Body2.n22 rnG):=⟨"slices.Insert[[]luminaire/api.Group,luminaire/api.Group]",by decide,by kernel_rfl⟩
theorem ovG:OvL Tryz.prog 259 25 4:=fun args w=>by
 rw[run_callFunc_extern Tryz.func259 (by kernel_rfl) (by kernel_rfl) (by kernel_rfl) (e:=Extern.SlicesOverlaps.overlaps #[25,25] #[4]) (by kernel_rfl)]
def rdG:Ren:=⟨fun x=>x,fun x=>if x=22 then 25 else if x=23 then 41 else x,fun x=>x⟩
theorem dlG:SlB Tryz.prog 22 23 2 32 rdG:=slT basT rfl rfl rfl Tryz.underlying25 Tryz.isAgg25 Tryz.sizeOf25 Tryz.zeroValue25 Tryz.isAgg41 Tryz.sizeOf41 Tryz.zeroValue41 (by kernel_rfl) (by kernel_rfl) (by kernel_rfl)
theorem bearsDG:Bears Tryz.prog 180 (SlBodyN.n45 rdG):=⟨"slices.Delete[[]luminaire/api.Group,luminaire/api.Group]",by decide,by kernel_rfl⟩
def rnS:Ren:=⟨fun x=>if x=29 then 263 else 264,fun x=>if x=24 then 28 else if x=9 then 44 else x,fun x=>x⟩
theorem slS:SlB Tryz.prog 24 9 4 48 rnS:=slT basT rfl rfl rfl Tryz.underlying28 Tryz.isAgg28 Tryz.sizeOf28 Tryz.zeroValue28 Tryz.isAgg44 Tryz.sizeOf44 Tryz.zeroValue44 (by kernel_rfl) (by kernel_rfl) (by kernel_rfl)
theorem bearsS:Bears Tryz.prog 183 (Body2.n22 rnS):=⟨"slices.Insert[[]luminaire/api.Sub,luminaire/api.Sub]",by decide,by kernel_rfl⟩
theorem ovS:OvL Tryz.prog 263 28 4:=fun args w=>by
 rw[run_callFunc_extern Tryz.func263 (by kernel_rfl) (by kernel_rfl) (by kernel_rfl) (e:=Extern.SlicesOverlaps.overlaps #[28,28] #[4]) (by kernel_rfl)]
def rdC:Ren:=⟨fun x=>x,fun x=>if x=22 then 95 else if x=23 then 35 else x,fun x=>x⟩
theorem dlC:SlB Tryz.prog 22 23 9 120 rdC:=slT basT rfl rfl rfl Tryz.underlying95 Tryz.isAgg95 Tryz.sizeOf95 Tryz.zeroValue95 Tryz.isAgg35 Tryz.sizeOf35 Tryz.zeroValue35 (by kernel_rfl) (by kernel_rfl) (by kernel_rfl)
theorem bearsDC:Bears Tryz.prog 167 (SlBodyN.n45 rdC):=⟨"slices.Delete[[]luminaire/api.Cue,luminaire/api.Cue]",by decide,by kernel_rfl⟩
def rgS:Ren:=⟨fun x=>if x=4 then 265 else x,fun x=>if x=22 then 28 else if x=25 then 44 else x,fun x=>x⟩
theorem bearsWS:Bears Tryz.prog 265 (Body8.n4 rgS):=⟨"slices.Grow[[]luminaire/api.Sub,luminaire/api.Sub]",by decide,by kernel_rfl⟩
theorem infoWS:(Tryz.prog.info? 44).map (fun i=>(i.zero,i.size,i.bytes))=some (some (.agg #[.int .i64 0,.int .i64 0,.bool false,.slice none 0 0]),4,48):=by kernel_rfl
def rgF:Ren:=⟨fun x=>if x=4 then 270 else x,fun x=>if x=22 then 24 else if x=25 then 49 else x,fun x=>x⟩
theorem bearsWF:Bears Tryz.prog 270 (Body8.n4 rgF):=⟨"slices.Grow[[]luminaire/api.Fixture,luminaire/api.Fixture]",by decide,by kernel_rfl⟩
theorem infoWF:(Tryz.prog.info? 49).map (fun i=>(i.zero,i.size,i.bytes))=some (some (.agg #[.int .i64 0,.int .i64 0,.string ⟨#[]⟩,.int .i64 0,.int .i64 0,.int .i64 0,.string ⟨#[]⟩]),7,72):=by kernel_rfl
end Go.Proofs.YtaneehgfdpadjaaGreatDoor

namespace Go.Proofs.YtaneehgfdpadjaaGreatDoor
open Go.Sha
set_option maxRecDepth 10000
theorem F160:compF Tryz.prog 160=some ⟨13,[.tmp 4,.tmp 5,.tmp 6],(.g [.s 4 (.mv (.w [])),.s 5 (.mv (.w [])),.k 6 false] (.g [.m 7 0,.m 8 1,.g' 9 245 7 8,.j 10 0 9,.j 11 1 9,.j 12 2 9,.m 4 10,.m 5 11,.m 6 12] (.ret [4,5,6])))⟩:=by kernel_rfl
theorem F164:compF Tryz.prog 164=some ⟨8,[.tmp 4],(.g [.k 4 false] (.g [.m 5 0,.m 6 1,.g' 7 248 5 6,.m 4 7] (.ret [4])))⟩:=by kernel_rfl
theorem F246:compF Tryz.prog 246=some ⟨9,[.tmp 4],(.g [.k 4 false] (.g [.m 5 0,.m 6 1,.g' 7 307 5 6,.v 8 .geq 7 0,.m 4 8] (.ret [4])))⟩:=by kernel_rfl
theorem F245:compF Tryz.prog 245=some ⟨23,[.tmp 4,.tmp 5,.tmp 6],(.g [.s 4 (.mv (.w [])),.s 5 (.mv (.w [])),.k 6 false] (.join [0] (.g [.m 8 0,.m 9 1,.g' 10 306 8 9,.m 7 10] (.g [.m 11 7,.v 12 .geq 11 0] (.i 12 (.q (.dreg 12 [.m 13 0,.m 14 7,.s 15 (.slices (.t 13) none (some (.t 14))),.m 16 0,.m 17 7,.m 18 1,.s 19 (.lens (.t 18)),.b 20 .add 17 19,.s 21 (.slices (.t 16) (some (.t 20)) none),.m 4 15,.m 5 21,.k 6 true]) (.ret [4,5,6])) .skip))) (.g [.m 22 0,.m 4 22,.s 5 (.mv (.w [])),.k 6 false] (.ret [4,5,6]))))⟩:=by kernel_rfl
theorem F248:compF Tryz.prog 248=some ⟨21,[.tmp 4],(.g [.k 4 false] (.join [4] (.reg [.m 5 0,.s 6 (.lens (.t 5)),.m 7 1,.s 8 (.lens (.t 7)),.b 9 .geq 6 8,.m 10 9,.my 11 0 10,.my 12 0 10,.y 13 (.lens (.t 12)) 10,.my 14 1 10,.y 15 (.lens (.t 14)) 10,.by' 16 .sub 13 15 10,.y 17 (.slices (.t 11) (some (.t 16)) none) 10,.my 18 1 10,.by' 19 .eql 17 18 10,.e 20 10 19,.m 4 20]) (.ret [4])))⟩:=by kernel_rfl
theorem F307:compF Tryz.prog 307=some ⟨8,[.tmp 4],(.g [.c 4 0] (.g [.m 5 0,.m 6 1,.s 7 (.f 345 [.t 5,.t 6,(.c (.bool true))]),.m 4 7] (.ret [4])))⟩:=by kernel_rfl
theorem F278:compF Tryz.prog 278=some ⟨43,[.tmp 4],(.g [.s 4 (.mv (.w []))] (.join [0,1] (.join [0,1,12] (.reg [.m 7 0,.s 8 (.bin .eql (.t 7) (.w [])),.m 9 8,.mx 10 1 9,.x 11 (.bin .eql (.t 10) (.w [])) 9,.o 12 9 11]) (.i 12 (.g [.m 13 0,.m 4 13] (.ret [4])) .skip)) (.join [0,1] (.join [0,1,21] (.reg [.m 14 1,.s 15 (.lens (.t 14)),.v 16 .eql 15 1,.m 17 16,.my 18 1 17,.y 19 (.ichr (.t 18) (.i 0)) 17,.y 20 (.bin .lss (.t 19) (.c (.int .u8 128))) 17,.e 21 17 20]) (.i 21 (.q (.dreg 8 [.m 22 0,.m 23 1,.s 24 (.ichr (.t 23) (.i 0)),.g' 25 317 22 24,.m 26 1,.s 27 (.ichr (.t 26) (.i 0)),.g' 28 316 25 27,.m 4 28]) (.ret [4])) .skip)) (.join [0,1] (.g [.m 30 1,.f 31 318 30,.m 29 31,.j 32 0 29,.j 33 1 29,.s 5 (.alloc 347 (List.replicate 256 (.bool false))),.w 256 5 32,.m 6 33] (.z [5] (.g [.m 34 6] (.i 34 (.g [.m 35 0,.g' 36 320 35 5,.g' 37 319 36 5,.m 4 37] (.ret [4])) .skip)))) (.g [.m 38 0,.m 39 1,.g' 40 322 38 39,.m 41 1,.g' 42 321 40 41,.m 4 42] (.ret [4]))))))⟩:=by kernel_rfl
def B319_0:Cd:=(.join [0,1] (.g [.m 5 0,.s 6 (.lens (.t 5)),.v 7 .gtr 6 0] (.i 7 .skip (.exit [0] 0))) (.block 1 (.join [0,1] (.g [.m 8 1,.m 9 0,.s 10 (.ichr (.t 9) (.i 0)),.g' 11 351 8 10,.z 12 11] (.i 12 (.exit [0] 0) .skip)) (.reg [.m 13 0,.s 14 (.slices (.t 13) (some (.i 1)) none),.m 0 14]))))
theorem F319:compF Tryz.prog 319=some ⟨16,[.tmp 4],(.g [.s 4 (.mv (.w []))] (.join [0] (.block 0 (.loop [0,1] [] B319_0)) (.g [.m 15 0,.m 4 15] (.ret [4]))))⟩:=by kernel_rfl
def B320_0:Cd:=(.join [0,1] (.g [.m 5 0,.s 6 (.lens (.t 5)),.v 7 .gtr 6 0] (.i 7 .skip (.exit [0] 0))) (.block 1 (.join [0,1] (.g [.m 8 1,.m 9 0,.m 10 0,.s 11 (.lens (.t 10)),.v 12 .sub 11 1,.s 13 (.ichr (.t 9) (.t 12)),.g' 14 351 8 13,.z 15 14] (.i 15 (.exit [0] 0) .skip)) (.reg [.m 16 0,.m 17 0,.s 18 (.lens (.t 17)),.v 19 .sub 18 1,.s 20 (.slices (.t 16) none (some (.t 19))),.m 0 20]))))
theorem F320:compF Tryz.prog 320=some ⟨22,[.tmp 4],(.g [.s 4 (.mv (.w []))] (.join [0] (.block 0 (.loop [0,1] [] B320_0)) (.g [.m 21 0,.m 4 21] (.ret [4]))))⟩:=by kernel_rfl
theorem F351:compF Tryz.prog 351=some ⟨10,[.tmp 4],(.g [.k 4 false] (.g [.m 5 0,.m 6 1,.s 7 (.k 5),.s 8 (.iadra 256 1 (.t 7) (.t 6)),.l 9 8,.m 4 9] (.ret [4])))⟩:=by kernel_rfl
end Go.Proofs.YtaneehgfdpadjaaGreatDoor

namespace Go.Proofs
open Go.Shelf
def Tryz.laysC172_ren:Go.Shelf.Ren:=⟨fun|172=>381|244=>382|245=>383|247=>384|279=>385|280=>386|281=>387|282=>388|287=>389|316=>390|171=>392|205=>391|321=>393|322=>394|243=>395|246=>396|283=>397|284=>398|285=>399|286=>400|129=>340|317=>401|318=>402|319=>403|320=>404|337=>405|338=>406|n=>n,fun|9=>9|3=>3|75=>403|76=>404|4=>4|5=>5|167=>407|37=>207|0=>0|85=>408|2=>2|168=>410|53=>369|175=>413|46=>237|210=>417|127=>421|145=>424|143=>422|21=>21|171=>426|173=>428|212=>431|51=>367|20=>20|213=>432|232=>433|233=>434|80=>435|n=>n,fun|15=>3|16=>4|17=>5|18=>6|19=>7|n=>n⟩
theorem Tryz.laysC172:Go.Proofs.LaysC.n172 Tryz.prog Tryz.laysC172_ren:={
 mixed:=by kernel_rfl
 f129:=Tryz.func340.trans (congrArg some (by kernel_rfl))
 f171:=Tryz.func392.trans (congrArg some (by kernel_rfl))
 f172:=Tryz.func381.trans (congrArg some (by kernel_rfl))
 f205:=Tryz.func391.trans (congrArg some (by kernel_rfl))
 f243:=Tryz.func395.trans (congrArg some (by kernel_rfl))
 f244:=Tryz.func382.trans (congrArg some (by kernel_rfl))
 f245:=Tryz.func383.trans (congrArg some (by kernel_rfl))
 f246:=Tryz.func396.trans (congrArg some (by kernel_rfl))
 f247:=Tryz.func384.trans (congrArg some (by kernel_rfl))
 f279:=Tryz.func385.trans (congrArg some (by kernel_rfl))
 f280:=Tryz.func386.trans (congrArg some (by kernel_rfl))
 f281:=Tryz.func387.trans (congrArg some (by kernel_rfl))
 f282:=Tryz.func388.trans (congrArg some (by kernel_rfl))
 f283:=Tryz.func397.trans (congrArg some (by kernel_rfl))
 f284:=Tryz.func398.trans (congrArg some (by kernel_rfl))
 f285:=Tryz.func399.trans (congrArg some (by kernel_rfl))
 f286:=Tryz.func400.trans (congrArg some (by kernel_rfl))
 f287:=Tryz.func389.trans (congrArg some (by kernel_rfl))
 f316:=Tryz.func390.trans (congrArg some (by kernel_rfl))
 f317:=Tryz.func401.trans (congrArg some (by kernel_rfl))
 f318:=Tryz.func402.trans (congrArg some (by kernel_rfl))
 f319:=Tryz.func403.trans (congrArg some (by kernel_rfl))
 f320:=Tryz.func404.trans (congrArg some (by kernel_rfl))
 f321:=Tryz.func393.trans (congrArg some (by kernel_rfl))
 f322:=Tryz.func394.trans (congrArg some (by kernel_rfl))
 f337:=Tryz.func405.trans (congrArg some (by kernel_rfl))
 f338:=Tryz.func406.trans (congrArg some (by kernel_rfl))
 t0:=Tryz.underlying0
 a0:=Tryz.isAgg0
 z0:=Tryz.sizeOf0
 v0:=Tryz.zeroValue0
 t2:=Tryz.underlying2
 a2:=Tryz.isAgg2
 z2:=Tryz.sizeOf2
 v2:=Tryz.zeroValue2
 t3:=Tryz.underlying3
 a3:=Tryz.isAgg3
 z3:=Tryz.sizeOf3
 v3:=Tryz.zeroValue3
 t4:=Tryz.underlying4
 a4:=Tryz.isAgg4
 z4:=Tryz.sizeOf4
 v4:=Tryz.zeroValue4
 t5:=Tryz.underlying5
 a5:=Tryz.isAgg5
 z5:=Tryz.sizeOf5
 v5:=Tryz.zeroValue5
 t9:=Tryz.underlying9
 a9:=Tryz.isAgg9
 z9:=Tryz.sizeOf9
 v9:=Tryz.zeroValue9
 t20:=Tryz.underlying20
 a20:=Tryz.isAgg20
 z20:=Tryz.sizeOf20
 v20:=Tryz.zeroValue20
 t21:=Tryz.underlying21
 a21:=Tryz.isAgg21
 z21:=Tryz.sizeOf21
 v21:=Tryz.zeroValue21
 t37:=Tryz.underlying207
 a37:=Tryz.isAgg207
 z37:=Tryz.sizeOf207
 v37:=Tryz.zeroValue207
 t46:=Tryz.underlying237
 a46:=Tryz.isAgg237
 z46:=Tryz.sizeOf237
 v46:=Tryz.zeroValue237
 t51:=Tryz.underlying367
 a51:=Tryz.isAgg367
 z51:=Tryz.sizeOf367
 v51:=Tryz.zeroValue367
 t53:=Tryz.underlying369
 a53:=Tryz.isAgg369
 z53:=Tryz.sizeOf369
 v53:=Tryz.zeroValue369
 t75:=Tryz.underlying403
 a75:=Tryz.isAgg403
 z75:=Tryz.sizeOf403
 v75:=Tryz.zeroValue403
 t76:=Tryz.underlying404
 a76:=Tryz.isAgg404
 z76:=Tryz.sizeOf404
 v76:=Tryz.zeroValue404
 t85:=Tryz.underlying408
 a85:=Tryz.isAgg408
 z85:=Tryz.sizeOf408
 v85:=Tryz.zeroValue408
 t127:=Tryz.underlying421
 a127:=Tryz.isAgg421
 z127:=Tryz.sizeOf421
 v127:=Tryz.zeroValue421
 t143:=Tryz.underlying422
 a143:=Tryz.isAgg422
 z143:=Tryz.sizeOf422
 v143:=Tryz.zeroValue422
 t145:=Tryz.underlying424
 a145:=Tryz.isAgg424
 z145:=Tryz.sizeOf424
 v145:=Tryz.zeroValue424
 t167:=Tryz.underlying407
 a167:=Tryz.isAgg407
 z167:=Tryz.sizeOf407
 v167:=Tryz.zeroValue407
 t168:=Tryz.underlying410
 a168:=Tryz.isAgg410
 z168:=Tryz.sizeOf410
 v168:=Tryz.zeroValue410
 t171:=Tryz.underlying426
 a171:=Tryz.isAgg426
 z171:=Tryz.sizeOf426
 v171:=Tryz.zeroValue426
 t173:=Tryz.underlying428
 a173:=Tryz.isAgg428
 z173:=Tryz.sizeOf428
 v173:=Tryz.zeroValue428
 t175:=Tryz.underlying413
 a175:=Tryz.isAgg413
 z175:=Tryz.sizeOf413
 v175:=Tryz.zeroValue413
 t210:=Tryz.underlying417
 a210:=Tryz.isAgg417
 z210:=Tryz.sizeOf417
 v210:=Tryz.zeroValue417
 t212:=Tryz.underlying431
 a212:=Tryz.isAgg431
 z212:=Tryz.sizeOf431
 v212:=Tryz.zeroValue431
 t213:=Tryz.underlying432
 a213:=Tryz.isAgg432
 z213:=Tryz.sizeOf432
 t232:=Tryz.underlying433
 a232:=Tryz.isAgg433
 z232:=Tryz.sizeOf433
 v232:=Tryz.zeroValue433
 t233:=Tryz.underlying434
 a233:=Tryz.isAgg434
 z233:=Tryz.sizeOf434
 v233:=Tryz.zeroValue434
 g15:=by kernel_rfl
 g16:=by kernel_rfl
 g17:=by kernel_rfl
 g18:=by kernel_rfl
 g19:=by kernel_rfl
 t80:=Tryz.underlying435
 a80:=Tryz.isAgg435
 z80:=Tryz.sizeOf435
 v80:=Tryz.zeroValue435
 i0:=by kernel_rfl
 i2:=by kernel_rfl
 i3:=by kernel_rfl
 i4:=by kernel_rfl
 i5:=by kernel_rfl
 i9:=by kernel_rfl
 i20:=by kernel_rfl
 i21:=by kernel_rfl
 i37:=by kernel_rfl
 i46:=by kernel_rfl
 i51:=by kernel_rfl
 i53:=by kernel_rfl
 i75:=by kernel_rfl
 i76:=by kernel_rfl
 i80:=by kernel_rfl
 i85:=by kernel_rfl
 i127:=by kernel_rfl
 i143:=by kernel_rfl
 i145:=by kernel_rfl
 i167:=by kernel_rfl
 i168:=by kernel_rfl
 i171:=by kernel_rfl
 i173:=by kernel_rfl
 i175:=by kernel_rfl
 i210:=by kernel_rfl
 i212:=by kernel_rfl
 i232:=by kernel_rfl
 i233:=by kernel_rfl
 m15:=by kernel_rfl
 m16:=by kernel_rfl
 m17:=by kernel_rfl
 m18:=by kernel_rfl
 m19:=by kernel_rfl
 c0:=by kernel_rfl
 c2:=by kernel_rfl
 c3:=by kernel_rfl
 c4:=by kernel_rfl
 c5:=by kernel_rfl
 c9:=by kernel_rfl
 c20:=by kernel_rfl
 c21:=by kernel_rfl
 c37:=by kernel_rfl
 c46:=by kernel_rfl
 c51:=by kernel_rfl
 c53:=by kernel_rfl
 c75:=by kernel_rfl
 c76:=by kernel_rfl
 c80:=by kernel_rfl
 c85:=by kernel_rfl
 c127:=by kernel_rfl
 c143:=by kernel_rfl
 c145:=by kernel_rfl
 c167:=by kernel_rfl
 c168:=by kernel_rfl
 c171:=by kernel_rfl
 c173:=by kernel_rfl
 c175:=by kernel_rfl
 c210:=by kernel_rfl
 c212:=by kernel_rfl
 c213:=by kernel_rfl
 c232:=by kernel_rfl
 c233:=by kernel_rfl }
open Go.RowKit in
theorem Tryz.strconv_Atoi_ok (s:ByteArray)(hmax:s.size≤9223372036854775806)(v:Int)(h:Lib.atoiAll s.data.toList=.ok v)(w:World) :
  Calls Tryz.prog 381 #[.string s] w fun e w'=>e=.returned (.tuple #[.int .i64 v,.nilIface])∧(w'=w∨∃t,w'=Lib.bytesWorld w 5 t):=Any.strconv_Atoi_ok Tryz.laysC172 s hmax v h w
def Tryz.lays219_ren:Go.Shelf.Ren:=⟨fun|219=>306|217=>341|225=>342|224=>343|267=>344|266=>365|314=>366|n=>n,fun|9=>9|3=>3|4=>4|5=>5|46=>237|146=>389|51=>367|n=>n,fun|1=>0|n=>n⟩
theorem Tryz.lays219:Go.Proofs.Lays.n219 Tryz.prog Tryz.lays219_ren:={
 mixed:=by kernel_rfl
 f217:=Tryz.func341.trans (congrArg some (by kernel_rfl))
 f219:=Tryz.func306.trans (congrArg some (by kernel_rfl))
 f224:=Tryz.func343.trans (congrArg some (by kernel_rfl))
 f225:=Tryz.func342.trans (congrArg some (by kernel_rfl))
 f266:=Tryz.func365.trans (congrArg some (by kernel_rfl))
 f267:=Tryz.func344.trans (congrArg some (by kernel_rfl))
 f314:=Tryz.func366.trans (congrArg some (by kernel_rfl))
 t3:=Tryz.underlying3
 a3:=Tryz.isAgg3
 z3:=Tryz.sizeOf3
 v3:=Tryz.zeroValue3
 t4:=Tryz.underlying4
 a4:=Tryz.isAgg4
 z4:=Tryz.sizeOf4
 v4:=Tryz.zeroValue4
 t5:=Tryz.underlying5
 a5:=Tryz.isAgg5
 z5:=Tryz.sizeOf5
 v5:=Tryz.zeroValue5
 t9:=Tryz.underlying9
 a9:=Tryz.isAgg9
 z9:=Tryz.sizeOf9
 v9:=Tryz.zeroValue9
 t46:=Tryz.underlying237
 a46:=Tryz.isAgg237
 z46:=Tryz.sizeOf237
 v46:=Tryz.zeroValue237
 t51:=Tryz.underlying367
 a51:=Tryz.isAgg367
 z51:=Tryz.sizeOf367
 v51:=Tryz.zeroValue367
 t146:=Tryz.underlying389
 a146:=Tryz.isAgg389
 z146:=Tryz.sizeOf389
 v146:=Tryz.zeroValue389
 g1:=by kernel_rfl }
open Go.RowKit Go.Lib in
theorem Tryz.stringslite_Index_one (s:ByteArray)(c:UInt8)(w:World) :
  Calls Tryz.prog 306 #[.string s,.string ⟨#[c]⟩] w fun e w'=>e=.returned (.int .i64 (Lib.indexByte s.data.toList c))∧w'=w:=Any.stringslite_Index_one Tryz.lays219 s c w
def Tryz.lays315_ren:Go.Shelf.Ren:=⟨fun|315=>345|n=>n,fun|9=>9|40=>297|4=>4|3=>3|0=>0|21=>21|n=>n,fun|n=>n⟩
theorem Tryz.lays315:Go.Proofs.Lays.n315 Tryz.prog Tryz.lays315_ren:={
 mixed:=by kernel_rfl
 f315:=Tryz.func345.trans (congrArg some (by kernel_rfl))
 t0:=Tryz.underlying0
 a0:=Tryz.isAgg0
 z0:=Tryz.sizeOf0
 v0:=Tryz.zeroValue0
 t3:=Tryz.underlying3
 a3:=Tryz.isAgg3
 z3:=Tryz.sizeOf3
 v3:=Tryz.zeroValue3
 t4:=Tryz.underlying4
 a4:=Tryz.isAgg4
 z4:=Tryz.sizeOf4
 v4:=Tryz.zeroValue4
 t9:=Tryz.underlying9
 a9:=Tryz.isAgg9
 z9:=Tryz.sizeOf9
 v9:=Tryz.zeroValue9
 t21:=Tryz.underlying21
 a21:=Tryz.isAgg21
 z21:=Tryz.sizeOf21
 v21:=Tryz.zeroValue21
 t40:=Tryz.underlying297
 a40:=Tryz.isAgg297
 z40:=Tryz.sizeOf297
 v40:=Tryz.zeroValue297 }
open Go.RowKit Go.Lib in
theorem Tryz.strings_indexFunc (g:Nat)(lb:Array Value)(eg:∀args w,(callFunc g args).run Tryz.prog w=.ok (.enter g args) w)(p:Nat→Bool)(truth:Bool)(s:ByteArray)(w:World)(hp:PredAt Tryz.prog g lb encR p w) :
  Calls Tryz.prog 345 #[.string s,.func (.func g) #[] lb,.bool truth] w fun e w'=>e=.returned (.int .i64 (Lib.idxFunc p truth s))∧Below w.heap.size w w':=Any.strings_indexFunc Tryz.lays315 g lb eg p truth s w hp
def Tryz.lays227_ren:Go.Shelf.Ren:=⟨fun|227=>318|n=>n,fun|9=>9|116=>347|4=>4|0=>0|3=>3|5=>5|n=>n,fun|n=>n⟩
theorem Tryz.lays227:Go.Proofs.Lays.n227 Tryz.prog Tryz.lays227_ren:={
 mixed:=by kernel_rfl
 f227:=Tryz.func318.trans (congrArg some (by kernel_rfl))
 t0:=Tryz.underlying0
 a0:=Tryz.isAgg0
 z0:=Tryz.sizeOf0
 v0:=Tryz.zeroValue0
 t3:=Tryz.underlying3
 a3:=Tryz.isAgg3
 z3:=Tryz.sizeOf3
 v3:=Tryz.zeroValue3
 t4:=Tryz.underlying4
 a4:=Tryz.isAgg4
 z4:=Tryz.sizeOf4
 v4:=Tryz.zeroValue4
 t5:=Tryz.underlying5
 a5:=Tryz.isAgg5
 z5:=Tryz.sizeOf5
 v5:=Tryz.zeroValue5
 t9:=Tryz.underlying9
 a9:=Tryz.isAgg9
 z9:=Tryz.sizeOf9
 v9:=Tryz.zeroValue9
 t116:=Tryz.underlying347
 a116:=Tryz.isAgg347
 z116:=Tryz.sizeOf347 }
open Go.RowKit Go.Lib in
theorem Tryz.strings_makeASCIISet (hv116:∀w,(zeroValue 347).run Tryz.prog w=.ok (.agg (Array.replicate 256 (.bool false))) w)(chars:ByteArray)(w:World)(hs:chars.size<4294967281)(hascii:∀(j:Nat) b,chars.data.toList[j]?=some b→b.toNat<128) :
  Calls Tryz.prog 318 #[.string chars] w fun e w'=>e=.returned (.tuple #[.agg (Lib.setCells chars.data.toList),.bool true])∧w'=w.alloc (.cells (Lib.setCells chars.data.toList) 347):=Any.strings_makeASCIISet Tryz.lays227 hv116 (by kernel_rfl) chars w hs hascii
end Go.Proofs

namespace Go.Proofs.YtaneehgfdpadjaaGreatDoor
open Go.Sha Go.RowKit
set_option maxRecDepth 100000
variable {g:List (Nat×Obj)}{n:Nat}
def othR (r:Nat):Bool:=decide (r<48)||decide (57<r)
def setV:List V:=(List.range 256).map fun n=>.bool (nmW.contains n.toUInt8)
def q306:List V→Option VRes
 |[.str s,.str [c]]=>some (.ret (.int .i64 (Lib.indexByte s c)))
 |_=>none
def q318:List V→Option VRes
 |[.str t]=>if t=nmW then some (.ret (.tup [.agg setV,.bool true])) else none
 |_=>none
def q345:List V→Option VRes
 |[.str s,.fn (.func 247) [] [],.bool true]=>some (.ret (.int .i64 (Lib.idxFunc othR true ⟨s.toArray⟩)))
 |_=>none
def HL0:EvF:=⟨[],fun f args st=>(bif Nat.beq f 306 then q306 args else bif Nat.beq f 318 then q318 args else bif Nat.beq f 345 then q345 args else none).map fun r=>(r,st)⟩
@[push_cast]theorem HL0_raw:HL0.raw=[]:=idq rfl
theorem k306 {s:List UInt8}{c:UInt8}{st:St}:run Tryz.prog HL0 306 [.str s,.str [c]] st=some (.ret (.int .i64 (Lib.indexByte s c)),st):=run_H rfl
theorem k318 {st:St}:run Tryz.prog HL0 318 [.str nmW] st=some (.ret (.tup [.agg setV,.bool true]),st):=run_H rfl
theorem k345 {s:List UInt8}{st:St}:run Tryz.prog HL0 345 [.str s,.fn (.func 247) [] [],.bool true] st=some (.ret (.int .i64 (Lib.idxFunc othR true ⟨s.toArray⟩)),st):=run_H rfl
theorem idx_tw {c:UInt8}:∀{s:List UInt8},Lib.indexByte s c=if s.contains c=true then((s.takeWhile (· != c)).length:Int) else -1
 |[]=>rfl
 |b::s=>by
  have ih:=idx_tw (c:=c) (s:=s)
  rw[Lib.indexByte,ih]
  by_cases h:b=c
  ·subst h;simp
  ·have h2:(b == c)=false:=by simpa using h
   have h3:(b != c)=true:=by simpa using h
   rw[h2,List.takeWhile_cons,if_pos h3,List.contains_cons,show(c == b)=false by simpa using fun e=>h e.symm,Bool.false_or,List.length_cons]
   cases s.contains c
   ·rfl
   ·simp only[if_true]
    rw[if_neg (by simp),if_neg (by simp)];omega
theorem drop_tw {p:UInt8→Bool}{s:List UInt8}:s.drop ((s.takeWhile p).length+1)=(s.dropWhile p).drop 1:=by rw[←List.drop_drop,drop_w]
theorem tw_none {c:UInt8}:∀{s:List UInt8},s.contains c=false→s.takeWhile (· != c)=s∧s.dropWhile (· != c)=[]
 |[],_=>⟨rfl,rfl⟩
 |b::r,h=>by
  have hb:(b != c)=true:=by simp at h ⊢;exact fun e=>h.1 e.symm
  have hr:r.contains c=false:=by simp at h ⊢;exact h.2
  have:=tw_none hr
  simp only[List.takeWhile_cons,List.dropWhile_cons,hb,if_true]
  exact⟨by rw[this.1],this.2⟩
theorem k245 {s:List UInt8}{c:UInt8}(hl:s.length<140737488355328){st:St}:run Tryz.prog HL0 245 [.str s,.str [c]] st=some (.ret (.tup [.str (s.takeWhile (· != c)),.str ((s.dropWhile (· != c)).drop 1),.bool (s.contains c)]),st):=by
 have hi:=idx_tw (c:=c) (s:=s)
 have hle:=(List.takeWhile_sublist (· != c) (l:=s)).length_le
 rw[run_shut F245 rfl rfl rfl]
 cases h:s.contains c with
 |true =>
  have hlt:(s.takeWhile (· != c)).length<s.length:=by
   rcases Nat.lt_or_ge (s.takeWhile (· != c)).length s.length with h2|h2
   ·exact h2
   ·have e:s.takeWhile (· != c)=s:=(List.takeWhile_sublist _).eq_of_length (by omega)
    have:=List.all_takeWhile (p:=(· != c)) (l:=s)
    rw[e,List.all_eq_true]at this
    have:=this c (by simpa using h)
    simp at this
  rw[h,if_pos rfl]at hi
  have hd:=drop_tw (p:=(· != c)) (s:=s)
  have ht:=take_w (p:=(· != c)) (s:=s)
  generalize s.takeWhile (· != c)=a at *
  have hw:IntKind.i64.wrap ((a.length:Int)+1)=((a.length+1:Nat):Int):=iwrap (by omega) (by omega)
  push_cast[k306,hi,hw,ht]
  exact dn_eq (by omega) (by rw[List.take_length,show((a.length:Int)+1).toNat=a.length+1 by omega,hd])
 |false =>
  rw[h,if_neg (by simp)]at hi
  obtain⟨e1,e2⟩:=tw_none h
  rw[e1,e2]
  push_cast[k306,hi]
theorem k160 {s:List UInt8}{c:UInt8}(hl:s.length<140737488355328){st:St}:run Tryz.prog HL0 160 [.str s,.str [c]] st=some (.ret (.tup [.str (s.takeWhile (· != c)),.str ((s.dropWhile (· != c)).drop 1),.bool (s.contains c)]),st):=by
 have h:=fun(st:St)=>k245 (c:=c) (st:=st) hl
 rw[run_shut F160 rfl rfl rfl]
 push_cast[h]
theorem k164 {s t:List UInt8}(hl:s.length<140737488355328)(ht:t.length≤s.length+1000){st:St}:run Tryz.prog HL0 164 [.str s,.str t] st=some (.ret (.bool (t.isSuffixOf s)),st):=by
 have h:∀st,run Tryz.prog HL0 248 [.str s,.str t] st=some (.ret (.bool (t.isSuffixOf s)),st):=fun st=>by
  rw[run_shut F248 rfl rfl rfl]
  by_cases h:t.length≤s.length
  ·have h1:(t.length:Int)≤s.length:=by omega
   have hw:IntKind.i64.wrap ((s.length:Int)-t.length)=((s.length-t.length:Nat):Int):=by rw[iwrap (by omega) (by omega)];omega
   have e:t.isSuffixOf s=(s.drop (s.length-t.length) == t):=by
    rw[Bool.eq_iff_iff,List.isSuffixOf_iff_suffix,List.suffix_iff_eq_drop,beq_iff_eq]
    exact⟨fun h=>h.symm,fun h=>h.symm⟩
   have h2:((s.length-t.length:Nat):Int)≤s.length:=by omega
   generalize s.length-t.length=k at *
   push_cast[h1,hw,h2,List.take_length,e]
  ·have h1:¬(t.length:Int)≤s.length:=by omega
   have e:t.isSuffixOf s=false:=by
    rw[←Bool.not_eq_true,List.isSuffixOf_iff_suffix]
    exact fun h2=>h h2.length_le
   push_cast[h1,e]
 rw[run_shut F164 rfl rfl rfl]
 push_cast[h]
theorem oth_from (s:ByteArray):∀(f pos:Nat),s.size≤pos+f→(decide (Lib.idxFuncFrom othR true s f pos<0))=(s.data.toList.drop pos).all isD
 |0,pos,h=>by
  rw[List.drop_eq_nil_of_le (by rw[Array.length_toList];exact h)];rfl
 |f+1,pos,h=>by
  unfold Lib.idxFuncFrom
  by_cases hp:pos<s.size
  ·have hp':pos<s.data.toList.length:=by rw[Array.length_toList];exact hp
   have hb:s.data.toList[pos]'hp'=s[pos]'hp:=rfl
   rw[if_pos hp,List.drop_eq_getElem_cons hp',List.all_cons,hb]
   by_cases ha:(s[pos]'hp).toNat<128
   ·rw[decode_ascii s pos hp ha]
    have ih:=oth_from s f (pos+1) (by omega)
    cases hd:isD (s[pos]'hp) with
    |true =>
     have:¬othR (s[pos]'hp).toNat=true:=by
      simp only[isD,Bool.and_eq_true,decide_eq_true_eq]at hd
      simp only[othR,Bool.or_eq_true,decide_eq_true_eq];omega
     rw[if_neg this,ih];rfl
    |false =>
     have:othR (s[pos]'hp).toNat=true:=by
      simp only[isD,Bool.and_eq_false_iff,decide_eq_false_iff_not]at hd
      simp only[othR,Bool.or_eq_true,decide_eq_true_eq];omega
     rw[if_pos this]
     simp
   ·obtain⟨h1,h2⟩:=decode_high s pos hp (by omega)
    have:othR (Utf8.decode s pos).1=true:=by
     simp only[othR,Bool.or_eq_true,decide_eq_true_eq];omega
    have hd:isD (s[pos]'hp)=false:=by
     simp only[isD,Bool.and_eq_false_iff,decide_eq_false_iff_not];omega
    rw[if_pos this,hd]
    simp
  ·rw[if_neg hp,List.drop_eq_nil_of_le (by rw[Array.length_toList];exact Nat.le_of_not_lt hp)];rfl
theorem oth_idx (s:List UInt8):decide (Lib.idxFunc othR true ⟨s.toArray⟩<0)=s.all isD:=by
 have:=oth_from ⟨s.toArray⟩ s.length 0 (by simp[ByteArray.size])
 simpa [Lib.idxFunc,ByteArray.size] using this
theorem k246 {s:List UInt8}{st:St}:run Tryz.prog HL0 246 [.str s,.fn (.func 247) [] []] st=some (.ret (.bool (s.any (!isD ·))),st):=by
 have h:∀st,run Tryz.prog HL0 307 [.str s,.fn (.func 247) [] []] st=some (.ret (.int .i64 (Lib.idxFunc othR true ⟨s.toArray⟩)),st):=fun st=>by
  rw[run_shut F307 rfl rfl rfl]
  push_cast[k345]
 have e:decide (0≤Lib.idxFunc othR true ⟨s.toArray⟩)=s.any (!isD ·):=by
  have:=oth_idx s
  have h2:decide (0≤Lib.idxFunc othR true ⟨s.toArray⟩)=!(decide (Lib.idxFunc othR true ⟨s.toArray⟩<0)):=by
   rw[Bool.eq_iff_iff];simp
  rw[h2,this,List.not_all_eq_any_not]
 rw[run_shut F246 rfl rfl rfl]
 push_cast[h,e]
theorem setV_len:setV.length=256:=by simp[setV]
theorem setV_bd:V.bdL n setV=true:=by
 have:=bdL_map' (n:=n) (f:=fun k:Nat=>V.bool (nmW.contains k.toUInt8)) (l:=List.range 256)
 rw[setV,this];simp[V.bd]
theorem setV_get (b:UInt8):setV[b.toNat]?=some (.bool (nmW.contains b)):=by
 rw[setV,List.getElem?_map,List.getElem?_range b.toNat_lt];simp
theorem k351 {b:UInt8}{st:St}:run Tryz.prog HL0 351 [.ep (.agg setV) 0,.int .u8 b.toNat] st=some (.ret (.bool (nmW.contains b)),st):=by
 have hb:=b.toNat_lt
 have hg:=setV_get b
 have hl:=setV_len
 have hd:=fun n=>setV_bd (n:=n)
 rw[run_shut F351 rfl rfl (by simp[V.bdL,V.bd,hd])]
 generalize nmW.contains b=c at *
 generalize setV=z at *
 push_cast[hb,hg,hl,hd,Nat.mul_one]
 all_goals exact dn_eq hb rfl
theorem L319:∀{t:List UInt8},t.length<140737488355328→runL Tryz.prog HL0 [0,1] n B319_0 [(0,.str t),(1,.ep (.agg setV) 0)] (stN g n)=some (.exit 0,[(0,.str (t.dropWhile nmW.contains))],stN g n)
 |[],_=>by
  have hd:=fun n=>setV_bd (n:=n)
  rw[runL_of B319_0.eq_1]
  generalize setV=z at *
  push_cast[List.length_nil,List.dropWhile_nil,hd]
 |b::t,hl=>by
  rw[List.length_cons]at hl
  have ih:=L319 (t:=t) (by omega)
  have hd:=fun n=>setV_bd (n:=n)
  have h270:=fun st=>k351 (b:=b) (st:=st)
  rw[runL_of B319_0.eq_1,List.dropWhile_cons]
  generalize nmW.contains b=c at *
  generalize setV=z at *
  have h1:(0:Int)<t.length+1:=by omega
  cases c
  ·push_cast[List.length_cons,hd,h1,h270,List.getD_cons_zero]
  ·push_cast[List.length_cons,hd,h1,h270,List.getD_cons_zero,List.take_length,List.drop_one,List.tail_cons]at ih ⊢
   exact dn_eq (by omega) ih
theorem f319 {t:List UInt8}(hl:t.length<140737488355328){st:St}:run Tryz.prog HL0 319 [.str t,.ep (.agg setV) 0] st=some (.ret (.str (t.dropWhile nmW.contains)),st):=by
 have hd:=fun n=>setV_bd (n:=n)
 have h0:=fun n=>L319 (g:=st.x.gl) (n:=n) hl
 rw[run_shut F319 rfl rfl (by simp[V.bdL,V.bd,hd])]
 generalize setV=z at *
 push_cast at h0
 push_cast[hd,h0]
theorem L320:∀(k:Nat) {t:List UInt8},t.length=k→t.length<140737488355328→runL Tryz.prog HL0 [0,1] n B320_0 [(0,.str t),(1,.ep (.agg setV) 0)] (stN g n)=some (.exit 0,[(0,.str (t.reverse.dropWhile nmW.contains).reverse)],stN g n):=by
 intro k
 induction k with
 |zero =>
  intro t ht hl
  obtain rfl:=List.eq_nil_of_length_eq_zero ht
  have hd:=fun n=>setV_bd (n:=n)
  rw[runL_of B320_0.eq_1]
  generalize setV=z at *
  push_cast[List.length_nil,List.dropWhile_nil,List.reverse_nil,hd]
 |succ k ih =>
  intro t ht hl
  rcases List.eq_nil_or_concat t with rfl|⟨t',b,rfl⟩
  ·simp at ht
  ·rw[List.concat_eq_append]at *
   rw[List.length_append,List.length_singleton]at ht hl
   have ih:=ih (t:=t') (by omega) (by omega)
   have hd:=fun n=>setV_bd (n:=n)
   have h270:=fun st=>k351 (b:=b) (st:=st)
   have hw:IntKind.i64.wrap ((t'.length:Int)+1-1)=((t'.length:Nat):Int):=by rw[iwrap (by omega) (by omega)];omega
   have h1:(0:Int)<t'.length+1:=by omega
   have h2:(t'.length:Int)<t'.length+1:=by omega
   have h3:(t'.length:Int)≤t'.length+1:=by omega
   have h4:List.take t'.length (t'++[b])=t':=List.take_left
   rw[runL_of B320_0.eq_1,List.reverse_append,List.reverse_singleton,List.singleton_append,List.dropWhile_cons]
   generalize nmW.contains b=c at *
   generalize setV=z at *
   cases c
   ·push_cast[List.length_append,List.length_singleton,hd,h1,h2,h3,hw,h270,getD_app,List.reverse_cons,List.reverse_reverse]
   ·push_cast[List.length_append,List.length_singleton,hd,h1,h2,h3,h4,hw,h270,getD_app]at ih ⊢
    exact ih
theorem f320 {t:List UInt8}(hl:t.length<140737488355328){st:St}:run Tryz.prog HL0 320 [.str t,.ep (.agg setV) 0] st=some (.ret (.str (t.reverse.dropWhile nmW.contains).reverse),st):=by
 have hd:=fun n=>setV_bd (n:=n)
 have h0:=fun n=>L320 (g:=st.x.gl) (n:=n) _ rfl hl
 rw[run_shut F320 rfl rfl (by simp[V.bdL,V.bd,hd])]
 generalize setV=z at *
 push_cast at h0
 push_cast[hd,h0]
theorem trim_swap {p:UInt8→Bool}:∀{s:List UInt8},((s.reverse.dropWhile p).reverse).dropWhile p=((s.dropWhile p).reverse.dropWhile p).reverse
 |[]=>rfl
 |b::r=>by
  have ih:=trim_swap (p:=p) (s:=r)
  cases hb:p b with
  |true =>
   have e1:(b::r).dropWhile p=r.dropWhile p:=by simp[hb]
   rw[e1,←ih,List.reverse_cons,List.dropWhile_append]
   cases hx:r.reverse.dropWhile p with
   |nil=>simp[hb]
   |cons y l=>simp[hb,List.dropWhile_cons]
  |false =>
   have e1:(b::r).dropWhile p=b::r:=by simp[hb]
   rw[e1,List.reverse_cons,List.dropWhile_append]
   cases hx:r.reverse.dropWhile p with
   |nil=>simp[hb]
   |cons y l=>simp[hb,List.dropWhile_cons]
theorem k278 {s:List UInt8}(hl:s.length≤24){st:St}:run Tryz.prog HL0 278 [.str s,.str nmW] st=some (.ret (.str (trimB nmW s)),st):=by
 have hd:=fun n=>setV_bd (n:=n)
 have hz:=setV_len
 have h249:=fun st=>k318 (st:=st)
 have h251:=fun st=>f320 (t:=s) (st:=st) (by omega)
 have hle:=(List.dropWhile_sublist nmW.contains (l:=s.reverse)).length_le
 have h250:=fun st=>f319 (t:=(s.reverse.dropWhile nmW.contains).reverse) (st:=st) (by simp at hle ⊢;omega)
 rw[trim_swap]at h250
 rw[run_shut F278 rfl rfl rfl,trimB]
 generalize setV=z at *
 by_cases h0:s=[]
 ·subst h0
  push_cast[List.dropWhile_nil,List.reverse_nil]
 ·push_cast[h0,h249,h250,h251,hd,hz,List.length_replicate,List.drop_replicate,Nat.sub_self,List.replicate_zero,List.append_nil]
theorem callable306:Callable Tryz.prog 306:=⟨_,Tryz.func306,by kernel_rfl,by kernel_rfl⟩
theorem callable318:Callable Tryz.prog 318:=⟨_,Tryz.func318,by kernel_rfl,by kernel_rfl⟩
theorem callable345:Callable Tryz.prog 345:=⟨_,Tryz.func345,by kernel_rfl,by kernel_rfl⟩
theorem callable381:Callable Tryz.prog 381:=⟨_,Tryz.func381,by kernel_rfl,by kernel_rfl⟩
theorem v306 (s:List UInt8)(c:UInt8)(st:St):VRet Tryz.prog 306 [.str s,.str [c]] st (.int .i64 (Lib.indexByte s c)) st:=by
 refine VRet_of_below callable306 (fun w A vs hw ha=>?_)
 obtain⟨hl,ha⟩:=ha
 match vs,hl with
 |[u,v],_ =>
 have e1:=(ha 0 u _ rfl rfl).str_inv
 have e2:=(ha 1 v _ rfl rfl).str_inv
 subst e1;subst e2
 refine(Tryz.stringslite_Index_one ⟨s.toArray⟩ c w).mono fun e w' ⟨he,hb⟩=>?_
 subst he;subst hb
 exact⟨_,rfl,fun w' A'=>.int _ _,Below.refl _ _⟩
theorem nm_ascii:∀b∈nmW,b.toNat<128:=by decide
theorem v318 (st:St):VRet Tryz.prog 318 [.str nmW] st (.tup [.agg setV,.bool true]) st:=by
 refine VRet_of_below callable318 (fun w A vs hw ha=>?_)
 obtain⟨u,rfl,h1⟩:=ha.one
 have e1:=h1.str_inv
 subst e1
 refine(Tryz.strings_makeASCIISet Tryz.zeroValue347 ⟨nmW.toArray⟩ w (by decide) (fun j b hj=>nm_ascii b (List.mem_of_getElem? hj))).mono fun e w' ⟨he,hb⟩=>?_
 subst he;subst hb
 refine⟨_,rfl,fun w' A'=>?_,Below.alloc (Below.refl _ _) (Nat.le_refl _) _⟩
 have hcell:∀(i:Nat) (v:Value) (c:V),(Lib.setCells nmW).toList[i]?=some v→setV[i]?=some c→Rep w' A' v c∧v.oneCell'=true:=fun i v c hv hc=>by
  have hi:i<256:=by have:=(List.getElem?_eq_some_iff.1 hc).1;rw[setV_len]at this;exact this
  have e2:i.toUInt8.toNat=i:=by simp[Nat.toUInt8,UInt8.toNat_ofNat',Nat.mod_eq_of_lt hi]
  have g1:=Lib.setCells_at nmW i.toUInt8
  have g2:=setV_get i.toUInt8
  rw[e2]at g1 g2
  rw[Array.getElem?_toList,g1]at hv
  rw[g2]at hc
  cases hv;cases hc
  exact⟨.bool _,rfl⟩
 refine .tup [.agg (Lib.setCells nmW),.bool true] [.agg setV,.bool true] rfl (fun i v c h1 h2=>?_)
 match i,h1,h2 with
 |0,h1,h2 =>
  simp at h1 h2;subst h1 h2
  have:=Rep.agg (w:=w') (A:=A') (Lib.setCells nmW).toList setV (by rw[Array.length_toList,Lib.setCells_size,setV_len]) (fun v hv=>by
   obtain⟨i,hi⟩:=List.mem_iff_getElem?.1 hv
   have hlt:i<setV.length:=by rw[setV_len];have:=(List.getElem?_eq_some_iff.1 hi).1;rw[Array.length_toList,Lib.setCells_size]at this;exact this
   exact(hcell i v setV[i] hi (List.getElem?_eq_getElem hlt)).2) (fun i v c hv hc=>(hcell i v c hv hc).1)
  rwa [Array.toArray_toList]at this
 |1,h1,h2=>simp at h1 h2;subst h1 h2;exact .bool _
theorem pred280 (w:World):PredAt Tryz.prog 247 #[] encR othR w:=fun W r _=>by
 unfold FnGives
 by_cases h1:r<48<;>by_cases h2:57<r
 all_goals
  have z1:(r:Int)<48↔r<48:=by omega
  have z2:(57:Int)<(r:Int)↔57<r:=by omega
  go_enter Tryz.func247,Tryz.ntmps247
  go_wp2
  all_goals first|(exfalso;omega)|(go_ret;exact⟨by simp[othR,h1,h2],0,rfl⟩)
theorem v345 (s:List UInt8)(st:St):VRet Tryz.prog 345 [.str s,.fn (.func 247) [] [],.bool true] st (.int .i64 (Lib.idxFunc othR true ⟨s.toArray⟩)) st:=by
 refine VRet_of_below callable345 (fun w A vs hw ha=>?_)
 obtain⟨hl,ha⟩:=ha
 match vs,hl with
 |[v0,v1,v2],_ =>
 have e0:=(ha 0 v0 _ rfl rfl).str_inv
 have r1:=ha 1 v1 _ rfl rfl
 have e2:=(ha 2 v2 _ rfl rfl).bool_inv
 have e1:v1=.func (.func 247) #[] #[]:=by
  cases r1 with
  |fn _ vs us _ _ e1 e2 _ _ =>
   have h1:vs=[]:=List.eq_nil_of_length_eq_zero e1
   have h2:us=[]:=List.eq_nil_of_length_eq_zero e2
   rw[h1,h2]
 subst e0;subst e1;subst e2
 refine(Tryz.strings_indexFunc 247 #[] (enters_of Tryz.func247 (by kernel_rfl) rfl) othR true ⟨s.toArray⟩ w (pred280 w)).mono fun e w' ⟨he,hb⟩=>?_
 subst he
 exact⟨_,rfl,fun w' A'=>.int _ _,hb⟩
theorem HL0_ok:ESound Tryz.prog HL0:=fun f args st r s h=>by
 obtain⟨z,hz,e⟩:=Option.map_eq_some_iff.1 h
 cases e
 by_cases h1:f=306
 ·subst h1
  rw[show Nat.beq 306 306=true from rfl,cond_true]at hz
  unfold q306 at hz
  split at hz<;>cases hz
  exact v306 _ _ _
 rw[show Nat.beq f 306=false from Bool.eq_false_iff.2 fun e=>h1 (Nat.eq_of_beq_eq_true e),cond_false]at hz
 by_cases h2:f=318
 ·subst h2
  rw[show Nat.beq 318 318=true from rfl,cond_true]at hz
  unfold q318 at hz
  split at hz
  ·split at hz
   ·rename_i e;subst e;cases hz;exact v318 _
   ·cases hz
  ·cases hz
 rw[show Nat.beq f 318=false from Bool.eq_false_iff.2 fun e=>h2 (Nat.eq_of_beq_eq_true e),cond_false]at hz
 by_cases h3:f=345
 ·subst h3
  rw[show Nat.beq 345 345=true from rfl,cond_true]at hz
  unfold q345 at hz
  split at hz<;>cases hz
  exact v345 _ _
 rw[show Nat.beq f 345=false from Bool.eq_false_iff.2 fun e=>h3 (Nat.eq_of_beq_eq_true e),cond_false]at hz
 cases hz
end Go.Proofs.YtaneehgfdpadjaaGreatDoor

namespace Go.Proofs.YtaneehgfdpadjaaGreatDoor
open Go.Sha Go.RowKit
set_option maxRecDepth 100000
theorem parse_digs:∀(s:List UInt8) (acc:Nat),s.all isD=true→acc<18446744073709551616→Lib.parseUint10 acc s=if s.foldl (fun n b=>10*n+(b.toNat-48)) acc<18446744073709551616 then .ok (s.foldl (fun n b=>10*n+(b.toNat-48)) acc) else .range
 |[],acc,_,h=>by simp[Lib.parseUint10,h]
 |b::s,acc,h,ha=>by
  have mono:∀(s:List UInt8) (n:Nat),n≤s.foldl (fun n b=>10*n+(b.toNat-48)) n:=by
   intro s
   induction s with
   |nil=>intro n;exact Nat.le_refl _
   |cons c s ih=>intro n;rw[List.foldl_cons];refine Nat.le_trans ?_ (ih _);omega
  simp only[List.all_cons,Bool.and_eq_true]at h
  obtain⟨hb,hs⟩:=h
  have hb':48≤b.toNat∧b.toNat≤57:=by
   simp only[isD,Bool.and_eq_true,decide_eq_true_eq]at hb;omega
  rw[Lib.parseUint10,if_pos hb',List.foldl_cons]
  have hm:=mono s (10*acc+(b.toNat-48))
  by_cases h1:1844674407370955162≤acc
  ·rw[if_pos h1,if_neg (by omega)]
  ·rw[if_neg h1]
   by_cases h2:18446744073709551616≤acc*10+(b.toNat-48)
   ·rw[if_pos h2,if_neg (by omega)]
   ·rw[if_neg h2,parse_digs s _ hs (by omega),Nat.mul_comm]
theorem atoi_digs {s:List UInt8}(h0:s≠[])(h:s.all isD=true):Lib.atoiAll s=if natOf s<9223372036854775808 then .ok (natOf s:Int) else .range:=by
 cases s with
 |nil=>exact absurd rfl h0
 |cons b s =>
  have hb:isD b=true:=by simp only[List.all_cons,Bool.and_eq_true]at h;exact h.1
  have hb':48≤b.toNat∧b.toNat≤57:=by
   simp only[isD,Bool.and_eq_true,decide_eq_true_eq]at hb;omega
  rw[Lib.atoiAll_plain b s (by omega) (by omega),Lib.parseMag,if_neg (by simp),parse_digs (b::s) 0 h (by omega)]
  show Lib.signless (if natOf (b::s)<18446744073709551616 then .ok (natOf (b::s)) else .range)=_
  by_cases h1:natOf (b::s)<18446744073709551616
  ·rw[if_pos h1]
   unfold Lib.signless
   by_cases h2:natOf (b::s)<9223372036854775808
   ·rw[if_pos h2];simp only;rw[if_neg (by omega)]
   ·rw[if_neg h2];simp only;rw[if_pos (by omega)]
  ·rw[if_neg h1,if_neg (by omega)];rfl
theorem natOf_lt:∀{s:List UInt8}{n:Nat},s.all isD=true→s.foldl (fun n b=>10*n+(b.toNat-48)) n<(n+1)*10 ^ s.length
 |[],n,_=>by simp
 |b::s,n,h=>by
  simp only[List.all_cons,Bool.and_eq_true]at h
  have hb:b.toNat≤57:=by have:=h.1;simp only[isD,Bool.and_eq_true,decide_eq_true_eq]at this;omega
  have ih:=natOf_lt (s:=s) (n:=10*n+(b.toNat-48)) h.2
  rw[List.foldl_cons,List.length_cons,Nat.pow_succ]
  refine Nat.lt_of_lt_of_le ih ?_
  rw[show(n+1)*(10 ^ s.length*10)=((n+1)*10)*10 ^ s.length by rw[Nat.mul_comm (10 ^ s.length),Nat.mul_assoc]]
  exact Nat.mul_le_mul_right _ (by omega)
theorem v381 (s:List UInt8)(st:St)(h0:s≠[])(h:s.all isD=true)(hl:s.length≤18):VRet Tryz.prog 381 [.str s] st (.tup [.int .i64 (natOf s),.nili]) st:=by
 have hn:natOf s<9223372036854775808:=by
  have h1:=natOf_lt (n:=0) h
  have h2:10 ^ s.length≤10 ^ 18:=Nat.pow_le_pow_right (by omega) hl
  unfold natOf;omega
 refine VRet_of_below callable381 (fun w A vs hw ha=>?_)
 obtain⟨u,rfl,h1⟩:=ha.one
 have e1:=h1.str_inv
 subst e1
 have hat:=atoi_digs h0 h
 rw[if_pos hn]at hat
 refine(Tryz.strconv_Atoi_ok ⟨s.toArray⟩ (by simp[ByteArray.size];omega) (natOf s:Int) (by simpa using hat) w).mono fun e w' ⟨he,hb⟩=>?_
 subst he
 refine⟨_,rfl,fun w' A'=>?_,?_⟩
 ·refine .tup [.int .i64 (natOf s),.nilIface] [.int .i64 (natOf s),.nili] rfl (fun i v c h1 h2=>?_)
  match i,h1,h2 with
  |0,h1,h2=>simp at h1 h2;subst h1 h2;exact .int _ _
  |1,h1,h2=>simp at h1 h2;subst h1 h2;exact .nili
 ·rcases hb with rfl|⟨t,rfl⟩
  ·exact Below.refl _ _
  ·exact Lib.bytesWorld_below w 5 t
end Go.Proofs.YtaneehgfdpadjaaGreatDoor

namespace Go.Proofs.YtaneehgfdpadjaaGreatDoor
open Go.Sha
set_option maxRecDepth 100000
theorem HH_ok:ESound Tryz.prog HH:=fun f args st r s h=>by
 simp only[HH]at h
 cases hm:memL f [65,102,103,112,113,115,167,168,172,173,176,179,180,181,183,189,265,270] with
 |true =>
  rw[hm,cond_true]at h
  simp only[hSl]at h
  by_cases h1:f=102
  ·subst h1
   exact cln_ok (e:=97) (es:=3) (b:=40) (by kernel_rfl) h
  rw[show Nat.beq f 102=false from Bool.eq_false_iff.2 fun e=>h1 (Nat.eq_of_beq_eq_true e),cond_false]at h
  by_cases h1:f=103
  ·subst h1
   exact ins_ok slL bearsL ovL rfl (by decide) h
  rw[show Nat.beq f 103=false from Bool.eq_false_iff.2 fun e=>h1 (Nat.eq_of_beq_eq_true e),cond_false]at h
  by_cases h1:f=112
  ·subst h1
   exact cln_ok (e:=47) (es:=6) (b:=64) (by kernel_rfl) h
  rw[show Nat.beq f 112=false from Bool.eq_false_iff.2 fun e=>h1 (Nat.eq_of_beq_eq_true e),cond_false]at h
  by_cases h1:f=113
  ·subst h1
   exact ins_ok slE bearsE ovE rfl (by decide) h
  rw[show Nat.beq f 113=false from Bool.eq_false_iff.2 fun e=>h1 (Nat.eq_of_beq_eq_true e),cond_false]at h
  by_cases h1:f=115
  ·subst h1
   exact del_ok dlE bearsDE rfl (by decide) h
  rw[show Nat.beq f 115=false from Bool.eq_false_iff.2 fun e=>h1 (Nat.eq_of_beq_eq_true e),cond_false]at h
  by_cases h1:f=168
  ·subst h1
   exact cln_ok (e:=35) (es:=9) (b:=120) (by kernel_rfl) h
  rw[show Nat.beq f 168=false from Bool.eq_false_iff.2 fun e=>h1 (Nat.eq_of_beq_eq_true e),cond_false]at h
  by_cases h1:f=167
  ·subst h1
   exact del_ok dlC bearsDC rfl (by decide) h
  rw[show Nat.beq f 167=false from Bool.eq_false_iff.2 fun e=>h1 (Nat.eq_of_beq_eq_true e),cond_false]at h
  by_cases h1:f=172
  ·subst h1
   exact cln_ok (e:=38) (es:=2) (b:=32) (by kernel_rfl) h
  rw[show Nat.beq f 172=false from Bool.eq_false_iff.2 fun e=>h1 (Nat.eq_of_beq_eq_true e),cond_false]at h
  by_cases h1:f=173
  ·subst h1
   exact ins_ok slP bearsP ovP rfl (by decide) h
  rw[show Nat.beq f 173=false from Bool.eq_false_iff.2 fun e=>h1 (Nat.eq_of_beq_eq_true e),cond_false]at h
  by_cases h1:f=176
  ·subst h1
   exact cln_ok (e:=41) (es:=2) (b:=32) (by kernel_rfl) h
  rw[show Nat.beq f 176=false from Bool.eq_false_iff.2 fun e=>h1 (Nat.eq_of_beq_eq_true e),cond_false]at h
  by_cases h1:f=179
  ·subst h1
   exact ins_ok slG bearsG ovG rfl (by decide) h
  rw[show Nat.beq f 179=false from Bool.eq_false_iff.2 fun e=>h1 (Nat.eq_of_beq_eq_true e),cond_false]at h
  by_cases h1:f=180
  ·subst h1
   exact del_ok dlG bearsDG rfl (by decide) h
  rw[show Nat.beq f 180=false from Bool.eq_false_iff.2 fun e=>h1 (Nat.eq_of_beq_eq_true e),cond_false]at h
  by_cases h1:f=181
  ·subst h1
   exact cln_ok (e:=44) (es:=4) (b:=48) (by kernel_rfl) h
  rw[show Nat.beq f 181=false from Bool.eq_false_iff.2 fun e=>h1 (Nat.eq_of_beq_eq_true e),cond_false]at h
  by_cases h1:f=183
  ·subst h1
   exact ins_ok slS bearsS ovS rfl (by decide) h
  rw[show Nat.beq f 183=false from Bool.eq_false_iff.2 fun e=>h1 (Nat.eq_of_beq_eq_true e),cond_false]at h
  by_cases h1:f=189
  ·subst h1
   exact cln_ok (e:=49) (es:=7) (b:=72) (by kernel_rfl) h
  rw[show Nat.beq f 189=false from Bool.eq_false_iff.2 fun e=>h1 (Nat.eq_of_beq_eq_true e),cond_false]at h
  by_cases h1:f=65
  ·subst h1
   exact cln_ok (e:=31) (es:=9) (b:=208) (by kernel_rfl) h
  rw[show Nat.beq f 65=false from Bool.eq_false_iff.2 fun e=>h1 (Nat.eq_of_beq_eq_true e),cond_false]at h
  by_cases h1:f=265
  ·subst h1
   exact grw_ok basT (ρ:=rgS) rfl rfl rfl rfl rfl rfl bearsWS rfl (by decide) Tryz.underlying28 Tryz.isAgg28 Tryz.sizeOf28 Tryz.zeroValue28 infoWS rfl h
  rw[show Nat.beq f 265=false from Bool.eq_false_iff.2 fun e=>h1 (Nat.eq_of_beq_eq_true e),cond_false]at h
  by_cases h1:f=270
  ·subst h1
   exact grw_ok basT (ρ:=rgF) rfl rfl rfl rfl rfl rfl bearsWF rfl (by decide) Tryz.underlying24 Tryz.isAgg24 Tryz.sizeOf24 Tryz.zeroValue24 infoWF rfl h
  rw[show Nat.beq f 270=false from Bool.eq_false_iff.2 fun e=>h1 (Nat.eq_of_beq_eq_true e),cond_false]at h
  cases h
 |false =>
 rw[hm,cond_false]at h
 obtain⟨z,hz,e⟩:=Option.map_eq_some_iff.1 h
 cases e
 by_cases h1:f=160
 ·subst h1
  rw[show Nat.beq 160 160=true from rfl,cond_true]at hz
  unfold hCut at hz
  split at hz
  ·split at hz
   ·rename_i hl;cases hz;exact run_sound mixed HL0_ok _ _ _ _ _ (k160 hl)
   ·cases hz
  ·cases hz
 rw[show Nat.beq f 160=false from Bool.eq_false_iff.2 fun e=>h1 (Nat.eq_of_beq_eq_true e),cond_false]at hz
 by_cases h1:f=164
 ·subst h1
  rw[show Nat.beq 164 164=true from rfl,cond_true]at hz
  unfold hSuf at hz
  split at hz
  ·split at hz
   ·rename_i hl;cases hz;exact run_sound mixed HL0_ok _ _ _ _ _ (k164 hl.1 hl.2)
   ·cases hz
  ·cases hz
 rw[show Nat.beq f 164=false from Bool.eq_false_iff.2 fun e=>h1 (Nat.eq_of_beq_eq_true e),cond_false]at hz
 by_cases h1:f=246
 ·subst h1
  rw[show Nat.beq 246 246=true from rfl,cond_true]at hz
  unfold hAny at hz
  split at hz
  ·cases hz;exact run_sound mixed HL0_ok _ _ _ _ _ k246
  ·cases hz
 rw[show Nat.beq f 246=false from Bool.eq_false_iff.2 fun e=>h1 (Nat.eq_of_beq_eq_true e),cond_false]at hz
 by_cases h1:f=381
 ·subst h1
  rw[show Nat.beq 381 381=true from rfl,cond_true]at hz
  unfold hAtoi at hz
  split at hz
  ·split at hz
   ·rename_i hl;cases hz;exact v381 _ _ hl.1 hl.2.1 hl.2.2
   ·cases hz
  ·cases hz
 rw[show Nat.beq f 381=false from Bool.eq_false_iff.2 fun e=>h1 (Nat.eq_of_beq_eq_true e),cond_false]at hz
 by_cases h1:f=278
 ·subst h1
  rw[show Nat.beq 278 278=true from rfl,cond_true]at hz
  unfold hTrim at hz
  split at hz
  ·split at hz
   ·rename_i hl;obtain⟨e1,e2⟩:=hl;subst e1;cases hz;exact run_sound mixed HL0_ok _ _ _ _ _ (k278 e2)
   ·cases hz
  ·cases hz
 rw[show Nat.beq f 278=false from Bool.eq_false_iff.2 fun e=>h1 (Nat.eq_of_beq_eq_true e),cond_false]at hz
 cases hz
end Go.Proofs.YtaneehgfdpadjaaGreatDoor

namespace Go.Proofs.YtaneehgfdpadjaaGreatDoor
open Go.ChangeShapes Go.WideShapes Go.ChangeAt Go.RowKit Go.Sha
theorem sound:ESound Tryz.prog HF:=HF_ok HH_ok
theorem law {s:Sho}{x:Two}(h:s.Dk)(hx:x.Dk){st:St}:run Tryz.prog HF 3 [s.v,x.v] st=some (.ret (.bool true),st):=l3 h hx
theorem sk1:(laidOutB Tryz.prog)=true:=by kernel_rfl
theorem sk2:(mapsRowed Tryz.prog)=true:=by kernel_rfl
theorem sk6:(Tryz.prog.stops == [])=true:=by kernel_rfl
theorem sk8:(Tryz.prog.stopKnobs == [])=true:=by kernel_rfl
theorem sk22:(Rows.topEditsCommuteRow.plainKeys == Tryz.prog.plainKeys)=true:=by kernel_rfl
theorem sk24:(Tryz.prog.stopsHeard)=true:=by kernel_rfl
theorem sk25:(Tryz.prog.mayEnter)=true:=by kernel_rfl
theorem sk26:(Rows.topEditsCommuteRow.lifted == Tryz.prog.liftsFinal)=true:=by kernel_rfl
theorem sk27:(Tryz.prog.make == some Rows.topEditsCommuteRow.make)=true:=by kernel_rfl
theorem sk15:(Rows.topEditsCommuteRow.mapsOut == Tryz.prog.mapsAmong Tryz.f3.resultTypes.toList)=true:=by kernel_rfl
theorem sown:ownKnob Tryz.prog.godebug=none:=by kernel_rfl
theorem smain:Tryz.prog.mainIs=some (Rows.topEditsCommuteCard.stood.harness.1,Rows.topEditsCommuteCard.stood.harness.2.toList):=by kernel_rfl
theorem slooks:Rows.topEditsCommuteCard.stood.looks=Tryz.prog.looks []:=by kernel_rfl
end Go.Proofs.YtaneehgfdpadjaaGreatDoor

