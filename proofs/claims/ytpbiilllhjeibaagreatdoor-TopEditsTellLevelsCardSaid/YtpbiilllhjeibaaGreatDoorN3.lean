/- The library's contracts hold. The contracts of this seat's table hold. The contracts of this seat's table hold. The laws on what comes in: facts of the whole program. .. -/
import Derived.Test.YtpbiilllhjeibaaGreatDoorN1
import Derived.Test.YtpbiilllhjeibaaGreatDoorN2
import Derived.Test.YtpbiilllhjeibaaGreatDoorNShbXE
import Derived.Lib.AtoiAllCases
import Derived.Laws.RangeAny
import Derived.Test.YtpbiilllhjeibaaGreatDoorCards
import Derived.Test.YtpbiilllhjeibaaGreatDoorNShbAC
import Derived.SizedLaws
import Derived.WalkKit
import Derived.ProofKit
import Derived.OpenShut
import Derived.ChangeMaps5
import Derived.LaidLaws
import Derived.LaidHandle
import Derived.Lay
import Derived.SevenTiedAt
set_option linter.unusedSimpArgs false
set_option linter.unusedVariables false
namespace Go.Proofs.YtpbiilllhjeibaaGreatDoor
open Go.Sha Go.RowKit
set_option maxRecDepth 100000
variable {g:List (Nat×Obj)}{n:Nat}
def othR (r:Nat):Bool:=decide (r<48)||decide (57<r)
def setV:List V:=(List.range 256).map fun n=>.bool (nmW.contains n.toUInt8)
def q302:List V→Option VRes
 |[.str s,.str [c]]=>some (.ret (.int .i64 (Lib.indexByte s c)))
 |_=>none
def q314:List V→Option VRes
 |[.str t]=>if t=nmW then some (.ret (.tup [.agg setV,.bool true])) else none
 |_=>none
def q340:List V→Option VRes
 |[.str s,.fn (.func 246) [] [],.bool true]=>some (.ret (.int .i64 (Lib.idxFunc othR true ⟨s.toArray⟩)))
 |_=>none
def HL0:EvF:=⟨[],fun f args st=>(bif Nat.beq f 302 then q302 args else bif Nat.beq f 314 then q314 args else bif Nat.beq f 340 then q340 args else none).map fun r=>(r,st)⟩
@[push_cast]theorem HL0_raw:HL0.raw=[]:=idq rfl
theorem k302 {s:List UInt8}{c:UInt8}{st:St}:run Tryz.prog HL0 302 [.str s,.str [c]] st=some (.ret (.int .i64 (Lib.indexByte s c)),st):=run_H rfl
theorem k314 {st:St}:run Tryz.prog HL0 314 [.str nmW] st=some (.ret (.tup [.agg setV,.bool true]),st):=run_H rfl
theorem k340 {s:List UInt8}{st:St}:run Tryz.prog HL0 340 [.str s,.fn (.func 246) [] [],.bool true] st=some (.ret (.int .i64 (Lib.idxFunc othR true ⟨s.toArray⟩)),st):=run_H rfl
theorem idx_tw {c:UInt8}:∀{s:List UInt8},Lib.indexByte s c=if s.contains c=true then((s.takeWhile (· != c)).length:Int) else -1
 |[]=>rfl
 |b::s=>by
  have ih:=idx_tw (c:=c) (s:=s)
  rw[Lib.indexByte,ih]
  by_cases h:b=c
  ·subst h;simp
  ·have h2:(b == c)=false:=by simpa using h
   have h3:(b != c)=true:=by simpa using h
   rw[h2,List.takeWhile_cons,if_pos h3,List.contains_cons,show(c == b)=false by simpa using fun e=>h e.symm,Bool.false_or,List.length_cons]
   cases s.contains c
   ·rfl
   ·simp only[if_true]
    rw[if_neg (by simp),if_neg (by simp)];omega
theorem drop_tw {p:UInt8→Bool}{s:List UInt8}:s.drop ((s.takeWhile p).length+1)=(s.dropWhile p).drop 1:=by rw[←List.drop_drop,drop_w]
theorem tw_none {c:UInt8}:∀{s:List UInt8},s.contains c=false→s.takeWhile (· != c)=s∧s.dropWhile (· != c)=[]
 |[],_=>⟨rfl,rfl⟩
 |b::r,h=>by
  have hb:(b != c)=true:=by simp at h ⊢;exact fun e=>h.1 e.symm
  have hr:r.contains c=false:=by simp at h ⊢;exact h.2
  have:=tw_none hr
  simp only[List.takeWhile_cons,List.dropWhile_cons,hb,if_true]
  exact⟨by rw[this.1],this.2⟩
theorem k244 {s:List UInt8}{c:UInt8}(hl:s.length<140737488355328){st:St}:run Tryz.prog HL0 244 [.str s,.str [c]] st=some (.ret (.tup [.str (s.takeWhile (· != c)),.str ((s.dropWhile (· != c)).drop 1),.bool (s.contains c)]),st):=by
 have hi:=idx_tw (c:=c) (s:=s)
 have hle:=(List.takeWhile_sublist (· != c) (l:=s)).length_le
 rw[run_shut F244 rfl rfl rfl]
 cases h:s.contains c with
 |true =>
  have hlt:(s.takeWhile (· != c)).length<s.length:=by
   rcases Nat.lt_or_ge (s.takeWhile (· != c)).length s.length with h2|h2
   ·exact h2
   ·have e:s.takeWhile (· != c)=s:=(List.takeWhile_sublist _).eq_of_length (by omega)
    have:=List.all_takeWhile (p:=(· != c)) (l:=s)
    rw[e,List.all_eq_true]at this
    have:=this c (by simpa using h)
    simp at this
  rw[h,if_pos rfl]at hi
  have hd:=drop_tw (p:=(· != c)) (s:=s)
  have ht:=take_w (p:=(· != c)) (s:=s)
  generalize s.takeWhile (· != c)=a at *
  have hw:IntKind.i64.wrap ((a.length:Int)+1)=((a.length+1:Nat):Int):=iwrap (by omega) (by omega)
  push_cast[k302,hi,hw,ht]
  exact dn_eq (by omega) (by rw[List.take_length,show((a.length:Int)+1).toNat=a.length+1 by omega,hd])
 |false =>
  rw[h,if_neg (by simp)]at hi
  obtain⟨e1,e2⟩:=tw_none h
  rw[e1,e2]
  push_cast[k302,hi]
theorem k163 {s:List UInt8}{c:UInt8}(hl:s.length<140737488355328){st:St}:run Tryz.prog HL0 163 [.str s,.str [c]] st=some (.ret (.tup [.str (s.takeWhile (· != c)),.str ((s.dropWhile (· != c)).drop 1),.bool (s.contains c)]),st):=by
 have h:=fun(st:St)=>k244 (c:=c) (st:=st) hl
 rw[run_shut F163 rfl rfl rfl]
 push_cast[h]
theorem k167 {s t:List UInt8}(hl:s.length<140737488355328)(ht:t.length≤s.length+1000){st:St}:run Tryz.prog HL0 167 [.str s,.str t] st=some (.ret (.bool (t.isSuffixOf s)),st):=by
 have h:∀st,run Tryz.prog HL0 247 [.str s,.str t] st=some (.ret (.bool (t.isSuffixOf s)),st):=fun st=>by
  rw[run_shut F247 rfl rfl rfl]
  by_cases h:t.length≤s.length
  ·have h1:(t.length:Int)≤s.length:=by omega
   have hw:IntKind.i64.wrap ((s.length:Int)-t.length)=((s.length-t.length:Nat):Int):=by rw[iwrap (by omega) (by omega)];omega
   have e:t.isSuffixOf s=(s.drop (s.length-t.length) == t):=by
    rw[Bool.eq_iff_iff,List.isSuffixOf_iff_suffix,List.suffix_iff_eq_drop,beq_iff_eq]
    exact⟨fun h=>h.symm,fun h=>h.symm⟩
   have h2:((s.length-t.length:Nat):Int)≤s.length:=by omega
   generalize s.length-t.length=k at *
   push_cast[h1,hw,h2,List.take_length,e]
  ·have h1:¬(t.length:Int)≤s.length:=by omega
   have e:t.isSuffixOf s=false:=by
    rw[←Bool.not_eq_true,List.isSuffixOf_iff_suffix]
    exact fun h2=>h h2.length_le
   push_cast[h1,e]
 rw[run_shut F167 rfl rfl rfl]
 push_cast[h]
theorem oth_from (s:ByteArray):∀(f pos:Nat),s.size≤pos+f→(decide (Lib.idxFuncFrom othR true s f pos<0))=(s.data.toList.drop pos).all isD
 |0,pos,h=>by
  rw[List.drop_eq_nil_of_le (by rw[Array.length_toList];exact h)];rfl
 |f+1,pos,h=>by
  unfold Lib.idxFuncFrom
  by_cases hp:pos<s.size
  ·have hp':pos<s.data.toList.length:=by rw[Array.length_toList];exact hp
   have hb:s.data.toList[pos]'hp'=s[pos]'hp:=rfl
   rw[if_pos hp,List.drop_eq_getElem_cons hp',List.all_cons,hb]
   by_cases ha:(s[pos]'hp).toNat<128
   ·rw[decode_ascii s pos hp ha]
    have ih:=oth_from s f (pos+1) (by omega)
    cases hd:isD (s[pos]'hp) with
    |true =>
     have:¬othR (s[pos]'hp).toNat=true:=by
      simp only[isD,Bool.and_eq_true,decide_eq_true_eq]at hd
      simp only[othR,Bool.or_eq_true,decide_eq_true_eq];omega
     rw[if_neg this,ih];rfl
    |false =>
     have:othR (s[pos]'hp).toNat=true:=by
      simp only[isD,Bool.and_eq_false_iff,decide_eq_false_iff_not]at hd
      simp only[othR,Bool.or_eq_true,decide_eq_true_eq];omega
     rw[if_pos this]
     simp
   ·obtain⟨h1,h2⟩:=decode_high s pos hp (by omega)
    have:othR (Utf8.decode s pos).1=true:=by
     simp only[othR,Bool.or_eq_true,decide_eq_true_eq];omega
    have hd:isD (s[pos]'hp)=false:=by
     simp only[isD,Bool.and_eq_false_iff,decide_eq_false_iff_not];omega
    rw[if_pos this,hd]
    simp
  ·rw[if_neg hp,List.drop_eq_nil_of_le (by rw[Array.length_toList];exact Nat.le_of_not_lt hp)];rfl
theorem oth_idx (s:List UInt8):decide (Lib.idxFunc othR true ⟨s.toArray⟩<0)=s.all isD:=by
 have:=oth_from ⟨s.toArray⟩ s.length 0 (by simp[ByteArray.size])
 simpa [Lib.idxFunc,ByteArray.size] using this
theorem k245 {s:List UInt8}{st:St}:run Tryz.prog HL0 245 [.str s,.fn (.func 246) [] []] st=some (.ret (.bool (s.any (!isD ·))),st):=by
 have h:∀st,run Tryz.prog HL0 303 [.str s,.fn (.func 246) [] []] st=some (.ret (.int .i64 (Lib.idxFunc othR true ⟨s.toArray⟩)),st):=fun st=>by
  rw[run_shut F303 rfl rfl rfl]
  push_cast[k340]
 have e:decide (0≤Lib.idxFunc othR true ⟨s.toArray⟩)=s.any (!isD ·):=by
  have:=oth_idx s
  have h2:decide (0≤Lib.idxFunc othR true ⟨s.toArray⟩)=!(decide (Lib.idxFunc othR true ⟨s.toArray⟩<0)):=by
   rw[Bool.eq_iff_iff];simp
  rw[h2,this,List.not_all_eq_any_not]
 rw[run_shut F245 rfl rfl rfl]
 push_cast[h,e]
theorem setV_len:setV.length=256:=by simp[setV]
theorem setV_bd:V.bdL n setV=true:=by
 have:=bdL_map' (n:=n) (f:=fun k:Nat=>V.bool (nmW.contains k.toUInt8)) (l:=List.range 256)
 rw[setV,this];simp[V.bd]
theorem setV_get (b:UInt8):setV[b.toNat]?=some (.bool (nmW.contains b)):=by
 rw[setV,List.getElem?_map,List.getElem?_range b.toNat_lt];simp
theorem k346 {b:UInt8}{st:St}:run Tryz.prog HL0 346 [.ep (.agg setV) 0,.int .u8 b.toNat] st=some (.ret (.bool (nmW.contains b)),st):=by
 have hb:=b.toNat_lt
 have hg:=setV_get b
 have hl:=setV_len
 have hd:=fun n=>setV_bd (n:=n)
 rw[run_shut F346 rfl rfl (by simp[V.bdL,V.bd,hd])]
 generalize nmW.contains b=c at *
 generalize setV=z at *
 push_cast[hb,hg,hl,hd,Nat.mul_one]
 all_goals exact dn_eq hb rfl
theorem L315:∀{t:List UInt8},t.length<140737488355328→runL Tryz.prog HL0 [0,1] n B315_0 [(0,.str t),(1,.ep (.agg setV) 0)] (stN g n)=some (.exit 0,[(0,.str (t.dropWhile nmW.contains))],stN g n)
 |[],_=>by
  have hd:=fun n=>setV_bd (n:=n)
  rw[runL_of B315_0.eq_1]
  generalize setV=z at *
  push_cast[List.length_nil,List.dropWhile_nil,hd]
 |b::t,hl=>by
  rw[List.length_cons]at hl
  have ih:=L315 (t:=t) (by omega)
  have hd:=fun n=>setV_bd (n:=n)
  have h270:=fun st=>k346 (b:=b) (st:=st)
  rw[runL_of B315_0.eq_1,List.dropWhile_cons]
  generalize nmW.contains b=c at *
  generalize setV=z at *
  have h1:(0:Int)<t.length+1:=by omega
  cases c
  ·push_cast[List.length_cons,hd,h1,h270,List.getD_cons_zero]
  ·push_cast[List.length_cons,hd,h1,h270,List.getD_cons_zero,List.take_length,List.drop_one,List.tail_cons]at ih ⊢
   exact dn_eq (by omega) ih
theorem f315 {t:List UInt8}(hl:t.length<140737488355328){st:St}:run Tryz.prog HL0 315 [.str t,.ep (.agg setV) 0] st=some (.ret (.str (t.dropWhile nmW.contains)),st):=by
 have hd:=fun n=>setV_bd (n:=n)
 have h0:=fun n=>L315 (g:=st.x.gl) (n:=n) hl
 rw[run_shut F315 rfl rfl (by simp[V.bdL,V.bd,hd])]
 generalize setV=z at *
 push_cast at h0
 push_cast[hd,h0]
theorem L316:∀(k:Nat) {t:List UInt8},t.length=k→t.length<140737488355328→runL Tryz.prog HL0 [0,1] n B316_0 [(0,.str t),(1,.ep (.agg setV) 0)] (stN g n)=some (.exit 0,[(0,.str (t.reverse.dropWhile nmW.contains).reverse)],stN g n):=by
 intro k
 induction k with
 |zero =>
  intro t ht hl
  obtain rfl:=List.eq_nil_of_length_eq_zero ht
  have hd:=fun n=>setV_bd (n:=n)
  rw[runL_of B316_0.eq_1]
  generalize setV=z at *
  push_cast[List.length_nil,List.dropWhile_nil,List.reverse_nil,hd]
 |succ k ih =>
  intro t ht hl
  rcases List.eq_nil_or_concat t with rfl|⟨t',b,rfl⟩
  ·simp at ht
  ·rw[List.concat_eq_append]at *
   rw[List.length_append,List.length_singleton]at ht hl
   have ih:=ih (t:=t') (by omega) (by omega)
   have hd:=fun n=>setV_bd (n:=n)
   have h270:=fun st=>k346 (b:=b) (st:=st)
   have hw:IntKind.i64.wrap ((t'.length:Int)+1-1)=((t'.length:Nat):Int):=by rw[iwrap (by omega) (by omega)];omega
   have h1:(0:Int)<t'.length+1:=by omega
   have h2:(t'.length:Int)<t'.length+1:=by omega
   have h3:(t'.length:Int)≤t'.length+1:=by omega
   have h4:List.take t'.length (t'++[b])=t':=List.take_left
   rw[runL_of B316_0.eq_1,List.reverse_append,List.reverse_singleton,List.singleton_append,List.dropWhile_cons]
   generalize nmW.contains b=c at *
   generalize setV=z at *
   cases c
   ·push_cast[List.length_append,List.length_singleton,hd,h1,h2,h3,hw,h270,getD_app,List.reverse_cons,List.reverse_reverse]
   ·push_cast[List.length_append,List.length_singleton,hd,h1,h2,h3,h4,hw,h270,getD_app]at ih ⊢
    exact ih
theorem f316 {t:List UInt8}(hl:t.length<140737488355328){st:St}:run Tryz.prog HL0 316 [.str t,.ep (.agg setV) 0] st=some (.ret (.str (t.reverse.dropWhile nmW.contains).reverse),st):=by
 have hd:=fun n=>setV_bd (n:=n)
 have h0:=fun n=>L316 (g:=st.x.gl) (n:=n) _ rfl hl
 rw[run_shut F316 rfl rfl (by simp[V.bdL,V.bd,hd])]
 generalize setV=z at *
 push_cast at h0
 push_cast[hd,h0]
theorem trim_swap {p:UInt8→Bool}:∀{s:List UInt8},((s.reverse.dropWhile p).reverse).dropWhile p=((s.dropWhile p).reverse.dropWhile p).reverse
 |[]=>rfl
 |b::r=>by
  have ih:=trim_swap (p:=p) (s:=r)
  cases hb:p b with
  |true =>
   have e1:(b::r).dropWhile p=r.dropWhile p:=by simp[hb]
   rw[e1,←ih,List.reverse_cons,List.dropWhile_append]
   cases hx:r.reverse.dropWhile p with
   |nil=>simp[hb]
   |cons y l=>simp[hb,List.dropWhile_cons]
  |false =>
   have e1:(b::r).dropWhile p=b::r:=by simp[hb]
   rw[e1,List.reverse_cons,List.dropWhile_append]
   cases hx:r.reverse.dropWhile p with
   |nil=>simp[hb]
   |cons y l=>simp[hb,List.dropWhile_cons]
theorem k274 {s:List UInt8}(hl:s.length≤24){st:St}:run Tryz.prog HL0 274 [.str s,.str nmW] st=some (.ret (.str (trimB nmW s)),st):=by
 have hd:=fun n=>setV_bd (n:=n)
 have hz:=setV_len
 have h249:=fun st=>k314 (st:=st)
 have h251:=fun st=>f316 (t:=s) (st:=st) (by omega)
 have hle:=(List.dropWhile_sublist nmW.contains (l:=s.reverse)).length_le
 have h250:=fun st=>f315 (t:=(s.reverse.dropWhile nmW.contains).reverse) (st:=st) (by simp at hle ⊢;omega)
 rw[trim_swap]at h250
 rw[run_shut F274 rfl rfl rfl,trimB]
 generalize setV=z at *
 by_cases h0:s=[]
 ·subst h0
  push_cast[List.dropWhile_nil,List.reverse_nil]
 ·push_cast[h0,h249,h250,h251,hd,hz,List.length_replicate,List.drop_replicate,Nat.sub_self,List.replicate_zero,List.append_nil]
theorem callable302:Callable Tryz.prog 302:=⟨_,Tryz.func302,by kernel_rfl,by kernel_rfl⟩
theorem callable314:Callable Tryz.prog 314:=⟨_,Tryz.func314,by kernel_rfl,by kernel_rfl⟩
theorem callable340:Callable Tryz.prog 340:=⟨_,Tryz.func340,by kernel_rfl,by kernel_rfl⟩
theorem callable376:Callable Tryz.prog 376:=⟨_,Tryz.func376,by kernel_rfl,by kernel_rfl⟩
theorem v302 (s:List UInt8)(c:UInt8)(st:St):VRet Tryz.prog 302 [.str s,.str [c]] st (.int .i64 (Lib.indexByte s c)) st:=by
 refine VRet_of_below callable302 (fun w A vs hw ha=>?_)
 obtain⟨hl,ha⟩:=ha
 match vs,hl with
 |[u,v],_ =>
 have e1:=(ha 0 u _ rfl rfl).str_inv
 have e2:=(ha 1 v _ rfl rfl).str_inv
 subst e1;subst e2
 refine(Tryz.stringslite_Index_one ⟨s.toArray⟩ c w).mono fun e w' ⟨he,hb⟩=>?_
 subst he;subst hb
 exact⟨_,rfl,fun w' A'=>.int _ _,Below.refl _ _⟩
theorem nm_ascii:∀b∈nmW,b.toNat<128:=by decide
theorem v314 (st:St):VRet Tryz.prog 314 [.str nmW] st (.tup [.agg setV,.bool true]) st:=by
 refine VRet_of_below callable314 (fun w A vs hw ha=>?_)
 obtain⟨u,rfl,h1⟩:=ha.one
 have e1:=h1.str_inv
 subst e1
 refine(Tryz.strings_makeASCIISet Tryz.zeroValue351 ⟨nmW.toArray⟩ w (by decide) (fun j b hj=>nm_ascii b (List.mem_of_getElem? hj))).mono fun e w' ⟨he,hb⟩=>?_
 subst he;subst hb
 refine⟨_,rfl,fun w' A'=>?_,Below.alloc (Below.refl _ _) (Nat.le_refl _) _⟩
 have hcell:∀(i:Nat) (v:Value) (c:V),(Lib.setCells nmW).toList[i]?=some v→setV[i]?=some c→Rep w' A' v c∧v.oneCell'=true:=fun i v c hv hc=>by
  have hi:i<256:=by have:=(List.getElem?_eq_some_iff.1 hc).1;rw[setV_len]at this;exact this
  have e2:i.toUInt8.toNat=i:=by simp[Nat.toUInt8,UInt8.toNat_ofNat',Nat.mod_eq_of_lt hi]
  have g1:=Lib.setCells_at nmW i.toUInt8
  have g2:=setV_get i.toUInt8
  rw[e2]at g1 g2
  rw[Array.getElem?_toList,g1]at hv
  rw[g2]at hc
  cases hv;cases hc
  exact⟨.bool _,rfl⟩
 refine .tup [.agg (Lib.setCells nmW),.bool true] [.agg setV,.bool true] rfl (fun i v c h1 h2=>?_)
 match i,h1,h2 with
 |0,h1,h2 =>
  simp at h1 h2;subst h1 h2
  have:=Rep.agg (w:=w') (A:=A') (Lib.setCells nmW).toList setV (by rw[Array.length_toList,Lib.setCells_size,setV_len]) (fun v hv=>by
   obtain⟨i,hi⟩:=List.mem_iff_getElem?.1 hv
   have hlt:i<setV.length:=by rw[setV_len];have:=(List.getElem?_eq_some_iff.1 hi).1;rw[Array.length_toList,Lib.setCells_size]at this;exact this
   exact(hcell i v setV[i] hi (List.getElem?_eq_getElem hlt)).2) (fun i v c hv hc=>(hcell i v c hv hc).1)
  rwa [Array.toArray_toList]at this
 |1,h1,h2=>simp at h1 h2;subst h1 h2;exact .bool _
theorem pred280 (w:World):PredAt Tryz.prog 246 #[] encR othR w:=fun W r _=>by
 unfold FnGives
 by_cases h1:r<48<;>by_cases h2:57<r
 all_goals
  have z1:(r:Int)<48↔r<48:=by omega
  have z2:(57:Int)<(r:Int)↔57<r:=by omega
  go_enter Tryz.func246,Tryz.ntmps246
  go_wp2
  all_goals first|(exfalso;omega)|(go_ret;exact⟨by simp[othR,h1,h2],0,rfl⟩)
theorem v340 (s:List UInt8)(st:St):VRet Tryz.prog 340 [.str s,.fn (.func 246) [] [],.bool true] st (.int .i64 (Lib.idxFunc othR true ⟨s.toArray⟩)) st:=by
 refine VRet_of_below callable340 (fun w A vs hw ha=>?_)
 obtain⟨hl,ha⟩:=ha
 match vs,hl with
 |[v0,v1,v2],_ =>
 have e0:=(ha 0 v0 _ rfl rfl).str_inv
 have r1:=ha 1 v1 _ rfl rfl
 have e2:=(ha 2 v2 _ rfl rfl).bool_inv
 have e1:v1=.func (.func 246) #[] #[]:=by
  cases r1 with
  |fn _ vs us _ _ e1 e2 _ _ =>
   have h1:vs=[]:=List.eq_nil_of_length_eq_zero e1
   have h2:us=[]:=List.eq_nil_of_length_eq_zero e2
   rw[h1,h2]
 subst e0;subst e1;subst e2
 refine(Tryz.strings_indexFunc 246 #[] (enters_of Tryz.func246 (by kernel_rfl) rfl) othR true ⟨s.toArray⟩ w (pred280 w)).mono fun e w' ⟨he,hb⟩=>?_
 subst he
 exact⟨_,rfl,fun w' A'=>.int _ _,hb⟩
theorem HL0_ok:ESound Tryz.prog HL0:=fun f args st r s h=>by
 obtain⟨z,hz,e⟩:=Option.map_eq_some_iff.1 h
 cases e
 by_cases h1:f=302
 ·subst h1
  rw[show Nat.beq 302 302=true from rfl,cond_true]at hz
  unfold q302 at hz
  split at hz<;>cases hz
  exact v302 _ _ _
 rw[show Nat.beq f 302=false from Bool.eq_false_iff.2 fun e=>h1 (Nat.eq_of_beq_eq_true e),cond_false]at hz
 by_cases h2:f=314
 ·subst h2
  rw[show Nat.beq 314 314=true from rfl,cond_true]at hz
  unfold q314 at hz
  split at hz
  ·split at hz
   ·rename_i e;subst e;cases hz;exact v314 _
   ·cases hz
  ·cases hz
 rw[show Nat.beq f 314=false from Bool.eq_false_iff.2 fun e=>h2 (Nat.eq_of_beq_eq_true e),cond_false]at hz
 by_cases h3:f=340
 ·subst h3
  rw[show Nat.beq 340 340=true from rfl,cond_true]at hz
  unfold q340 at hz
  split at hz<;>cases hz
  exact v340 _ _
 rw[show Nat.beq f 340=false from Bool.eq_false_iff.2 fun e=>h3 (Nat.eq_of_beq_eq_true e),cond_false]at hz
 cases hz
end Go.Proofs.YtpbiilllhjeibaaGreatDoor

namespace Go.Proofs.YtpbiilllhjeibaaGreatDoor
open Go.Sha Go.RowKit
set_option maxRecDepth 100000
theorem parse_digs:∀(s:List UInt8) (acc:Nat),s.all isD=true→acc<18446744073709551616→Lib.parseUint10 acc s=if s.foldl (fun n b=>10*n+(b.toNat-48)) acc<18446744073709551616 then .ok (s.foldl (fun n b=>10*n+(b.toNat-48)) acc) else .range
 |[],acc,_,h=>by simp[Lib.parseUint10,h]
 |b::s,acc,h,ha=>by
  have mono:∀(s:List UInt8) (n:Nat),n≤s.foldl (fun n b=>10*n+(b.toNat-48)) n:=by
   intro s
   induction s with
   |nil=>intro n;exact Nat.le_refl _
   |cons c s ih=>intro n;rw[List.foldl_cons];refine Nat.le_trans ?_ (ih _);omega
  simp only[List.all_cons,Bool.and_eq_true]at h
  obtain⟨hb,hs⟩:=h
  have hb':48≤b.toNat∧b.toNat≤57:=by
   simp only[isD,Bool.and_eq_true,decide_eq_true_eq]at hb;omega
  rw[Lib.parseUint10,if_pos hb',List.foldl_cons]
  have hm:=mono s (10*acc+(b.toNat-48))
  by_cases h1:1844674407370955162≤acc
  ·rw[if_pos h1,if_neg (by omega)]
  ·rw[if_neg h1]
   by_cases h2:18446744073709551616≤acc*10+(b.toNat-48)
   ·rw[if_pos h2,if_neg (by omega)]
   ·rw[if_neg h2,parse_digs s _ hs (by omega),Nat.mul_comm]
theorem atoi_digs {s:List UInt8}(h0:s≠[])(h:s.all isD=true):Lib.atoiAll s=if natOf s<9223372036854775808 then .ok (natOf s:Int) else .range:=by
 cases s with
 |nil=>exact absurd rfl h0
 |cons b s =>
  have hb:isD b=true:=by simp only[List.all_cons,Bool.and_eq_true]at h;exact h.1
  have hb':48≤b.toNat∧b.toNat≤57:=by
   simp only[isD,Bool.and_eq_true,decide_eq_true_eq]at hb;omega
  rw[Lib.atoiAll_plain b s (by omega) (by omega),Lib.parseMag,if_neg (by simp),parse_digs (b::s) 0 h (by omega)]
  show Lib.signless (if natOf (b::s)<18446744073709551616 then .ok (natOf (b::s)) else .range)=_
  by_cases h1:natOf (b::s)<18446744073709551616
  ·rw[if_pos h1]
   unfold Lib.signless
   by_cases h2:natOf (b::s)<9223372036854775808
   ·rw[if_pos h2];simp only;rw[if_neg (by omega)]
   ·rw[if_neg h2];simp only;rw[if_pos (by omega)]
  ·rw[if_neg h1,if_neg (by omega)];rfl
theorem natOf_lt:∀{s:List UInt8}{n:Nat},s.all isD=true→s.foldl (fun n b=>10*n+(b.toNat-48)) n<(n+1)*10 ^ s.length
 |[],n,_=>by simp
 |b::s,n,h=>by
  simp only[List.all_cons,Bool.and_eq_true]at h
  have hb:b.toNat≤57:=by have:=h.1;simp only[isD,Bool.and_eq_true,decide_eq_true_eq]at this;omega
  have ih:=natOf_lt (s:=s) (n:=10*n+(b.toNat-48)) h.2
  rw[List.foldl_cons,List.length_cons,Nat.pow_succ]
  refine Nat.lt_of_lt_of_le ih ?_
  rw[show(n+1)*(10 ^ s.length*10)=((n+1)*10)*10 ^ s.length by rw[Nat.mul_comm (10 ^ s.length),Nat.mul_assoc]]
  exact Nat.mul_le_mul_right _ (by omega)
theorem v376 (s:List UInt8)(st:St)(h0:s≠[])(h:s.all isD=true)(hl:s.length≤18):VRet Tryz.prog 376 [.str s] st (.tup [.int .i64 (natOf s),.nili]) st:=by
 have hn:natOf s<9223372036854775808:=by
  have h1:=natOf_lt (n:=0) h
  have h2:10 ^ s.length≤10 ^ 18:=Nat.pow_le_pow_right (by omega) hl
  unfold natOf;omega
 refine VRet_of_below callable376 (fun w A vs hw ha=>?_)
 obtain⟨u,rfl,h1⟩:=ha.one
 have e1:=h1.str_inv
 subst e1
 have hat:=atoi_digs h0 h
 rw[if_pos hn]at hat
 refine(Tryz.strconv_Atoi_ok ⟨s.toArray⟩ (by simp[ByteArray.size];omega) (natOf s:Int) (by simpa using hat) w).mono fun e w' ⟨he,hb⟩=>?_
 subst he
 refine⟨_,rfl,fun w' A'=>?_,?_⟩
 ·refine .tup [.int .i64 (natOf s),.nilIface] [.int .i64 (natOf s),.nili] rfl (fun i v c h1 h2=>?_)
  match i,h1,h2 with
  |0,h1,h2=>simp at h1 h2;subst h1 h2;exact .int _ _
  |1,h1,h2=>simp at h1 h2;subst h1 h2;exact .nili
 ·rcases hb with rfl|⟨t,rfl⟩
  ·exact Below.refl _ _
  ·exact Lib.bytesWorld_below w 5 t
end Go.Proofs.YtpbiilllhjeibaaGreatDoor

namespace Go.Proofs.YtpbiilllhjeibaaGreatDoor
open Go.Sha
set_option maxRecDepth 100000
theorem mixed:Tryz.prog.follows .mixedOrders=true:=by kernel_rfl
theorem HH_ok:ESound Tryz.prog HH:=fun f args st r s h=>by
 simp only[HH]at h
 cases hm:memL f [67,174,175] with
 |true =>
  rw[hm,cond_true]at h
  simp only[hSl]at h
  by_cases h1:f=174
  ·subst h1
   exact cln_ok (e:=34) (es:=2) (b:=32) (by kernel_rfl) h
  rw[show Nat.beq f 174=false from Bool.eq_false_iff.2 fun e=>h1 (Nat.eq_of_beq_eq_true e),cond_false]at h
  by_cases h1:f=175
  ·subst h1
   exact ins_ok slP bearsI ovP rfl (by decide) h
  rw[show Nat.beq f 175=false from Bool.eq_false_iff.2 fun e=>h1 (Nat.eq_of_beq_eq_true e),cond_false]at h
  by_cases h1:f=67
  ·subst h1
   exact cln_ok (e:=31) (es:=9) (b:=208) (by kernel_rfl) h
  rw[show Nat.beq f 67=false from Bool.eq_false_iff.2 fun e=>h1 (Nat.eq_of_beq_eq_true e),cond_false]at h
  cases h
 |false =>
 rw[hm,cond_false]at h
 obtain⟨z,hz,e⟩:=Option.map_eq_some_iff.1 h
 cases e
 by_cases h1:f=163
 ·subst h1
  rw[show Nat.beq 163 163=true from rfl,cond_true]at hz
  unfold hCut at hz
  split at hz
  ·split at hz
   ·rename_i hl;cases hz;exact run_sound mixed HL0_ok _ _ _ _ _ (k163 hl)
   ·cases hz
  ·cases hz
 rw[show Nat.beq f 163=false from Bool.eq_false_iff.2 fun e=>h1 (Nat.eq_of_beq_eq_true e),cond_false]at hz
 by_cases h1:f=167
 ·subst h1
  rw[show Nat.beq 167 167=true from rfl,cond_true]at hz
  unfold hSuf at hz
  split at hz
  ·split at hz
   ·rename_i hl;cases hz;exact run_sound mixed HL0_ok _ _ _ _ _ (k167 hl.1 hl.2)
   ·cases hz
  ·cases hz
 rw[show Nat.beq f 167=false from Bool.eq_false_iff.2 fun e=>h1 (Nat.eq_of_beq_eq_true e),cond_false]at hz
 by_cases h1:f=245
 ·subst h1
  rw[show Nat.beq 245 245=true from rfl,cond_true]at hz
  unfold hAny at hz
  split at hz
  ·cases hz;exact run_sound mixed HL0_ok _ _ _ _ _ k245
  ·cases hz
 rw[show Nat.beq f 245=false from Bool.eq_false_iff.2 fun e=>h1 (Nat.eq_of_beq_eq_true e),cond_false]at hz
 by_cases h1:f=376
 ·subst h1
  rw[show Nat.beq 376 376=true from rfl,cond_true]at hz
  unfold hAtoi at hz
  split at hz
  ·split at hz
   ·rename_i hl;cases hz;exact v376 _ _ hl.1 hl.2.1 hl.2.2
   ·cases hz
  ·cases hz
 rw[show Nat.beq f 376=false from Bool.eq_false_iff.2 fun e=>h1 (Nat.eq_of_beq_eq_true e),cond_false]at hz
 by_cases h1:f=274
 ·subst h1
  rw[show Nat.beq 274 274=true from rfl,cond_true]at hz
  unfold hTrim at hz
  split at hz
  ·split at hz
   ·rename_i hl;obtain⟨e1,e2⟩:=hl;subst e1;cases hz;exact run_sound mixed HL0_ok _ _ _ _ _ (k274 e2)
   ·cases hz
  ·cases hz
 rw[show Nat.beq f 274=false from Bool.eq_false_iff.2 fun e=>h1 (Nat.eq_of_beq_eq_true e),cond_false]at hz
 cases hz
end Go.Proofs.YtpbiilllhjeibaaGreatDoor

namespace Go.Proofs.YtpbiilllhjeibaaGreatDoor
open Go.ChangeShapes Go.WideShapes Go.ChangeAt Go.RowKit Go.Sha
theorem sound:ESound Tryz.prog HH:=HH_ok
theorem law {s:Sho}{x:Pal}{p:Prm}(h:s.Dk)(hx:x.Dk){st:St}:run Tryz.prog HH 3 [s.v,x.v,p.v] st=some (.ret (.bool true),st):=l3 h.ok (by have:=hx.hues.1;omega)
theorem sk1:(laidOutB Tryz.prog)=true:=by kernel_rfl
theorem sk2:(mapsRowed Tryz.prog)=true:=by kernel_rfl
theorem sk6:(Tryz.prog.stops == [])=true:=by kernel_rfl
theorem sk8:(Tryz.prog.stopKnobs == [])=true:=by kernel_rfl
theorem sk22:(Rows.topEditsTellLevelsRow.plainKeys == Tryz.prog.plainKeys)=true:=by kernel_rfl
theorem sk24:(Tryz.prog.stopsHeard)=true:=by kernel_rfl
theorem sk25:(Tryz.prog.mayEnter)=true:=by kernel_rfl
theorem sk26:(Rows.topEditsTellLevelsRow.lifted == Tryz.prog.liftsFinal)=true:=by kernel_rfl
theorem sk27:(Tryz.prog.make == some Rows.topEditsTellLevelsRow.make)=true:=by kernel_rfl
theorem sk15:(Rows.topEditsTellLevelsRow.mapsOut == Tryz.prog.mapsAmong Tryz.f3.resultTypes.toList)=true:=by kernel_rfl
theorem sown:ownKnob Tryz.prog.godebug=none:=by kernel_rfl
theorem smain:Tryz.prog.mainIs=some (Rows.topEditsTellLevelsCard.stood.harness.1,Rows.topEditsTellLevelsCard.stood.harness.2.toList):=by kernel_rfl
theorem slooks:Rows.topEditsTellLevelsCard.stood.looks=Tryz.prog.looks []:=by kernel_rfl
end Go.Proofs.YtpbiilllhjeibaaGreatDoor

