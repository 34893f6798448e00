/- The contracts of this seat's table hold. The contracts with the examples' show hold. From what a card lists of the package's variables to what the walks ask of them. The compiled code of functions of  .. -/
import Derived.Test.YtanojbajfgcjeaaGreatDoorG2
import Derived.Lib.AppendIntMem
import Derived.Test.YtanojbajfgcjeaaGreatDoorGShbXH
import Derived.Test.YtanojbajfgcjeaaGreatDoorRows
import Derived.Test.YtanojbajfgcjeaaGreatDoorGShbAE
import Derived.Test.YtanojbajfgcjeaaGreatDoorGShbYB
import Derived.Test.YtanojbajfgcjeaaGreatDoorProg
import Derived.KernelRfl
import Derived.Lib.ItoaLen
import Derived.Lib.CountLaws
import Derived.Lib.IndexLaws
import Derived.Test.YtanojbajfgcjeaaGreatDoorGShbXI
import Derived.Test.YtanojbajfgcjeaaGreatDoorGShbAC
import Derived.Test.YtanojbajfgcjeaaGreatDoorG1
import Derived.Test.YtanojbajfgcjeaaGreatDoorCards
import Derived.SizedLaws
import Derived.WalkKit
import Derived.ProofKit
import Derived.OpenShut
import Derived.ChangeMaps5
import Derived.LaidLaws
import Derived.LaidHandle
import Derived.Lay
import Derived.SevenTiedAt
set_option linter.unusedSimpArgs false
set_option linter.unusedVariables false
namespace Go.Proofs.YtanojbajfgcjeaaGreatDoor
open Go.Sha Go.RowKit
open Go.Lib (below_grow)
set_option maxRecDepth 100000
variable {g:List (Nat×Obj)} {n:Nat}
theorem intsB_eq {k:IntKind}:∀{zs:List Int} {vs:List Value},intsB k zs vs=true→vs=zs.map fun z=>Value.int k z
 |[],[],_=>rfl
 |[],_::_,h=>by cases h
 |z::zs,v::vs,h=>by
  unfold intsB at h
  split at h
  ·rename_i h1 h2;cases h1
  ·rename_i z' zs' j n' r h1 h2
   cases h1;cases h2
   simp only [Bool.and_eq_true,decide_eq_true_eq] at h
   obtain ⟨⟨h3,h4⟩,h5⟩:=h
   subst h3;subst h4
   rw [intsB_eq h5];rfl
  ·cases h
 |z::zs,[],h=>by unfold intsB at h;cases h
theorem tab_at {gl:List (Nat×Obj)} {v:Nat} {k:IntKind} {zs:List Int} (h:gl.any (tabB v k zs)=true):∃T fz,(v,Obj.cells (zs.map fun z=>Value.int k z).toArray T fz)∈gl:=by
 obtain ⟨p,hp,hh⟩:=List.any_eq_true.1 h
 obtain ⟨i,o⟩:=p
 simp only [tabB,Bool.and_eq_true,decide_eq_true_eq] at hh
 obtain ⟨hi,hh⟩:=hh
 subst hi
 split at hh
 ·rename_i cs T fz
  have:=intsB_eq hh
  refine ⟨T,fz,?_⟩
  rw [←this]
  exact hp
 ·cases hh
theorem tab_is {w:World} {A:Abs} {st:St} (hw:Sim w A st) {v:Nat} {name:String} {k:IntKind} {zs:List Int} (hn:Tryz.prog.globalNamed name=some v) (h:st.x.gl.any (tabB v k zs)=true):Lib.TabIs Tryz.prog w name k zs:=by
 obtain ⟨T,fz,hm⟩:=tab_at h
 have:=(hw.x.gl _ hm).1
 simp only [Lib.TabIs,World.var?,hn,Option.bind_some,this]
theorem callable26:Callable Tryz.prog 26:=⟨_,Tryz.func26,by kernel_rfl,by kernel_rfl⟩
theorem v26 {n:Int} (h0:-9223372036854775808≤n) (h1:n≤9223372036854775807) {st:St} (hG:glB st.x.gl=true):VRet Tryz.prog 26 [.int .i64 n] st (.str (Lib.itoa n)) st:=by
 simp only [glB,Bool.and_eq_true] at hG
 refine VRet_of_below callable26 (fun w A vs hw ha=>?_)
 obtain ⟨u,rfl,h2⟩:=ha.one
 have e1:=h2.int_inv
 subst e1
 refine (Tryz.strconv_Itoa n h0 h1 w (tab_is hw (by kernel_rfl) hG.1)).mono fun e w' ⟨he,k,os,hw'⟩=>?_
 subst he
 exact ⟨_,rfl,fun _ _=>.str _,by rw [hw'];exact below_grow _ w (Nat.le_refl _) k os⟩
theorem callable19:Callable Tryz.prog 19:=⟨_,Tryz.func19,by kernel_rfl,by kernel_rfl⟩
theorem v19 {s:List UInt8} {n:Int} (h0:0≤n) (hn:n≤1000000) (h1:s.length*n.toNat≤1000000) {st:St}:VRet Tryz.prog 19 [.str s,.int .i64 n] st (.str (Lib.repeatL s n.toNat)) st:=by
 refine VRet_of_below callable19 (fun w A vs hw ha=>?_)
 obtain ⟨hl,ha⟩:=ha
 match vs,hl with
 |[u,v],_ =>
 have e1:=(ha 0 u _ rfl rfl).str_inv
 have e2:=(ha 1 v _ rfl rfl).int_inv
 subst e1;subst e2
 obtain ⟨m,rfl⟩:∃m:Nat,n=m:=⟨n.toNat,by omega⟩
 rw [Int.toNat_natCast] at h1 ⊢
 refine (Tryz.strings_Repeat ⟨s.toArray⟩ m w (by omega) (by simp [ByteArray.size];omega)).mono fun e w' ⟨he,hb⟩=>?_
 subst he
 exact ⟨_,rfl,fun _ _=>.str _,hb⟩
theorem callable64:Callable Tryz.prog 64:=⟨_,Tryz.func64,by kernel_rfl,by kernel_rfl⟩
theorem strsV_map:∀{l:List V} {ss:List (List UInt8)},strsV l=some ss→l=ss.map .str
 |[],ss,h=>by cases h;rfl
 |v::r,ss,h=>by
  unfold strsV at h
  split at h
  ·rename_i h1;cases h1
  ·rename_i s r' h1
   cases h1
   obtain ⟨x,hx,rfl⟩:=Option.map_eq_some_iff.1 h
   rw [strsV_map hx];rfl
  ·cases h
theorem v64 {ss:List (List UInt8)} {t:List UInt8} (hn:ss.length≤1000000) (hl:(Lib.join ss t).length≤100000000000) {st:St}:VRet Tryz.prog 64 [.sl (ss.map .str),.str t] st (.str (Lib.join ss t)) st:=by
 refine VRet_of_below callable64 (fun w A vs hw ha=>?_)
 obtain ⟨hlen,ha⟩:=ha
 match vs,hlen with
 |[u,v],_ =>
 have h1:=ha 0 u _ rfl rfl
 have e2:=(ha 1 v _ rfl rfl).str_inv
 subst e2
 have hbytes:(ss.map fun l=>(⟨l.toArray⟩:ByteArray)).map (·.data.toList)=ss:=by simp [Function.comp_def]
 generalize hd:V.sl (ss.map .str)=d at h1
 cases h1 with
 |sl ys b o cap es cell hes hcap hm hC hr =>
  cases hd
  cases hss:ss with
  |nil =>
   subst hss
   refine (Tryz.strings_Join_none _ cap ⟨t.toArray⟩ w).mono fun e w' ⟨he,hb⟩=>?_
   subst he;subst hb
   exact ⟨_,rfl,fun _ _=>.str _,Below.refl _ _⟩
  |cons x r =>
   rw [←hss]
   have e1:es=1:=(hes (.str x) (by rw [hss];simp)).symm.trans rfl
   subst e1
   have hbk:b<w.heap.size:=by
    have hx0:(ss.map V.str)[0]?=some (.str x):=by rw [hss];rfl
    exact hw.Clt _ _ (hC 0 0 _ _ hx0 rfl).1
   have:=Tryz.strings_Join b o cap (ss.map fun l=>(⟨l.toArray⟩:ByteArray)) ⟨t.toArray⟩ w (fun j y hj=>?_) hbk (by rw [List.length_map];omega) (by rw [List.length_map];rw [List.length_map] at hcap;exact hcap) (by rw [hbytes];show (Lib.join ss t).length≤_;omega)
   ·rw [hbytes,List.length_map] at this
    rw [List.length_map]
    refine this.mono fun e w' ⟨he,hb⟩=>?_
    subst he
    exact ⟨_,rfl,fun _ _=>.str _,hb⟩
   ·rw [List.getElem?_map] at hj
    obtain ⟨l,hl1,rfl⟩:=Option.map_eq_some_iff.1 hj
    have hjx:(ss.map V.str)[j]?=some (.str l):=by rw [List.getElem?_map,hl1];rfl
    obtain ⟨_,g2,_⟩:=hC j 0 _ _ hjx rfl
    have g3:=hr j 0 _ _ hjx rfl
    rw [g3.str_inv] at g2
    simpa using g2
 |slnil a =>
  have hss:ss=[]:=by
   cases ss with
   |nil=>rfl
   |cons x r=>cases hd
  subst hss
  refine (Tryz.strings_Join_none _ _ ⟨t.toArray⟩ w).mono fun e w' ⟨he,hb⟩=>?_
  subst he;subst hb
  exact ⟨_,rfl,fun _ _=>.str _,Below.refl _ _⟩
 |_=>cases hd
theorem callable27:Callable Tryz.prog 27:=⟨_,Tryz.func27,by kernel_rfl,by kernel_rfl⟩
theorem v27 {s:List UInt8} {c:UInt8} {st:St}:VRet Tryz.prog 27 [.str s,.str [c]] st (.int .i64 (s.count c:Nat)) st:=by
 refine VRet_of_below callable27 (fun w A vs hw ha=>?_)
 obtain ⟨hl,ha⟩:=ha
 match vs,hl with
 |[u,v],_ =>
 have e1:=(ha 0 u _ rfl rfl).str_inv
 have e2:=(ha 1 v _ rfl rfl).str_inv
 subst e1;subst e2
 refine (Tryz.strings_Count_one ⟨s.toArray⟩ c w).mono fun e w' ⟨he,hb⟩=>?_
 subst he;subst hb
 exact ⟨_,rfl,fun w' A'=>.int _ _,Below.refl _ _⟩
theorem weak_back {st:St} (h:st.Wf) {a:Arr}:Weak st.nx ⟨st.nx+1,st.mem,(st.nx,a)::st.arr,st.x⟩ st where
 nx:=rfl
 le:=Nat.le_succ _
 mem id cs hl:=⟨(h.mem id cs hl).1,hl⟩
 arr id a' hl:=⟨(h.arr id a' hl).1,by
  have:=(h.arr id a' hl).1
  simp only [Sha.look];rw [if_neg (by omega)];exact hl⟩
 bdm id cs hl:=(h.mem id cs hl).2
 bda id a' hl:=(h.arr id a' hl).2
 x:=⟨fun id o hl=>⟨(h.x id o hl).1,hl⟩,rfl,fun id T hl=>⟨h.t id T hl,hl⟩⟩
 bdx id o hl:=(h.x id o hl).2
theorem fresh_sl {w:World} {A:Abs} {st:St} (hw:Sim w A st) (l:List (List UInt8)) (hl:l.length≤1000000):∃r A' st',(r=.ret (.sl (l.map .str))∧st'=st)∧EndRel (w.alloc (.cells (l.map fun l=>Value.string ⟨l.toArray⟩).toArray 9)) A' (.returned (.slice (some ⟨w.heap.size,0,none⟩) l.length l.length)) r∧Sim (w.alloc (.cells (l.map fun l=>Value.string ⟨l.toArray⟩).toArray 9)) A' st'∧Ext w A (w.alloc (.cells (l.map fun l=>Value.string ⟨l.toArray⟩).toArray 9)) A':=by
 have h1:=Sim.newArr (w0:=w) (cur:=(l.map fun l=>Value.string ⟨l.toArray⟩).toArray) (xs:=l.map V.str) (e:=9) (es:=1) (cap:=l.length) (wr:=false) (fz:=false) hw ⟨rfl,rfl,rfl,rfl⟩ (fun x hx=>by obtain ⟨y,_,rfl⟩:=List.mem_map.1 hx;rfl) (by rw [List.length_map];exact Nat.le_refl _) (by unfold maxLen;omega) (by simp) (fun i j x c hi hj=>by
  rw [List.getElem?_map] at hi
  obtain ⟨y,hy,rfl⟩:=Option.map_eq_some_iff.1 hi
  cases j with
  |zero=>simp [V.cells] at hj;subst hj;exact ⟨_,by simp [hy],rfl,.str _⟩
  |succ j=>simp [V.cells] at hj)
 have hx:=Ext.newArr (w0:=w) hw ⟨rfl,rfl,rfl,rfl⟩ (.cells (l.map fun l=>Value.string ⟨l.toArray⟩).toArray 9) (l.map V.str).length (.slice (some ⟨w.heap.size,0,none⟩) (l.map V.str).length l.length) (!false) ((l.map V.str).length*1)
 have hR:Rep (w.alloc (.cells (l.map fun l=>Value.string ⟨l.toArray⟩).toArray 9)) (A.newArr w.heap.size (l.map V.str).length (.slice (some ⟨w.heap.size,0,none⟩) (l.map V.str).length l.length) (!false) ((l.map V.str).length*1)) (.slice (some ⟨w.heap.size,0,none⟩) (l.map V.str).length l.length) (.osl A.nx (l.map V.str).length):=Rep.newArr
 have hS:=snapA_rep h1 hR (d':=.sl (l.map V.str)) (by rw [←hw.nx];simp [snapA_osl,Sha.look,snapO])
 have hown0:∀b id,A.own b=some id→id<A.nx:=fun b id h=>(hw.ownlt b id h).2
 refine ⟨_,_,_,⟨rfl,rfl⟩,?_,h1.cut (weak_back hw.wf),hx.cut hown0 (by rw [←hw.nx];exact Nat.le_refl _)⟩
 have:=hS.cut (n:=st.nx) (by simp [V.bd,bdL_map'])
 rw [List.length_map] at this ⊢
 exact this
theorem cntF_le:∀(l:List UInt8) (b:Bool),Lib.cntF b l≤l.length
 |[],_=>Nat.le_refl _
 |x::l,b=>by
  have:=cntF_le l (Lib.isSp x)
  unfold Lib.cntF
  rw [List.length_cons]
  split<;>omega
theorem callable225:Callable Tryz.prog 225:=⟨_,Tryz.func225,by kernel_rfl,by kernel_rfl⟩
theorem v225 {s:List UInt8} (h1:s.length≤1000) (h2:∀b∈s,b.toNat<128) {st:St} (hG:glB st.x.gl=true):VRet Tryz.prog 225 [.str s] st (.sl ((Lib.fields s).map .str)) st:=by
 simp only [glB,Bool.and_eq_true] at hG
 refine .inl ⟨callable225,fun w A vs hw ha=>?_⟩
 obtain ⟨u,rfl,h3⟩:=ha.one
 have e1:=h3.str_inv
 subst e1
 refine (Tryz.strings_Fields ⟨s.toArray⟩ w (by simp [ByteArray.size];omega) (fun j b hj=>h2 b (List.mem_of_getElem? hj)) (tab_is hw (by kernel_rfl) hG.2)).mono fun e w' ⟨he,hb⟩=>?_
 subst he
 change w'=w.alloc (.cells ((Lib.fields s).map fun l=>Value.string ⟨l.toArray⟩).toArray 9) at hb
 subst hb
 exact fresh_sl hw (Lib.fields s) (by rw [Lib.fields_length];have:=cntF_le s true;omega)
def oddR (r:Nat):Bool:=decide (r<32)||decide (126<r)
theorem pred129 (w:World):PredAt Tryz.prog 95 #[] encR oddR w:=fun W r _=>by
 unfold FnGives
 by_cases h1:r<32<;>by_cases h2:126<r
 all_goals
  have z1:(r:Int)<32↔r<32:=by omega
  have z2:(126:Int)<(r:Int)↔126<r:=by omega
  go_enter Tryz.func95,Tryz.ntmps95
  go_wp2
  all_goals first|(exfalso;omega)|(go_ret;exact ⟨by simp [oddR,h1,h2],0,rfl⟩)
theorem v168' (s:List UInt8) (st:St):VRet Tryz.prog 168 [.str s,.fn (.func 95) [] [],.bool true] st (.int .i64 (Lib.idxFunc oddR true ⟨s.toArray⟩)) st:=by
 refine VRet_of_below callable168 (fun w A vs hw ha=>?_)
 obtain ⟨hl,ha⟩:=ha
 match vs,hl with
 |[v0,v1,v2],_ =>
 have e0:=(ha 0 v0 _ rfl rfl).str_inv
 have r1:=ha 1 v1 _ rfl rfl
 have e2:=(ha 2 v2 _ rfl rfl).bool_inv
 have e1:v1=.func (.func 95) #[] #[]:=by
  cases r1 with
  |fn _ vs us _ _ e1 e2 _ _ =>
   have h1:vs=[]:=List.eq_nil_of_length_eq_zero e1
   have h2:us=[]:=List.eq_nil_of_length_eq_zero e2
   rw [h1,h2]
 subst e0;subst e1;subst e2
 refine (Tryz.strings_indexFunc 95 #[] (enters_of Tryz.func95 (by kernel_rfl) rfl) oddR true ⟨s.toArray⟩ w (pred129 w)).mono fun e w' ⟨he,hb⟩=>?_
 subst he
 exact ⟨_,rfl,fun w' A'=>.int _ _,hb⟩
theorem odd_from (s:ByteArray):∀(f pos:Nat),s.size≤pos+f→Lib.idxFuncFrom oddR true s f pos=match (s.data.toList.drop pos).findIdx? (fun b=>!plainB b) with|some i=>((pos+i:Nat):Int)|none=>-1
 |0,pos,h=>by
  rw [List.drop_eq_nil_of_le (by rw [Array.length_toList];exact h)];rfl
 |f+1,pos,h=>by
  unfold Lib.idxFuncFrom
  by_cases hp:pos<s.size
  ·have hp':pos<s.data.toList.length:=by rw [Array.length_toList];exact hp
   have hb:s.data.toList[pos]'hp'=s[pos]'hp:=rfl
   rw [if_pos hp,List.drop_eq_getElem_cons hp',List.findIdx?_cons,hb]
   by_cases ha:(s[pos]'hp).toNat<128
   ·rw [decode_ascii s pos hp ha]
    have ih:=odd_from s f (pos+1) (by omega)
    cases hd:plainB (s[pos]'hp) with
    |true =>
     have:¬oddR (s[pos]'hp).toNat=true:=by
      simp only [plainB,Bool.and_eq_true,decide_eq_true_eq] at hd
      simp only [oddR,Bool.or_eq_true,decide_eq_true_eq];omega
     rw [if_neg this,ih]
     simp only [Bool.not_true,Bool.false_eq_true,if_false]
     cases (s.data.toList.drop (pos+1)).findIdx? (fun b=>!plainB b) with
     |none=>rfl
     |some i=>show ((pos+1+i:Nat):Int)=((pos+(i+1):Nat):Int);rw [show pos+1+i=pos+(i+1) by omega]
    |false =>
     have:oddR (s[pos]'hp).toNat=true:=by
      simp only [plainB,Bool.and_eq_false_iff,decide_eq_false_iff_not] at hd
      simp only [oddR,Bool.or_eq_true,decide_eq_true_eq];omega
     rw [if_pos this]
     simp
   ·obtain ⟨h1,h2⟩:=decode_high s pos hp (by omega)
    have:oddR (Utf8.decode s pos).1=true:=by
     simp only [oddR,Bool.or_eq_true,decide_eq_true_eq];omega
    have hd:plainB (s[pos]'hp)=false:=by
     simp only [plainB,Bool.and_eq_false_iff,decide_eq_false_iff_not];omega
    rw [if_pos this,hd]
    simp
  ·rw [if_neg hp,List.drop_eq_nil_of_le (by rw [Array.length_toList];exact Nat.le_of_not_lt hp)];rfl
theorem odd_idx (s:List UInt8):Lib.idxFunc oddR true ⟨s.toArray⟩=oddI s:=by
 have:=odd_from ⟨s.toArray⟩ s.length 0 (by simp [ByteArray.size])
 have e:Lib.idxFunc oddR true ⟨s.toArray⟩=Lib.idxFuncFrom oddR true ⟨s.toArray⟩ s.length 0:=by simp [Lib.idxFunc,ByteArray.size]
 rw [e,this]
 unfold oddI
 simp only [List.drop_zero]
 cases s.findIdx? (fun b=>!plainB b) with
 |none=>rfl
 |some i=>simp
def q168':List V→Option VRes
 |[.str s,.fn (.func 95) [] [],.bool true]=>some (.ret (.int .i64 (Lib.idxFunc oddR true ⟨s.toArray⟩)))
 |_=>none
def HL1:EvF:=⟨[],fun f args st=>(bif Nat.beq f 168 then q168' args else none).map fun r=>(r,st)⟩
@[push_cast]theorem HL1_raw:HL1.raw=[]:=@_root_.id (_=_) rfl
theorem HL1_ok:ESound Tryz.prog HL1:=fun f args st r s h=>by
 obtain ⟨z,hz,e⟩:=Option.map_eq_some_iff.1 h
 cases e
 by_cases h3:f=168
 ·subst h3
  rw [show Nat.beq 168 168=true from rfl,cond_true] at hz
  unfold q168' at hz
  split at hz<;>cases hz
  exact v168' _ _
 rw [show Nat.beq f 168=false from Bool.eq_false_iff.2 fun e=>h3 (Nat.eq_of_beq_eq_true e),cond_false] at hz
 cases hz
theorem v96 {s:List UInt8} {st:St}:VRet Tryz.prog 96 [.str s,.fn (.func 95) [] []] st (.int .i64 (oddI s)) st:=by
 have h:∀st,run Tryz.prog HL1 168 [.str s,.fn (.func 95) [] [],.bool true] st=some (.ret (.int .i64 (Lib.idxFunc oddR true ⟨s.toArray⟩)),st):=fun st=>run_H rfl
 have h2:run Tryz.prog HL1 96 [.str s,.fn (.func 95) [] []] st=some (.ret (.int .i64 (oddI s)),st):=by
  rw [run_shut F96 rfl rfl rfl]
  push_cast [h,odd_idx]
 exact run_sound mixed HL1_ok _ _ _ _ _ h2
theorem HH_ok:ESound Tryz.prog HH:=fun f args st r s h=>by
 simp only [HH] at h
 by_cases h1:f=81
 ·subst h1
  rw [show Nat.beq 81 81=true from rfl,cond_true] at h
  unfold hSort at h
  split at h
  ·rename_i id n
   unfold hSortA at h
   split at h
   ·rename_i r0 hr
    split at h
    ·rename_i hc
     cases h
     obtain ⟨c1,c2,c3,c4,c5⟩:=hc
     subst c1
     exact v81 hr c3 c4 c2 c5
    ·cases h
   ·cases h
  ·cases h
 rw [show Nat.beq f 81=false from Bool.eq_false_iff.2 fun e=>h1 (Nat.eq_of_beq_eq_true e),cond_false] at h
 obtain ⟨z,hz,e⟩:=Option.map_eq_some_iff.1 h
 cases e
 by_cases h1:f=140
 ·subst h1
  rw [show Nat.beq 140 140=true from rfl,cond_true] at hz
  unfold hCut at hz
  split at hz
  ·split at hz
   ·rename_i hl;cases hz;exact run_sound mixed HL0_ok _ _ _ _ _ (k140 hl)
   ·cases hz
  ·cases hz
 rw [show Nat.beq f 140=false from Bool.eq_false_iff.2 fun e=>h1 (Nat.eq_of_beq_eq_true e),cond_false] at hz
 by_cases h1:f=18
 ·subst h1
  rw [show Nat.beq 18 18=true from rfl,cond_true] at hz
  unfold hSuf at hz
  split at hz
  ·split at hz
   ·rename_i hl;cases hz;exact run_sound mixed HL0_ok _ _ _ _ _ (k18 hl.1 hl.2)
   ·cases hz
  ·cases hz
 rw [show Nat.beq f 18=false from Bool.eq_false_iff.2 fun e=>h1 (Nat.eq_of_beq_eq_true e),cond_false] at hz
 by_cases h1:f=222
 ·subst h1
  rw [show Nat.beq 222 222=true from rfl,cond_true] at hz
  unfold hAny at hz
  split at hz
  ·cases hz;exact run_sound mixed HL0_ok _ _ _ _ _ k222
  ·cases hz
 rw [show Nat.beq f 222=false from Bool.eq_false_iff.2 fun e=>h1 (Nat.eq_of_beq_eq_true e),cond_false] at hz
 by_cases h1:f=22
 ·subst h1
  rw [show Nat.beq 22 22=true from rfl,cond_true] at hz
  unfold hAtoi at hz
  split at hz
  ·split at hz
   ·rename_i hl;cases hz;exact v22 _ _ hl.1 hl.2.1 hl.2.2
   ·cases hz
  ·cases hz
 rw [show Nat.beq f 22=false from Bool.eq_false_iff.2 fun e=>h1 (Nat.eq_of_beq_eq_true e),cond_false] at hz
 by_cases h1:f=361
 ·subst h1
  rw [show Nat.beq 361 361=true from rfl,cond_true] at hz
  unfold hTrim at hz
  split at hz
  ·split at hz
   ·rename_i hl
    obtain ⟨e1,e2⟩:=hl
    subst e1
    cases hz;exact run_sound mixed HL0_ok _ _ _ _ _ (k361 e2)
   ·cases hz
  ·cases hz
 rw [show Nat.beq f 361=false from Bool.eq_false_iff.2 fun e=>h1 (Nat.eq_of_beq_eq_true e),cond_false] at hz
 by_cases h1:f=26
 ·subst h1
  rw [show Nat.beq 26 26=true from rfl,cond_true] at hz
  unfold hItoa at hz
  split at hz
  ·split at hz
   ·rename_i hl
    simp only [Bool.and_eq_true,decide_eq_true_eq] at hl
    cases hz;exact v26 hl.1.1 hl.1.2 hl.2
   ·cases hz
  ·cases hz
 rw [show Nat.beq f 26=false from Bool.eq_false_iff.2 fun e=>h1 (Nat.eq_of_beq_eq_true e),cond_false] at hz
 by_cases h1:f=19
 ·subst h1
  rw [show Nat.beq 19 19=true from rfl,cond_true] at hz
  unfold hRep at hz
  split at hz
  ·split at hz
   ·rename_i hl
    simp only [Bool.and_eq_true,decide_eq_true_eq] at hl
    cases hz;exact v19 hl.1.1 hl.1.2 hl.2
   ·cases hz
  ·cases hz
 rw [show Nat.beq f 19=false from Bool.eq_false_iff.2 fun e=>h1 (Nat.eq_of_beq_eq_true e),cond_false] at hz
 by_cases h1:f=64
 ·subst h1
  rw [show Nat.beq 64 64=true from rfl,cond_true] at hz
  unfold hJoin at hz
  split at hz
  ·split at hz
   ·rename_i ss hs
    split at hz
    ·rename_i hl
     simp only [Bool.and_eq_true,decide_eq_true_eq] at hl
     cases hz;exact strsV_map hs▸v64 hl.1 hl.2
    ·cases hz
   ·cases hz
  ·cases hz
 rw [show Nat.beq f 64=false from Bool.eq_false_iff.2 fun e=>h1 (Nat.eq_of_beq_eq_true e),cond_false] at hz
 by_cases h1:f=27
 ·subst h1
  rw [show Nat.beq 27 27=true from rfl,cond_true] at hz
  unfold hCount at hz
  split at hz
  ·split at hz
   ·cases hz;exact v27
   ·cases hz
  ·cases hz
 rw [show Nat.beq f 27=false from Bool.eq_false_iff.2 fun e=>h1 (Nat.eq_of_beq_eq_true e),cond_false] at hz
 by_cases h1:f=225
 ·subst h1
  rw [show Nat.beq 225 225=true from rfl,cond_true] at hz
  unfold hFields at hz
  split at hz
  ·split at hz
   ·rename_i hl
    simp only [Bool.and_eq_true,decide_eq_true_eq,List.all_eq_true] at hl
    cases hz;exact v225 hl.1.1 hl.1.2 hl.2
   ·cases hz
  ·cases hz
 rw [show Nat.beq f 225=false from Bool.eq_false_iff.2 fun e=>h1 (Nat.eq_of_beq_eq_true e),cond_false] at hz
 by_cases h1:f=138
 ·subst h1
  rw [show Nat.beq 138 138=true from rfl,cond_true] at hz
  unfold hIdx at hz
  split at hz
  ·cases hz;exact v138 _ _ _
  ·cases hz
 rw [show Nat.beq f 138=false from Bool.eq_false_iff.2 fun e=>h1 (Nat.eq_of_beq_eq_true e),cond_false] at hz
 by_cases h1:f=96
 ·subst h1
  rw [show Nat.beq 96 96=true from rfl,cond_true] at hz
  unfold hOdd at hz
  split at hz
  ·cases hz;exact v96
  ·cases hz
 rw [show Nat.beq f 96=false from Bool.eq_false_iff.2 fun e=>h1 (Nat.eq_of_beq_eq_true e),cond_false] at hz
 by_cases h1:f=152
 ·subst h1
  rw [show Nat.beq 152 152=true from rfl,cond_true] at hz
  unfold hVal at hz
  split at hz
  ·rename_i x y cs a c d
   split at hz
   ·rename_i l hl
    split at hz
    ·rename_i hc
     simp only [Bool.and_eq_true,decide_eq_true_eq,List.all_eq_true] at hc
     obtain ⟨⟨⟨⟨c1,c2⟩,c3⟩,c4⟩,c5⟩:=hc
     cases hz
     have ea:a=(a.toNat:Int):=by omega
     have:=v152 x y l a.toNat ⟨c,d⟩ st (by omega) c3 c4 (fun z hz=>(c5 z hz).1) (fun z hz=>by have:=(c5 z hz).2;omega)
     rw [←ea,←rdL_map rdCu_v hl] at this
     exact this
    ·cases hz
   ·cases hz
  ·cases hz
 rw [show Nat.beq f 152=false from Bool.eq_false_iff.2 fun e=>h1 (Nat.eq_of_beq_eq_true e),cond_false] at hz
 cases hz
end Go.Proofs.YtanojbajfgcjeaaGreatDoor

namespace Go.Proofs.YtanojbajfgcjeaaGreatDoor
open Go.Sha
set_option maxRecDepth 100000
theorem thS_C:shoC thS=0:=by kernel_rfl
theorem thS_par:parS thS=[⟨1,0⟩,⟨1,1⟩,⟨2,0⟩,⟨2,1⟩]:=by
 rw [parS,if_pos thS_C,par_eq (fix_chan thS_C)];kernel_rfl
theorem thS_ok:thS.ok:=by
 refine ⟨by decide,⟨by decide,by simp [thS,theatre]⟩,⟨by decide,?_,?_⟩,⟨by decide,?_⟩,⟨by decide,by simp [thS,theatre]⟩,⟨by decide,?_⟩,⟨by decide,?_⟩,⟨by decide,by simp [thS,theatre]⟩,⟨by decide,by simp [thS,theatre]⟩⟩
 ·intro q hq;simp [thS,theatre] at hq;subst hq;exact ⟨by decide,by simp,by decide⟩
 ·intro q hq;simp [thS,theatre] at hq;subst hq;exact ⟨by decide,fun z hz=>by simp at hz;rcases hz with rfl|rfl<;>exact ⟨by decide,by simp⟩,by decide⟩
 ·intro q hq;simp [thS,theatre] at hq;rcases hq with rfl|rfl<;>decide
 ·intro q hq;simp [thS,theatre] at hq;subst hq;decide
 ·intro q hq;simp [thS] at hq;subst hq;exact ⟨by decide,fun z hz=>by simp at hz;subst hz;exact ⟨by decide,by decide,by decide,by decide,by decide⟩⟩
theorem HK_ok:ESound Tryz.prog HK:=fun f args st r s h=>by
 simp only [HK] at h
 by_cases h1:f=169
 ·subst h1
  rw [show Nat.beq 169 169=true from rfl,cond_true] at h
  obtain ⟨z,hz,e⟩:=Option.map_eq_some_iff.1 h
  cases e
  unfold hNoE at hz
  split at hz
  ·cases hz;exact noEscape_v Tryz.func169 (by kernel_rfl) (by kernel_rfl) (by kernel_rfl) (by kernel_rfl) _ _
  ·cases hz
 rw [show Nat.beq f 169=false from Bool.eq_false_iff.2 fun e=>h1 (Nat.eq_of_beq_eq_true e),cond_false] at h
 by_cases h1:f=30
 ·subst h1
  rw [show Nat.beq 30 30=true from rfl,cond_true] at h
  obtain ⟨z,hz,e⟩:=Option.map_eq_some_iff.1 h
  cases e
  unfold hPar at hz
  split at hz
  ·split at hz
   ·rename_i hb
    cases V.beq_eq _ _ hb
    cases hz
    have:=v30 HH_ok thS_ok (st:=st)
    rw [thS_par,thS_C] at this
    exact this
   ·cases hz
  ·cases hz
 rw [show Nat.beq f 30=false from Bool.eq_false_iff.2 fun e=>h1 (Nat.eq_of_beq_eq_true e),cond_false] at h
 exact HH_ok _ _ _ _ _ h
end Go.Proofs.YtanojbajfgcjeaaGreatDoor

namespace Go.Proofs.YtanojbajfgcjeaaGreatDoor
set_option maxRecDepth 100000
open Go.Sha Go.ChangeShapes Go.WideShapes Go.ChangeAt Go.RowKit
theorem laid_glK {laid:List (String×DataW Unit)} {W:World} (hn:(laid.all fun x=>x.2.handleName?.isNone)=true) (m2:("strings.asciiSpace",Rows.laid_strings_asciiSpace)∈laid) (m3:("internal/strconv.uint64pow10",Rows.laid_internal_strconv_uint64pow10)∈laid)
  (h:laidMetH Tryz.prog laid W) (hs:W.ShapedOpen Tryz.prog):∃v,∀p∈glK v,W.heap[p.1]?=some p.2:=by
 rw [MakeChecks.laidMetH_plain _ _ _ hn] at h
 obtain ⟨ps,hv,_⟩:=h
 obtain ⟨g2,t2,cs2,T2,fz2,f2,p2,a2,b2,c2,d2⟩:=vars_read hv _ _ m2
 obtain ⟨g3,t3,cs3,T3,fz3,f3,p3,a3,b3,c3,d3⟩:=vars_read hv _ _ m3
 obtain ⟨m,hm⟩:=int_of_shape (zero:=#[.int .i64 0]) (g:=0) (t:=3) (k:=.i64) hs (of_decide_eq_true (by kernel_rfl)) (by kernel_rfl) rfl (by kernel_rfl) (by kernel_rfl) Tryz.underlying3
 have q2:(Rows.laid_strings_asciiSpace:DataW Unit)=Lib.tabData .u8 Lib.asciiSpaceTab:=by kernel_rfl
 have q3:(Rows.laid_internal_strconv_uint64pow10:DataW Unit)=Lib.tabData .u64 Lib.pow10Tab:=by kernel_rfl
 rw [q2] at d2
 rw [q3] at d3
 have k2:Tryz.prog.globalNamed "strings.asciiSpace"=some 4:=by kernel_rfl
 have k3:Tryz.prog.globalNamed "internal/strconv.uint64pow10"=some 3:=by kernel_rfl
 obtain rfl:=Option.some.inj (k2.symm.trans a2)
 obtain rfl:=Option.some.inj (k3.symm.trans a3)
 have u2:(match (Tryz.prog.globals[4]?).map (·.type) with|some t=>(match Tryz.prog.underlying t with|some (.array m e)=>decide (m=256)&&(match Tryz.prog.underlying e with|some (.int k')=>decide (k'=.u8)|_=>false)&&decide (Tryz.prog.cellsOf e=1)&&decide (Tryz.prog.cellsOf t=256)|_=>false)|none=>false)=true:=by kernel_rfl
 have u3:(match (Tryz.prog.globals[3]?).map (·.type) with|some t=>(match Tryz.prog.underlying t with|some (.array m e)=>decide (m=20)&&(match Tryz.prog.underlying e with|some (.int k')=>decide (k'=.u64)|_=>false)&&decide (Tryz.prog.cellsOf e=1)&&decide (Tryz.prog.cellsOf t=20)|_=>false)|none=>false)=true:=by kernel_rfl
 rw [b2] at u2
 rw [b3] at u3
 have e2:=tab_read u2 d2
 have e3:=tab_read u3 d3
 subst e2;subst e3
 refine ⟨⟨T3,T2,3,fz3,fz2,(0,0),m⟩,fun p hp=>?_⟩
 simp only [glK,List.mem_cons,List.not_mem_nil,or_false] at hp
 rcases hp with rfl|rfl|rfl
 ·exact c3
 ·exact c2
 ·exact hm
end Go.Proofs.YtanojbajfgcjeaaGreatDoor

namespace Go.Proofs.YtanojbajfgcjeaaGreatDoor
open Go.Sha
set_option maxRecDepth 10000
def B66_0 : Cd := (.g [.b 13 .lss 12 11]
 (.join [1, 5, 10, 11, 12] (.i 13 .skip
 (.exit [5] 0))
 (.join [1, 5, 10, 11, 12] (.block 1 (.g [.r 14 9 10 12,
.d 15 9 14,
.s 7 (.alloc 73 [(.str []),(.str []),.nils,.nils,(.bool false),(.bool false),.i 0,(.str []),.i 0]),
.w 9 7 15]
 (.z [7] (.g [.m 16 1,
.d 17 9 7,
.s 18 (.call (.t 16) [.t 17])]
 (.i 18 (.reg [.m 19 5,
.a 20 0 7,
.l 21 20,
.s 22 (.bslice 9 1 [.t 21]),
.s 23 (.append 9 1 16 (.t 19) (.t 22)),
.m 5 23])
 .skip)))))
 (.reg [.v 24 .add 12 1,
.m 12 24]))))
theorem F66:compF Tryz.prog 66=some ⟨26,[.tmp 4],(.g [.q 2 135 0,
.s 4 (.mv (.c .nils))]
 (.z [2] (.g [.s 5 (.mv (.c .nils))]
 (.join [5] (.g [.a 8 0 2,
.a 9 2 8,
.l 10 9,
.u 11 10,
.c 12 0]
 (.block 0 (.loop [1, 5, 10, 11, 12] [(5, (9, 1))] B66_0)))
 (.g [.m 25 5,
.m 4 25]
 (.ret [4]))))))⟩ := by kernel_rfl
theorem F67:compF Tryz.prog 67=some ⟨12,[.tmp 3],(.g [.q 2 73 0,
.k 3 false]
 (.z [2] (.join [3] (.reg [.l 4 1,
.v 5 .gtr 4 0,
.m 6 5,
.ay 7 2 2 6,
.ly 8 7 6,
.y 9 (.mkfn (.func 69) [] [.t 1]) 6,
.y 10 (.f 68 [.t 8,.t 9]) 6,
.e 11 6 10,
.m 3 11])
 (.ret [3]))))⟩ := by kernel_rfl
theorem F69:compF Tryz.prog 69=some ⟨9,[.tmp 3],(.g [.q 2 139 0,
.k 3 false]
 (.z [2] (.g [.a 4 2 2,
.a 5 0 4,
.l 6 5,
.l 7 1,
.b 8 .eql 6 7,
.m 3 8]
 (.ret [3]))))⟩ := by kernel_rfl
theorem F25:compF Tryz.prog 25=some ⟨16,[.tmp 4,.tmp 5],(.g [.q 2 66 0,
.q 3 3 1,
.s 4 (.mv (.c .nils)),
.c 5 0]
 (.z [2, 3] (.join [2, 3] (.g [.d 7 3 2,
.f 8 65 7,
.m 6 8]
 (.g [.m 9 6,
.v 10 .neq 9 0]
 (.i 10 (.g [.m 11 6,
.s 4 (.mv (.c .nils)),
.m 5 11]
 (.ret [4, 5]))
 .skip)))
 (.g [.d 12 3 2,
.s 13 (.build [.i 0,.i 0,.nils] [(0,3,(.t 12))]),
.s 14 (.mkfn (.func 67) [] [.t 3]),
.g' 15 66 13 14,
.m 4 15,
.c 5 0]
 (.ret [4, 5])))))⟩ := by kernel_rfl
theorem F58 : compF Tryz.prog 58 = some ⟨5, [.tmp 2], (.g [.s 2 (.mv (.w []))]
 (.g [.m 3 0,
.f 4 26 3,
.m 2 4]
 (.ret [2])))⟩ := by kernel_rfl
def B24_0 : Cd := (.g [.b 47 .lss 46 45]
 (.join [1, 5, 7, 8, 10, 24, 25, 26, 31, 32, 33, 44, 45, 46] (.i 47 .skip
 (.exit [1, 5, 7, 8, 24, 25, 26, 31, 32, 33] 4))
 (.join [1, 5, 7, 8, 10, 24, 25, 26, 31, 32, 33, 44, 45, 46] (.block 5 (.g [.r 48 1 44 46,
.l 49 48,
.m 14 49]
 (.reg [.m 50 8,
.a 51 0 10,
.l 52 51,
.f 53 58 52,
.s 54 (.bin .add (.t 53) (.w [32,47,32])),
.m 55 14,
.b 56 .add 54 55,
.s 57 (.bslice 9 1 [.t 56]),
.s 58 (.append 9 1 16 (.t 50) (.t 57)),
.m 8 58])))
 (.reg [.v 59 .add 46 1,
.m 46 59]))))
def B24_1 : Cd := (.g [.b 34 .lss 33 32]
 (.join [1, 5, 7, 8, 24, 25, 26, 31, 32, 33] (.i 34 .skip
 (.exit [1, 5, 7, 8, 24, 25, 26] 2))
 (.join [1, 5, 7, 8, 24, 25, 26, 31, 32, 33] (.block 3 (.g [.r 35 3 31 33,
.d 36 3 35,
.s 10 (.alloc 66 [.i 0,.i 0,.nils]),
.w 3 10 36]
 (.z [10] (.g [.d 38 3 10,
.a 39 0 7,
.l 40 39,
.g' 41 25 38 40,
.m 37 41,
.j 42 0 37,
.j 43 1 37,
.m 11 42,
.m 12 43]
 (.g [.m 44 11,
.u 45 44,
.c 46 0]
 (.block 4 (.loop [1, 5, 7, 8, 10, 24, 25, 26, 31, 32, 33, 44, 45, 46] [(8, (9, 1))] B24_0)))))))
 (.reg [.v 60 .add 33 1,
.m 33 60]))))
def B24_2 : Cd := (.g [.b 27 .lss 26 25]
 (.join [1, 5, 24, 25, 26] (.i 27 .skip
 (.exit [5] 0))
 (.join [1, 5, 24, 25, 26] (.block 1 (.g [.r 28 2 24 26,
.d 29 2 28,
.s 7 (.alloc 63 [.i 0,.nils]),
.w 2 7 29]
 (.z [7] (.g [.s 8 (.mv (.c .nils))]
 (.join [1, 5, 7, 8, 24, 25, 26] (.g [.a 30 6 1,
.l 31 30,
.u 32 31,
.c 33 0]
 (.block 2 (.loop [1, 5, 7, 8, 24, 25, 26, 31, 32, 33] [(8, (9, 1))] B24_1)))
 (.greg [[], [], [], [], [], [], [], [], [], [], [false, false, false, false, false, false, false, false, false, true], [], [false, false, false, false, false, false, false, false, false, false, false, true], [false, false, false, false, false, false, false, false, false, false, false, false, false], []] [.m 61 5,
.a 62 0 7,
.l 63 62,
.f 64 58 63,
.a 65 1 7,
.l 66 65,
.u 67 66,
.f 68 58 67,
.m 69 8,
.s 70 (.f 64 [.t 69,(.w [44,32])]),
.s 71 (.bslice 9 1 [.t 64,.t 68,.t 70]),
.f 72 55 71,
.s 73 (.bslice 31 1 [.t 72]),
.s 74 (.append 31 1 24 (.t 61) (.t 73)),
.m 5 74]))))))
 (.reg [.v 75 .add 26 1,
.m 26 75]))))
theorem F24:compF Tryz.prog 24=some ⟨77,[.tmp 2,.tmp 3],(.g [.q 1 50 0,
.s 2 (.mv (.c .nils)),
.c 3 0]
 (.z [1] (.join [1] (.g [.d 15 9 1,
.f 16 54 15,
.m 4 16]
 (.g [.m 17 4,
.v 18 .neq 17 0]
 (.i 18 (.g [.m 19 4,
.s 2 (.mv (.c .nils)),
.m 3 19]
 (.ret [2, 3]))
 .skip)))
 (.g [.s 20 (.bslice 9 1 [(.w [112, 97, 108, 101, 116, 116, 101]), (.w [104, 117, 101, 115]), (.w [99, 117, 101, 115])]),
.f 21 55 20,
.s 22 (.bslice 31 1 [.t 21]),
.m 5 22]
 (.join [5] (.g [.a 23 5 1,
.l 24 23,
.u 25 24,
.c 26 0]
 (.block 0 (.loop [1, 5, 24, 25, 26] [(5, (31, 1))] B24_2)))
 (.g [.m 76 5,
.m 2 76,
.c 3 0]
 (.ret [2, 3])))))))⟩ := by kernel_rfl
def B6_0 : Cd := (.g [.b 45 .lss 44 43]
 (.join [1, 3, 5, 6, 7, 34, 35, 36, 42, 43, 44] (.i 45 .skip
 (.exit [1, 3, 5, 6, 7, 34, 35, 36] 2))
 (.join [1, 3, 5, 6, 7, 34, 35, 36, 42, 43, 44] (.block 3 (.g [.r 46 3 42 44,
.d 47 3 46,
.s 9 (.alloc 66 [.i 0,.i 0,.nils]),
.w 3 9 47]
 (.z [9] (.g [.d 49 3 9,
.a 50 0 6,
.l 51 50,
.g' 52 25 49 51,
.m 48 52,
.j 53 0 48,
.j 54 1 48,
.m 10 53,
.m 11 54]
 (.join [1, 3, 5, 6, 7, 10, 34, 35, 36, 42, 43, 44] (.g [.m 55 11,
.v 56 .neq 55 0]
 (.i 56 (.g [.k 2 false]
 (.ret [2]))
 .skip))
 (.reg [.m 57 7,
.m 58 10,
.u 59 58,
.b 60 .add 57 59,
.m 7 60]))))))
 (.reg [.v 61 .add 44 1,
.m 44 61]))))
def B6_1 : Cd := (.g [.b 37 .lss 36 35]
 (.join [1, 3, 34, 35, 36] (.i 37 .skip
 (.exit [] 0))
 (.join [1, 3, 34, 35, 36] (.block 1 (.g [.m 38 36,
.r 39 2 34 36,
.d 40 2 39,
.s 6 (.alloc 63 [.i 0,.nils]),
.m 5 38,
.w 2 6 40]
 (.z [6] (.g [.c 7 0]
 (.join [1, 3, 5, 6, 7, 34, 35, 36] (.g [.a 41 6 1,
.l 42 41,
.u 43 42,
.c 44 0]
 (.block 2 (.loop [1, 3, 5, 6, 7, 34, 35, 36, 42, 43, 44] [] B6_0)))
 (.g [.m 62 3,
.m 63 5,
.v 64 .add 63 1,
.r 65 1 62 64,
.l 66 65,
.m 12 66]
 (.join [1, 3, 34, 35, 36, 99] (.dreg 33 [.m 67 12,
.u 68 67,
.v 69 .neq 68 3,
.m 70 69,
.mx 71 12 70,
.x 72 (.iadr 1 (.t 71) (.i 0)) 70,
.lx 73 72 70,
.ax 74 0 6 70,
.lx 75 74 70,
.x 76 (.f 26 [.t 75]) 70,
.bx 77 .neq 73 76 70,
.o 78 70 77,
.m 79 78,
.mx 80 12 79,
.x 81 (.iadr 1 (.t 80) (.i 2)) 79,
.lx 82 81 79,
.x 83 (.f 27 [.t 82,(.w [47])]) 79,
.mx 84 7 79,
.bx 85 .neq 83 84 79,
.o 86 79 85,
.m 87 86,
.mx 88 7 87,
.vx 89 .gtr 88 0 87,
.mx 90 89 87,
.my 91 12 90,
.y 92 (.iadr 1 (.t 91) (.i 2)) 90,
.ly 93 92 90,
.y 94 (.f 27 [.t 93,(.w [44,32])]) 90,
.my 95 7 90,
.vy 96 .sub 95 1 90,
.by' 97 .neq 94 96 90,
.x 98 (.pick (.t 90) (.t 97) (.c (.bool false))) 87,
.o 99 87 98])
 (.i 99 (.g [.k 2 false]
 (.ret [2]))
 .skip))))))))
 (.reg [.v 100 .add 36 1,
.m 36 100]))))
theorem F6:compF Tryz.prog 6=some ⟨102,[.tmp 2],(.g [.q 1 50 0,
.k 2 false]
 (.z [1] (.join [1] (.g [.d 13 9 1,
.f 14 20 13,
.z 15 14]
 (.i 15 (.g [.s 16 (.f 10 []),
.m 2 16]
 (.ret [2]))
 .skip))
 (.g [.d 18 9 1,
.f 19 24 18,
.m 17 19,
.j 20 0 17,
.j 21 1 17,
.m 3 20,
.m 4 21]
 (.join [1, 3] (.join [1, 3, 32] (.reg [.m 22 4,
.v 23 .neq 22 0,
.m 24 23,
.mx 25 3 24,
.x 26 (.len (.t 25)) 24,
.ax 27 5 1 24,
.lx 28 27 24,
.x 29 (.len (.t 28)) 24,
.vx 30 .add 29 1 24,
.bx 31 .neq 26 30 24,
.o 32 24 31])
 (.i 32 (.g [.k 2 false]
 (.ret [2]))
 .skip))
 (.join [] (.g [.a 33 5 1,
.l 34 33,
.u 35 34,
.c 36 0]
 (.block 0 (.loop [1, 3, 34, 35, 36] [] B6_1)))
 (.g [.s 101 (.f 10 []),
.m 2 101]
 (.ret [2]))))))))⟩ := by kernel_rfl
theorem F20:compF Tryz.prog 20=some ⟨10,[.tmp 2],(.g [.q 1 50 0,
.k 2 false]
 (.z [1] (.join [2] (.reg [.d 3 9 1,
.f 4 52 3,
.m 5 4,
.y 6 (.load (some 9) (.t 1)) 5,
.y 7 (.f 53 [.t 6]) 5,
.vy 8 .eql 7 0 5,
.e 9 5 8,
.m 2 9])
 (.ret [2]))))⟩ := by kernel_rfl
end Go.Proofs.YtanojbajfgcjeaaGreatDoor

namespace Go.Proofs.YtanojbajfgcjeaaGreatDoor
open Go.Sha
set_option maxRecDepth 100000
variable {g:List (Nat×Obj)} {n:Nat}
theorem f69 {q:Mov} {p:Int} {st:St}:run Tryz.prog HH 69 [q.v,.ep (.agg [.int .i64 p]) 0] st=some (.ret (.bool (q.val.pal == p)),st):=by
 rw [run_shut F69 rfl rfl (by simp)]
 push_cast [Mov.v]
theorem f191p {l:List Mov} {p:Int} (hl:l.length<140737488355328) {st:St}:run Tryz.prog HH 136 [.sl (l.map Mov.v),.fn (.func 69) [] [.ep (.agg [.int .i64 p]) 0]] st=some (.ret (.int .i64 (ix (fun q=>q.val.pal == p) l 0)),st) :=
 IxF (f:=Mov.v) (n:=some 5) (fun _=>rfl) (fun _=>rfl) F136 rfl (by simp) hl (fun q _ _=>f69) (fun _ _=>rfl) (fun _=>rfl)
def usesC (p:Int) (c:Cu):Bool:=decide (0<p)&&c.moves.any (fun q=>q.val.pal == p)
theorem f67 {x:Cu} {p:Int} (hl:x.moves.length<140737488355328) {st:St}:run Tryz.prog HH 67 [x.v,.ep (.agg [.int .i64 p]) 0] st=some (.ret (.bool (usesC p x)),st):=by
 have h:=fun (st:St)=>f191p (p:=p) (st:=st) hl
 push_cast [Mov.v] at h
 rw [run_shut F67 rfl rfl (by simp)]
 push_cast [Cu.v,Mov.v,usesC,h,ix_ge,(fun (a0 a1:V) (st:St) (h:V.bdL 0 [a0,a1]=true)=>run_shut (P:=Tryz.prog) (H:=HH) (args:=[a0,a1]) (st:=st) F68 rfl rfl h)]
theorem room16 {k:Nat} (h:k≤1000000):roomV (k+1) 16=true:=by
 have h1:k+1≤maxLen:=by unfold maxLen;omega
 have h2:(k+1)*16≤140737488355328:=by omega
 unfold roomV
 rw [decide_eq_true h1,decide_eq_true h2];rfl
def refsL (p:Int) (l:List Cu):Row:=(l.filter (usesC p)).map (·.num)
theorem L66 {l:List Cu} {p:Int} (hl:l.length≤1000000) (hm:∀c∈l,c.moves.length<140737488355328):∀r j,l.drop j=r→∀out:Row,out.length≤j →
  runL Tryz.prog HH [1,5,10,11,12] (n+1) B66_0 [(1,.fn (.func 67) [] [.ep (.agg [.int .i64 p]) 0]),(5,.osl n out.length),(10,.sl (l.map Cu.v)),(11,.int .i64 l.length),(12,.int .i64 j)] (stL g n out)
   = some (.exit 0,[(5,.osl n (out++refsL p r).length)],stL g n (out++refsL p r)):=by
 refine drop_ind (fun j h out ho=>?_) (fun q r j h hx hd ih out ho=>?_)
 all_goals rw [runL_of B66_0.eq_1]
 ·have h1:¬(j:Int)<l.length:=by omega
  push_cast [h1,refsL,List.filter_nil,List.map_nil,List.append_nil]
 ·have h1:(j:Int)<l.length:=by omega
  have hw:=iw1 (j:=j) (by omega)
  have h103:=fun (st:St)=>f67 (x:=q) (p:=p) (st:=st) (hm q (mem_at hd))
  have hr:=room16 (k:=out.length) (by omega)
  cases hu:usesC p q with
  |false =>
   have ih:=ih out (by omega)
   push_cast [Cu.v] at h103
   push_cast [h1,hw,hx,Cu.v,h103,hu,refsL,List.filter_cons] at ih ⊢
   exact ih
  |true =>
   have ih:=ih (out++[q.num]) (by simp;omega)
   push_cast [Cu.v] at h103
   push_cast [h1,hw,hx,Cu.v,h103,hu,hr,refsL,List.filter_cons,List.append_assoc,List.singleton_append,List.map_append,List.map_cons,List.map_nil] at ih ⊢
   exact ih
theorem f66 {x:Lst} {p:Int} (hl:x.cues.length≤1000000) (hm:∀c∈x.cues,c.moves.length<140737488355328) {st:St}:run Tryz.prog HH 66 [x.v,.fn (.func 67) [] [.ep (.agg [.int .i64 p]) 0]] st=some (.ret (.sl ((refsL p x.cues).map .str)),st):=by
 have hL:=fun n=>L66 (g:=st.x.gl) (n:=n) (p:=p) hl hm _ 0 rfl [] (Nat.zero_le _)
 rw [List.drop_zero] at hL
 rw [run_shut F66 rfl rfl (by simp)]
 push_cast [List.map_nil,List.nil_append,List.length_nil] at hL
 push_cast [Lst.v,hL,List.map_nil,List.nil_append,List.length_nil]
def refsC (p:Int) (x:Lst):Row:=if lstP x=0 then refsL p x.cues else []
theorem f25 {x:Lst} {p:Int} (h:x.ok) {st:St}:run Tryz.prog HH 25 [x.v,.int .i64 p] st=some (.ret (.tup [.sl ((refsC p x).map .str),.int .i64 (lstP x)]),st):=by
 have h1:=fun st=>f65 (st:=st) h
 rw [run_shut F25 rfl rfl (by simp)]
 by_cases hP:lstP x=0
 ·have hx:x.cues.length≤1000000:=by
   unfold lstP at hP
   split at hP
   ·cases hP
   ·split at hP
    ·cases hP
    ·omega
  have h2:=fun st=>f66 (p:=p) (st:=st) hx (fun c hc=>(h.b c hc).c)
  push_cast [Lst.v] at h1 h2
  push_cast [Lst.v,h1,h2,hP,refsC]
 ·push_cast [Lst.v] at h1
  push_cast [Lst.v,h1,hP,refsC]
theorem f58 {m:Int} (h0:-9223372036854775808≤m) (h1:m≤9223372036854775807) {st:St} (hG:glB st.x.gl=true):run Tryz.prog HH 58 [.int .i64 m] st=some (.ret (.str (Lib.itoa m)),st):=by
 have hI:∀st':St,st'.x.gl=st.x.gl→run Tryz.prog HH 26 [.int .i64 m] st'=some (.ret (.str (Lib.itoa m)),st'):=fun st' e=>run_H (by
  show (hItoa st'.x.gl [.int .i64 m]).map (fun r=>(r,st'))=_
  rw [hItoa,e,hG,decide_eq_true h0,decide_eq_true h1];rfl)
 rw [run_shut F58 rfl rfl (by simp)]
 push_cast [hI]
end Go.Proofs.YtanojbajfgcjeaaGreatDoor

namespace Go.Proofs.YtanojbajfgcjeaaGreatDoor
open Go.Sha
set_option maxRecDepth 100000
variable {g:List (Nat×Obj)} {n:Nat}
theorem h66 {l:List V} (hb:V.bdL 0 l=true) {st:St}:run Tryz.prog HH 55 [.sl l] st=some (.ret (.sl l),st):=by
 rw [run_shut F55 rfl rfl (by simpa [V.bdL,V.bd] using hb)]
 push_cast [hb]
def useT (m:Int) (q:List UInt8):List UInt8:=Lib.itoa m++[32,47,32]++q
def stT (g:List (Nat×Obj)) (tab:List Row) (cs:Row):St:=⟨5,[],[(4,⟨9,1,cs.map .str,false,false⟩),(2,⟨31,1,tab.map rowV,false,false⟩),(1,⟨9,1,[.str [112,97,108,101,116,116,101],.str [104,117,101,115],.str [99,117,101,115]],false,false⟩)],⟨[],g,[]⟩⟩
@[push_cast]theorem stT_eq {tab:List Row} {cs:Row}:stT g tab cs=⟨5,[],[(4,⟨9,1,cs.map .str,false,false⟩),(2,⟨31,1,tab.map rowV,false,false⟩),(1,⟨9,1,[.str [112,97,108,101,116,116,101],.str [104,117,101,115],.str [99,117,101,115]],false,false⟩)],⟨[],g,[]⟩⟩:=@_root_.id (_=_) rfl
def stU2 (g:List (Nat×Obj)) (tab:List Row) (cs:Row):St:=⟨6,[],[(4,⟨9,1,cs.map .str,false,false⟩),(2,⟨31,1,tab.map rowV,false,false⟩),(1,⟨9,1,[.str [112,97,108,101,116,116,101],.str [104,117,101,115],.str [99,117,101,115]],false,false⟩)],⟨[],g,[]⟩⟩
@[push_cast]theorem stU2_eq {tab:List Row} {cs:Row}:stU2 g tab cs=⟨6,[],[(4,⟨9,1,cs.map .str,false,false⟩),(2,⟨31,1,tab.map rowV,false,false⟩),(1,⟨9,1,[.str [112,97,108,101,116,116,101],.str [104,117,101,115],.str [99,117,101,115]],false,false⟩)],⟨[],g,[]⟩⟩:=@_root_.id (_=_) rfl
theorem L24_0 {s:Sho} {pl:Pal} {x:Lst} {l:Row} {tab:List Row} {i il:Nat} (hq:∀q∈l,q.length≤1000) (hG:glB g=true) (hl:l.length≤1000000) (h0:-9223372036854775808≤x.num) (h1:x.num≤9223372036854775807):∀r j,l.drop j=r→∀cs:Row,cs.length+r.length≤1000000 →
  runL Tryz.prog HH [1,5,7,8,10,24,25,26,31,32,33,44,45,46] 6 B24_0 [(1,.ep s.v 0),(5,.osl 2 tab.length),(7,.ep pl.v 0),(8,.osl 4 cs.length),(10,.ep x.v 0),(24,.sl (s.pals.map Pal.v)),(25,.int .i64 s.pals.length),(26,.int .i64 i),(31,.sl (s.lsts.map Lst.v)),(32,.int .i64 s.lsts.length),(33,.int .i64 il),(44,.sl (l.map .str)),(45,.int .i64 l.length),(46,.int .i64 j)] (stU2 g tab cs)
   = some (.exit 4,[(1,.ep s.v 0),(5,.osl 2 tab.length),(7,.ep pl.v 0),(8,.osl 4 (cs++r.map (useT x.num)).length),(24,.sl (s.pals.map Pal.v)),(25,.int .i64 s.pals.length),(26,.int .i64 i),(31,.sl (s.lsts.map Lst.v)),(32,.int .i64 s.lsts.length),(33,.int .i64 il)],stU2 g tab (cs++r.map (useT x.num))):=by
 refine drop_ind (fun j h cs hc=>?_) (fun q r j h hx hd ih cs hc=>?_)
 all_goals rw [runL_of B24_0.eq_1]
 ·have h1:¬(j:Int)<l.length:=by omega
  push_cast [h1,List.map_nil,List.append_nil]
 ·have h1:(j:Int)<l.length:=by omega
  have hw:=iw1 (j:=j) (by omega)
  rw [List.length_cons] at hc
  have h68:=fun nx mem arr obj ty=>f58 (m:=x.num) (st:=⟨nx,mem,arr,⟨obj,g,ty⟩⟩) (by assumption) (by assumption) hG
  have hr:=room16 (k:=cs.length) (by omega)
  have ih:=ih (cs++[useT x.num q]) (by simp;omega)
  push_cast [Sho.v,Pal.v,Lst.v,useT] at ih ⊢
  push_cast [h1,hw,hx,h68,hr,Sho.v,Pal.v,Lst.v,List.map_cons,List.map_append,List.map_nil,List.append_assoc,List.singleton_append] at ih ⊢
  have hi:=Lib.itoa_length_le x.num (by assumption) (by assumption)
  have:=hq q (mem_at hd)
  first|exact ih|exact dn_eq (by omega) ih
theorem num_chars {s:List UInt8} (h:numC s=0):s.length≤8∧∀b∈s,isD b=true∨b=46:=by
 obtain ⟨a1,a2,a3,a4⟩:=numC_parts h
 have e:s=nW s++s.dropWhile (· != 46):=(List.takeWhile_append_dropWhile ..).symm
 have e2:s.dropWhile (· != 46)=[]∨s.dropWhile (· != 46)=46::nR s:=by
  unfold nR
  cases hd:s.dropWhile (· != 46) with
  |nil=>exact .inl rfl
  |cons b r =>
   have:(b != 46)=false:=by
    have:=List.head_dropWhile_not (p:=(· != (46:UInt8))) (l:=s) (by rw [hd];simp)
    simpa [hd] using this
   have hb:b=46:=by simpa using this
   rw [hb];exact .inr rfl
 rcases e2 with e2|e2
 ·rw [e2,List.append_nil] at e
  exact ⟨by rw [e];omega,fun b hb=>.inl (a1 b (by rw [←e];exact hb))⟩
 ·rw [e2] at e
  refine ⟨by rw [e,List.length_append,List.length_cons];omega,fun b hb=>?_⟩
  rw [e] at hb
  rcases List.mem_append.1 hb with hb|hb
  ·exact .inl (a1 b hb)
  ·rcases List.mem_cons.1 hb with hb|hb
   ·exact .inr hb
   ·exact .inl (a2 b hb)
theorem cuesP_all {l:List Cu}:∀{r:List Cu} {j:Nat},cuesP l r j=0→∀c∈r,numC c.num=0
 |[],_,_,c,hc=>by simp at hc
 |q::r,j,h,c,hc=>by
  rw [cuesP] at h
  repeat' split at h
  all_goals first|(rename_i a;exact absurd h a)|cases h|skip
  rename_i a _
  rw [cue_eq] at a
  rcases List.mem_cons.1 hc with rfl|hc
  ·exact cueP_num (Classical.not_not.1 a)
  ·exact cuesP_all h c hc
theorem lst_parts {x:Lst} (h:lstP x=0):1≤x.num∧x.num≤1048576∧x.cues.length≤64∧∀c∈x.cues,numC c.num=0:=by
 unfold lstP lstB at h
 split at h
 ·cases h
 ·split at h
  ·cases h
  ·exact ⟨by omega,by omega,by omega,cuesP_all h⟩
theorem lstsL_all {l:List Lst}:∀{r:List Lst} {j:Nat},lstsL l r j=0→∀c∈r,lstP c=0
 |[],_,_,c,hc=>by simp at hc
 |q::r,j,h,c,hc=>by
  rw [lstsL] at h
  repeat' split at h
  all_goals first|(rename_i a;exact absurd h a)|cases h|skip
  rename_i a _
  rcases List.mem_cons.1 hc with rfl|hc
  ·rw [lst_eq];exact Classical.not_not.1 a
  ·exact lstsL_all h c hc
theorem sho_parts {s:Sho} (h:shoC s=0):s.lsts.length≤8∧(∀x∈s.lsts,lstP x=0)∧s.pals.length≤32∧∀x∈s.pals,1≤x.num∧x.num≤1048576:=by
 obtain ⟨_,_,_,_,_,h1,h2,_⟩:=shoC_parts h
 unfold lstsC at h2
 unfold palsCR at h1
 split at h1
 ·cases h1
 ·split at h2
  ·cases h2
  ·exact ⟨by omega,lstsL_all h2,by omega,fun x hx=>have:=(palsR_all (j:=0) rfl h1).1 x hx;⟨this.1,this.2.1⟩⟩
theorem refs_le {x:Lst} {p:Int} (h:lstP x=0):(refsL p x.cues).length≤64∧∀q∈refsL p x.cues,numC q=0:=by
 obtain ⟨_,_,h3,h4⟩:=lst_parts h
 refine ⟨?_,fun q hq=>?_⟩
 ·unfold refsL
  rw [List.length_map]
  exact Nat.le_trans (List.length_filter_le ..) h3
 ·obtain ⟨c,hc,rfl⟩:=List.mem_map.1 hq
  exact h4 c (List.mem_filter.1 hc).1
def usesL (p:Int) (x:Lst):Row:=(refsL p x.cues).map (useT x.num)
theorem L24_1 {s:Sho} {pl:Pal} {tab:List Row} {i:Nat} (hG:glB g=true) (h:s.ok) (hs:shoC s=0):∀r j,s.lsts.drop j=r→∀cs:Row,cs.length≤64*j →
  runL Tryz.prog HH [1,5,7,8,24,25,26,31,32,33] 5 B24_1 [(1,.ep s.v 0),(5,.osl 2 tab.length),(7,.ep pl.v 0),(8,.osl 4 cs.length),(24,.sl (s.pals.map Pal.v)),(25,.int .i64 s.pals.length),(26,.int .i64 i),(31,.sl (s.lsts.map Lst.v)),(32,.int .i64 s.lsts.length),(33,.int .i64 j)] (stT g tab cs)
   = some (.exit 2,[(1,.ep s.v 0),(5,.osl 2 tab.length),(7,.ep pl.v 0),(8,.osl 4 (cs++r.flatMap (usesL pl.num)).length),(24,.sl (s.pals.map Pal.v)),(25,.int .i64 s.pals.length),(26,.int .i64 i)],stT g tab (cs++r.flatMap (usesL pl.num))):=by
 obtain ⟨hn,hp,-,-⟩:=sho_parts hs
 have hl:=h.k.1
 refine drop_ind (fun j h cs hc=>?_) (fun q r j hj hx hd ih cs hc=>?_)
 all_goals rw [runL_of B24_1.eq_1]
 ·have h1:¬(j:Int)<s.lsts.length:=by omega
  push_cast [h1,List.flatMap_nil,List.append_nil]
 ·have h1:(j:Int)<s.lsts.length:=by omega
  have hw:=iw1 (j:=j) (by omega)
  have hm:=mem_at hd
  have hq:=hp q hm
  obtain ⟨p1,p2,p3,p4⟩:=lst_parts hq
  obtain ⟨r1,r2⟩:=refs_le (p:=pl.num) hq
  have h36:=fun (st:St)=>f25 (p:=pl.num) (st:=st) (h.k.2 q hm)
  have hL:=L24_0 (g:=g) (s:=s) (pl:=pl) (x:=q) (l:=refsL pl.num q.cues) (tab:=tab) (i:=i) (il:=j) (fun z hz=>by have:=(num_chars (r2 z hz)).1;omega) hG (by omega) (by omega) (by omega) _ 0 rfl cs (by rw [List.drop_zero];omega)
  rw [List.drop_zero] at hL
  have hul:(usesL pl.num q).length≤64:=by rw [usesL,List.length_map];exact r1
  have ih:=ih (cs++usesL pl.num q) (by rw [List.length_append];omega)
  rw [show refsC pl.num q=refsL pl.num q.cues by rw [refsC,if_pos hq],hq] at h36
  simp only [List.flatMap_cons,←List.append_assoc] at ih ⊢
  rw [show (refsL pl.num q.cues).map (useT q.num)=usesL pl.num q from rfl] at hL
  generalize hcu:cs++usesL pl.num q=cu at *
  generalize refsL pl.num q.cues=rf at *
  push_cast [Sho.v,Pal.v,Lst.v] at hL ih h36
  push_cast [h1,hw,hx,h36,hL,Sho.v,Pal.v,Lst.v] at ih ⊢
  first|exact ih|exact dn_eq (by omega) ih
def rowP (s:Sho) (pl:Pal):Row:=[Lib.itoa pl.num,Lib.itoa pl.hues.length,Lib.join (s.lsts.flatMap (usesL pl.num)) [44,32]]
theorem strsV_str:∀{ss:List (List UInt8)},strsV (ss.map .str)=some ss
 |[]=>rfl
 |s::r=>by rw [List.map_cons,strsV,strsV_str];rfl
theorem h100 {ss:List (List UInt8)} {t:List UInt8} (hn:ss.length≤1000000) (hl:(Lib.join ss t).length≤100000000000) {st:St}:run Tryz.prog HH 64 [.sl (ss.map .str),.str t] st=some (.ret (.str (Lib.join ss t)),st):=run_H (by
 show (hJoin [.sl (ss.map .str),.str t]).map _=_
 rw [hJoin,strsV_str]
 simp only [hn,hl,decide_true,Bool.and_self,if_true,Option.map_some])
theorem lens_le {B:Nat}:∀{ss:List (List UInt8)},(∀s∈ss,s.length≤B)→Lib.lens ss≤ss.length*B
 |[],_=>by simp [Lib.lens]
 |s::r,h=>by
  have h1:=lens_le (ss:=r) fun x hx=>h x (List.mem_cons_of_mem _ hx)
  have h2:=h s (List.mem_cons_self ..)
  have h3:Lib.lens (s::r)=s.length+Lib.lens r:=by simp [Lib.lens]
  rw [h3,List.length_cons,Nat.succ_mul];omega
theorem join_le {B:Nat} {ss:List (List UInt8)} {t:List UInt8} (h:∀s∈ss,s.length≤B) (hn:ss.length≤1000) (hB:B≤1000) (ht:t.length≤2):(Lib.join ss t).length≤1002000:=by
 cases ss with
 |nil=>simp [Lib.join_nil]
 |cons x r =>
  rw [Lib.join_length]
  have h1:=lens_le h
  have h2:(x::r).length*B≤1000*1000:=Nat.mul_le_mul hn hB
  have h3:t.length*r.length≤2*1000:=Nat.mul_le_mul ht (by rw [List.length_cons] at hn;omega)
  omega
theorem uses_of {s:Sho} {p:Int} (hs:shoC s=0):(s.lsts.flatMap (usesL p)).length≤1000∧∀q∈s.lsts.flatMap (usesL p),q.length≤1000:=by
 obtain ⟨hn,hp,-,-⟩:=sho_parts hs
 constructor
 ·have:∀(l:List Lst),(∀x∈l,lstP x=0)→(l.flatMap (usesL p)).length≤l.length*64:=by
   intro l hl
   induction l with
   |nil=>simp
   |cons x r ih =>
    have h1:=ih fun y hy=>hl y (List.mem_cons_of_mem _ hy)
    have h2:=(refs_le (p:=p) (hl x (List.mem_cons_self ..))).1
    rw [List.flatMap_cons,List.length_append,List.length_cons,Nat.succ_mul,usesL,List.length_map]
    omega
  have:=this s.lsts hp
  omega
 ·intro q hq
  obtain ⟨x,hx,hq⟩:=List.mem_flatMap.1 hq
  obtain ⟨z,hz,rfl⟩:=List.mem_map.1 hq
  have h1:=(num_chars ((refs_le (hp x hx)).2 z hz)).1
  obtain ⟨p1,p2,-,-⟩:=lst_parts (hp x hx)
  have h2:=Lib.itoa_length_le x.num (by omega) (by omega)
  simp only [useT,List.length_append,List.length_cons,List.length_nil]
  omega
def stTb (g:List (Nat×Obj)) (tab:List Row):St:=⟨3,[],[(2,⟨31,1,tab.map rowV,false,false⟩),(1,⟨9,1,[.str [112,97,108,101,116,116,101],.str [104,117,101,115],.str [99,117,101,115]],false,false⟩)],⟨[],g,[]⟩⟩
@[push_cast]theorem stTb_eq {tab:List Row}:stTb g tab=⟨3,[],[(2,⟨31,1,tab.map rowV,false,false⟩),(1,⟨9,1,[.str [112,97,108,101,116,116,101],.str [104,117,101,115],.str [99,117,101,115]],false,false⟩)],⟨[],g,[]⟩⟩:=@_root_.id (_=_) rfl
theorem L24_2 {s:Sho} (hG:glB g=true) (h:s.ok) (hs:shoC s=0):∀r j,s.pals.drop j=r→∀tab:List Row,tab.length≤j+1 →
  runL Tryz.prog HH [1,5,24,25,26] 3 B24_2 [(1,.ep s.v 0),(5,.osl 2 tab.length),(24,.sl (s.pals.map Pal.v)),(25,.int .i64 s.pals.length),(26,.int .i64 j)] (stTb g tab)
   = some (.exit 0,[(5,.osl 2 (tab++r.map (rowP s)).length)],stTb g (tab++r.map (rowP s))):=by
 obtain ⟨hn,hp,hpl,hpn⟩:=sho_parts hs
 have hl:=h.l.1
 refine drop_ind (fun j h tab hc=>?_) (fun q r j hj hx hd ih tab hc=>?_)
 all_goals rw [runL_of B24_2.eq_1]
 ·have h1:¬(j:Int)<s.pals.length:=by omega
  push_cast [h1,List.map_nil,List.append_nil]
 ·have h1:(j:Int)<s.pals.length:=by omega
  have hw:=iw1 (j:=j) (by omega)
  have hm:=mem_at hd
  obtain ⟨q1,q2⟩:=hpn q hm
  obtain ⟨u1,u2⟩:=uses_of (p:=q.num) hs
  have u3:=join_le (t:=[44,32]) u2 u1 (Nat.le_refl _) (by decide)
  have hL:=L24_1 (g:=g) (s:=s) (pl:=q) (tab:=tab) (i:=j) hG ‹s.ok› hs _ 0 rfl [] (by simp)
  have e1:=fun nx mem arr obj ty=>f58 (m:=q.num) (st:=⟨nx,mem,arr,⟨obj,g,ty⟩⟩) (by omega) (by omega) hG
  have hh:=(‹s.ok›).l.2 q hm
  have e2:=fun nx mem arr obj ty=>f58 (m:=(q.hues.length:Nat)) (st:=⟨nx,mem,arr,⟨obj,g,ty⟩⟩) (by omega) (by omega) hG
  have e3:=fun (st:St)=>h100 (ss:=s.lsts.flatMap (usesL q.num)) (t:=[44,32]) (st:=st) (by omega) (by omega)
  have e4:=fun (st:St)=>h66 (l:=(rowP s q).map .str) (st:=st) (by simp [rowP,V.bdL,V.bd])
  have hr:roomV (tab.length+1) 24=true:=roomV_lit (by omega) (by omega)
  have ih:=ih (tab++[rowP s q]) (by simp;omega)
  rw [List.drop_zero,List.nil_append] at hL
  rw [List.map_cons]
  generalize hR:rowP s q=R at *
  rw [rowP] at hR
  generalize s.lsts.flatMap (usesL q.num)=us at *
  subst hR
  simp only [List.map_cons,List.map_nil] at e4
  push_cast [Sho.v,Pal.v,Lst.v,List.map_nil,List.length_nil] at hL ih
  push_cast [h1,hw,hx,hL,e1,e2,e3,e4,hr,Sho.v,Pal.v,Lst.v,List.map_nil,List.length_nil,List.map_append,List.map_cons,List.append_assoc,List.singleton_append,rowV] at ih ⊢
  first|exact ih|exact dn_eq (by omega) ih
def hdP:Row:=[[112,97,108,101,116,116,101],[104,117,101,115],[99,117,101,115]]
def palT (s:Sho):List Row:=if shoC s=0 then hdP::s.pals.map (rowP s) else []
theorem f24 {s:Sho} (h:s.ok) {st:St} (hG:glB st.x.gl=true):run Tryz.prog HH 24 [s.v] st=some (.ret (.tup [.sl ((palT s).map rowV),.int .i64 (shoC s)]),st):=by
 have h1:=fun st=>f54 (st:=st) h
 rw [run_shut F24 rfl rfl (by simp)]
 by_cases hs:shoC s=0
 ·have hL:=L24_2 (g:=st.x.gl) hG h hs _ 0 rfl [hdP] (Nat.le_refl _)
  have e4:=fun (st:St)=>h66 (l:=hdP.map .str) (st:=st) rfl
  rw [List.drop_zero] at hL
  simp only [hdP,List.map_cons,List.map_nil] at e4
  rw [hdP] at hL
  push_cast [Sho.v,rowV,List.map_cons,List.map_nil,List.length_cons,List.length_nil,List.singleton_append] at hL h1
  push_cast [Sho.v,hL,h1,hs,palT,e4,hdP,rowV,List.map_cons,List.map_nil,List.length_cons,List.length_nil,List.singleton_append]
 ·push_cast [Sho.v] at h1
  push_cast [Sho.v,h1,hs,palT]
end Go.Proofs.YtanojbajfgcjeaaGreatDoor

namespace Go.Proofs.YtanojbajfgcjeaaGreatDoor
open Go.Sha
set_option maxRecDepth 100000
theorem dec_digs:∀(k u:Nat),u<k→∀b∈Lib.decDigits u,isD b=true
 |0,_,h,_,_=>absurd h (Nat.not_lt_zero _)
 |k+1,u,h,b,hb=>by
  rw [Lib.decDigits] at hb
  have hd:∀m,m<10→isD (UInt8.ofNat (48+m))=true:=by decide
  split at hb
  ·rename_i h1
   rw [List.mem_singleton] at hb;subst hb
   exact hd u h1
  ·rcases List.mem_append.1 hb with hb|hb
   ·exact dec_digs k (u / 10) (by omega) b hb
   ·rw [List.mem_singleton] at hb;subst hb
    exact hd (u % 10) (by omega)
theorem itoa_digs {m:Int} (h:0≤m):∀b∈Lib.itoa m,isD b=true:=by
 unfold Lib.itoa
 rw [if_neg (by omega)]
 exact dec_digs _ _ (Nat.lt_succ_self _)
theorem pre2 {a b:UInt8} {l:List UInt8}:[a,b].isPrefixOf l=(decide (l[0]?=some a)&&decide (l[1]?=some b)):=by
 match l with
 |[]=>rfl
 |[x]=>simp [List.isPrefixOf]
 |x::y::r =>
  simp only [List.isPrefixOf,Bool.and_true,List.getElem?_cons_zero,List.getElem?_cons_succ,Option.some.injEq]
  congr 1<;>(rw [Bool.eq_iff_iff];simp;exact eq_comm)
theorem idx_free {x:List UInt8} (h:∀b∈x,b≠44):Lib.index x [44,32]=-1:=by
 refine Lib.index_none fun j hj=>?_
 unfold Lib.occAt
 rw [pre2,Bool.and_eq_false_iff]
 refine .inl (decide_eq_false fun e=>?_)
 rw [List.getElem?_drop] at e
 exact h _ (List.mem_of_getElem? e) rfl
theorem idx_at {x y:List UInt8} (h:∀b∈x,b≠44):Lib.index (x++([44,32]++y)) [44,32]=x.length:=by
 refine Lib.index_first (by simp) ?_ fun j hj=>?_
 ·unfold Lib.occAt
  rw [List.drop_left' rfl]
  simp [List.isPrefixOf]
 ·unfold Lib.occAt
  rw [pre2,Bool.and_eq_false_iff]
  refine .inl (decide_eq_false fun e=>?_)
  rw [List.getElem?_drop,Nat.add_zero,List.getElem?_append_left hj] at e
  exact h _ (List.mem_of_getElem? e) rfl
theorem join_two {x y:List UInt8} {r:List (List UInt8)} {t:List UInt8}:Lib.join (x::y::r) t=x++(t++Lib.join (y::r) t):=by
 rw [Lib.join_cons,Lib.join_cons]
 simp [Lib.joinTail]
theorem count_join {x:List UInt8}:∀{r:List (List UInt8)},(∀s∈x::r,∀b∈s,b≠44)→Lib.count (Lib.join (x::r) [44,32]) [44,32]=r.length
 |[],h=>by
  rw [Lib.join_one]
  exact Lib.count_miss (idx_free (h x (List.mem_cons_self ..)))
 |y::r,h=>by
  rw [join_two,Lib.count_hit (by simp) (idx_at (h x (List.mem_cons_self ..)))]
  have:(x++([44,32]++Lib.join (y::r) [44,32])).drop (x.length+[(44:UInt8),32].length)=Lib.join (y::r) [44,32]:=by
   rw [←List.append_assoc];exact List.drop_left' (by simp)
  rw [this,count_join (r:=r) fun s hs=>h s (List.mem_cons_of_mem _ hs),List.length_cons]
  omega
theorem slash_join:∀{l:List (List UInt8)},(∀s∈l,s.count 47=1)→(Lib.join l [44,32]).count 47=l.length
 |[],_=>rfl
 |[x],h=>by rw [Lib.join_one];exact h x (List.mem_cons_self ..)
 |x::y::r,h=>by
  rw [join_two,List.count_append,List.count_append,slash_join (l:=y::r) fun s hs=>h s (List.mem_cons_of_mem _ hs),h x (List.mem_cons_self ..)]
  simp only [List.length_cons]
  rw [show List.count 47 [(44:UInt8),32]=0 by decide];omega
theorem digs_ne {b:UInt8} (h:isD b=true∨b=46):b≠44∧b≠47:=by
 rcases h with h|rfl
 ·unfold isD at h
  simp only [Bool.and_eq_true,decide_eq_true_eq] at h
  constructor<;>(rintro rfl;simp at h)
 ·decide
theorem use_ok {m:Int} {q:List UInt8} (hm:0≤m) (hq:numC q=0):(∀b∈useT m q,b≠44)∧(useT m q).count 47=1:=by
 have h1:=itoa_digs hm
 have h2:=(num_chars hq).2
 have c1:(Lib.itoa m).count 47=0:=List.count_eq_zero.2 fun h=>(digs_ne (.inl (h1 _ h))).2 rfl
 have c2:q.count 47=0:=List.count_eq_zero.2 fun h=>(digs_ne (h2 _ h)).2 rfl
 constructor
 ·intro b hb
  simp only [useT,List.append_assoc,List.mem_append,List.mem_cons,List.not_mem_nil,or_false] at hb
  rcases hb with hb|(rfl|rfl|rfl)|hb
  ·exact (digs_ne (.inl (h1 _ hb))).1
  ·decide
  ·decide
  ·decide
  ·exact (digs_ne (h2 _ hb)).1
 ·rw [useT,List.count_append,List.count_append,c1,c2];decide
theorem uses_law {s:Sho} {p:Int} (hs:shoC s=0):(Lib.join (s.lsts.flatMap (usesL p)) [44,32]).count 47=(s.lsts.flatMap (usesL p)).length∧Lib.count (Lib.join (s.lsts.flatMap (usesL p)) [44,32]) [44,32]=(s.lsts.flatMap (usesL p)).length-1:=by
 obtain ⟨hn,hp,-,-⟩:=sho_parts hs
 have hu:∀q∈s.lsts.flatMap (usesL p),(∀b∈q,b≠44)∧q.count 47=1:=by
  intro q hq
  obtain ⟨x,hx,hq⟩:=List.mem_flatMap.1 hq
  obtain ⟨z,hz,rfl⟩:=List.mem_map.1 hq
  obtain ⟨p1,p2,-,-⟩:=lst_parts (hp x hx)
  exact use_ok (by omega) ((refs_le (hp x hx)).2 z hz)
 generalize s.lsts.flatMap (usesL p)=us at *
 refine ⟨slash_join fun q hq=>(hu q hq).2,?_⟩
 cases us with
 |nil=>decide
 |cons x r=>rw [count_join fun q hq=>(hu q hq).1];simp
end Go.Proofs.YtanojbajfgcjeaaGreatDoor

namespace Go.Proofs.YtanojbajfgcjeaaGreatDoor
open Go.Sha Go.RowKit
set_option maxRecDepth 100000
variable {g:List (Nat×Obj)} {n:Nat}
theorem v27' {s:List UInt8} {a b:UInt8} {r:List UInt8} (hs:s.length≤4000000000) {v:GV} {st:St} (hg:st.x.gl=glK v):VRet Tryz.prog 27 [.str s,.str (a::b::r)] st (.int .i64 (Lib.count s (a::b::r):Nat)) st:=by
 refine VRet_of_below callable27 (fun w A vs hw ha=>?_)
 obtain ⟨hl,ha⟩:=ha
 match vs,hl with
 |[u,x],_ =>
 have e1:=(ha 0 u _ rfl rfl).str_inv
 have e2:=(ha 1 x _ rfl rfl).str_inv
 subst e1;subst e2
 have hm:=(hw.x.gl (0,.cells #[.int .i64 v.m] v.c v.z) (by rw [hg];simp [glK])).1
 refine (Any.strings_Count Tryz.lays138 ⟨s.toArray⟩ ⟨(a::b::r).toArray⟩ v.m w (by simp [ByteArray.size];omega) (by show w.cell? ⟨0,0,none⟩=_;simp [World.cell?,hm]) (by simp [ByteArray.size])).mono fun e w' ⟨he,hb⟩=>?_
 subst he;subst hb
 exact ⟨_,rfl,fun w' A'=>.int _ _,Below.refl _ _⟩
open Classical in
noncomputable def hCnt (gl:List (Nat×Obj)):List V→Option VRes
 |[.str s,.str [c]]=>some (.ret (.int .i64 (s.count c:Nat)))
 |[.str s,.str (a::b::r)]=>if (∃v,gl=glK v)∧s.length≤4000000000 then some (.ret (.int .i64 (Lib.count s (a::b::r):Nat))) else none
 |_=>none
def memB:List Nat:=[20,24,25,26]
noncomputable def HB:EvF:=⟨[],fun f args st=>bif Nat.beq f 27 then (hCnt st.x.gl args).map (fun r=>(r,st)) else bif Nat.beq f 10 then run Tryz.prog HA f args st else bif inL f memB then run Tryz.prog HH f args st else none⟩
@[push_cast]theorem HB_raw:HB.raw=[]:=@_root_.id (_=_) rfl
theorem HB_ok (h1:ESound Tryz.prog HH) (h2:ESound Tryz.prog HA):ESound Tryz.prog HB:=fun f args st r s h=>by
 simp only [HB] at h
 by_cases hf:f=27
 ·subst hf
  simp only [show Nat.beq 27 27=true from rfl,cond_true] at h
  obtain ⟨z,hz,e⟩:=Option.map_eq_some_iff.1 h
  cases e
  unfold hCnt at hz
  split at hz
  ·cases hz;exact v27
  ·split at hz
   ·rename_i hx
    obtain ⟨⟨v,hg⟩,hs⟩:=hx
    cases hz
    exact v27' hs hg
   ·cases hz
  ·cases hz
 rw [show Nat.beq f 27=false from Bool.eq_false_iff.2 fun e=>hf (Nat.eq_of_beq_eq_true e),cond_false] at h
 by_cases hf:f=10
 ·subst hf
  simp only [show Nat.beq 10 10=true from rfl,cond_true] at h
  exact run_sound mixed h2 _ _ _ _ _ h
 rw [show Nat.beq f 10=false from Bool.eq_false_iff.2 fun e=>hf (Nat.eq_of_beq_eq_true e),cond_false] at h
 cases hi:inL f memB with
 |false=>rw [hi] at h;cases h
 |true=>rw [hi] at h;exact run_sound mixed h1 _ _ _ _ _ h
theorem upB {k:Nat} {args:List V} {st:St} {r:VRes×St} (h:run Tryz.prog HH k args st=some r) (h1:Nat.beq k 27=false:=by rfl) (h3:Nat.beq k 10=false:=by rfl) (h2:inL k memB=true:=by rfl):run Tryz.prog HB k args st=some r:=by
 refine run_H ?_
 simp only [HB,h1,h2,h3,cond_false,cond_true,h]
theorem awkB {st:St} {v:GV} (hg:st.x.gl=glK v):run Tryz.prog HB 10 [] st=some (.ret (.bool true),st):=by
 refine run_H ?_
 simp only [HB,show Nat.beq 10 27=false from rfl,show Nat.beq 10 10=true from rfl,cond_false,cond_true]
 obtain ⟨nx,mem,arr,⟨obj,gl,ty⟩⟩:=st
 cases hg
 exact f10 (v:=v) _ _ _ _ _
theorem f20 {x:Sho} (h:x.ok):∃b,∀st,run Tryz.prog HH 20 [x.v] st=some (.ret (.bool (b&&shoC x == 0)),st):=by
 obtain ⟨b,hb⟩:=f52 h
 refine ⟨b,fun st=>?_⟩
 have h1:=fun st=>f53 (st:=st) h
 push_cast [Sho.v] at hb h1
 rw [run_shut F20 rfl rfl (by simp)]
 cases b<;>push_cast [Sho.v,hb,h1]
end Go.Proofs.YtanojbajfgcjeaaGreatDoor

namespace Go.Proofs.YtanojbajfgcjeaaGreatDoor
open Go.Sha
set_option maxRecDepth 100000
variable {g:List (Nat×Obj)} {n:Nat}
theorem L6_0 {s:Sho} {pl:Pal} {rows:List Row} {i i':Nat} (h:s.ok) (hs:shoC s=0):∀r j,s.lsts.drop j=r→∀a:Nat,a≤64*j →
  runL Tryz.prog HB [1,3,5,6,7,34,35,36,42,43,44] n B6_0 [(1,.ep s.v 0),(3,.sl (rows.map rowV)),(5,.int .i64 i),(6,.ep pl.v 0),(7,.int .i64 a),(34,.sl (s.pals.map Pal.v)),(35,.int .i64 s.pals.length),(36,.int .i64 i'),(42,.sl (s.lsts.map Lst.v)),(43,.int .i64 s.lsts.length),(44,.int .i64 j)] (stN g n)
   = some (.exit 2,[(1,.ep s.v 0),(3,.sl (rows.map rowV)),(5,.int .i64 i),(6,.ep pl.v 0),(7,.int .i64 (a+(r.flatMap (usesL pl.num)).length:Nat)),(34,.sl (s.pals.map Pal.v)),(35,.int .i64 s.pals.length),(36,.int .i64 i')],stN g n):=by
 obtain ⟨hn,hp,-,-⟩:=sho_parts hs
 have hl:=h.k.1
 refine drop_ind (fun j h a ha=>?_) (fun q r j hj hx hd ih a ha=>?_)
 all_goals rw [runL_of B6_0.eq_1]
 ·have h1:¬(j:Int)<s.lsts.length:=by omega
  push_cast [h1,List.flatMap_nil,List.length_nil,Nat.add_zero]
 ·have h1:(j:Int)<s.lsts.length:=by omega
  have hw:=iw1 (j:=j) (by omega)
  have hm:=mem_at hd
  have hq:=hp q hm
  have r1:=(refs_le (p:=pl.num) hq).1
  have h36:=fun (st:St)=>upB (f25 (p:=pl.num) (st:=st) (h.k.2 q hm))
  rw [show refsC pl.num q=refsL pl.num q.cues by rw [refsC,if_pos hq],hq] at h36
  have hul:(usesL pl.num q).length=(refsL pl.num q.cues).length:=by rw [usesL,List.length_map]
  have ih:=ih (a+(refsL pl.num q.cues).length) (by omega)
  rw [List.flatMap_cons,List.length_append,hul,←Nat.add_assoc]
  have hw2:IntKind.i64.wrap ((a:Int)+(refsL pl.num q.cues).length)=((a+(refsL pl.num q.cues).length:Nat):Int):=by rw [iwrap (by omega) (by omega)];omega
  generalize refsL pl.num q.cues=rf at *
  generalize hb:a+rf.length=b at *
  generalize b+(r.flatMap (usesL pl.num)).length=c at *
  push_cast [Sho.v,Pal.v,Lst.v] at ih h36
  push_cast [h1,hw,hx,h36,hw2,Sho.v,Pal.v,Lst.v] at ih ⊢
  first|exact ih|exact dn_eq (by omega) ih
theorem itoa_run {m:Int} (h0:-9223372036854775808≤m) (h1:m≤9223372036854775807) {st:St} (hG:glB st.x.gl=true):run Tryz.prog HB 26 [.int .i64 m] st=some (.ret (.str (Lib.itoa m)),st):=upB (run_H (by
 show (hItoa st.x.gl [.int .i64 m]).map (fun r=>(r,st))=_
 rw [hItoa,hG,decide_eq_true h0,decide_eq_true h1];rfl))
theorem cnt1 {s:List UInt8} {st:St}:run Tryz.prog HB 27 [.str s,.str [47]] st=some (.ret (.int .i64 (s.count 47:Nat)),st):=run_H rfl
theorem cnt2 {s:List UInt8} (hs:s.length≤4000000000) {v:GV} {st:St} (hg:st.x.gl=glK v):run Tryz.prog HB 27 [.str s,.str [44,32]] st=some (.ret (.int .i64 (Lib.count s [44,32]:Nat)),st):=run_H (by
 show (hCnt st.x.gl [.str s,.str [44,32]]).map (fun r=>(r,st))=_
 rw [hCnt,if_pos ⟨⟨v,hg⟩,hs⟩];rfl)
theorem L6_1 {s:Sho} {v:GV} (hg:g=glK v) (hG:glB g=true) (h:s.ok) (hs:shoC s=0):∀r j,s.pals.drop j=r →
  runL Tryz.prog HB [1,3,34,35,36] n B6_1 [(1,.ep s.v 0),(3,.sl ((palT s).map rowV)),(34,.sl (s.pals.map Pal.v)),(35,.int .i64 s.pals.length),(36,.int .i64 j)] (stN g n)=some (.exit 0,[],stN g n):=by
 obtain ⟨hn,hp,hpl,hpn⟩:=sho_parts hs
 have hl:=h.l.1
 have htl:(palT s).length=s.pals.length+1:=by rw [palT,if_pos hs];simp
 have htg:∀j q r,s.pals.drop j=q::r→∀d,(palT s).getD (j+1) d=rowP s q:=fun j q r hd d=>by
  have hlt:=drop_le hd
  have hx:s.pals[j]?=some q:=by
   have:=congrArg (fun l=>l[0]?) hd
   simpa [List.getElem?_drop] using this
  rw [palT,if_pos hs,List.getD_eq_getElem?_getD,List.getElem?_cons_succ,List.getElem?_map,hx];rfl
 generalize palT s=tab at *
 refine drop_ind (fun j h=>?_) (fun q r j hj hx hd ih=>?_)
 all_goals rw [runL_of B6_1.eq_1]
 ·have h1:¬(j:Int)<s.pals.length:=by omega
  push_cast [h1]
 ·have h1:(j:Int)<s.pals.length:=by omega
  have h2:(j:Int)+1<s.pals.length+1:=by omega
  have h3:(0:Int)≤j+1:=by omega
  have hw:=iw1 (j:=j) (by omega)
  have hm:=mem_at hd
  obtain ⟨q1,q2⟩:=hpn q hm
  have hgd:=htg j q r hd
  have hL:=fun n=>L6_0 (g:=g) (n:=n) (s:=s) (pl:=q) (rows:=tab) (i:=j) (i':=j) ‹s.ok› hs _ 0 rfl 0 (Nat.zero_le _)
  have e1:=fun nx mem arr obj ty=>itoa_run (m:=q.num) (st:=⟨nx,mem,arr,⟨obj,g,ty⟩⟩) (by omega) (by omega) hG
  obtain ⟨u1,u2⟩:=uses_of (p:=q.num) hs
  have u3:=join_le (t:=[44,32]) u2 u1 (Nat.le_refl _) (by decide)
  obtain ⟨w1,w2⟩:=uses_law (p:=q.num) hs
  have e2:=fun st=>cnt1 (s:=Lib.join (s.lsts.flatMap (usesL q.num)) [44,32]) (st:=st)
  have e3:=fun nx mem arr obj ty=>cnt2 (s:=Lib.join (s.lsts.flatMap (usesL q.num)) [44,32]) (v:=v) (st:=⟨nx,mem,arr,⟨obj,g,ty⟩⟩) (by omega) hg
  rw [List.drop_zero] at hL
  simp only [Nat.zero_add] at hL
  rw [w1] at e2
  rw [w2] at e3
  rw [rowP] at hgd
  generalize Lib.join (s.lsts.flatMap (usesL q.num)) [44,32]=js at *
  generalize (s.lsts.flatMap (usesL q.num)).length=m at *
  have w3:IntKind.i64.wrap ((m:Int)-1)=(m:Int)-1:=iwrap (by omega) (by omega)
  push_cast [Sho.v,Pal.v,Lst.v,rowV] at hL ih
  push_cast [h1,h2,h3,hw,hx,hL,e1,e2,e3,hgd,w3,htl,rowV,Int.toNat_natCast_add_one,Sho.v,Pal.v,Lst.v,List.map_cons,List.map_nil,List.length_cons,List.length_nil] at ih ⊢
  rw [if_neg (by omega)]
  exact ih
theorem l8 {s:Sho} (h:s.ok) {v:GV} {st:St} (hg:st.x.gl=glK v) (hG:glB st.x.gl=true):run Tryz.prog HB 6 [s.v] st=some (.ret (.bool true),st):=by
 obtain ⟨b,hb⟩:=f20 h
 have h31:=fun st=>upB (hb st)
 have hA:=fun nx mem arr obj ty=>awkB (st:=⟨nx,mem,arr,⟨obj,st.x.gl,ty⟩⟩) hg
 have h35:=fun nx mem arr obj ty=>upB (f24 (st:=⟨nx,mem,arr,⟨obj,st.x.gl,ty⟩⟩) h hG)
 rw [run_shut F6 rfl rfl (by simp)]
 by_cases hc:(b&&shoC s == 0)=true
 ·have hs:shoC s=0:=by
   simp only [Bool.and_eq_true,beq_iff_eq] at hc
   exact hc.2
  have hL:=fun n=>L6_1 (g:=st.x.gl) (n:=n) hg hG h hs _ 0 rfl
  have htl:(palT s).length=s.pals.length+1:=by rw [palT,if_pos hs];simp
  have hpl:=(sho_parts hs).2.2.1
  have hw:IntKind.i64.wrap ((s.pals.length:Int)+1)=(s.pals.length:Int)+1:=iwrap (by omega) (by omega)
  rw [hc] at h31
  rw [hs] at h35
  generalize palT s=tab at *
  push_cast [Sho.v] at hL h31 h35
  push_cast [Sho.v,h31,h35,hL,htl,hw,hA]
 ·rw [Bool.not_eq_true] at hc
  rw [hc] at h31
  push_cast [Sho.v] at h31
  push_cast [Sho.v,h31,hA]
end Go.Proofs.YtanojbajfgcjeaaGreatDoor

namespace Go.Proofs.YtanojbajfgcjeaaGreatDoor
open Go.Sha
set_option maxRecDepth 10000
def B5_0 : Cd := (.g [.b 40 .lss 39 38]
 (.join [1, 5, 6, 7, 37, 38, 39] (.i 40 .skip
 (.exit [1, 5] 0))
 (.join [1, 5, 6, 7, 37, 38, 39] (.block 1 (.g [.r 41 1 37 39,
.l 42 41,
.m 9 42]
 (.join [1, 5, 6, 7, 9, 37, 38, 39] (.g [.m 43 9,
.u 44 43,
.v 45 .neq 44 5]
 (.i 45 (.g [.k 2 false]
 (.ret [2]))
 .skip))
 (.g [.m 47 9,
.s 48 (.iadr 1 (.t 47) (.i 0)),
.l 49 48,
.f 50 22 49,
.m 46 50,
.j 51 0 46,
.j 52 1 46,
.m 10 51,
.m 11 52]
 (.g [.m 54 9,
.s 55 (.iadr 1 (.t 54) (.i 1)),
.l 56 55,
.f 57 22 56,
.m 53 57,
.j 58 0 53,
.j 59 1 53,
.m 12 58,
.m 13 59]
 (.g [.m 61 9,
.s 62 (.iadr 1 (.t 61) (.i 2)),
.l 63 62,
.f 64 22 63,
.m 60 64,
.j 65 0 60,
.j 66 1 60,
.m 14 65,
.m 15 66]
 (.join [1, 5, 10, 12, 14, 37, 38, 39] (.join [1, 5, 10, 12, 14, 37, 38, 39, 96] (.reg [.m 67 11,
.s 68 (.gen (.eqi true) [.t 67]),
.m 69 68,
.mx 70 13 69,
.x 71 (.gen (.eqi true) [.t 70]) 69,
.o 72 69 71,
.m 73 72,
.mx 74 15 73,
.x 75 (.gen (.eqi true) [.t 74]) 73,
.o 76 73 75,
.m 77 76,
.mx 78 10 77,
.mx 79 6 77,
.bx 80 .lss 78 79 77,
.o 81 77 80,
.m 82 81,
.mx 83 10 82,
.mx 84 6 82,
.bx 85 .eql 83 84 82,
.mx 86 85 82,
.my 87 12 86,
.my 88 7 86,
.by' 89 .leq 87 88 86,
.x 90 (.pick (.t 86) (.t 89) (.c (.bool false))) 82,
.o 91 82 90,
.m 92 91,
.mx 93 14 92,
.mx 94 12 92,
.bx 95 .lss 93 94 92,
.o 96 92 95])
 (.i 96 (.g [.k 2 false]
 (.ret [2]))
 .skip))
 (.g [.m 97 10,
.m 98 14,
.m 6 97,
.m 7 98]
 (.reg [.m 99 5,
.m 100 10,
.s 101 (.act (.look (.i .i64) (.i 0) false) [.t 99,.t 100]),
.m 102 14,
.m 103 12,
.b 104 .sub 102 103,
.v 105 .add 104 1,
.b 106 .add 101 105,
.n (.act (.mset (.i .i64)) [.t 99, .t 100, .t 106])])))))))))
 (.reg [.v 107 .add 39 1,
.m 39 107]))))
def B5_1:Cd:=(.join [1,5,16] (.g [.m 108 16,
.v 109 .leq 108 8]
 (.i 109 .skip
 (.exit [] 2)))
 (.join [1, 5, 16] (.block 3 (.g [.a 113 3 1,
.l 114 113,
.a 115 2 1,
.l 116 115,
.m 117 16,
.s 118 (.f 23 [.t 114,.t 116,.t 117]),
.m 112 118,
.j 119 0 112,
.j 120 1 112,
.m 17 119,
.m 18 120]
 (.join [1, 5, 16, 129] (.reg [.m 121 18,
.v 122 .neq 121 0,
.m 123 122,
.mx 124 17 123,
.mx 125 5 123,
.mx 126 16 123,
.x 127 (.act (.look (.i .i64) (.i 0) false) [.t 125,.t 126]) 123,
.bx 128 .neq 124 127 123,
.o 129 123 128])
 (.i 129 (.g [.k 2 false]
 (.ret [2]))
 .skip))))
 (.reg [.m 110 16,
.v 111 .add 110 1,
.m 16 111])))
theorem F5:compF Tryz.prog 5=some ⟨131,[.tmp 2],(.g [.q 1 50 0,
.k 2 false]
 (.z [1] (.join [1] (.g [.d 19 9 1,
.f 20 20 19,
.z 21 20]
 (.i 21 (.g [.s 22 (.f 10 []),
.m 2 22]
 (.ret [2]))
 .skip))
 (.g [.d 24 9 1,
.f 25 21 24,
.m 23 25,
.j 26 0 23,
.j 27 1 23,
.m 3 26,
.m 4 27]
 (.join [1, 3] (.join [1, 3, 34] (.reg [.m 28 4,
.v 29 .neq 28 0,
.m 30 29,
.mx 31 3 30,
.x 32 (.len (.t 31)) 30,
.vx 33 .eql 32 0 30,
.o 34 30 33])
 (.i 34 (.g [.k 2 false]
 (.ret [2]))
 .skip))
 (.g [.s 35 (.act .mkmap []),
.m 5 35]
 (.g [.c 6 0,
.c 7 0]
 (.join [1, 5] (.g [.m 36 3,
.s 37 (.slice 1 (.t 36) (some (.i 1)) none none),
.u 38 37,
.c 39 0]
 (.block 0 (.loop [1, 5, 6, 7, 37, 38, 39] [] B5_0)))
 (.join [] (.g [.c 16 1]
 (.block 2 (.loop [1, 5, 16] [] B5_1)))
 (.g [.s 130 (.f 10 []),
.m 2 130]
 (.ret [2])))))))))))⟩ := by kernel_rfl
def B21_0 : Cd := (.g [.b 21 .lss 20 19]
 (.join [1, 5, 18, 19, 20] (.i 21 .skip
 (.exit [1, 5] 0))
 (.join [1, 5, 18, 19, 20] (.block 1 (.g [.r 22 4 18 20,
.d 23 4 22,
.s 7 (.alloc 116 [(.str []),.i 0,.i 0,.nils]),
.w 4 7 23]
 (.z [7] (.reg [.m 24 5,
.a 25 0 7,
.l 26 25,
.a 27 1 7,
.l 28 27,
.n (.act (.mset .s) [.t 24, .t 26, .t 28])]))))
 (.reg [.v 29 .add 20 1,
.m 20 29]))))
def B21_1 : Cd := (.g [.b 37 .lss 36 35]
 (.join [5, 8, 34, 35, 36] (.i 37 .skip
 (.exit [8] 2))
 (.join [5, 8, 34, 35, 36] (.block 3 (.g [.r 38 7 34 36,
.d 39 7 38,
.s 10 (.alloc 120 [.i 0,.i 0,(.str []),.i 0,.i 0,.i 0,(.str [])]),
.w 7 10 39]
 (.z [10] (.greg [[], [], [], [], [], [], [], [], [], [], [], [], [false, false, false, true, true, true, true, true, true, true, true, true], [], [], [], [true], [], [true], [true], [false, false, false, false, false, false, false, false, false, false, false, false, false, false, false, false, false, false, false, true], [], [false, false, false, false, false, false, false, false, false, false, false, false, false, false, false, false, false, false, false, false, false, true], [false, false, false, false, false, false, false, false, false, false, false, false, false, false, false, false, false, false, false, false, false, false, false], []] [.m 40 8,
.a 41 3 10,
.l 42 41,
.f 43 58 42,
.a 44 4 10,
.l 45 44,
.f 46 58 45,
.a 47 4 10,
.l 48 47,
.m 49 5,
.a 50 2 10,
.l 51 50,
.s 52 (.act (.look .s (.i 0) false) [.t 49,.t 51]),
.b 53 .add 48 52,
.v 54 .sub 53 1,
.f 55 58 54,
.d 56 7 10,
.f 57 59 56,
.a 58 2 10,
.l 59 58,
.s 60 (.bslice 9 1 [.t 43,.t 46,.t 55,.t 57,.t 59]),
.f 61 55 60,
.s 62 (.bslice 31 1 [.t 61]),
.s 63 (.append 31 1 24 (.t 40) (.t 62)),
.m 8 63]))))
 (.reg [.v 64 .add 36 1,
.m 36 64]))))
theorem F21:compF Tryz.prog 21=some ⟨66,[.tmp 2,.tmp 3],(.g [.q 1 50 0,
.s 2 (.mv (.c .nils)),
.c 3 0]
 (.z [1] (.join [1] (.g [.d 11 9 1,
.f 12 54 11,
.m 4 12]
 (.g [.m 13 4,
.v 14 .neq 13 0]
 (.i 14 (.g [.m 15 4,
.s 2 (.mv (.c .nils)),
.m 3 15]
 (.ret [2, 3]))
 .skip)))
 (.g [.s 16 (.act .mkmap []),
.m 5 16]
 (.join [1, 5] (.g [.a 17 2 1,
.l 18 17,
.u 19 18,
.c 20 0]
 (.block 0 (.loop [1, 5, 18, 19, 20] [] B21_0)))
 (.g [.s 30 (.bslice 9 1 [(.w [117, 110, 105, 118, 101, 114, 115, 101]), (.w [102, 114, 111, 109]), (.w [116, 111]), (.w [99, 104, 97, 110, 110, 101, 108]), (.w [112, 114, 111, 102, 105, 108, 101])]),
.f 31 55 30,
.s 32 (.bslice 31 1 [.t 31]),
.m 8 32]
 (.join [8] (.g [.d 33 9 1,
.s 34 (.f 56 [.t 33,(.c (.fn (.func 57) [] []))]),
.u 35 34,
.c 36 0]
 (.block 2 (.loop [5, 8, 34, 35, 36] [(8, (31, 1))] B21_1)))
 (.g [.m 65 8,
.m 2 65,
.c 3 0]
 (.ret [2, 3])))))))))⟩ := by kernel_rfl
def B23_0 : Cd := (.g [.v 26 .lss 25 513]
 (.join [10, 24, 25] (.i 26 .skip
 (.exit [10] 0))
 (.join [10, 24, 25] (.block 1 (.g [.s 27 (.gen (.ia 513 none 1) [.t 24, .t 25]),
.m 12 27]
 (.g [.m 28 12,
.v 29 .gtr 28 0]
 (.i 29 (.reg [.m 30 10,
.v 31 .add 30 1,
.m 10 31])
 .skip))))
 (.reg [.v 32 .add 25 1,
.m 25 32]))))
theorem F23:compF Tryz.prog 23=some ⟨34,[.tmp 6,.tmp 7],(.g [.c 6 0,
.c 7 0]
 (.g [.m 14 0,
.m 15 1,
.g' 16 62 14 15,
.m 13 16,
.j 17 0 13,
.j 18 1 13,
.s 8 (.alloc 126 [.nils,.nilm]),
.w 2 8 17,
.m 9 18]
 (.z [8] (.join [2, 8] (.g [.m 19 9,
.v 20 .neq 19 0]
 (.i 20 (.g [.m 21 9,
.c 6 0,
.m 7 21]
 (.ret [6, 7]))
 .skip))
 (.g [.c 10 0]
 (.join [10] (.g [.d 22 2 8,
.m 23 2,
.g' 24 63 22 23,
.c 25 0]
 (.block 0 (.loop [10, 24, 25] [] B23_0)))
 (.g [.m 33 10,
.m 6 33,
.c 7 0]
 (.ret [6, 7]))))))))⟩ := by kernel_rfl
theorem F56:compF Tryz.prog 56=some ⟨13,[.tmp 4],(.g [.q 2 50 0,
.q 3 121 1,
.s 4 (.mv (.c .nils))]
 (.z [2, 3] (.g [.a 6 3 2,
.l 7 6,
.f 8 121 7,
.m 5 8]
 (.g [.m 9 5,
.s 10 (.mkfn (.func 123) [] [.t 3]),
.g' 11 122 9 10]
 (.g [.m 12 5,
.m 4 12]
 (.ret [4]))))))⟩ := by kernel_rfl
theorem F57:compF Tryz.prog 57=some ⟨8,[.tmp 2,.tmp 3],(.g [.q 1 120 0,
.c 2 0,
.c 3 0]
 (.z [1] (.q (.dreg 6 [.a 4 3 1,
.l 5 4,
.a 6 4 1,
.l 7 6,
.m 2 5,
.m 3 7])
 (.ret [2, 3]))))⟩ := by kernel_rfl
theorem F59:compF Tryz.prog 59=some ⟨17,[.tmp 2],(.g [.q 1 120 0,
.s 2 (.mv (.w []))]
 (.z [1] (.join [1] (.g [.a 3 1 1,
.l 4 3,
.v 5 .eql 4 1]
 (.i 5 (.g [.a 6 0 1,
.l 7 6,
.f 8 58 7,
.m 2 8]
 (.ret [2]))
 .skip))
 (.q (.dreg 9 [.a 9 0 1,
.l 10 9,
.f 11 58 10,
.s 12 (.bin .add (.t 11) (.w [46])),
.a 13 1 1,
.l 14 13,
.f 15 58 14,
.b 16 .add 12 15,
.m 2 16])
 (.ret [2])))))⟩ := by kernel_rfl
theorem F62:compF Tryz.prog 62=some ⟨17,[.cell 4 (some 2),.tmp 5],(.g [.s 4 (.alloc 126 [.nils,.nilm]),
.c 5 0]
 (.join [0, 1, 4] (.g [.m 7 0,
.m 8 1,
.g' 9 131 7 8,
.m 6 9]
 (.g [.m 10 6,
.v 11 .neq 10 0]
 (.i 11 (.g [.s 12 (.build [.nils, .nilm] []),
.m 13 6,
.w 2 4 12,
.m 5 13]
 (.ret [4, 5]))
 .skip)))
 (.g [.m 14 0,
.m 15 1,
.g' 16 132 14 15,
.w 2 4 16,
.c 5 0]
 (.ret [4, 5]))))⟩ := by kernel_rfl
theorem F121 : compF Tryz.prog 121 = some ⟨8, [.tmp 2], (.g [.s 2 (.mv (.c .nils))]
 (.join [0] (.g [.m 3 0,
.s 4 (.nilk false (.t 3))]
 (.i 4 (.g [.s 2 (.mv (.c .nils))]
 (.ret [2]))
 .skip))
 (.g [.s 5 (.bslice 120 7 []),
.m 6 0,
.s 7 (.append 120 7 72 (.t 5) (.t 6)),
.m 2 7]
 (.ret [2]))))⟩ := by kernel_rfl
theorem F122:compF Tryz.prog 122=some ⟨9,[],(.reg [.m 4 0,
.m 5 0,
.u 6 5,
.m 7 1,
.s 8 (.f 197 [.t 4,.t 6,.t 7])])⟩:=by kernel_rfl
theorem F123:compF Tryz.prog 123=some ⟨30,[.tmp 5],(.g [.q 3 120 0,
.q 4 120 1,
.c 5 0]
 (.z [3, 4] (.g [.l 11 2,
.d 12 7 3,
.s 13 (.call (.t 11) [.t 12]),
.m 10 13,
.j 14 0 10,
.j 15 1 10,
.m 6 14,
.m 7 15]
 (.g [.l 17 2,
.d 18 7 4,
.s 19 (.call (.t 17) [.t 18]),
.m 16 19,
.j 20 0 16,
.j 21 1 16,
.m 8 20,
.m 9 21]
 (.g [.m 22 6,
.m 23 8,
.g' 24 125 22 23,
.m 25 7,
.m 26 9,
.g' 27 125 25 26,
.s 28 (.bslice 3 1 [.t 24,.t 27]),
.f 29 124 28,
.m 5 29]
 (.ret [5]))))))⟩ := by kernel_rfl
def B124_0 : Cd := (.g [.b 9 .lss 8 7]
 (.join [3, 6, 7, 8] (.i 9 .skip
 (.exit [3] 0))
 (.join [3, 6, 7, 8] (.block 1 (.g [.r 10 1 6 8,
.l 11 10,
.m 5 11]
 (.g [.m 12 5,
.m 13 3,
.b 14 .neq 12 13]
 (.i 14 (.g [.m 15 5,
.m 2 15]
 (.ret [2]))
 .skip))))
 (.reg [.v 16 .add 8 1,
.m 8 16]))))
theorem F124 : compF Tryz.prog 124 = some ⟨18, [.tmp 2], (.g [.c 2 0]
 (.g [.c 3 0]
 (.join [3] (.g [.m 6 0,
.u 7 6,
.c 8 0]
 (.block 0 (.loop [3, 6, 7, 8] [] B124_0)))
 (.g [.m 17 3,
.m 2 17]
 (.ret [2])))))⟩ := by kernel_rfl
theorem F125 : compF Tryz.prog 125 = some ⟨20, [.tmp 4], (.g [.c 4 0]
 (.g [.m 7 0,
.f 8 198 7,
.m 5 8]
 (.g [.m 9 1,
.f 10 198 9,
.m 6 10]
 (.join [0, 1, 6] (.g [.m 11 5]
 (.i 11 (.join [] (.g [.m 12 6]
 (.i 12 (.g [.c 4 0]
 (.ret [4]))
 .skip))
 (.g [.c 4 (-1)]
 (.ret [4])))
 .skip))
 (.join [0, 1] (.g [.m 13 6]
 (.i 13 (.g [.c 4 1]
 (.ret [4]))
 .skip))
 (.join [0, 1] (.g [.m 14 0,
.m 15 1,
.b 16 .lss 14 15]
 (.i 16 (.g [.c 4 (-1)]
 (.ret [4]))
 .skip))
 (.join [] (.g [.m 17 0,
.m 18 1,
.b 19 .gtr 17 18]
 (.i 19 (.g [.c 4 1]
 (.ret [4]))
 .skip))
 (.g [.c 4 0]
 (.ret [4])))))))))⟩ := by kernel_rfl
def B197_0:Cd:=(.join [0,1,2,6,7,8] (.g [.m 11 8,
.m 12 1,
.b 13 .leq 11 12]
 (.i 13 .skip
 (.exit [0, 1, 2, 6, 7] 0)))
 (.block 1 (.g [.m 14 0,
.m 15 7,
.m 16 8,
.m 17 2,
.s 18 (.f 273 [.t 14, .t 15, .t 16, .t 17])]
 (.g [.m 19 8,
.m 7 19]
 (.reg [.m 20 8,
.m 21 6,
.b 22 .add 20 21,
.m 8 22])))))
def B197_1:Cd:=(.join [0,1,2,6,7,8] (.g [.m 33 8,
.m 34 1,
.b 35 .leq 33 34]
 (.i 35 .skip
 (.exit [0, 1, 2, 6, 7] 4)))
 (.block 5 (.g [.m 36 0,
.m 37 7,
.m 38 7,
.m 39 6,
.b 40 .add 38 39,
.m 41 8,
.m 42 2,
.s 43 (.f 274 [.t 36, .t 37, .t 40, .t 41, .t 42])]
 (.g [.m 44 8,
.m 7 44]
 (.reg [.m 45 8,
.m 46 6,
.s 47 (.bin .mul (.i 2) (.t 46)),
.b 48 .add 45 47,
.m 8 48])))))
def B197_2:Cd:=(.join [0,1,2,6] (.g [.m 28 6,
.m 29 1,
.b 30 .lss 28 29]
 (.i 30 .skip
 (.exit [] 2)))
 (.block 3 (.g [.m 31 6,
.s 32 (.bin .mul (.i 2) (.t 31)),
.c 7 0,
.m 8 32]
 (.join [0, 1, 2, 6, 7] (.block 4 (.loop [0, 1, 2, 6, 7, 8] [] B197_1))
 (.join [0, 1, 2, 6] (.g [.m 49 7,
.m 50 6,
.b 51 .add 49 50,
.m 9 51]
 (.g [.m 52 9,
.m 53 1,
.b 54 .lss 52 53]
 (.i 54 (.reg [.m 55 0,
.m 56 7,
.m 57 9,
.m 58 1,
.m 59 2,
.s 60 (.f 274 [.t 55, .t 56, .t 57, .t 58, .t 59])])
 .skip)))
 (.reg [.m 61 6,
.v 62 .mul 61 2,
.m 6 62]))))))
theorem F197 : compF Tryz.prog 197 = some ⟨63, [], (.g [.c 6 20]
 (.g [.m 10 6,
.c 7 0,
.m 8 10]
 (.join [0, 1, 2, 6, 7] (.block 0 (.loop [0, 1, 2, 6, 7, 8] [] B197_0))
 (.g [.m 23 0,
.m 24 7,
.m 25 1,
.m 26 2,
.s 27 (.f 273 [.t 23, .t 24, .t 25, .t 26])]
 (.block 2 (.loop [0, 1, 2, 6] [] B197_2))))))⟩ := by kernel_rfl
def B273_0:Cd:=(.join [0,1,2,3,8,9] (.join [0,1,2,3,8,9,34] (.dreg 17 [.m 18 9,
.m 19 1,
.b 20 .gtr 18 19,
.m 21 20,
.my 22 3 21,
.my 23 0 21,
.my 24 9 21,
.ry 25 7 23 24 21,
.y 26 (.load (some 7) (.t 25)) 21,
.my 27 0 21,
.my 28 9 21,
.vy 29 .sub 28 1 21,
.ry 30 7 27 29 21,
.y 31 (.load (some 7) (.t 30)) 21,
.y 32 (.call (.t 22) [.t 26,.t 31]) 21,
.vy 33 .lss 32 0 21,
.e 34 21 33])
 (.i 34 .skip
 (.exit [0, 1, 2, 3, 8] 2)))
 (.join [0, 1, 2, 3, 8, 9] (.block 3 (.greg [[], [], [], [], [], [], [], [], [], [], [], [], [], [], [], [false, false, false, false, false, false, false, false, false, false, true, true, true, false, false], [], [false, false, false, false, false, false, false, false, false, false, false, false, false, false, false, false, false]] [.m 37 0,
.m 38 9,
.m 39 0,
.m 40 9,
.v 41 .sub 40 1,
.m 42 0,
.m 43 9,
.v 44 .sub 43 1,
.r 45 7 42 44,
.d 46 7 45,
.m 47 0,
.m 48 9,
.r 49 7 47 48,
.d 50 7 49,
.r 51 7 37 38,
.w 7 51 46,
.r 52 7 39 41,
.w 7 52 50]))
 (.reg [.m 35 9,
.v 36 .sub 35 1,
.m 9 36])))
def B273_1:Cd:=(.join [0,1,2,3,8] (.g [.m 12 8,
.m 13 2,
.b 14 .lss 12 13]
 (.i 14 .skip
 (.exit [] 0)))
 (.join [0, 1, 2, 3, 8] (.block 1 (.g [.m 17 8,
.m 9 17]
 (.block 2 (.loop [0, 1, 2, 3, 8, 9] [] B273_0))))
 (.reg [.m 15 8,
.v 16 .add 15 1,
.m 8 16])))
theorem F273:compF Tryz.prog 273=some ⟨53,[],(.g [.m 10 1,
.v 11 .add 10 1,
.m 8 11]
 (.block 0 (.loop [0, 1, 2, 3, 8] [] B273_1)))⟩ := by kernel_rfl
theorem F198 : compF Tryz.prog 198 = some ⟨6, [.tmp 2], (.g [.k 2 false]
 (.g [.m 3 0,
.m 4 0,
.b 5 .neq 3 4,
.m 2 5]
 (.ret [2])))⟩ := by kernel_rfl
end Go.Proofs.YtanojbajfgcjeaaGreatDoor

namespace Go.Proofs.YtanojbajfgcjeaaGreatDoor
open Go.Sha
set_option maxRecDepth 100000
variable {g:List (Nat×Obj)} {n:Nat}
def memC:List Nat:=[54,58]
noncomputable def HC:EvF:=⟨HH.raw,fun f args st=>bif Nat.beq f 121 then hClone 120 7 72 args st else bif memL f memC then run Tryz.prog HH f args st else none⟩
@[push_cast]theorem HC_raw:HC.raw=[81,122,197,273,274,343,376]:=@_root_.id (_=_) rfl
theorem HC_ok (h1:ESound Tryz.prog HH):ESound Tryz.prog HC:=fun f args st r s h=>by
 simp only [HC] at h
 by_cases hf:f=121
 ·subst hf
  simp only [show Nat.beq 121 121=true from rfl,cond_true] at h
  exact clone_ok F121 h
 rw [show Nat.beq f 121=false from Bool.eq_false_iff.2 fun e=>hf (Nat.eq_of_beq_eq_true e),cond_false] at h
 cases hi:memL f memC with
 |false=>rw [hi] at h;cases h
 |true=>rw [hi] at h;exact run_sound mixed h1 _ _ _ _ _ h
theorem upC {k:Nat} {args:List V} {st:St} {r:VRes×St} (h:run Tryz.prog HH k args st=some r) (h1:Nat.beq k 121=false:=by rfl) (h2:memL k memC=true:=by rfl):run Tryz.prog HC k args st=some r:=by
 refine run_H ?_
 simp only [HC,h1,h2,cond_false,cond_true,h]
def cmpI (a b:Int):Int:=if a<b then -1 else if b<a then 1 else 0
def cmpK (key:Fixt→Int×Int) (x y:Fixt):Int:=if cmpI (key x).1 (key y).1=0 then cmpI (key x).2 (key y).2 else cmpI (key x).1 (key y).1
def ltK (key:Fixt→Int×Int) (x y:Fixt):Prop:=(key x).1<(key y).1∨(key x).1=(key y).1∧(key x).2<(key y).2
instance {key:Fixt→Int×Int} {x y:Fixt}:Decidable (ltK key x y):=by unfold ltK;exact inferInstance
theorem cmp_lt {key:Fixt→Int×Int} {x y:Fixt}:(cmpK key x y<0)=ltK key x y:=by
 unfold cmpK cmpI ltK
 rw [eq_iff_iff]
 split<;>(repeat' split)<;>omega
theorem f198 {a:Int} {st:St}:run Tryz.prog HC 198 [.int .i64 a] st=some (.ret (.bool false),st):=by
 rw [run_shut F198 rfl rfl (by simp)]
 push_cast
 all_goals first|with_reducible rfl|exact dn_eq (by omega) (by with_reducible rfl)|((repeat' split)<;>(try simp_all)<;>(try (with_reducible refine dn_eq ?_ ?_<;>first|trivial|omega|rfl))<;>(try omega))
theorem f125 {a b:Int} {st:St}:run Tryz.prog HC 125 [.int .i64 a,.int .i64 b] st=some (.ret (.int .i64 (cmpI a b)),st):=by
 rw [run_shut F125 rfl rfl (by simp)]
 push_cast [f198,cmpI]
 all_goals first|with_reducible rfl|exact dn_eq (by omega) (by with_reducible rfl)|((repeat' split)<;>(try simp_all)<;>(try (with_reducible refine dn_eq ?_ ?_<;>first|trivial|omega|rfl))<;>(try omega))
theorem f124 {a b:Int} {st:St}:run Tryz.prog HC 124 [.sl [.int .i64 a,.int .i64 b]] st=some (.ret (.int .i64 (if a=0 then b else a)),st):=by
 rw [run_shut F124 rfl rfl (by simp)]
 push_cast [runL_of B124_0.eq_1]
 all_goals first|with_reducible rfl|exact dn_eq (by omega) (by with_reducible rfl)|((repeat' split)<;>(try simp_all)<;>(try (with_reducible refine dn_eq ?_ ?_<;>first|trivial|omega|rfl))<;>(try omega))
def kAddr (x:Fixt):Int×Int:=(x.univ,x.addr)
theorem f57 {x:Fixt} {st:St}:run Tryz.prog HC 57 [x.v] st=some (.ret (.tup [.int .i64 (kAddr x).1,.int .i64 (kAddr x).2]),st):=by
 rw [run_shut F57 rfl rfl (by simp)]
 push_cast [Fixt.v,kAddr]
 all_goals first|with_reducible rfl|exact dn_eq (by omega) (by with_reducible rfl)|((repeat' split)<;>(try simp_all)<;>(try (with_reducible refine dn_eq ?_ ?_<;>first|trivial|omega|rfl))<;>(try omega))
def KeyF (k:Nat) (key:Fixt→Int×Int):Prop:=∀x st,run Tryz.prog HC k [Fixt.v x] st=some (.ret (.tup [.int .i64 (key x).1,.int .i64 (key x).2]),st)
@[reducible] def keyV (k:Nat):V:=.ep (.agg [.fn (.func k) [] []]) 0
@[reducible] def cmpV (k:Nat):V:=.fn (.func 123) [] [keyV k]
theorem f123 {k:Nat} {key:Fixt→Int×Int} (hk:KeyF k key) (h0:memL k [81,122,197,273,274,343,376]=false) {x y:Fixt} {st:St}:run Tryz.prog HC 123 [x.v,y.v,keyV k] st=some (.ret (.int .i64 (cmpK key x y)),st):=by
 have hk:=fun x st=>hk x st
 rw [run_shut F123 rfl rfl (by simp)]
 push_cast [Fixt.v] at hk
 push_cast [Fixt.v,hk,h0,f125,f124,cmpK]
def insW {α:Type} (lt:α→α→Prop) [∀x y,Decidable (lt x y)]:List α→α→List α→List α
 |[],x,s=>x::s
 |y::r,x,s=>if lt x y then insW lt r x (y::s) else r.reverse++y::x::s
def stK (g:List (Nat×Obj)) (xs:List Fixt):St:=⟨3,[],[(2,⟨120,7,xs.map Fixt.v,true,false⟩)],⟨[],g,[]⟩⟩
@[push_cast]theorem stK_eq {xs:List Fixt}:stK g xs=⟨3,[],[(2,⟨120,7,xs.map Fixt.v,true,false⟩)],⟨[],g,[]⟩⟩:=@_root_.id (_=_) rfl
theorem L273_0 {k:Nat} {key:Fixt→Int×Int} (hk:KeyF k key) (h0:memL k [81,122,197,273,274,343,376]=false) {m i N:Nat} (hN:N<1000):∀(r:List Fixt) (x:Fixt) (s:List Fixt),r.length+1+s.length=N →
  runL Tryz.prog HC [0,1,2,3,8,9] 3 B273_0 [(0,.osl 2 N),(1,.int .i64 0),(2,.int .i64 m),(3,cmpV k),(8,.int .i64 i),(9,.int .i64 r.length)] (stK g (r.reverse++x::s))
   = some (.exit 2,[(0,.osl 2 N),(1,.int .i64 0),(2,.int .i64 m),(3,cmpV k),(8,.int .i64 i)],stK g (insW (ltK key) r x s)):=by
 have h123:=fun x y st=>f123 hk h0 (x:=x) (y:=y) (st:=st)
 intro r
 induction r with
 |nil =>
  intro x s hl
  rw [runL_of B273_0.eq_1]
  push_cast [List.length_nil,List.reverse_nil,List.nil_append,insW]
 |cons y r ih =>
  intro x s hl
  rw [List.length_cons] at hl
  have ih:=ih x (y::s) (by rw [List.length_cons];omega)
  have e1:((y::r).reverse++x::s).length=N:=by simp;omega
  have e2:∀d,((y::r).reverse++x::s).getD (r.length+1) d=x:=fun d=>by simp [List.getD_eq_getElem?_getD]
  have e3:∀d,((y::r).reverse++x::s).getD r.length d=y:=fun d=>by simp [List.getD_eq_getElem?_getD]
  have e4:(((y::r).reverse++x::s).map Fixt.v).getD (r.length+1) V.und=x.v:=by simp [List.getD_eq_getElem?_getD]
  have e5:(((y::r).reverse++x::s).map Fixt.v).getD r.length V.und=y.v:=by simp [List.getD_eq_getElem?_getD]
  have e6:((y::r).reverse++x::s)[r.length+1]?=some x:=by simp
  have e7:((((y::r).reverse++x::s).map Fixt.v).set (r.length+1) y.v)[r.length]?=some y.v:=by simp
  have e8:((((y::r).reverse++x::s).map Fixt.v).set (r.length+1) y.v).set r.length x.v=(r.reverse++x::y::s).map Fixt.v:=by simp
  have w1:IntKind.i64.wrap (((r.length:Nat):Int)+1-1)=r.length:=by rw [iwrap (by omega) (by omega)];omega
  have c1:(0:Int)<((r.length:Nat):Int)+1:=by omega
  have c2:((r.length:Nat):Int)+1<N:=by omega
  have c3:(r.length:Int)<N:=by omega
  have d2:r.length+1<N:=by omega
  have d3:r.length<N:=by omega
  rw [insW,List.length_cons]
  generalize hxs:(y::r).reverse++x::s=xs at *
  rw [runL_of B273_0.eq_1]
  push_cast [Fixt.v] at h123 ih
  simp only [Fixt.v] at e7 e8
  push_cast [e1,e2,e3,e4,e5,e6,e7,e8,w1,c1,c2,c3,d2,d3,Fixt.v,h123,stoB,V.cells,V.recell,cmp_lt]
  refine dn_eq (fun _=>by simp [e1]) ?_
  split
  ·exact ih
  ·simp [←hxs]
theorem insW_app {α:Type} {lt:α→α→Prop} [∀x y,Decidable (lt x y)]:∀{r:List α} {x:α} {s:List α},insW lt r x s=insW lt r x []++s
 |[],x,s=>rfl
 |y::r,x,s=>by
  rw [insW,insW]
  split
  ·rw [insW_app (s:=y::s),insW_app (s:=[y])];simp
  ·simp
theorem insW_len {α:Type} {lt:α→α→Prop} [∀x y,Decidable (lt x y)]:∀{r:List α} {x:α} {s:List α},(insW lt r x s).length=r.length+s.length+1
 |[],x,s=>by simp [insW]
 |y::r,x,s=>by
  rw [insW]
  split
  ·rw [insW_len];simp;omega
  ·simp;omega
def insS {α:Type} (lt:α→α→Prop) [∀x y,Decidable (lt x y)] (out:List α) (x:α):List α:=insW lt out.reverse x []
def isort {α:Type} (lt:α→α→Prop) [∀x y,Decidable (lt x y)] (l:List α):List α:=l.foldl (insS lt) []
theorem insS_len {α:Type} {lt:α→α→Prop} [∀x y,Decidable (lt x y)] {l:List α} {x:α}:(insS lt l x).length=l.length+1:=by
 rw [insS,insW_len];simp
theorem isort_len {α:Type} {lt:α→α→Prop} [∀x y,Decidable (lt x y)] {l:List α}:(isort lt l).length=l.length:=by
 suffices ∀o:List α,(l.foldl (insS lt) o).length=o.length+l.length by simpa [isort] using this []
 induction l with
 |nil=>intro o;rfl
 |cons x l ih=>intro o;rw [List.foldl_cons,ih,insS_len,List.length_cons];omega
theorem L273_1 {k:Nat} {key:Fixt→Int×Int} (hk:KeyF k key) (h0:memL k [81,122,197,273,274,343,376]=false) {l:List Fixt} (hN:l.length<1000):∀(r:List Fixt) (j:Nat),l.drop j=r→∀out:List Fixt,out.length=j →
  runL Tryz.prog HC [0,1,2,3,8] 3 B273_1 [(0,.osl 2 l.length),(1,.int .i64 0),(2,.int .i64 l.length),(3,cmpV k),(8,.int .i64 j)] (stK g (out++r))
   = some (.exit 0,[],stK g (r.foldl (insS (ltK key)) out)):=by
 refine drop_ind (fun j h out ho=>?_) (fun q r j h hx hd ih out ho=>?_)
 all_goals rw [runL_of B273_1.eq_1]
 ·have h1:¬(j:Int)<l.length:=by omega
  push_cast [h1,List.foldl_nil,List.append_nil]
 ·have h1:(j:Int)<l.length:=by omega
  have hw:=iw1 (j:=j) (by omega)
  have hL:=L273_0 (g:=g) (m:=l.length) (i:=j) hk h0 hN out.reverse q r (by
   have:=congrArg List.length hd
   simp at this ⊢;omega)
  have ih:=ih (insS (ltK key) out q) (by rw [insS_len,ho])
  rw [insW_app,List.reverse_reverse,List.length_reverse,ho] at hL
  rw [List.foldl_cons]
  push_cast [insS] at ih hL
  push_cast [h1,hw,hL,insS]
  exact ih
theorem f273 {k:Nat} {key:Fixt→Int×Int} (hk:KeyF k key) (h0:memL k [81,122,197,273,274,343,376]=false) {l:List Fixt} (hN:l.length<1000):run Tryz.prog HC 273 [.osl 2 l.length,.int .i64 0,.int .i64 l.length,cmpV k] (stK g l)=some (.ret (.tup []),stK g (isort (ltK key) l)):=by
 cases l with
 |nil =>
  rw [run_open F273 rfl rfl (by simp)]
  push_cast [runL_of B273_1.eq_1,isort,List.foldl_nil,List.length_nil]
 |cons x l =>
  have hL:=L273_1 (g:=g) hk h0 hN l 1 rfl [x] rfl
  have e:(x::l).foldl (insS (ltK key)) []=l.foldl (insS (ltK key)) [x]:=by simp [insS,insW]
  have hlen:(isort (ltK key) (x::l)).length=(x::l).length:=isort_len
  rw [isort,e] at hlen ⊢
  rw [List.singleton_append] at hL
  rw [run_open F273 rfl rfl (by simp)]
  generalize hxs:x::l=xs at *
  push_cast at hL
  push_cast [hL,hlen]
theorem f197 {k:Nat} {key:Fixt→Int×Int} (hk:KeyF k key) (h0:memL k [81,122,197,273,274,343,376]=false) {l:List Fixt} (hN:l.length<20):run Tryz.prog HC 197 [.osl 2 l.length,.int .i64 l.length,cmpV k] (stK g l)=some (.ret (.tup []),stK g (isort (ltK key) l)):=by
 have h273:=f273 (g:=g) hk h0 (l:=l) (by omega)
 have hlen:(isort (ltK key) l).length=l.length:=isort_len
 have h1:¬(20:Int)≤l.length:=by omega
 have h2:¬(20:Int)<l.length:=by omega
 rw [run_open F197 rfl rfl (by simp)]
 push_cast at h273
 push_cast [runL_of B197_0.eq_1,runL_of B197_2.eq_1,h273,h1,h2,hlen]
theorem f122 {k:Nat} {key:Fixt→Int×Int} (hk:KeyF k key) (h0:memL k [81,122,197,273,274,343,376]=false) {l:List Fixt} (hN:l.length<20):run Tryz.prog HC 122 [.osl 2 l.length,cmpV k] (stK g l)=some (.ret (.tup []),stK g (isort (ltK key) l)):=by
 have h197:=f197 (g:=g) hk h0 hN
 have hlen:(isort (ltK key) l).length=l.length:=isort_len
 rw [run_open F122 rfl rfl (by simp)]
 push_cast at h197
 push_cast [h197,hlen]
theorem f122n {k:Nat} {st:St}:run Tryz.prog HC 122 [.sl [],cmpV k] st=some (.ret (.tup []),st):=by
 have h197:∀st:St,run Tryz.prog HC 197 [.sl [],.int .i64 0,cmpV k] st=some (.ret (.tup []),st):=fun st=>by
  have h273:∀st:St,run Tryz.prog HC 273 [.sl [],.int .i64 0,.int .i64 0,cmpV k] st=some (.ret (.tup []),st):=fun st=>by
   rw [run_shut F273 rfl rfl (by simp)]
   push_cast [runL_of B273_1.eq_1]
  rw [run_shut F197 rfl rfl (by simp)]
  push_cast [runL_of B197_0.eq_1,runL_of B197_2.eq_1,h273]
 rw [run_shut F122 rfl rfl (by simp)]
 push_cast [h197]
theorem f56 {s:Sho} {k:Nat} {key:Fixt→Int×Int} (hk:KeyF k key) (h0:memL k [81,122,197,273,274,343,376]=false) (hN:s.fixts.length<20) {st:St}:run Tryz.prog HC 56 [s.v,.fn (.func k) [] []] st=some (.ret (.sl ((isort (ltK key) s.fixts).map Fixt.v)),st):=by
 have hlen:(isort (ltK key) s.fixts).length=s.fixts.length:=isort_len
 rw [run_shut F56 rfl rfl (by simp [V.bdL,V.bd])]
 cases he:s.fixts with
 |nil =>
  have h1:∀st:St,run Tryz.prog HC 121 [.sl []] st=some (.ret (.sl []),st):=fun st=>run_H rfl
  push_cast [Sho.v,he,List.map_nil,h1,f122n,isort,List.foldl_nil]
 |cons x r =>
  rw [←he]
  have h1:run Tryz.prog HC 121 [.sl (s.fixts.map Fixt.v)] ⟨2,[],[],⟨[],st.x.gl,[]⟩⟩=some (.ret (.osl 2 s.fixts.length),stK st.x.gl s.fixts):=run_H (by
   have c1:((x::r).map Fixt.v).all fastA=true:=by rw [List.all_map,List.all_eq_true];exact fun y _=>rfl
   have c2:((x::r).map Fixt.v).all (fun y=>y.cells.length == 7)=true:=by rw [List.all_map,List.all_eq_true];exact fun y _=>rfl
   have c3:roomV ((x::r).map Fixt.v).length 72=true:=roomV_lit (by rw [List.length_map,←he];omega) (by rw [List.length_map,←he];omega)
   show hClone 120 7 72 [.sl (s.fixts.map Fixt.v)] _=_
   rw [he,List.map_cons]
   rw [List.map_cons] at c1 c2 c3
   rw [hClone,if_pos ⟨c1,c2,c3⟩,stK,List.map_cons];simp)
  have h2:=f122 (g:=st.x.gl) hk h0 hN
  push_cast at h1 h2
  push_cast [Sho.v,h1,h2,hlen]
end Go.Proofs.YtanojbajfgcjeaaGreatDoor

namespace Go.Proofs.YtanojbajfgcjeaaGreatDoor
open Go.Sha
set_option maxRecDepth 100000
variable {g:List (Nat×Obj)} {n:Nat}
theorem f58C {m:Int} (h0:-9223372036854775808≤m) (h1:m≤9223372036854775807) {st:St} (hG:glB st.x.gl=true):run Tryz.prog HC 58 [.int .i64 m] st=some (.ret (.str (Lib.itoa m)),st):=upC (f58 h0 h1 hG)
theorem h66C {l:List V} (hb:V.bdL 0 l=true) {st:St}:run Tryz.prog HC 55 [.sl l] st=some (.ret (.sl l),st):=by
 rw [run_shut F55 rfl rfl (by simpa [V.bdL,V.bd] using hb)]
 push_cast [hb]
def unitT (x:Fixt):List UInt8:=if x.part=1 then Lib.itoa x.chan else Lib.itoa x.chan++46::Lib.itoa x.part
theorem f59 {x:Fixt} (hx:rngC x=0) {st:St} (hG:glB st.x.gl=true):run Tryz.prog HC 59 [x.v] st=some (.ret (.str (unitT x)),st):=by
 obtain ⟨r1,r2,r3,r4,_⟩:=rng_ok hx
 have e1:=fun nx mem arr obj ty=>f58C (m:=x.chan) (st:=⟨nx,mem,arr,⟨obj,st.x.gl,ty⟩⟩) (by omega) (by omega) hG
 have e2:=fun nx mem arr obj ty=>f58C (m:=x.part) (st:=⟨nx,mem,arr,⟨obj,st.x.gl,ty⟩⟩) (by omega) (by omega) hG
 have l1:=Lib.itoa_length_le x.chan (by omega) (by omega)
 have l2:=Lib.itoa_length_le x.part (by omega) (by omega)
 rw [run_shut F59 rfl rfl (by simp)]
 by_cases h:x.part=1
 ·push_cast [Fixt.v,e1,h,unitT]
 ·push_cast [Fixt.v,e1,e2,h,unitT]
  exact dn_eq (by omega) rfl
def szE (l:List Prof):List (V×V):=l.map fun p=>(.str p.name,.int .i64 p.foot)
theorem find_szE {s:List UInt8}:∀{l:List Prof} {i:Nat},(pfx l s=none→findV (.str s) (szE l) i=some none)∧∀p,pfx l s=some p→∃j,findV (.str s) (szE l) i=some (some (j,.int .i64 p.foot))
 |[],i=>⟨fun _=>rfl,fun p h=>by simp [pfx] at h⟩
 |q::r,i=>by
  obtain ⟨i1,i2⟩:=find_szE (s:=s) (l:=r) (i:=i+1)
  simp only [szE,List.map_cons,findV,sameV,pfx] at i1 i2 ⊢
  by_cases h:s=q.name
  ·refine ⟨fun e=>by simp [h] at e,fun p e=>?_⟩
   simp [h] at e;subst e
   exact ⟨i,by simp [h]⟩
  ·have h':¬q.name=s:=fun e=>h e.symm
   rw [show (s == q.name)=false by simp [h]]
   simp only [List.find?_cons,show (q.name == s)=false by simp [h']]
   exact ⟨i1,i2⟩
theorem look_sz {st:St} {s:List UInt8} {l:List Prof}:lookB st (.int .i64 0) false (findV (.str s) (szE l) 0)=some (.int .i64 (((pfx l s).map Prof.foot).getD 0),st):=by
 cases h:pfx l s with
 |none=>rw [find_szE.1 h];rfl
 |some p=>obtain ⟨j,hj⟩:=(find_szE (i:=0)).2 p h;rw [hj];rfl
theorem mset_sz {st:St} {i:Nat} {l:List Prof} {p:Prof} (h:pfx l p.name=none):msetB st i (szE l) (.str p.name) (.int .i64 p.foot) (findV (.str p.name) (szE l) 0)=some (.und,⟨st.nx,st.mem,st.arr,⟨updO st.x.obj i (.map (szE (l++[p]))),st.x.gl,st.x.ty⟩⟩):=by
 rw [find_szE.1 h];simp [msetB,putM,szE]
@[push_cast]theorem szE_all {l:List Prof}:((szE l).all fun p=>p.1.bd n&&p.2.bd n)=true:=by simp [szE,V.bd]
def stZa (g:List (Nat×Obj)) (a:List Prof):St:=⟨2,[],[],⟨[(1,.map (szE a))],g,[]⟩⟩
@[push_cast]theorem stZa_eq {a:List Prof}:stZa g a=⟨2,[],[],⟨[(1,.map (szE a))],g,[]⟩⟩:=@_root_.id (_=_) rfl
def Uniq (l:List Prof):Prop:=∀r q j,l.drop j=q::r→pfx (l.take j) q.name=none
theorem profsR_uniq {l:List Prof} {m:List (List Pt)}:∀{r:List Prof} {j:Nat},l.drop j=r→profsR l m r j=0→∀q r' i,j≤i→l.drop i=q::r'→pfx (l.take i) q.name=none
 |[],j,hd,_,q,r',i,hi,he=>by
  have h1:=congrArg List.length he
  have h2:=congrArg List.length hd
  simp at h1 h2;omega
 |z::r,j,hd,h,q,r',i,hi,he=>by
  rw [profsR] at h
  split at h
  ·rename_i a;exact absurd h a
  ·split at h
   ·cases h
   ·rename_i a
    by_cases e:i=j
    ·subst e
     rw [hd] at he;cases he
     rw [pfx,List.find?_eq_none]
     intro x hx hn
     exact a (List.any_eq_true.2 ⟨x,hx,hn⟩)
    ·refine profsR_uniq (r:=r) (j:=j+1) ?_ h q r' i (by omega) he
     rw [←List.drop_drop,hd];rfl
theorem uniq_of {s:Sho} (hs:shoC s=0):Uniq s.profs:=fun r q j h=>by
 have:=(shoC_parts hs).2.2.1
 unfold profsCR at this
 split at this
 ·cases this
 ·exact profsR_uniq (l:=s.profs) (r:=s.profs) (j:=0) rfl this q r j (Nat.zero_le _) h
theorem L21_0 {s:Sho} (hl:s.profs.length<140737488355328) (hu:Uniq s.profs):∀r j,s.profs.drop j=r →
  runL Tryz.prog HC [1,5,18,19,20] 2 B21_0 [(1,.ep s.v 0),(5,.mp 1),(18,.sl (s.profs.map Prof.v)),(19,.int .i64 s.profs.length),(20,.int .i64 j)] (stZa g (s.profs.take j))
   = some (.exit 0,[(1,.ep s.v 0),(5,.mp 1)],stZa g s.profs):=by
 refine drop_ind (fun j h=>?_) (fun q r j h hx hd ih=>?_)
 all_goals rw [runL_of B21_0.eq_1]
 ·have h1:¬(j:Int)<s.profs.length:=by omega
  have h2:s.profs.take j=s.profs:=List.take_of_length_le h
  push_cast [h1,h2]
 ·have h1:(j:Int)<s.profs.length:=by omega
  have hw:=iw1 (j:=j) (by omega)
  have h3:=fun (st:St) (i:Nat)=>mset_sz (st:=st) (i:=i) (hu r q j hd)
  rw [take_snoc hd] at ih
  push_cast [Sho.v,Prof.v] at ih
  push_cast [h1,hw,hx,Sho.v,Prof.v,h3]
  exact ih
def rowA (ps:List Prof) (x:Fixt):Row:=[Lib.itoa x.univ,Lib.itoa x.addr,Lib.itoa (x.addr+footS ps x-1),unitT x,x.prof]
def hdA:Row:=[[117,110,105,118,101,114,115,101],[102,114,111,109],[116,111],[99,104,97,110,110,101,108],[112,114,111,102,105,108,101]]
def stTA (g:List (Nat×Obj)) (ps:List Prof) (tab:List Row):St:=⟨4,[],[(3,⟨31,1,tab.map rowV,false,false⟩),(2,⟨9,1,[.str [117,110,105,118,101,114,115,101],.str [102,114,111,109],.str [116,111],.str [99,104,97,110,110,101,108],.str [112,114,111,102,105,108,101]],false,false⟩)],⟨[(1,.map (szE ps))],g,[]⟩⟩
@[push_cast]theorem stTA_eq {ps:List Prof} {tab:List Row}:stTA g ps tab=⟨4,[],[(3,⟨31,1,tab.map rowV,false,false⟩),(2,⟨9,1,[.str [117,110,105,118,101,114,115,101],.str [102,114,111,109],.str [116,111],.str [99,104,97,110,110,101,108],.str [112,114,111,102,105,108,101]],false,false⟩)],⟨[(1,.map (szE ps))],g,[]⟩⟩:=@_root_.id (_=_) rfl
theorem L21_1 {ps:List Prof} {l:List Fixt} (hG:glB g=true) (hl:l.length<1000) (hA:∀x∈l,aloC ps x=0):∀r j,l.drop j=r→∀tab:List Row,tab.length≤j+1 →
  runL Tryz.prog HC [5,8,34,35,36] 4 B21_1 [(5,.mp 1),(8,.osl 3 tab.length),(34,.sl (l.map Fixt.v)),(35,.int .i64 l.length),(36,.int .i64 j)] (stTA g ps tab)
   = some (.exit 2,[(8,.osl 3 (tab++r.map (rowA ps)).length)],stTA g ps (tab++r.map (rowA ps))):=by
 refine drop_ind (fun j h tab hc=>?_) (fun q r j hj hx hd ih tab hc=>?_)
 all_goals rw [runL_of B21_1.eq_1]
 ·have h1:¬(j:Int)<l.length:=by omega
  push_cast [h1,List.map_nil,List.append_nil]
 ·have h1:(j:Int)<l.length:=by omega
  have hw:=iw1 (j:=j) (by omega)
  have hq:=hA q (mem_at hd)
  have hr:=(aloC_ok hq).1
  obtain ⟨⟨i1,i2,i3⟩,i4⟩:=aloC_in hq
  obtain ⟨r1,r2,r3,r4,r5,r6,r7,r8,r9,r10⟩:=rng_ok hr
  have e1:=fun nx mem arr obj ty=>f58C (m:=q.univ) (st:=⟨nx,mem,arr,⟨obj,g,ty⟩⟩) (by omega) (by omega) hG
  have e2:=fun nx mem arr obj ty=>f58C (m:=q.addr) (st:=⟨nx,mem,arr,⟨obj,g,ty⟩⟩) (by omega) (by omega) hG
  have e3:=fun nx mem arr obj ty=>f58C (m:=q.addr+footS ps q-1) (st:=⟨nx,mem,arr,⟨obj,g,ty⟩⟩) (by omega) (by omega) hG
  have e4:=fun nx mem arr obj ty=>f59 (x:=q) (st:=⟨nx,mem,arr,⟨obj,g,ty⟩⟩) hr hG
  have e5:=fun (st:St)=>h66C (l:=(rowA ps q).map .str) (st:=st) (by simp [rowA,V.bdL,V.bd])
  have hm:=fun (st:St)=>look_sz (st:=st) (s:=q.prof) (l:=ps)
  have w1:IntKind.i64.wrap (q.addr+footS ps q)=q.addr+footS ps q:=iwrap (by omega) (by omega)
  have w2:IntKind.i64.wrap (q.addr+footS ps q-1)=q.addr+footS ps q-1:=iwrap (by omega) (by omega)
  have hro:roomV (tab.length+1) 24=true:=roomV_lit (by omega) (by omega)
  have ih:=ih (tab++[rowA ps q]) (by simp;omega)
  rw [←footS] at hm
  rw [List.map_cons]
  generalize hR:rowA ps q=R at *
  rw [rowA] at hR
  subst hR
  simp only [List.map_cons,List.map_nil] at e5
  push_cast [Fixt.v,List.map_nil,List.length_nil] at ih e4
  push_cast [h1,hw,hx,hm,w1,w2,e1,e2,e3,e4,e5,hro,Fixt.v,List.map_nil,List.length_nil,List.map_append,List.map_cons,List.append_assoc,List.singleton_append,rowV] at ih ⊢
  first|exact ih|exact dn_eq (by omega) ih
theorem insW_perm {α:Type} {lt:α→α→Prop} [∀x y,Decidable (lt x y)]:∀{r:List α} {x:α} {s:List α},(insW lt r x s).Perm (x::(r.reverse++s))
 |[],x,s=>.refl _
 |y::r,x,s=>by
  rw [insW]
  split
  ·refine insW_perm.trans (.cons _ ?_);simp
  ·have:=List.perm_middle (l₁:=r.reverse++[y]) (a:=x) (l₂:=s)
   simpa using this
theorem insS_perm {α:Type} {lt:α→α→Prop} [∀x y,Decidable (lt x y)] {l:List α} {x:α}:(insS lt l x).Perm (x::l):=by
 have:=insW_perm (lt:=lt) (r:=l.reverse) (x:=x) (s:=[])
 simpa [insS] using this
theorem isort_perm {α:Type} {lt:α→α→Prop} [∀x y,Decidable (lt x y)] {l:List α}:(isort lt l).Perm l:=by
 suffices ∀o:List α,(l.foldl (insS lt) o).Perm (o++l) by simpa [isort] using this []
 induction l with
 |nil=>intro o;simp
 |cons x l ih=>intro o;rw [List.foldl_cons];exact (ih _).trans ((insS_perm.append_right l).trans (by simpa using List.perm_middle.symm))
def sltT (s:Sho):List Row:=if shoC s=0 then hdA::(isort (ltK kAddr) s.fixts).map (rowA s.profs) else []
theorem f54C {s:Sho} (h:s.ok) {st:St}:run Tryz.prog HC 54 [s.v] st=some (.ret (.int .i64 (shoC s)),st):=upC (f54 h)
theorem f21 {s:Sho} (h:s.ok) (hF:shoC s=0→s.fixts.length<20) {st:St} (hG:glB st.x.gl=true):run Tryz.prog HC 21 [s.v] st=some (.ret (.tup [.sl ((sltT s).map rowV),.int .i64 (shoC s)]),st):=by
 have h1:=fun st=>f54C (st:=st) h
 rw [run_shut F21 rfl rfl (by simp)]
 by_cases hs:shoC s=0
 ·have hL:=L21_0 (g:=st.x.gl) h.p.1 (uniq_of hs) _ 0 rfl
  have hp:=isort_perm (lt:=ltK kAddr) (l:=s.fixts)
  have hlen:(isort (ltK kAddr) s.fixts).length=s.fixts.length:=isort_len
  have hF:=hF hs
  have hL1:=L21_1 (g:=st.x.gl) (ps:=s.profs) hG (l:=isort (ltK kAddr) s.fixts) (by omega) (fun x hx=>(fix_ok (shoC_parts hs).2.2.2.1).2.2.2 x (hp.mem_iff.1 hx)) _ 0 rfl [hdA] (Nat.le_refl _)
  have h56:=fun st=>f56 (s:=s) (k:=57) (key:=kAddr) (fun x st=>f57) rfl hF (st:=st)
  have e4:=fun (st:St)=>h66C (l:=hdA.map .str) (st:=st) rfl
  rw [List.drop_zero] at hL1
  rw [List.take_zero] at hL
  simp only [hdA,List.map_cons,List.map_nil] at e4
  rw [hdA] at hL1
  rw [sltT,if_pos hs]
  generalize isort (ltK kAddr) s.fixts=so at *
  have e0:szE []=[]:=rfl
  push_cast [Sho.v,rowV,List.map_cons,List.map_nil,List.length_cons,List.length_nil,List.singleton_append,e0] at hL hL1 h1 h56
  push_cast [Sho.v,hL,hL1,h1,hs,h56,sltT,e4,e0,hdA,rowV,List.map_cons,List.map_nil,List.length_cons,List.length_nil,List.singleton_append]
 ·push_cast [Sho.v] at h1
  push_cast [Sho.v,h1,hs,sltT]
end Go.Proofs.YtanojbajfgcjeaaGreatDoor

namespace Go.Proofs.YtanojbajfgcjeaaGreatDoor
open Go.Sha
set_option maxRecDepth 100000
variable {g:List (Nat×Obj)} {n:Nat}
def numOk (n:Nat):Bool:=decide (Lib.itoa n≠[])&&(Lib.itoa n).all isD&&decide ((Lib.itoa n).length≤18)&&decide (natOf (Lib.itoa n)=n)
theorem numOk_all:(List.range 2100).all numOk=true:=by decide +kernel
theorem numOk_at {m:Int} (h0:0≤m) (h:m<2100):Lib.itoa m≠[]∧(Lib.itoa m).all isD=true∧(Lib.itoa m).length≤18∧(natOf (Lib.itoa m):Int)=m:=by
 have:=List.all_eq_true.1 numOk_all m.toNat (List.mem_range.2 (by omega))
 simp only [numOk,Bool.and_eq_true,decide_eq_true_eq,Int.toNat_of_nonneg h0] at this
 exact ⟨this.1.1.1,this.1.1.2,this.1.2,by omega⟩
theorem atoi_itoa {m:Int} (h0:0≤m) (h:m<2100) {st:St}:run Tryz.prog HH 22 [.str (Lib.itoa m)] st=some (.ret (.tup [.int .i64 m,.nili]),st):=run_H (by
 obtain ⟨n1,n2,n3,n4⟩:=numOk_at h0 h
 show (hAtoi [.str (Lib.itoa m)]).map (fun r=>(r,st))=_
 rw [hAtoi,if_pos ⟨n1,n2,n3⟩,n4];rfl)
section
variable {α:Type} {lt:α→α→Prop} [∀x y,Decidable (lt x y)]
theorem insW_sorted (ht:∀x y z,¬lt y x→¬lt z y→¬lt z x) (ha:∀x y,lt x y→¬lt y x):∀{r:List α} {x:α} {s:List α},(r.reverse++s).Pairwise (fun x y=>¬lt y x)→(∀z∈s,lt x z)→(insW lt r x s).Pairwise (fun x y=>¬lt y x)
 |[],x,s,h,hs=>List.pairwise_cons.2 ⟨fun z hz=>ha _ _ (hs z hz),by simpa using h⟩
 |y::r,x,s,h,hs=>by
  rw [insW]
  split
  ·rename_i hl
   refine insW_sorted ht ha (by simpa using h) fun z hz=>?_
   rcases List.mem_cons.1 hz with rfl|hz
   ·exact hl
   ·exact hs z hz
  ·rename_i hl
   rw [List.reverse_cons,List.append_assoc] at h
   obtain ⟨h1,h2,h3⟩:=List.pairwise_append.1 h
   rw [List.singleton_append,List.pairwise_cons] at h2
   refine List.pairwise_append.2 ⟨h1,List.pairwise_cons.2 ⟨fun z hz=>?_,List.pairwise_cons.2 ⟨fun z hz=>ha _ _ (hs z hz),h2.2⟩⟩,fun a hm b hb=>?_⟩
   ·rcases List.mem_cons.1 hz with rfl|hz
    ·exact hl
    ·exact h2.1 z hz
   ·have hy:=h3 a hm y (by simp)
    rcases List.mem_cons.1 hb with rfl|hb
    ·exact hy
    ·rcases List.mem_cons.1 hb with rfl|hb
     ·exact ht _ _ _ hy hl
     ·exact h3 a hm b (by simp [hb])
theorem isort_sorted (ht:∀x y z,¬lt y x→¬lt z y→¬lt z x) (ha:∀x y,lt x y→¬lt y x) {l:List α}:(isort lt l).Pairwise (fun x y=>¬lt y x):=by
 suffices ∀o:List α,o.Pairwise (fun x y=>¬lt y x)→(l.foldl (insS lt) o).Pairwise (fun x y=>¬lt y x) from this [] List.Pairwise.nil
 induction l with
 |nil=>intro o h;exact h
 |cons x l ih=>intro o h;rw [List.foldl_cons];exact ih _ (insW_sorted ht ha (by simpa using h) (by simp))
end
theorem ltK_trans {key:Fixt→Int×Int} (x y z:Fixt):¬ltK key y x→¬ltK key z y→¬ltK key z x:=by unfold ltK;omega
theorem ltK_asym {key:Fixt→Int×Int} (x y:Fixt):ltK key x y→¬ltK key y x:=by unfold ltK;omega
def Disj (ps:List Prof) (x y:Fixt):Prop:=x.univ=y.univ→x.addr+footS ps x≤y.addr∨y.addr+footS ps y≤x.addr
theorem Disj.symm {ps:List Prof} {x y:Fixt} (h:Disj ps x y):Disj ps y x:=fun e=>(h e.symm).symm
theorem fixR_disj {ps:List Prof} {l:List Fixt}:∀{r:List Fixt} {j:Nat},l.drop j=r→fixR ps l r j=0→(∀x∈l.take j,aloC ps x=0)→(l.take j).Pairwise (Disj ps)→l.Pairwise (Disj ps)
 |[],j,hd,_,_,hp=>by
  have:=List.drop_eq_nil_iff.1 hd
  rwa [List.take_of_length_le this] at hp
 |q::r,j,hd,h,hA,hp=>by
  rw [fixR] at h
  repeat' split at h
  all_goals first|(rename_i a;exact absurd h a)|cases h|skip
  rename_i a1 a2 a3
  have a1:=Classical.not_not.1 a1
  obtain ⟨⟨i1,i2,i3⟩,i4⟩:=aloC_in a1
  have hA':∀x∈l.take (j+1),aloC ps x=0:=by
   rw [take_snoc hd];intro x hx
   rcases List.mem_append.1 hx with hx|hx
   ·exact hA x hx
   ·rw [List.mem_singleton.1 hx];exact a1
  refine fixR_disj (r:=r) (j:=j+1) (by rw [←List.drop_drop,hd];rfl) h hA' ?_
  rw [take_snoc hd]
  refine List.pairwise_append.2 ⟨hp,by simp,fun x hx y hy=>?_⟩
  rw [List.mem_singleton.1 hy]
  intro he
  obtain ⟨⟨k1,k2,k3⟩,k4⟩:=aloC_in (hA x hx)
  have:ovl ps x q=false:=by
   cases e:ovl ps x q with
   |false=>rfl
   |true=>exact absurd (List.any_eq_true.2 ⟨x,hx,e⟩) a3
  rw [ovl,iwrap (by omega) (by omega),iwrap (by omega) (by omega)] at this
  have:=of_decide_eq_false this
  omega
theorem disj_of {s:Sho} (hs:shoC s=0):s.fixts.Pairwise (Disj s.profs):=by
 obtain ⟨_,_,h3,h4⟩:=fix_ok (shoC_parts hs).2.2.2.1
 exact fixR_disj (j:=0) rfl h3 (by simp) (by simp)
def sumU (ps:List Prof) (u:Int):List Fixt→Int
 |[]=>0
 |x::r=>(if x.univ=u then footS ps x else 0)+sumU ps u r
theorem sumU_perm {ps:List Prof} {u:Int} {l m:List Fixt} (h:l.Perm m):sumU ps u l=sumU ps u m:=by
 induction h with
 |nil=>rfl
 |cons x _ ih=>rw [sumU,sumU,ih]
 |swap x y l=>rw [sumU,sumU,sumU,sumU];omega
 |trans _ _ h1 h2=>rw [h1,h2]
def cntP (a:List Int):Int:=(a.countP fun v=>decide (0<v):Nat)
theorem cntP_set {a:List Int} {o:Nat} {v:Int} (h:o<a.length) (h0:a.getD o 0=0) (hv:0<v):cntP (setL a o v)=cntP a+1:=by
 have e:a=a.take o++a.getD o 0::a.drop (o+1):=by
  rw [List.getD_eq_getElem?_getD,List.getElem?_eq_getElem h,Option.getD_some,List.getElem_cons_drop,List.take_append_drop]
 rw [h0] at e
 unfold cntP setL
 rw [show a.countP (fun v=>decide (0<v))=(a.take o++0::a.drop (o+1)).countP fun v=>decide (0<v) from congrArg _ e]
 rw [List.countP_append,List.countP_append,List.countP_cons,List.countP_cons]
 simp [hv];omega
theorem cntP_fill {v:Int} (hv:0<v):∀{m:Nat} {a:List Int} {o:Nat},o+m≤a.length→(∀k,o≤k→k<o+m→a.getD k 0=0)→cntP (fillA a o v m)=cntP a+m
 |0,a,o,_,_=>by rw [fillA];simp
 |m+1,a,o,h,hz=>by
  rw [fillA,cntP_fill hv (by rw [setL_len (by omega)];omega) fun k h1 h2=>?_,cntP_set (by omega) (hz o (by omega) (by omega)) hv]
  ·omega
  ·rw [setL_get (by omega),if_neg (by omega)];exact hz k (by omega) (by omega)
theorem cntP_use {ps:List Prof} {u:Int}:∀{l:List Fixt} {j:Nat} {a:List Int},(∀x∈l,inU ps x)→a.length=513→l.Pairwise (Disj ps)→(∀x∈l,x.univ=u→∀k:Nat,x.addr≤k→(k:Int)<x.addr+footS ps x→a.getD k 0=0)→cntP (useU ps u l j a)=cntP a+sumU ps u l
 |[],j,a,_,_,_,_=>by rw [useU,sumU];omega
 |x::r,j,a,hb,hl,hp,hz=>by
  obtain ⟨b1,b2,b3⟩:=hb x (List.mem_cons_self ..)
  obtain ⟨p1,p2⟩:=List.pairwise_cons.1 hp
  rw [useU,sumU]
  by_cases hu:x.univ=u
  ·rw [if_pos hu,if_pos hu,cntP_use (fun y hy=>hb y (List.mem_cons_of_mem _ hy)) (by rw [fillA_len (by omega)];exact hl) p2 fun y hy he k k1 k2=>?_,cntP_fill (by omega) (by omega) fun k k1 k2=>hz x (List.mem_cons_self ..) hu k (by omega) (by omega)]
   ·omega
   ·have:=p1 y hy (by omega)
    rw [fillA_get (by omega),if_neg (by omega)]
    exact hz y (List.mem_cons_of_mem _ hy) he k k1 k2
  ·rw [if_neg hu,if_neg hu,cntP_use (fun y hy=>hb y (List.mem_cons_of_mem _ hy)) hl p2 fun y hy he k k1 k2=>hz y (List.mem_cons_of_mem _ hy) he k k1 k2]
   omega
theorem f62 {l:List Fixt} {ps:List Prof} (hl:l.length<140737488355328) (hb:∀x∈l,x.cable.length<140737488355328) (hp:ps.length<140737488355328) (h:fixCR l ps=0) {st:St}:run Tryz.prog HH 62 [.sl (l.map Fixt.v),.sl (ps.map Prof.v)] st=some (.ret (.tup [rigV l (dedP ps),.int .i64 0]),st):=by
 have h1:=fun (st:St)=>f131 (st:=st) hl hb hp
 have h2:=fun (st:St)=>f132 (l:=l) (ps:=ps) (st:=st) hp
 rw [h] at h1
 push_cast [rigV] at h2
 rw [run_shut F62 rfl rfl (by simp)]
 push_cast [h1,h2,rigV]
theorem L23 {a:List Int} (hl:a.length=513):∀r j,a.drop j=r→∀c:Nat,c≤j →
  runL Tryz.prog HH [10,24,25] n B23_0 [(10,.int .i64 c),(24,.agg (a.map (.int .i64))),(25,.int .i64 j)] (stN g n)=some (.exit 0,[(10,.int .i64 (c+r.countP fun v=>decide (0<v):Nat))],stN g n):=by
 refine drop_ind (fun j h c hc=>?_) (fun q r j h hx hd ih c hc=>?_)
 all_goals rw [runL_of B23_0.eq_1]
 ·have h1:¬(j:Int)<513:=by omega
  push_cast [h1,List.countP_nil,Nat.add_zero]
 ·have h1:(j:Int)<513:=by omega
  have h2:j<513:=by omega
  have hw:=iw1 (j:=j) (by omega)
  have hx2:a[j]?=some q:=by
   have:=congrArg (·[0]?) hd
   simpa using this
  have hw2:=iw1 (j:=c) (by omega)
  rw [List.countP_cons]
  by_cases h3:0<q
  ·have ih:=ih (c+1) (by omega)
   rw [if_pos (by simpa using h3)]
   rw [show c+(List.countP (fun v=>decide (0<v)) r+1)=c+1+List.countP (fun v=>decide (0<v)) r by omega]
   generalize c+1+List.countP (fun v=>decide (0<v)) r=z at *
   push_cast [h1,h2,hw,hw2,hx2,hl,h3,Nat.mul_one] at ih ⊢
   exact ih
  ·have ih:=ih c (by omega)
   rw [if_neg (by simpa using h3),Nat.add_zero]
   generalize c+List.countP (fun v=>decide (0<v)) r=z at *
   push_cast [h1,h2,hw,hx2,hl,h3,Nat.mul_one] at ih ⊢
   exact ih
theorem f23 {s:Sho} (h:s.ok) (hs:shoC s=0) {u:Int} {st:St}:run Tryz.prog HH 23 [.sl (s.fixts.map Fixt.v),.sl (s.profs.map Prof.v),.int .i64 u] st=some (.ret (.tup [.int .i64 (sumU s.profs u s.fixts),.int .i64 0]),st):=by
 have hc:=(shoC_parts hs).2.2.2.1
 obtain ⟨c1,c2,c3,c4⟩:=fix_ok hc
 have hin:∀x∈s.fixts,inU s.profs x:=fun x hx=>(aloC_in (c4 x hx)).1
 have hin':∀x∈s.fixts,inU (dedP s.profs) x:=fun x hx=>by have:=hin x hx;unfold inU at this ⊢;rwa [foot_ded]
 have h1:=fun (st:St)=>f62 (st:=st) h.f.1 h.f.2 h.p.1 hc
 have h2:=fun (st:St)=>f63 (u:=u) (st:=st) h.f.1 hin'
 have hlen:=useU_len (j:=0) (u:=u) hin' zI_len
 have hL:=fun n=>L23 (g:=st.x.gl) (n:=n) hlen _ 0 rfl 0 (Nat.le_refl _)
 have e:((0+(useU (dedP s.profs) u s.fixts 0 zI).countP fun v=>decide (0<v):Nat):Int)=sumU s.profs u s.fixts:=by
  have:=cntP_use (u:=u) (j:=0) hin zI_len (disj_of hs) fun x _ _ k _ _=>zI_get
  rw [Nat.zero_add,useU_ded]
  have h0:cntP zI=0:=by decide +kernel
  rw [h0,Int.zero_add] at this
  exact this
 rw [List.drop_zero,e] at hL
 generalize useU (dedP s.profs) u s.fixts 0 zI=a at *
 rw [run_shut F23 rfl rfl (by simp)]
 push_cast [rigV] at h1 h2 hL
 push_cast [h1,h2,hL,rigV]
end Go.Proofs.YtanojbajfgcjeaaGreatDoor

namespace Go.Proofs.YtanojbajfgcjeaaGreatDoor
open Go.Sha
set_option maxRecDepth 100000
variable {g:List (Nat×Obj)} {n:Nat}
theorem f107n {l:List Fixt} {ps:List Prof} (h1:12<l.length) (h2:l.length≤64) {st:St}:run Tryz.prog HH 107 [.sl (l.map Fixt.v),.sl (ps.map Prof.v)] st=some (.ret (.bool false),st):=by
 have a1:(12:Int)<l.length:=by omega
 have a2:(l.length:Int)≤64:=by omega
 rw [run_shut F107 rfl rfl (by simp)]
 push_cast [a1,a2]
theorem f52n {x:Sho} (h:x.ok) (h1:12<x.fixts.length) (h2:x.fixts.length≤64) {st:St}:run Tryz.prog HH 52 [x.v] st=some (.ret (.bool false),st):=by
 obtain ⟨b1,h1'⟩:=f106 h.c.1
 have h2':=fun (st:St)=>f107n (ps:=x.profs) (st:=st) h1 h2
 obtain ⟨b3,h3⟩:=f108 h.g.1
 obtain ⟨b4,h4⟩:=f109 h.l.1
 obtain ⟨b5,h5⟩:=f110 h.s.1
 obtain ⟨b6,h6⟩:=f111 (l:=x.effs)
 rw [run_shut F52 rfl rfl (by simp)]
 push_cast [Sho.v,h1',h2',h3,h4,h5,h6]
theorem f20' {s:Sho} (h:s.ok):∃b,(b=true→shoC s=0∧s.fixts.length≤12)∧∀st,run Tryz.prog HH 20 [s.v] st=some (.ret (.bool b),st):=by
 obtain ⟨b,hb⟩:=f52 h
 refine ⟨b&&shoC s == 0,fun e=>?_,fun st=>?_⟩
 ·simp only [Bool.and_eq_true,beq_iff_eq] at e
  refine ⟨e.2,?_⟩
  have h2:=(fix_ok (shoC_parts e.2).2.2.2.1).2.1
  rcases Nat.lt_or_ge 12 s.fixts.length with h1|h1
  ·have:=f52n h h1 h2 (st:=stG [])
   rw [hb,e.1] at this
   cases this
  ·exact h1
 ·have h1:=fun st=>f53 (st:=st) h
  push_cast [Sho.v] at hb h1
  rw [run_shut F20 rfl rfl (by simp)]
  cases b<;>push_cast [Sho.v,hb,h1]
def iE (a:List (Int×Int)):List (V×V):=a.map fun x=>(.int .i64 x.1,.int .i64 x.2)
def iG:List (Int×Int)→Int→Int
 |[],_=>0
 |x::r,u=>if u=x.1 then x.2 else iG r u
def iPut:List (Int×Int)→Int→Int→List (Int×Int)
 |[],u,v=>[(u,v)]
 |x::r,u,v=>if u=x.1 then (u,v)::r else x::iPut r u v
theorem iG_put {u v w:Int}:∀{a:List (Int×Int)},iG (iPut a u v) w=if w=u then v else iG a w
 |[]=>by simp [iPut,iG]
 |x::r=>by
  rw [iPut,iG]
  split
  ·rename_i h;subst h;rw [iG];split<;>rfl
  ·rename_i h
   rw [iG,iG_put]
   split
   ·rename_i h2;subst h2;rw [if_neg (by omega)]
   ·rfl
theorem find_iE {u v:Int}:∀{a:List (Int×Int)} {i:Nat},(∃j,findV (.int .i64 u) (iE a) i=some (some (i+j,.int .i64 (iG a u)))∧(iE a).set j (.int .i64 u,.int .i64 v)=iE (iPut a u v))∨(findV (.int .i64 u) (iE a) i=some none∧iG a u=0∧iE a++[(.int .i64 u,.int .i64 v)]=iE (iPut a u v))
 |[],i=>.inr ⟨rfl,rfl,rfl⟩
 |x::r,i=>by
  by_cases h:u=x.1
  ·refine .inl ⟨0,?_,?_⟩
   ·simp [iE,findV,sameV,h,iG]
   ·simp [iE,iPut,h]
  ·have e:findV (.int .i64 u) (iE (x::r)) i=findV (.int .i64 u) (iE r) (i+1):=by simp [iE,findV,sameV,beq_eq_false_iff_ne.2 h]
   rcases find_iE (u:=u) (v:=v) (a:=r) (i:=i+1) with ⟨j,h1,h2⟩|⟨h1,h2,h3⟩
   ·refine .inl ⟨j+1,?_,?_⟩
    ·rw [e,h1,iG,if_neg h,show i+1+j=i+(j+1) by omega]
    ·rw [iPut,if_neg h]
     simp only [iE,List.map_cons,List.set_cons_succ] at h2 ⊢
     rw [h2]
   ·refine .inr ⟨by rw [e,h1],by rw [iG,if_neg h,h2],?_⟩
    rw [iPut,if_neg h]
    simp only [iE,List.map_cons,List.cons_append] at h3 ⊢
    rw [h3]
theorem look_iE {st:St} {a:List (Int×Int)} {u:Int}:lookB st (.int .i64 0) false (findV (.int .i64 u) (iE a) 0)=some (.int .i64 (iG a u),st):=by
 rcases find_iE (u:=u) (v:=0) (a:=a) (i:=0) with ⟨j,h1,h2⟩|⟨h1,h2,h3⟩
 ·rw [h1];rfl
 ·rw [h1,h2];rfl
theorem mset_iE {st:St} {i:Nat} {a:List (Int×Int)} {u v:Int}:msetB st i (iE a) (.int .i64 u) (.int .i64 v) (findV (.int .i64 u) (iE a) 0)=some (.und,⟨st.nx,st.mem,st.arr,⟨updO st.x.obj i (.map (iE (iPut a u v))),st.x.gl,st.x.ty⟩⟩):=by
 rcases find_iE (u:=u) (v:=v) (a:=a) (i:=0) with ⟨j,h1,h2⟩|⟨h1,h2,h3⟩
 ·rw [h1,←h2];simp [msetB,putM]
 ·rw [h1,←h3];simp [msetB,putM]
theorem iE_nil:iE []=[]:=rfl
def memD1:List Nat:=[21,35]
def memD2:List Nat:=[13]
def memD3:List Nat:=[20,22,23,24,26,36,37]
noncomputable def HD:EvF:=⟨[],fun f args st=>bif Nat.beq f 10 then run Tryz.prog HA f args st else bif memL f memD1 then run Tryz.prog HC f args st else bif memL f memD2 then run Tryz.prog HK f args st else bif memL f memD3 then run Tryz.prog HH f args st else none⟩
@[push_cast]theorem HD_raw:HD.raw=[]:=@_root_.id (_=_) rfl
theorem HD_ok (h1:ESound Tryz.prog HH) (h2:ESound Tryz.prog HK) (h3:ESound Tryz.prog HA):ESound Tryz.prog HD:=fun f args st r s h=>by
 simp only [HD] at h
 cases hf:Nat.beq f 10 with
 |true=>rw [hf] at h;exact run_sound mixed h3 _ _ _ _ _ h
 |false =>
  rw [hf,cond_false] at h
  cases hi:memL f memD1 with
  |true=>rw [hi] at h;exact run_sound mixed (HC_ok h1) _ _ _ _ _ h
  |false =>
   rw [hi,cond_false] at h
   cases hi:memL f memD2 with
   |true=>rw [hi] at h;exact run_sound mixed h2 _ _ _ _ _ h
   |false =>
    rw [hi,cond_false] at h
    cases hi:memL f memD3 with
    |true=>rw [hi] at h;exact run_sound mixed h1 _ _ _ _ _ h
    |false=>rw [hi] at h;cases h
theorem upD1 {k:Nat} {args:List V} {st:St} {r:VRes×St} (h:run Tryz.prog HC k args st=some r) (h1:Nat.beq k 10=false:=by rfl) (h2:memL k memD1=true:=by rfl):run Tryz.prog HD k args st=some r:=by
 refine run_H ?_
 simp only [HD,h1,h2,cond_false,cond_true,h]
theorem upD3 {k:Nat} {args:List V} {st:St} {r:VRes×St} (h:run Tryz.prog HH k args st=some r) (h1:Nat.beq k 10=false:=by rfl) (h2:memL k memD1=false:=by rfl) (h3:memL k memD2=false:=by rfl) (h4:memL k memD3=true:=by rfl):run Tryz.prog HD k args st=some r:=by
 refine run_H ?_
 simp only [HD,h1,h2,h3,h4,cond_false,cond_true,h]
theorem awkD {st:St} {v:GV} (hg:st.x.gl=glK v):run Tryz.prog HD 10 [] st=some (.ret (.bool true),st):=by
 refine run_H ?_
 simp only [HD,show Nat.beq 10 10=true from rfl,cond_true]
 obtain ⟨nx,mem,arr,⟨obj,gl,ty⟩⟩:=st
 cases hg
 exact f10 (v:=v) _ _ _ _ _
end Go.Proofs.YtanojbajfgcjeaaGreatDoor

namespace Go.Proofs.YtanojbajfgcjeaaGreatDoor
open Go.Sha
set_option maxRecDepth 100000
variable {g:List (Nat×Obj)} {n:Nat}
def addU (ps:List Prof) (a:List (Int×Int)) (x:Fixt):List (Int×Int):=iPut a x.univ (iG a x.univ+footS ps x)
theorem addU_sum {ps:List Prof} {u:Int}:∀{l:List Fixt} {a:List (Int×Int)},iG (l.foldl (addU ps) a) u=iG a u+sumU ps u l
 |[],a=>by rw [List.foldl_nil,sumU];omega
 |x::r,a=>by
  rw [List.foldl_cons,addU_sum,addU,iG_put,sumU]
  by_cases h:u=x.univ
  ·subst h;rw [if_pos rfl,if_pos rfl];omega
  ·rw [if_neg h,if_neg (Ne.symm h)];omega
def stQa (g:List (Nat×Obj)) (a:List (Int×Int)):St:=⟨2,[],[],⟨[(1,.map (iE a))],g,[]⟩⟩
@[push_cast]theorem stQa_eq {a:List (Int×Int)}:stQa g a=⟨2,[],[],⟨[(1,.map (iE a))],g,[]⟩⟩:=@_root_.id (_=_) rfl
theorem L5_0 {ps:List Prof} {l:List Fixt} {v1:V} (b1:V.bd 2 v1=true) (hl:l.length<1000) (hA:∀x∈l,aloC ps x=0):∀r j,l.drop j=r→r.Pairwise (fun x y=>x.univ≤y.univ∧(x.univ=y.univ→x.addr+footS ps x≤y.addr))→∀(u0 la:Int) (a:List (Int×Int)),(∀x∈r,u0≤x.univ∧(u0=x.univ→la<x.addr))→(∀u,0≤iG a u∧iG a u≤513*j) →
  runL Tryz.prog HD [1,5,6,7,37,38,39] 2 B5_0 [(1,v1),(5,.mp 1),(6,.int .i64 u0),(7,.int .i64 la),(37,.sl ((l.map (rowA ps)).map rowV)),(38,.int .i64 l.length),(39,.int .i64 j)] (stQa g a)
   = some (.exit 0,[(1,v1),(5,.mp 1)],stQa g (r.foldl (addU ps) a)):=by
 refine drop_ind (fun j h _ u0 la a _ _=>?_) (fun q r j hj hx hd ih hp u0 la a h0 ha=>?_)
 all_goals rw [runL_of B5_0.eq_1]
 ·have h1:¬(j:Int)<l.length:=by omega
  push_cast [h1,List.foldl_nil,b1]
 ·have h1:(j:Int)<l.length:=by omega
  have hw:=iw1 (j:=j) (by omega)
  have hq:=hA q (mem_at hd)
  have hr:=(aloC_ok hq).1
  obtain ⟨⟨i1,i2,i3⟩,i4⟩:=aloC_in hq
  obtain ⟨r1,r2,r3,r4,r5,r6,r7,r8,r9,r10⟩:=rng_ok hr
  obtain ⟨p1,p2⟩:=List.pairwise_cons.1 hp
  obtain ⟨q1,q2⟩:=h0 q (List.mem_cons_self ..)
  obtain ⟨a1,a2⟩:=ha q.univ
  have e1:=fun (st:St)=>upD3 (atoi_itoa (m:=q.univ) (st:=st) (by omega) (by omega))
  have e2:=fun (st:St)=>upD3 (atoi_itoa (m:=q.addr) (st:=st) (by omega) (by omega))
  have e3:=fun (st:St)=>upD3 (atoi_itoa (m:=q.addr+footS ps q-1) (st:=st) (by omega) (by omega))
  have c1:¬q.univ<u0:=by omega
  have c2:(q.univ=u0∧q.addr≤la)=False:=by simp;omega
  have c3:¬q.addr+footS ps q-1<q.addr:=by omega
  have hm:=fun (st:St)=>look_iE (st:=st) (a:=a) (u:=q.univ)
  have hs:=fun (st:St) (i:Nat)=>mset_iE (st:=st) (i:=i) (a:=a) (u:=q.univ) (v:=iG a q.univ+footS ps q)
  have w1:IntKind.i64.wrap (q.addr+footS ps q-1-q.addr)=footS ps q-1:=by rw [iwrap (by omega) (by omega)];omega
  have w2:IntKind.i64.wrap (footS ps q-1+1)=footS ps q:=by rw [iwrap (by omega) (by omega)];omega
  have w3:IntKind.i64.wrap (iG a q.univ+footS ps q)=iG a q.univ+footS ps q:=iwrap (by omega) (by omega)
  have ih:=ih p2 q.univ (q.addr+footS ps q-1) (addU ps a q) (fun x hx=>⟨(p1 x hx).1,fun e=>by have:=(p1 x hx).2 e;omega⟩) (fun u=>by
   have:=ha u
   rw [addU,iG_put]
   split
   ·subst_vars;omega
   ·omega)
  have hx2:∀d,(l.map (rowA ps)).getD j d=rowA ps q:=fun d=>by
   have:=congrArg (·[0]?) hd
   simp at this
   rw [List.getD_eq_getElem?_getD,List.getElem?_map,this];rfl
  rw [List.foldl_cons]
  push_cast [rowA,rowV,List.map_cons,List.map_nil,addU] at ih
  push_cast [h1,hw,hx2,e1,e2,e3,c1,c2,c3,hm,hs,w1,w2,w3,b1,rowA,rowV,List.map_cons,List.map_nil,List.length_cons,List.length_nil,addU] at ih ⊢
  exact ih
theorem so_rows {s:Sho} (hs:shoC s=0):(isort (ltK kAddr) s.fixts).Pairwise (fun x y=>x.univ≤y.univ∧(x.univ=y.univ→x.addr+footS s.profs x≤y.addr)):=by
 have h1:(isort (ltK kAddr) s.fixts).Pairwise (fun x y=>¬ltK kAddr y x):=isort_sorted ltK_trans ltK_asym
 have hp:=isort_perm (lt:=ltK kAddr) (l:=s.fixts)
 have h2:(isort (ltK kAddr) s.fixts).Pairwise (Disj s.profs):=(hp.pairwise_iff fun {x y} h=>Disj.symm h).2 (disj_of hs)
 have hA:∀x∈isort (ltK kAddr) s.fixts,aloC s.profs x=0:=fun x hx=>(fix_ok (shoC_parts hs).2.2.2.1).2.2.2 x (hp.mem_iff.1 hx)
 generalize isort (ltK kAddr) s.fixts=l at *
 refine (h1.and h2).imp_of_mem fun {x y} hx hy ⟨a,b⟩=>?_
 obtain ⟨⟨i1,i2,i3⟩,i4⟩:=aloC_in (hA x hx)
 obtain ⟨⟨k1,k2,k3⟩,k4⟩:=aloC_in (hA y hy)
 simp only [ltK,kAddr] at a
 refine ⟨by omega,fun e=>?_⟩
 have:=b e
 omega
theorem L5_1 {s:Sho} {a:List (Int×Int)} (h:s.ok) (hs:shoC s=0) (ha:∀u,iG a u=sumU s.profs u s.fixts):∀m k:Nat,k+m=9→1≤k →
  runL Tryz.prog HD [1,5,16] 2 B5_1 [(1,.ep s.v 0),(5,.mp 1),(16,.int .i64 k)] (stQa g a)=some (.exit 2,[],stQa g a):=by
 intro m
 induction m with
 |zero =>
  intro k hk h0
  rw [runL_of B5_1.eq_1]
  have h1:¬(k:Int)≤8:=by omega
  push_cast [h1]
 |succ m ih =>
  intro k hk h0
  rw [runL_of B5_1.eq_1]
  have h1:(k:Int)≤8:=by omega
  have hw:=iw1 (j:=k) (by omega)
  have ih:=ih (k+1) (by omega) (by omega)
  have e:=fun (st:St)=>upD3 (f23 (u:=k) (st:=st) h hs)
  have hm:=fun (st:St)=>look_iE (st:=st) (a:=a) (u:=k)
  push_cast [Sho.v] at ih
  push_cast [h1,hw,e,hm,ha,Sho.v] at ih ⊢
  exact ih
theorem l7 {s:Sho} (h:s.ok) {v:GV} {st:St} (hg:st.x.gl=glK v) (hG:glB st.x.gl=true):run Tryz.prog HD 5 [s.v] st=some (.ret (.bool true),st):=by
 obtain ⟨b,hb0,hb⟩:=f20' h
 have h31:=fun st=>upD3 (hb st)
 have hA:=fun nx mem arr obj ty=>awkD (st:=⟨nx,mem,arr,⟨obj,st.x.gl,ty⟩⟩) hg
 rw [run_shut F5 rfl rfl (by simp)]
 cases b with
 |true =>
  obtain ⟨hs,h12⟩:=hb0 rfl
  have hp:=isort_perm (lt:=ltK kAddr) (l:=s.fixts)
  have hlen:(isort (ltK kAddr) s.fixts).length=s.fixts.length:=isort_len
  have hAl:∀x∈isort (ltK kAddr) s.fixts,aloC s.profs x=0:=fun x hx=>(fix_ok (shoC_parts hs).2.2.2.1).2.2.2 x (hp.mem_iff.1 hx)
  have h21:=fun nx mem arr obj ty=>upD1 (f21 (st:=⟨nx,mem,arr,⟨obj,st.x.gl,ty⟩⟩) h (fun _=>by omega) hG)
  have hso:=so_rows hs
  have hsu:∀u,sumU s.profs u (isort (ltK kAddr) s.fixts)=sumU s.profs u s.fixts:=fun u=>sumU_perm hp
  rw [sltT,if_pos hs] at h21
  have hL0:=L5_0 (g:=st.x.gl) (ps:=s.profs) (v1:=.ep s.v 0) (by simp [V.bd,V.bdL]) (l:=isort (ltK kAddr) s.fixts) (by omega) hAl _ 0 rfl hso 0 0 [] (fun x hx=>by
   obtain ⟨r1,r2,r3,r4,r5,r6,r7,r8,r9,r10⟩:=rng_ok (aloC_ok (hAl x hx)).1
   exact ⟨by omega,fun e=>by omega⟩) (fun u=>by simp [iG])
  have hL1:=L5_1 (g:=st.x.gl) h hs (a:=(isort (ltK kAddr) s.fixts).foldl (addU s.profs) []) (fun u=>by rw [addU_sum,hsu];simp [iG]) 8 1 rfl (Nat.le_refl _)
  rw [List.drop_zero] at hL0
  generalize isort (ltK kAddr) s.fixts=so at *
  push_cast [Sho.v,iE_nil] at hL0 hL1 h31 h21
  have hz:¬(so.length:Int)+1=0:=by omega
  have ht:so.take so.length=so:=List.take_length
  push_cast [Sho.v,h31,h21,hs,hL0,hL1,hA,iE_nil,hz,ht]
  exact dn_eq ⟨by rw [List.all_eq_true];exact fun _ _=>rfl,by omega⟩ rfl
 |false =>
  push_cast [Sho.v] at h31
  push_cast [Sho.v,h31,hA]
end Go.Proofs.YtanojbajfgcjeaaGreatDoor

namespace Go.Proofs.YtanojbajfgcjeaaGreatDoor
open Go.Sha
def Pt.sh:List CSh:=[.int .i64,.int .i64]
structure Pt.Dk (z:Pt):Prop where
 x:-9223372036854775808≤z.x∧z.x≤9223372036854775807
 y:-9223372036854775808≤z.y∧z.y≤9223372036854775807
theorem Pt.rd {vs:List V} (h:OkCs Pt.sh vs):∃x:Pt,V.agg vs=x.v∧x.Dk:=by
 obtain ⟨v0,r0,rfl,h0,t0⟩:=h.cons_inv
 obtain ⟨v1,r1,rfl,h1,t1⟩:=t0.cons_inv
 obtain rfl:=t1.nil_inv
 obtain ⟨y0,rfl,b0⟩:=h0.i64_inv
 obtain ⟨y1,rfl,b1⟩:=h1.i64_inv
 exact ⟨⟨y0,y1⟩,rfl,⟨b0,b1⟩⟩
def Slt.sh:List CSh:=[.str,.int .i64,.int .i64]
structure Slt.Dk (z:Slt):Prop where
 name:z.name.length≤140737488351232
 fr:-9223372036854775808≤z.fr∧z.fr≤9223372036854775807
 to_:-9223372036854775808≤z.to_∧z.to_≤9223372036854775807
theorem Slt.rd {vs:List V} (h:OkCs Slt.sh vs):∃x:Slt,V.agg vs=x.v∧x.Dk:=by
 obtain ⟨v0,r0,rfl,h0,t0⟩:=h.cons_inv
 obtain ⟨v1,r1,rfl,h1,t1⟩:=t0.cons_inv
 obtain ⟨v2,r2,rfl,h2,t2⟩:=t1.cons_inv
 obtain rfl:=t2.nil_inv
 obtain ⟨y0,rfl,b0⟩:=h0.str_inv
 obtain ⟨y1,rfl,b1⟩:=h1.i64_inv
 obtain ⟨y2,rfl,b2⟩:=h2.i64_inv
 exact ⟨⟨y0,y1,y2⟩,rfl,⟨b0,b1,b2⟩⟩
def Ftr.sh:List CSh:=[.int .i64,.int .i64,.int .i64,.int .i64,.int .i64,.int .i64,.int .i64,.int .i64,.bool,.sl true 32 Slt.sh]
structure Ftr.Dk (z:Ftr):Prop where
 attr:-9223372036854775808≤z.attr∧z.attr≤9223372036854775807
 bits:-9223372036854775808≤z.bits∧z.bits≤9223372036854775807
 coarse:-9223372036854775808≤z.coarse∧z.coarse≤9223372036854775807
 fine:-9223372036854775808≤z.fine∧z.fine≤9223372036854775807
 curve:-9223372036854775808≤z.curve∧z.curve≤9223372036854775807
 home:-9223372036854775808≤z.home∧z.home≤9223372036854775807
 low:-9223372036854775808≤z.low∧z.low≤9223372036854775807
 high:-9223372036854775808≤z.high∧z.high≤9223372036854775807
 snap:True
 wheel:z.wheel.length≤140737488351232∧∀q∈z.wheel,q.Dk
theorem Ftr.rd {vs:List V} (h:OkCs Ftr.sh vs):∃x:Ftr,V.agg vs=x.v∧x.Dk:=by
 obtain ⟨v0,r0,rfl,h0,t0⟩:=h.cons_inv
 obtain ⟨v1,r1,rfl,h1,t1⟩:=t0.cons_inv
 obtain ⟨v2,r2,rfl,h2,t2⟩:=t1.cons_inv
 obtain ⟨v3,r3,rfl,h3,t3⟩:=t2.cons_inv
 obtain ⟨v4,r4,rfl,h4,t4⟩:=t3.cons_inv
 obtain ⟨v5,r5,rfl,h5,t5⟩:=t4.cons_inv
 obtain ⟨v6,r6,rfl,h6,t6⟩:=t5.cons_inv
 obtain ⟨v7,r7,rfl,h7,t7⟩:=t6.cons_inv
 obtain ⟨v8,r8,rfl,h8,t8⟩:=t7.cons_inv
 obtain ⟨v9,r9,rfl,h9,t9⟩:=t8.cons_inv
 obtain rfl:=t9.nil_inv
 obtain ⟨y0,rfl,b0⟩:=h0.i64_inv
 obtain ⟨y1,rfl,b1⟩:=h1.i64_inv
 obtain ⟨y2,rfl,b2⟩:=h2.i64_inv
 obtain ⟨y3,rfl,b3⟩:=h3.i64_inv
 obtain ⟨y4,rfl,b4⟩:=h4.i64_inv
 obtain ⟨y5,rfl,b5⟩:=h5.i64_inv
 obtain ⟨y6,rfl,b6⟩:=h6.i64_inv
 obtain ⟨y7,rfl,b7⟩:=h7.i64_inv
 obtain ⟨y8,rfl⟩:=h8.bool_inv
 have b8:=trivial
 obtain ⟨y9,rfl,b9⟩:=h9.agg_inv (f:=Slt.v) (by decide) (fun _=>Slt.rd)
 exact ⟨⟨y0,y1,y2,y3,y4,y5,y6,y7,y8,y9⟩,rfl,⟨b0,b1,b2,b3,b4,b5,b6,b7,b8,b9⟩⟩
def Prof.sh:List CSh:=[.str,.int .i64,.int .i64,.sl true 96 Ftr.sh]
structure Prof.Dk (z:Prof):Prop where
 name:z.name.length≤140737488351232
 foot:-9223372036854775808≤z.foot∧z.foot≤9223372036854775807
 watts:-9223372036854775808≤z.watts∧z.watts≤9223372036854775807
 feats:z.feats.length≤140737488351232∧∀q∈z.feats,q.Dk
theorem Prof.rd {vs:List V} (h:OkCs Prof.sh vs):∃x:Prof,V.agg vs=x.v∧x.Dk:=by
 obtain ⟨v0,r0,rfl,h0,t0⟩:=h.cons_inv
 obtain ⟨v1,r1,rfl,h1,t1⟩:=t0.cons_inv
 obtain ⟨v2,r2,rfl,h2,t2⟩:=t1.cons_inv
 obtain ⟨v3,r3,rfl,h3,t3⟩:=t2.cons_inv
 obtain rfl:=t3.nil_inv
 obtain ⟨y0,rfl,b0⟩:=h0.str_inv
 obtain ⟨y1,rfl,b1⟩:=h1.i64_inv
 obtain ⟨y2,rfl,b2⟩:=h2.i64_inv
 obtain ⟨y3,rfl,b3⟩:=h3.agg_inv (f:=Ftr.v) (by decide) (fun _=>Ftr.rd)
 exact ⟨⟨y0,y1,y2,y3⟩,rfl,⟨b0,b1,b2,b3⟩⟩
def Fixt.sh:List CSh:=[.int .i64,.int .i64,.str,.int .i64,.int .i64,.int .i64,.str]
structure Fixt.Dk (z:Fixt):Prop where
 chan:-9223372036854775808≤z.chan∧z.chan≤9223372036854775807
 part:-9223372036854775808≤z.part∧z.part≤9223372036854775807
 prof:z.prof.length≤140737488351232
 univ:-9223372036854775808≤z.univ∧z.univ≤9223372036854775807
 addr:-9223372036854775808≤z.addr∧z.addr≤9223372036854775807
 phase:-9223372036854775808≤z.phase∧z.phase≤9223372036854775807
 cable:z.cable.length≤140737488351232
theorem Fixt.rd {vs:List V} (h:OkCs Fixt.sh vs):∃x:Fixt,V.agg vs=x.v∧x.Dk:=by
 obtain ⟨v0,r0,rfl,h0,t0⟩:=h.cons_inv
 obtain ⟨v1,r1,rfl,h1,t1⟩:=t0.cons_inv
 obtain ⟨v2,r2,rfl,h2,t2⟩:=t1.cons_inv
 obtain ⟨v3,r3,rfl,h3,t3⟩:=t2.cons_inv
 obtain ⟨v4,r4,rfl,h4,t4⟩:=t3.cons_inv
 obtain ⟨v5,r5,rfl,h5,t5⟩:=t4.cons_inv
 obtain ⟨v6,r6,rfl,h6,t6⟩:=t5.cons_inv
 obtain rfl:=t6.nil_inv
 obtain ⟨y0,rfl,b0⟩:=h0.i64_inv
 obtain ⟨y1,rfl,b1⟩:=h1.i64_inv
 obtain ⟨y2,rfl,b2⟩:=h2.str_inv
 obtain ⟨y3,rfl,b3⟩:=h3.i64_inv
 obtain ⟨y4,rfl,b4⟩:=h4.i64_inv
 obtain ⟨y5,rfl,b5⟩:=h5.i64_inv
 obtain ⟨y6,rfl,b6⟩:=h6.str_inv
 exact ⟨⟨y0,y1,y2,y3,y4,y5,y6⟩,rfl,⟨b0,b1,b2,b3,b4,b5,b6⟩⟩
def Prm.sh:List CSh:=[.int .i64,.int .i64]
structure Prm.Dk (z:Prm):Prop where
 chan:-9223372036854775808≤z.chan∧z.chan≤9223372036854775807
 attr:-9223372036854775808≤z.attr∧z.attr≤9223372036854775807
theorem Prm.rd {vs:List V} (h:OkCs Prm.sh vs):∃x:Prm,V.agg vs=x.v∧x.Dk:=by
 obtain ⟨v0,r0,rfl,h0,t0⟩:=h.cons_inv
 obtain ⟨v1,r1,rfl,h1,t1⟩:=t0.cons_inv
 obtain rfl:=t1.nil_inv
 obtain ⟨y0,rfl,b0⟩:=h0.i64_inv
 obtain ⟨y1,rfl,b1⟩:=h1.i64_inv
 exact ⟨⟨y0,y1⟩,rfl,⟨b0,b1⟩⟩
def Val.sh:List CSh:=[.int .i64,.int .i64]
structure Val.Dk (z:Val):Prop where
 pal:-9223372036854775808≤z.pal∧z.pal≤9223372036854775807
 lev:-9223372036854775808≤z.lev∧z.lev≤9223372036854775807
theorem Val.rd {vs:List V} (h:OkCs Val.sh vs):∃x:Val,V.agg vs=x.v∧x.Dk:=by
 obtain ⟨v0,r0,rfl,h0,t0⟩:=h.cons_inv
 obtain ⟨v1,r1,rfl,h1,t1⟩:=t0.cons_inv
 obtain rfl:=t1.nil_inv
 obtain ⟨y0,rfl,b0⟩:=h0.i64_inv
 obtain ⟨y1,rfl,b1⟩:=h1.i64_inv
 exact ⟨⟨y0,y1⟩,rfl,⟨b0,b1⟩⟩
def Grp.sh:List CSh:=[.int .i64,.sl false 8 [.int .i64]]
structure Grp.Dk (z:Grp):Prop where
 num:-9223372036854775808≤z.num∧z.num≤9223372036854775807
 chans:z.chans.length≤140737488351232∧∀q∈z.chans,-9223372036854775808≤q∧q≤9223372036854775807
theorem Grp.rd {vs:List V} (h:OkCs Grp.sh vs):∃x:Grp,V.agg vs=x.v∧x.Dk:=by
 obtain ⟨v0,r0,rfl,h0,t0⟩:=h.cons_inv
 obtain ⟨v1,r1,rfl,h1,t1⟩:=t0.cons_inv
 obtain rfl:=t1.nil_inv
 obtain ⟨y0,rfl,b0⟩:=h0.i64_inv
 obtain ⟨y1,rfl,b1⟩:=h1.one_inv (f:=V.int .i64) (by decide) (fun v h=>h.i64_inv)
 exact ⟨⟨y0,y1⟩,rfl,⟨b0,b1⟩⟩
def Hue.sh:List CSh:=[.int .i64,.int .i64,.int .i64]
structure Hue.Dk (z:Hue):Prop where
 chan:-9223372036854775808≤z.chan∧z.chan≤9223372036854775807
 attr:-9223372036854775808≤z.attr∧z.attr≤9223372036854775807
 lev:-9223372036854775808≤z.lev∧z.lev≤9223372036854775807
theorem Hue.rd {vs:List V} (h:OkCs Hue.sh vs):∃x:Hue,V.agg vs=x.v∧x.Dk:=by
 obtain ⟨v0,r0,rfl,h0,t0⟩:=h.cons_inv
 obtain ⟨v1,r1,rfl,h1,t1⟩:=t0.cons_inv
 obtain ⟨v2,r2,rfl,h2,t2⟩:=t1.cons_inv
 obtain rfl:=t2.nil_inv
 obtain ⟨y0,rfl,b0⟩:=h0.i64_inv
 obtain ⟨y1,rfl,b1⟩:=h1.i64_inv
 obtain ⟨y2,rfl,b2⟩:=h2.i64_inv
 exact ⟨⟨y0,y1,y2⟩,rfl,⟨b0,b1,b2⟩⟩
def Pal.sh:List CSh:=[.int .i64,.sl true 24 Hue.sh]
structure Pal.Dk (z:Pal):Prop where
 num:-9223372036854775808≤z.num∧z.num≤9223372036854775807
 hues:z.hues.length≤140737488351232∧∀q∈z.hues,q.Dk
theorem Pal.rd {vs:List V} (h:OkCs Pal.sh vs):∃x:Pal,V.agg vs=x.v∧x.Dk:=by
 obtain ⟨v0,r0,rfl,h0,t0⟩:=h.cons_inv
 obtain ⟨v1,r1,rfl,h1,t1⟩:=t0.cons_inv
 obtain rfl:=t1.nil_inv
 obtain ⟨y0,rfl,b0⟩:=h0.i64_inv
 obtain ⟨y1,rfl,b1⟩:=h1.agg_inv (f:=Hue.v) (by decide) (fun _=>Hue.rd)
 exact ⟨⟨y0,y1⟩,rfl,⟨b0,b1⟩⟩
def Tim.sh:List CSh:=[.int .i64,.int .i64,.int .i64,.int .i64,.int .i64,.int .i64]
structure Tim.Dk (z:Tim):Prop where
 up:-9223372036854775808≤z.up∧z.up≤9223372036854775807
 down:-9223372036854775808≤z.down∧z.down≤9223372036854775807
 posi:-9223372036854775808≤z.posi∧z.posi≤9223372036854775807
 colour:-9223372036854775808≤z.colour∧z.colour≤9223372036854775807
 beam:-9223372036854775808≤z.beam∧z.beam≤9223372036854775807
 delay:-9223372036854775808≤z.delay∧z.delay≤9223372036854775807
theorem Tim.rd {vs:List V} (h:OkCs Tim.sh vs):∃x:Tim,V.agg vs=x.v∧x.Dk:=by
 obtain ⟨v0,r0,rfl,h0,t0⟩:=h.cons_inv
 obtain ⟨v1,r1,rfl,h1,t1⟩:=t0.cons_inv
 obtain ⟨v2,r2,rfl,h2,t2⟩:=t1.cons_inv
 obtain ⟨v3,r3,rfl,h3,t3⟩:=t2.cons_inv
 obtain ⟨v4,r4,rfl,h4,t4⟩:=t3.cons_inv
 obtain ⟨v5,r5,rfl,h5,t5⟩:=t4.cons_inv
 obtain rfl:=t5.nil_inv
 obtain ⟨y0,rfl,b0⟩:=h0.i64_inv
 obtain ⟨y1,rfl,b1⟩:=h1.i64_inv
 obtain ⟨y2,rfl,b2⟩:=h2.i64_inv
 obtain ⟨y3,rfl,b3⟩:=h3.i64_inv
 obtain ⟨y4,rfl,b4⟩:=h4.i64_inv
 obtain ⟨y5,rfl,b5⟩:=h5.i64_inv
 exact ⟨⟨y0,y1,y2,y3,y4,y5⟩,rfl,⟨b0,b1,b2,b3,b4,b5⟩⟩
def Mov.sh:List CSh:=[.int .i64,.int .i64,.int .i64,.int .i64,.int .i64]
structure Mov.Dk (z:Mov):Prop where
 prm:z.prm.Dk
 val:z.val.Dk
 part:-9223372036854775808≤z.part∧z.part≤9223372036854775807
theorem Mov.rd {vs:List V} (h:OkCs Mov.sh vs):∃x:Mov,V.agg vs=x.v∧x.Dk:=by
 obtain ⟨v0,r0,rfl,h0,t0⟩:=h.cons_inv
 obtain ⟨v1,r1,rfl,h1,t1⟩:=t0.cons_inv
 obtain ⟨v2,r2,rfl,h2,t2⟩:=t1.cons_inv
 obtain ⟨v3,r3,rfl,h3,t3⟩:=t2.cons_inv
 obtain ⟨v4,r4,rfl,h4,t4⟩:=t3.cons_inv
 obtain rfl:=t4.nil_inv
 obtain ⟨y0,rfl,b0⟩:=h0.i64_inv
 obtain ⟨y1,rfl,b1⟩:=h1.i64_inv
 obtain ⟨y2,rfl,b2⟩:=h2.i64_inv
 obtain ⟨y3,rfl,b3⟩:=h3.i64_inv
 obtain ⟨y4,rfl,b4⟩:=h4.i64_inv
 exact ⟨⟨⟨y0,y1⟩,⟨y2,y3⟩,y4⟩,rfl,⟨⟨b0,b1⟩,⟨b2,b3⟩,b4⟩⟩
def Cu.sh:List CSh:=[.str,.str,.sl true 40 Mov.sh,.sl true 48 Tim.sh,.bool,.bool,.int .i64,.str,.int .i64]
structure Cu.Dk (z:Cu):Prop where
 num:z.num.length≤140737488351232
 label:z.label.length≤140737488351232
 moves:z.moves.length≤140737488351232∧∀q∈z.moves,q.Dk
 parts:z.parts.length≤140737488351232∧∀q∈z.parts,q.Dk
 block:True
 mark:True
 follow:-9223372036854775808≤z.follow∧z.follow≤9223372036854775807
 link:z.link.length≤140737488351232
 loops:-9223372036854775808≤z.loops∧z.loops≤9223372036854775807
theorem Cu.rd {vs:List V} (h:OkCs Cu.sh vs):∃x:Cu,V.agg vs=x.v∧x.Dk:=by
 obtain ⟨v0,r0,rfl,h0,t0⟩:=h.cons_inv
 obtain ⟨v1,r1,rfl,h1,t1⟩:=t0.cons_inv
 obtain ⟨v2,r2,rfl,h2,t2⟩:=t1.cons_inv
 obtain ⟨v3,r3,rfl,h3,t3⟩:=t2.cons_inv
 obtain ⟨v4,r4,rfl,h4,t4⟩:=t3.cons_inv
 obtain ⟨v5,r5,rfl,h5,t5⟩:=t4.cons_inv
 obtain ⟨v6,r6,rfl,h6,t6⟩:=t5.cons_inv
 obtain ⟨v7,r7,rfl,h7,t7⟩:=t6.cons_inv
 obtain ⟨v8,r8,rfl,h8,t8⟩:=t7.cons_inv
 obtain rfl:=t8.nil_inv
 obtain ⟨y0,rfl,b0⟩:=h0.str_inv
 obtain ⟨y1,rfl,b1⟩:=h1.str_inv
 obtain ⟨y2,rfl,b2⟩:=h2.agg_inv (f:=Mov.v) (by decide) (fun _=>Mov.rd)
 obtain ⟨y3,rfl,b3⟩:=h3.agg_inv (f:=Tim.v) (by decide) (fun _=>Tim.rd)
 obtain ⟨y4,rfl⟩:=h4.bool_inv
 have b4:=trivial
 obtain ⟨y5,rfl⟩:=h5.bool_inv
 have b5:=trivial
 obtain ⟨y6,rfl,b6⟩:=h6.i64_inv
 obtain ⟨y7,rfl,b7⟩:=h7.str_inv
 obtain ⟨y8,rfl,b8⟩:=h8.i64_inv
 exact ⟨⟨y0,y1,y2,y3,y4,y5,y6,y7,y8⟩,rfl,⟨b0,b1,b2,b3,b4,b5,b6,b7,b8⟩⟩
def Lst.sh:List CSh:=[.int .i64,.int .i64,.sl true 120 Cu.sh]
structure Lst.Dk (z:Lst):Prop where
 num:-9223372036854775808≤z.num∧z.num≤9223372036854775807
 prio:-9223372036854775808≤z.prio∧z.prio≤9223372036854775807
 cues:z.cues.length≤140737488351232∧∀q∈z.cues,q.Dk
theorem Lst.rd {vs:List V} (h:OkCs Lst.sh vs):∃x:Lst,V.agg vs=x.v∧x.Dk:=by
 obtain ⟨v0,r0,rfl,h0,t0⟩:=h.cons_inv
 obtain ⟨v1,r1,rfl,h1,t1⟩:=t0.cons_inv
 obtain ⟨v2,r2,rfl,h2,t2⟩:=t1.cons_inv
 obtain rfl:=t2.nil_inv
 obtain ⟨y0,rfl,b0⟩:=h0.i64_inv
 obtain ⟨y1,rfl,b1⟩:=h1.i64_inv
 obtain ⟨y2,rfl,b2⟩:=h2.agg_inv (f:=Cu.v) (by decide) (fun _=>Cu.rd)
 exact ⟨⟨y0,y1,y2⟩,rfl,⟨b0,b1,b2⟩⟩
def Gan.sh:List CSh:=[.int .i64,.int .i64,.int .i64]
structure Gan.Dk (z:Gan):Prop where
 prm:z.prm.Dk
 lev:-9223372036854775808≤z.lev∧z.lev≤9223372036854775807
theorem Gan.rd {vs:List V} (h:OkCs Gan.sh vs):∃x:Gan,V.agg vs=x.v∧x.Dk:=by
 obtain ⟨v0,r0,rfl,h0,t0⟩:=h.cons_inv
 obtain ⟨v1,r1,rfl,h1,t1⟩:=t0.cons_inv
 obtain ⟨v2,r2,rfl,h2,t2⟩:=t1.cons_inv
 obtain rfl:=t2.nil_inv
 obtain ⟨y0,rfl,b0⟩:=h0.i64_inv
 obtain ⟨y1,rfl,b1⟩:=h1.i64_inv
 obtain ⟨y2,rfl,b2⟩:=h2.i64_inv
 exact ⟨⟨⟨y0,y1⟩,y2⟩,rfl,⟨⟨b0,b1⟩,b2⟩⟩
def Sb.sh:List CSh:=[.int .i64,.int .i64,.bool,.sl true 24 Gan.sh]
structure Sb.Dk (z:Sb):Prop where
 num:-9223372036854775808≤z.num∧z.num≤9223372036854775807
 prio:-9223372036854775808≤z.prio∧z.prio≤9223372036854775807
 inh:True
 gains:z.gains.length≤140737488351232∧∀q∈z.gains,q.Dk
theorem Sb.rd {vs:List V} (h:OkCs Sb.sh vs):∃x:Sb,V.agg vs=x.v∧x.Dk:=by
 obtain ⟨v0,r0,rfl,h0,t0⟩:=h.cons_inv
 obtain ⟨v1,r1,rfl,h1,t1⟩:=t0.cons_inv
 obtain ⟨v2,r2,rfl,h2,t2⟩:=t1.cons_inv
 obtain ⟨v3,r3,rfl,h3,t3⟩:=t2.cons_inv
 obtain rfl:=t3.nil_inv
 obtain ⟨y0,rfl,b0⟩:=h0.i64_inv
 obtain ⟨y1,rfl,b1⟩:=h1.i64_inv
 obtain ⟨y2,rfl⟩:=h2.bool_inv
 have b2:=trivial
 obtain ⟨y3,rfl,b3⟩:=h3.agg_inv (f:=Gan.v) (by decide) (fun _=>Gan.rd)
 exact ⟨⟨y0,y1,y2,y3⟩,rfl,⟨b0,b1,b2,b3⟩⟩
def Eff.sh:List CSh:=[.int .i64,.int .i64,.sl true 16 Pt.sh,.int .i64,.int .i64,.int .i64]
structure Eff.Dk (z:Eff):Prop where
 num:-9223372036854775808≤z.num∧z.num≤9223372036854775807
 attr:-9223372036854775808≤z.attr∧z.attr≤9223372036854775807
 wave:z.wave.length≤140737488351232∧∀q∈z.wave,q.Dk
 period:-9223372036854775808≤z.period∧z.period≤9223372036854775807
 spread:-9223372036854775808≤z.spread∧z.spread≤9223372036854775807
 size:-9223372036854775808≤z.size∧z.size≤9223372036854775807
theorem Eff.rd {vs:List V} (h:OkCs Eff.sh vs):∃x:Eff,V.agg vs=x.v∧x.Dk:=by
 obtain ⟨v0,r0,rfl,h0,t0⟩:=h.cons_inv
 obtain ⟨v1,r1,rfl,h1,t1⟩:=t0.cons_inv
 obtain ⟨v2,r2,rfl,h2,t2⟩:=t1.cons_inv
 obtain ⟨v3,r3,rfl,h3,t3⟩:=t2.cons_inv
 obtain ⟨v4,r4,rfl,h4,t4⟩:=t3.cons_inv
 obtain ⟨v5,r5,rfl,h5,t5⟩:=t4.cons_inv
 obtain rfl:=t5.nil_inv
 obtain ⟨y0,rfl,b0⟩:=h0.i64_inv
 obtain ⟨y1,rfl,b1⟩:=h1.i64_inv
 obtain ⟨y2,rfl,b2⟩:=h2.agg_inv (f:=Pt.v) (by decide) (fun _=>Pt.rd)
 obtain ⟨y3,rfl,b3⟩:=h3.i64_inv
 obtain ⟨y4,rfl,b4⟩:=h4.i64_inv
 obtain ⟨y5,rfl,b5⟩:=h5.i64_inv
 exact ⟨⟨y0,y1,y2,y3,y4,y5⟩,rfl,⟨b0,b1,b2,b3,b4,b5⟩⟩
def Sho.sh:List CSh:=[.str,.sl false 24 [.sl true 16 Pt.sh],.sl true 56 Prof.sh,.sl true 72 Fixt.sh,.sl true 32 Grp.sh,.sl true 32 Pal.sh,.sl true 40 Lst.sh,.sl true 48 Sb.sh,.sl true 64 Eff.sh]
structure Sho.Dk (z:Sho):Prop where
 title:z.title.length≤140737488351232
 curves:z.curves.length≤140737488351232∧∀l∈z.curves,l.length≤140737488351232∧∀q∈l,q.Dk
 profs:z.profs.length≤140737488351232∧∀q∈z.profs,q.Dk
 fixts:z.fixts.length≤140737488351232∧∀q∈z.fixts,q.Dk
 grps:z.grps.length≤140737488351232∧∀q∈z.grps,q.Dk
 pals:z.pals.length≤140737488351232∧∀q∈z.pals,q.Dk
 lsts:z.lsts.length≤140737488351232∧∀q∈z.lsts,q.Dk
 subs:z.subs.length≤140737488351232∧∀q∈z.subs,q.Dk
 effs:z.effs.length≤140737488351232∧∀q∈z.effs,q.Dk
theorem Sho.rd {vs:List V} (h:OkCs Sho.sh vs):∃x:Sho,V.agg vs=x.v∧x.Dk:=by
 obtain ⟨v0,r0,rfl,h0,t0⟩:=h.cons_inv
 obtain ⟨v1,r1,rfl,h1,t1⟩:=t0.cons_inv
 obtain ⟨v2,r2,rfl,h2,t2⟩:=t1.cons_inv
 obtain ⟨v3,r3,rfl,h3,t3⟩:=t2.cons_inv
 obtain ⟨v4,r4,rfl,h4,t4⟩:=t3.cons_inv
 obtain ⟨v5,r5,rfl,h5,t5⟩:=t4.cons_inv
 obtain ⟨v6,r6,rfl,h6,t6⟩:=t5.cons_inv
 obtain ⟨v7,r7,rfl,h7,t7⟩:=t6.cons_inv
 obtain ⟨v8,r8,rfl,h8,t8⟩:=t7.cons_inv
 obtain rfl:=t8.nil_inv
 obtain ⟨y0,rfl,b0⟩:=h0.str_inv
 obtain ⟨y1,rfl,b1⟩:=h1.one_inv (f:=Pt.vs) (by decide) (fun v h=>h.agg_inv (f:=Pt.v) (by decide) (fun _=>Pt.rd))
 obtain ⟨y2,rfl,b2⟩:=h2.agg_inv (f:=Prof.v) (by decide) (fun _=>Prof.rd)
 obtain ⟨y3,rfl,b3⟩:=h3.agg_inv (f:=Fixt.v) (by decide) (fun _=>Fixt.rd)
 obtain ⟨y4,rfl,b4⟩:=h4.agg_inv (f:=Grp.v) (by decide) (fun _=>Grp.rd)
 obtain ⟨y5,rfl,b5⟩:=h5.agg_inv (f:=Pal.v) (by decide) (fun _=>Pal.rd)
 obtain ⟨y6,rfl,b6⟩:=h6.agg_inv (f:=Lst.v) (by decide) (fun _=>Lst.rd)
 obtain ⟨y7,rfl,b7⟩:=h7.agg_inv (f:=Sb.v) (by decide) (fun _=>Sb.rd)
 obtain ⟨y8,rfl,b8⟩:=h8.agg_inv (f:=Eff.v) (by decide) (fun _=>Eff.rd)
 exact ⟨⟨y0,y1,y2,y3,y4,y5,y6,y7,y8⟩,rfl,⟨b0,b1,b2,b3,b4,b5,b6,b7,b8⟩⟩
theorem Pt.inj {x y:Pt} (h:x.v=y.v):x=y:=by
 obtain ⟨x0,x1⟩:=x;obtain ⟨y0,y1⟩:=y
 simp only [Pt.v,V.agg.injEq,List.cons.injEq,V.int.injEq,V.str.injEq,V.bool.injEq,V.sl.injEq,true_and,and_true] at h
 obtain ⟨h0,h1⟩:=h
 cases h0
 cases h1
 rfl
theorem Slt.inj {x y:Slt} (h:x.v=y.v):x=y:=by
 obtain ⟨x0,x1,x2⟩:=x;obtain ⟨y0,y1,y2⟩:=y
 simp only [Slt.v,V.agg.injEq,List.cons.injEq,V.int.injEq,V.str.injEq,V.bool.injEq,V.sl.injEq,true_and,and_true] at h
 obtain ⟨h0,h1,h2⟩:=h
 cases h0
 cases h1
 cases h2
 rfl
theorem Ftr.inj {x y:Ftr} (h:x.v=y.v):x=y:=by
 obtain ⟨x0,x1,x2,x3,x4,x5,x6,x7,x8,x9⟩:=x;obtain ⟨y0,y1,y2,y3,y4,y5,y6,y7,y8,y9⟩:=y
 simp only [Ftr.v,V.agg.injEq,List.cons.injEq,V.int.injEq,V.str.injEq,V.bool.injEq,V.sl.injEq,true_and,and_true] at h
 obtain ⟨h0,h1,h2,h3,h4,h5,h6,h7,h8,h9⟩:=h
 cases h0
 cases h1
 cases h2
 cases h3
 cases h4
 cases h5
 cases h6
 cases h7
 cases h8
 cases map_inj Slt.inj h9
 rfl
theorem Prof.inj {x y:Prof} (h:x.v=y.v):x=y:=by
 obtain ⟨x0,x1,x2,x3⟩:=x;obtain ⟨y0,y1,y2,y3⟩:=y
 simp only [Prof.v,V.agg.injEq,List.cons.injEq,V.int.injEq,V.str.injEq,V.bool.injEq,V.sl.injEq,true_and,and_true] at h
 obtain ⟨h0,h1,h2,h3⟩:=h
 cases h0
 cases h1
 cases h2
 cases map_inj Ftr.inj h3
 rfl
theorem Fixt.inj {x y:Fixt} (h:x.v=y.v):x=y:=by
 obtain ⟨x0,x1,x2,x3,x4,x5,x6⟩:=x;obtain ⟨y0,y1,y2,y3,y4,y5,y6⟩:=y
 simp only [Fixt.v,V.agg.injEq,List.cons.injEq,V.int.injEq,V.str.injEq,V.bool.injEq,V.sl.injEq,true_and,and_true] at h
 obtain ⟨h0,h1,h2,h3,h4,h5,h6⟩:=h
 cases h0
 cases h1
 cases h2
 cases h3
 cases h4
 cases h5
 cases h6
 rfl
theorem Prm.inj {x y:Prm} (h:x.v=y.v):x=y:=by
 obtain ⟨x0,x1⟩:=x;obtain ⟨y0,y1⟩:=y
 simp only [Prm.v,V.agg.injEq,List.cons.injEq,V.int.injEq,V.str.injEq,V.bool.injEq,V.sl.injEq,true_and,and_true] at h
 obtain ⟨h0,h1⟩:=h
 cases h0
 cases h1
 rfl
theorem Val.inj {x y:Val} (h:x.v=y.v):x=y:=by
 obtain ⟨x0,x1⟩:=x;obtain ⟨y0,y1⟩:=y
 simp only [Val.v,V.agg.injEq,List.cons.injEq,V.int.injEq,V.str.injEq,V.bool.injEq,V.sl.injEq,true_and,and_true] at h
 obtain ⟨h0,h1⟩:=h
 cases h0
 cases h1
 rfl
theorem Grp.inj {x y:Grp} (h:x.v=y.v):x=y:=by
 obtain ⟨x0,x1⟩:=x;obtain ⟨y0,y1⟩:=y
 simp only [Grp.v,V.agg.injEq,List.cons.injEq,V.int.injEq,V.str.injEq,V.bool.injEq,V.sl.injEq,true_and,and_true] at h
 obtain ⟨h0,h1⟩:=h
 cases h0
 cases map_inj (f:=V.int .i64) (fun h=>(V.int.inj h).2) h1
 rfl
theorem Hue.inj {x y:Hue} (h:x.v=y.v):x=y:=by
 obtain ⟨x0,x1,x2⟩:=x;obtain ⟨y0,y1,y2⟩:=y
 simp only [Hue.v,V.agg.injEq,List.cons.injEq,V.int.injEq,V.str.injEq,V.bool.injEq,V.sl.injEq,true_and,and_true] at h
 obtain ⟨h0,h1,h2⟩:=h
 cases h0
 cases h1
 cases h2
 rfl
theorem Pal.inj {x y:Pal} (h:x.v=y.v):x=y:=by
 obtain ⟨x0,x1⟩:=x;obtain ⟨y0,y1⟩:=y
 simp only [Pal.v,V.agg.injEq,List.cons.injEq,V.int.injEq,V.str.injEq,V.bool.injEq,V.sl.injEq,true_and,and_true] at h
 obtain ⟨h0,h1⟩:=h
 cases h0
 cases map_inj Hue.inj h1
 rfl
theorem Tim.inj {x y:Tim} (h:x.v=y.v):x=y:=by
 obtain ⟨x0,x1,x2,x3,x4,x5⟩:=x;obtain ⟨y0,y1,y2,y3,y4,y5⟩:=y
 simp only [Tim.v,V.agg.injEq,List.cons.injEq,V.int.injEq,V.str.injEq,V.bool.injEq,V.sl.injEq,true_and,and_true] at h
 obtain ⟨h0,h1,h2,h3,h4,h5⟩:=h
 cases h0
 cases h1
 cases h2
 cases h3
 cases h4
 cases h5
 rfl
theorem Mov.inj {x y:Mov} (h:x.v=y.v):x=y:=by
 obtain ⟨⟨x0,x1⟩,⟨x2,x3⟩,x4⟩:=x;obtain ⟨⟨y0,y1⟩,⟨y2,y3⟩,y4⟩:=y
 simp only [Mov.v,V.agg.injEq,List.cons.injEq,V.int.injEq,V.str.injEq,V.bool.injEq,V.sl.injEq,true_and,and_true] at h
 obtain ⟨h0,h1,h2,h3,h4⟩:=h
 cases h0
 cases h1
 cases h2
 cases h3
 cases h4
 rfl
theorem Cu.inj {x y:Cu} (h:x.v=y.v):x=y:=by
 obtain ⟨x0,x1,x2,x3,x4,x5,x6,x7,x8⟩:=x;obtain ⟨y0,y1,y2,y3,y4,y5,y6,y7,y8⟩:=y
 simp only [Cu.v,V.agg.injEq,List.cons.injEq,V.int.injEq,V.str.injEq,V.bool.injEq,V.sl.injEq,true_and,and_true] at h
 obtain ⟨h0,h1,h2,h3,h4,h5,h6,h7,h8⟩:=h
 cases h0
 cases h1
 cases map_inj Mov.inj h2
 cases map_inj Tim.inj h3
 cases h4
 cases h5
 cases h6
 cases h7
 cases h8
 rfl
theorem Lst.inj {x y:Lst} (h:x.v=y.v):x=y:=by
 obtain ⟨x0,x1,x2⟩:=x;obtain ⟨y0,y1,y2⟩:=y
 simp only [Lst.v,V.agg.injEq,List.cons.injEq,V.int.injEq,V.str.injEq,V.bool.injEq,V.sl.injEq,true_and,and_true] at h
 obtain ⟨h0,h1,h2⟩:=h
 cases h0
 cases h1
 cases map_inj Cu.inj h2
 rfl
theorem Gan.inj {x y:Gan} (h:x.v=y.v):x=y:=by
 obtain ⟨⟨x0,x1⟩,x2⟩:=x;obtain ⟨⟨y0,y1⟩,y2⟩:=y
 simp only [Gan.v,V.agg.injEq,List.cons.injEq,V.int.injEq,V.str.injEq,V.bool.injEq,V.sl.injEq,true_and,and_true] at h
 obtain ⟨h0,h1,h2⟩:=h
 cases h0
 cases h1
 cases h2
 rfl
theorem Sb.inj {x y:Sb} (h:x.v=y.v):x=y:=by
 obtain ⟨x0,x1,x2,x3⟩:=x;obtain ⟨y0,y1,y2,y3⟩:=y
 simp only [Sb.v,V.agg.injEq,List.cons.injEq,V.int.injEq,V.str.injEq,V.bool.injEq,V.sl.injEq,true_and,and_true] at h
 obtain ⟨h0,h1,h2,h3⟩:=h
 cases h0
 cases h1
 cases h2
 cases map_inj Gan.inj h3
 rfl
theorem Eff.inj {x y:Eff} (h:x.v=y.v):x=y:=by
 obtain ⟨x0,x1,x2,x3,x4,x5⟩:=x;obtain ⟨y0,y1,y2,y3,y4,y5⟩:=y
 simp only [Eff.v,V.agg.injEq,List.cons.injEq,V.int.injEq,V.str.injEq,V.bool.injEq,V.sl.injEq,true_and,and_true] at h
 obtain ⟨h0,h1,h2,h3,h4,h5⟩:=h
 cases h0
 cases h1
 cases map_inj Pt.inj h2
 cases h3
 cases h4
 cases h5
 rfl
theorem Sho.inj {x y:Sho} (h:x.v=y.v):x=y:=by
 obtain ⟨x0,x1,x2,x3,x4,x5,x6,x7,x8⟩:=x;obtain ⟨y0,y1,y2,y3,y4,y5,y6,y7,y8⟩:=y
 simp only [Sho.v,V.agg.injEq,List.cons.injEq,V.int.injEq,V.str.injEq,V.bool.injEq,V.sl.injEq,true_and,and_true] at h
 obtain ⟨h0,h1,h2,h3,h4,h5,h6,h7,h8⟩:=h
 cases h0
 cases map_inj (f:=Pt.vs) (fun h=>map_inj Pt.inj (V.sl.inj h)) h1
 cases map_inj Prof.inj h2
 cases map_inj Fixt.inj h3
 cases map_inj Grp.inj h4
 cases map_inj Pal.inj h5
 cases map_inj Lst.inj h6
 cases map_inj Sb.inj h7
 cases map_inj Eff.inj h8
 rfl
end Go.Proofs.YtanojbajfgcjeaaGreatDoor

namespace Go.Proofs.YtanojbajfgcjeaaGreatDoor
open Go.Sha
set_option maxRecDepth 100000
theorem Cu.Dk.ok {x:Cu} (h:x.Dk):x.ok:=⟨by have:=h.num;omega,by have:=h.label;omega,by have:=h.moves.1;omega,by have:=h.parts.1;omega,by have:=h.link;omega⟩
theorem Lst.Dk.ok {x:Lst} (h:x.Dk):x.ok:=⟨by have:=h.cues.1;omega,fun q hq=>(h.cues.2 q hq).ok⟩
theorem Prof.Dk.ok {x:Prof} (h:x.Dk):x.ok∧x.okR:=⟨⟨by have:=h.feats.1;omega,fun q hq=>by have:=(h.feats.2 q hq).wheel.1;omega,by have:=h.name;omega⟩,
 by have:=h.feats.1;omega,fun q hq=>⟨by have:=(h.feats.2 q hq).wheel.1;omega,fun z hz=>by have:=((h.feats.2 q hq).wheel.2 z hz).name;omega⟩,by have:=h.name;omega⟩
theorem Sho.Dk.ok {x : Sho} (h : x.Dk) : x.ok :=
  ⟨by have := h.title; omega, ⟨by have := h.curves.1; omega, fun q hq => by have := (h.curves.2 q hq).1; omega⟩, ⟨by have := h.profs.1; omega, fun q hq => (h.profs.2 q hq).ok.1, fun q hq => (h.profs.2 q hq).ok.2⟩,
   ⟨by have := h.fixts.1; omega, fun q hq => by have := (h.fixts.2 q hq).cable; omega⟩, ⟨by have := h.grps.1; omega, fun q hq => by have := (h.grps.2 q hq).chans.1; omega⟩, ⟨by have := h.pals.1; omega, fun q hq => by have := (h.pals.2 q hq).hues.1; omega⟩,
   ⟨by have := h.lsts.1; omega, fun q hq => (h.lsts.2 q hq).ok⟩, ⟨by have := h.subs.1; omega, fun q hq => by have := (h.subs.2 q hq).gains.1; omega⟩, ⟨by have := h.effs.1; omega, fun q hq => by have := (h.effs.2 q hq).wave.1; omega⟩⟩
end Go.Proofs.YtanojbajfgcjeaaGreatDoor

namespace Go.Proofs.YtanojbajfgcjeaaGreatDoor
open Go.ChangeShapes Go.WideShapes Go.ChangeAt Go.RowKit Go.Sha
theorem soundA:ESound Tryz.prog HA:=HA_ok HK_ok
theorem soundB:ESound Tryz.prog HB:=HB_ok HH_ok soundA
theorem soundD:ESound Tryz.prog HD:=HD_ok HH_ok HK_ok soundA
theorem glB_K {v:GV}:glB (stG (glK v)).x.gl=true:=by kernel_rfl
theorem sk1:(laidOutB Tryz.prog)=true:=by kernel_rfl
theorem sk2:(mapsRowed Tryz.prog)=true:=by kernel_rfl
theorem sk6:(Tryz.prog.stops == [])=true:=by kernel_rfl
theorem sk8:(Tryz.prog.stopKnobs == [])=true:=by kernel_rfl
theorem sk22:(Rows.paperworkTablesRow.plainKeys == Tryz.prog.plainKeys)=true:=by kernel_rfl
theorem sk24:(Tryz.prog.stopsHeard)=true:=by kernel_rfl
theorem sk25:(Tryz.prog.mayEnter)=true:=by kernel_rfl
theorem sk26:(Rows.paperworkTablesRow.lifted == Tryz.prog.liftsFinal)=true:=by kernel_rfl
theorem sk27:(Tryz.prog.make == some Rows.paperworkTablesRow.make)=true:=by kernel_rfl
theorem sk15:(Rows.paperworkTablesRow.mapsOut == Tryz.prog.mapsAmong Tryz.f3.resultTypes.toList)=true:=by kernel_rfl
theorem sown:ownKnob Tryz.prog.godebug=none:=by kernel_rfl
theorem smain:Tryz.prog.mainIs=some (Rows.paperworkTablesCard.stood.harness.1,Rows.paperworkTablesCard.stood.harness.2.toList):=by kernel_rfl
theorem slooks:Rows.paperworkTablesCard.stood.looks=Tryz.prog.looks []:=by kernel_rfl
end Go.Proofs.YtanojbajfgcjeaaGreatDoor

