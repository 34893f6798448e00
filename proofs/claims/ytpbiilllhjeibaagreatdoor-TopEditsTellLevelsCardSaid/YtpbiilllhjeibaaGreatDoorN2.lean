/- The compiled code of functions of this seat, printed by a program, and that it is the translation's: checked by the kernel. The patch: the program's answer is the reference's. Profiles: the program's  .. -/
import Derived.Test.YtpbiilllhjeibaaGreatDoorNShbYB
import Derived.Test.YtpbiilllhjeibaaGreatDoorProg
import Derived.KernelRfl
import Derived.Test.YtpbiilllhjeibaaGreatDoorN1
import Derived.Test.YtpbiilllhjeibaaGreatDoorNShbEK
import Derived.Test.YtpbiilllhjeibaaGreatDoorNShbAC
import Derived.Shelf.Small.Utf8
import Derived.Shelf.Small.Bits
import Derived.Shelf.Small.Strs
import Derived.Shelf.Strconv.Atoi
import Derived.Shelf.Strconv.Itoa0
import Derived.Shelf.Strconv.Itoa1
import Derived.Shelf.LaysM
import Derived.Shelf.Strconv.Itoa2
import Derived.Shelf.Strconv.Itoa3
import Derived.Shelf.Strconv.AtoiErrFast
import Derived.Shelf.Strconv.ParseIntEmpty
import Derived.Shelf.Strconv.AtoiFail
import Derived.Shelf.Strconv.Clone
import Derived.Shelf.Strconv.SyntaxError
import Derived.Shelf.LaysC
import Derived.Shelf.Strconv.ToError
import Derived.Shelf.Strconv.Lower
import Derived.Shelf.Strconv.ParseUint10
import Derived.Shelf.Strconv.ParseUint10Empty
import Derived.Shelf.Strconv.ParseUint10Any
import Derived.Shelf.Strconv.ParseInt10
import Derived.Shelf.Strconv.AtoiLong
import Derived.Shelf.Strconv.AtoiInnerAll
import Derived.Shelf.Strconv.RangeError
import Derived.Shelf.Strconv.ToErrorRange
import Derived.Shelf.Strconv.AtoiAll
import Derived.Shelf.Strings.Search1
import Derived.Shelf.Strings.Search2
import Derived.Shelf.Strings.Cut
import Derived.Shelf.Strings.Shaped
import Derived.Shelf.GgClosure.StringsIndexFunc
import Derived.Ground.GgwProg
import Derived.Shelf.GgClosure.StringsIndexFuncTop
import Derived.Shelf.Strings.Prefix
import Derived.Shelf.Unicode.Decode
import Derived.Shelf.Strings.Runes
import Derived.Shelf.Strings.AsciiSet
import Derived.Shelf.Unicode.DecodeSlow
import Derived.Shelf.Unicode.DecodeAny
import Derived.Shelf.Unicode.DecodeLast
import Derived.Ground.Names2Prog
import Derived.Shelf.Slices.SearchI
set_option linter.unusedSimpArgs false
set_option linter.unusedVariables false
namespace Go.Proofs.YtpbiilllhjeibaaGreatDoor
open Go.Sha
set_option maxRecDepth 10000
def B139_0:Cd:=(.g [.b 22 .lss 21 20] (.join [5,20,21] (.i 22 .skip (.exit [] 0)) (.join [5,20,21] (.block 1 (.g [.m 23 21,.m 6 23] (.g [.d 24 2 5,.m 25 6,.g' 26 224 24 25,.m 7 26] (.g [.m 27 7,.v 28 .neq 27 0] (.i 28 (.g [.m 29 7,.m 4 29] (.ret [4])) .skip))))) (.reg [.v 30 .add 21 1,.m 21 30]))))
theorem F139:compF Tryz.prog 139=some ⟨31,[.tmp 4],(.g [.c 4 0] (.join [0,1] (.join [0,1,15] (.reg [.m 8 1,.u 9 8,.v 10 .gtr 9 32,.m 11 10,.mx 12 0 11,.x 13 (.len (.t 12)) 11,.vx 14 .gtr 13 64 11,.o 15 11 14]) (.i 15 (.g [.c 4 5] (.ret [4])) .skip)) (.g [.m 16 0,.m 17 1,.g' 18 223 16 17,.s 5 (.alloc 264 [.nils,.nilm]),.w 2 5 18] (.z [5] (.join [] (.g [.m 19 0,.u 20 19,.c 21 0] (.block 0 (.loop [5,20,21] [] B139_0))) (.g [.c 4 0] (.ret [4])))))))⟩:=by kernel_rfl
def B20_0:Cd:=(.g [.b 9 .lss 8 7] (.join [1,6,7,8] (.i 9 .skip (.exit [] 0)) (.join [1,6,7,8] (.block 1 (.g [.r 10 1 6 8,.d 11 1 10,.s 4 (.alloc 122 [.nilf]),.w 1 4 11] (.z [4] (.g [.a 12 0 4,.l 13 12,.d 14 9 1,.s 15 (.call (.t 13) [.t 14]),.m 5 15] (.g [.m 16 5,.v 17 .neq 16 0] (.i 17 (.g [.m 18 5,.m 2 18] (.ret [2])) .skip)))))) (.reg [.v 19 .add 8 1,.m 8 19]))))
theorem F20:compF Tryz.prog 20=some ⟨20,[.tmp 2],(.g [.q 1 31 0,.c 2 0] (.z [1] (.join [] (.g [.s 6 (.f 45 []),.u 7 6,.c 8 0] (.block 0 (.loop [1,6,7,8] [] B20_0))) (.g [.c 2 0] (.ret [2])))))⟩:=by kernel_rfl
theorem F45:compF Tryz.prog 45=some ⟨9,[.tmp 0],(.g [.s 0 (.mv (.c .nils))] (.g [.s 1 (.build [.nilf] [(0,1,(.c (.fn (.func 78) [] [])))]),.s 2 (.build [.nilf] [(0,1,(.c (.fn (.func 79) [] [])))]),.s 3 (.build [.nilf] [(0,1,(.c (.fn (.func 82) [] [])))]),.s 4 (.build [.nilf] [(0,1,(.c (.fn (.func 84) [] [])))]),.s 5 (.build [.nilf] [(0,1,(.c (.fn (.func 85) [] [])))]),.s 6 (.build [.nilf] [(0,1,(.c (.fn (.func 86) [] [])))]),.s 7 (.build [.nilf] [(0,1,(.c (.fn (.func 88) [] [])))]),.s 8 (.bslice 122 1 [.t 1,.t 2,.t 3,.t 4,.t 5,.t 6,.t 7]),.m 0 8] (.ret [0])))⟩:=by kernel_rfl
def B78_0:Cd:=(.g [.b 14 .lss 13 12] (.join [11,12,13] (.i 14 .skip (.exit [] 0)) (.join [11,12,13] (.block 1 (.g [.r 15 1 11 13,.l 16 15,.m 4 16] (.join [11,12,13,26] (.reg [.m 17 4,.s 18 (.bin .lss (.t 17) (.c (.int .u8 32))),.m 19 18,.mx 20 4 19,.x 21 (.bin .gtr (.t 20) (.c (.int .u8 126))) 19,.o 22 19 21,.m 23 22,.mx 24 4 23,.x 25 (.bin .eql (.t 24) (.c (.int .u8 34))) 23,.o 26 23 25]) (.i 26 (.g [.c 2 3] (.ret [2])) .skip)))) (.reg [.v 27 .add 13 1,.m 13 27]))))
theorem F78:compF Tryz.prog 78=some ⟨28,[.tmp 2],(.g [.q 1 31 0,.c 2 0] (.z [1] (.join [1] (.g [.a 5 0 1,.l 6 5,.s 7 (.lens (.t 6)),.v 8 .gtr 7 24] (.i 8 (.g [.c 2 13] (.ret [2])) .skip)) (.join [] (.g [.a 9 0 1,.l 10 9,.s 11 (.cvsb 5 (.t 10)),.u 12 11,.c 13 0] (.block 0 (.loop [11,12,13] [] B78_0))) (.g [.c 2 0] (.ret [2]))))))⟩:=by kernel_rfl
theorem F79:compF Tryz.prog 79=some ⟨6,[.tmp 2],(.g [.q 1 31 0,.c 2 0] (.z [1] (.g [.d 3 9 1,.f 4 81 3,.f 5 80 4,.m 2 5] (.ret [2]))))⟩:=by kernel_rfl
theorem F82:compF Tryz.prog 82=some ⟨6,[.tmp 2],(.g [.q 1 31 0,.c 2 0] (.z [1] (.g [.a 3 4 1,.l 4 3,.f 5 83 4,.m 2 5] (.ret [2]))))⟩:=by kernel_rfl
theorem F84:compF Tryz.prog 84=some ⟨6,[.tmp 2],(.g [.q 1 31 0,.c 2 0] (.z [1] (.g [.a 3 5 1,.l 4 3,.f 5 64 4,.m 2 5] (.ret [2]))))⟩:=by kernel_rfl
def B85_0:Cd:=(.g [.b 14 .lss 13 12] (.join [1,11,12,13] (.i 14 .skip (.exit [] 0)) (.join [1,11,12,13] (.block 1 (.g [.m 15 13,.r 16 3 11 13,.d 17 3 16,.s 4 (.alloc 111 [.i 0,.i 0,.nils]),.m 3 15,.w 3 4 17] (.z [4] (.join [1,3,4,11,12,13] (.g [.d 18 3 4,.f 19 141 18,.m 5 19] (.g [.m 20 5,.v 21 .neq 20 0] (.i 21 (.g [.m 22 5,.m 2 22] (.ret [2])) .skip))) (.join [1,11,12,13,36] (.dreg 14 [.m 23 3,.v 24 .gtr 23 0,.m 25 24,.ay 26 0 4 25,.ly 27 26 25,.ay 28 6 1 25,.ly 29 28 25,.my 30 3 25,.vy 31 .sub 30 1 25,.ry 32 3 29 31 25,.ay 33 0 32 25,.ly 34 33 25,.by' 35 .leq 27 34 25,.e 36 25 35]) (.i 36 (.g [.c 2 9] (.ret [2])) .skip)))))) (.reg [.v 37 .add 13 1,.m 13 37]))))
theorem F85:compF Tryz.prog 85=some ⟨38,[.tmp 2],(.g [.q 1 31 0,.c 2 0] (.z [1] (.join [1] (.g [.a 6 6 1,.l 7 6,.u 8 7,.v 9 .gtr 8 8] (.i 9 (.g [.c 2 5] (.ret [2])) .skip)) (.join [] (.g [.a 10 6 1,.l 11 10,.u 12 11,.c 13 0] (.block 0 (.loop [1,11,12,13] [] B85_0))) (.g [.c 2 0] (.ret [2]))))))⟩:=by kernel_rfl
theorem F86:compF Tryz.prog 86=some ⟨6,[.tmp 2],(.g [.q 1 31 0,.c 2 0] (.z [1] (.g [.a 3 7 1,.l 4 3,.f 5 87 4,.m 2 5] (.ret [2]))))⟩:=by kernel_rfl
theorem F88:compF Tryz.prog 88=some ⟨6,[.tmp 2],(.g [.q 1 31 0,.c 2 0] (.z [1] (.g [.a 3 8 1,.l 4 3,.f 5 89 4,.m 2 5] (.ret [2]))))⟩:=by kernel_rfl
theorem F18:compF Tryz.prog 18=some ⟨40,[.tmp 2],(.g [.q 1 31 0,.c 2 0] (.z [1] (.join [1] (.g [.d 8 9 1,.f 9 39 8,.m 3 9] (.g [.m 10 3,.v 11 .neq 10 0] (.i 11 (.g [.m 12 3,.m 2 12] (.ret [2])) .skip))) (.join [1] (.g [.a 13 4 1,.l 14 13,.f 15 40 14,.m 4 15] (.g [.m 16 4,.v 17 .neq 16 0] (.i 17 (.g [.m 18 4,.m 2 18] (.ret [2])) .skip))) (.join [1] (.g [.a 19 5 1,.l 20 19,.f 21 7 20,.m 5 21] (.g [.m 22 5,.v 23 .neq 22 0] (.i 23 (.g [.m 24 5,.m 2 24] (.ret [2])) .skip))) (.join [1] (.g [.a 25 6 1,.l 26 25,.f 27 41 26,.m 6 27] (.g [.m 28 6,.v 29 .neq 28 0] (.i 29 (.g [.m 30 6,.m 2 30] (.ret [2])) .skip))) (.join [1] (.g [.a 31 7 1,.l 32 31,.f 33 42 32,.m 7 33] (.g [.m 34 7,.v 35 .neq 34 0] (.i 35 (.g [.m 36 7,.m 2 36] (.ret [2])) .skip))) (.g [.a 37 8 1,.l 38 37,.f 39 43 38,.m 2 39] (.ret [2])))))))))⟩:=by kernel_rfl
theorem F39:compF Tryz.prog 39=some ⟨31,[.tmp 2],(.g [.q 1 31 0,.c 2 0] (.z [1] (.join [1] (.g [.a 6 0 1,.l 7 6,.f 8 71 7,.m 3 8] (.g [.m 9 3,.v 10 .neq 9 0] (.i 10 (.g [.m 11 3,.m 2 11] (.ret [2])) .skip))) (.join [1] (.g [.a 12 1 1,.l 13 12,.f 14 72 13,.m 4 14] (.g [.m 15 4,.v 16 .neq 15 0] (.i 16 (.g [.m 17 4,.m 2 17] (.ret [2])) .skip))) (.join [1] (.g [.a 18 2 1,.l 19 18,.a 20 1 1,.l 21 20,.g' 22 73 19 21,.m 5 22] (.g [.m 23 5,.v 24 .neq 23 0] (.i 24 (.g [.m 25 5,.m 2 25] (.ret [2])) .skip))) (.g [.a 26 3 1,.l 27 26,.a 28 2 1,.l 29 28,.g' 30 74 27 29,.m 2 30] (.ret [2])))))))⟩:=by kernel_rfl
def B41_0:Cd:=(.join [0,3] (.g [.m 8 3,.m 9 0,.u 10 9,.b 11 .lss 8 10] (.i 11 .skip (.exit [] 0))) (.join [0,3] (.block 1 (.join [0,3] (.g [.m 14 0,.m 15 3,.r 16 3 14 15,.d 17 3 16,.f 18 70 17,.m 4 18] (.g [.m 19 4,.v 20 .neq 19 0] (.i 20 (.g [.m 21 4,.m 2 21] (.ret [2])) .skip))) (.join [0,3,37] (.dreg 16 [.m 22 3,.v 23 .gtr 22 0,.m 24 23,.my 25 0 24,.my 26 3 24,.ry 27 3 25 26 24,.ay 28 0 27 24,.ly 29 28 24,.my 30 0 24,.my 31 3 24,.vy 32 .sub 31 1 24,.ry 33 3 30 32 24,.ay 34 0 33 24,.ly 35 34 24,.by' 36 .leq 29 35 24,.e 37 24 36]) (.i 37 (.g [.c 2 9] (.ret [2])) .skip)))) (.reg [.m 12 3,.v 13 .add 12 1,.m 3 13])))
theorem F41:compF Tryz.prog 41=some ⟨38,[.tmp 2],(.g [.c 2 0] (.join [0] (.g [.m 5 0,.u 6 5,.v 7 .gtr 6 8] (.i 7 (.g [.c 2 5] (.ret [2])) .skip)) (.join [] (.g [.c 3 0] (.block 0 (.loop [0,3] [] B41_0))) (.g [.c 2 0] (.ret [2])))))⟩:=by kernel_rfl
def B71_0:Cd:=(.join [0,3] (.g [.m 7 3,.m 8 0,.s 9 (.lens (.t 8)),.b 10 .lss 7 9] (.i 10 .skip (.exit [] 0))) (.join [0,3] (.block 1 (.join [0,3,28] (.reg [.m 13 0,.m 14 3,.s 15 (.ichr (.t 13) (.t 14)),.s 16 (.bin .lss (.t 15) (.c (.int .u8 32))),.m 17 16,.mx 18 0 17,.mx 19 3 17,.x 20 (.ichr (.t 18) (.t 19)) 17,.x 21 (.bin .gtr (.t 20) (.c (.int .u8 126))) 17,.o 22 17 21,.m 23 22,.mx 24 0 23,.mx 25 3 23,.x 26 (.ichr (.t 24) (.t 25)) 23,.x 27 (.bin .eql (.t 26) (.c (.int .u8 34))) 23,.o 28 23 27]) (.i 28 (.g [.c 2 3] (.ret [2])) .skip))) (.reg [.m 11 3,.v 12 .add 11 1,.m 3 12])))
theorem F71:compF Tryz.prog 71=some ⟨29,[.tmp 2],(.g [.c 2 0] (.join [0] (.g [.m 4 0,.s 5 (.lens (.t 4)),.v 6 .gtr 5 24] (.i 6 (.g [.c 2 13] (.ret [2])) .skip)) (.join [] (.g [.c 3 0] (.block 0 (.loop [0,3] [] B71_0))) (.g [.c 2 0] (.ret [2])))))⟩:=by kernel_rfl
end Go.Proofs.YtpbiilllhjeibaaGreatDoor

namespace Go.Proofs.YtpbiilllhjeibaaGreatDoor
open Go.Sha
set_option maxRecDepth 100000
variable {g:List (Nat×Obj)}{n:Nat}
theorem foot_ded {ps:List Prof}{x:Fixt}:footS (dedP ps) x=footS ps x:=by simp only[footS,pfx_ded]
theorem useU_ded {ps:List Prof}{u:Int}:∀{l:List Fixt}{j:Nat}{a:List Int},useU (dedP ps) u l j a=useU ps u l j a
 |[],_,_=>rfl
 |x::r,j,a=>by rw[useU,useU,foot_ded,useU_ded]
theorem setL_get {a:List Int}{o k:Nat}{v:Int}(h:o<a.length):(setL a o v).getD k 0=if k=o then v else a.getD k 0:=by
 have h1:(a.take o).length=o:=len_take (by omega)
 rw[setL,List.getD_eq_getElem?_getD,List.getElem?_append]
 rw[h1]
 by_cases h2:k<o
 ·rw[if_pos h2,if_neg (by omega),List.getElem?_take,if_pos h2,List.getD_eq_getElem?_getD]
 ·rw[if_neg h2]
  by_cases h3:k=o
  ·subst h3;simp
  ·rw[if_neg h3,show k-o=(k-o-1)+1 by omega,List.getElem?_cons_succ,List.getElem?_drop,show o+1+(k-o-1)=k by omega,List.getD_eq_getElem?_getD]
theorem fillA_get {v:Int}{k:Nat}:∀{m:Nat}{a:List Int}{o:Nat},o+m≤a.length→(fillA a o v m).getD k 0=if o≤k∧k<o+m then v else a.getD k 0
 |0,a,o,h=>by rw[fillA,if_neg (by omega)]
 |m+1,a,o,h=>by
  have h1:=setL_len (a:=a) (o:=o) (v:=v) (by omega)
  rw[fillA,fillA_get (by omega),setL_get (by omega)]
  by_cases h2:k=o
  ·rw[if_neg (by omega),if_pos h2,if_pos (by omega)]
  ·rw[if_neg h2]
   by_cases h3:o+1≤k∧k<o+1+m
   ·rw[if_pos h3,if_pos (by omega)]
   ·rw[if_neg h3,if_neg (by omega)]
def usesK (ps:List Prof)(u:Int)(k:Nat)(y:Fixt):Prop:=y.univ=u∧y.addr≤k∧(k:Int)<y.addr+footS ps y
theorem useU_get {ps:List Prof}{u:Int}{k:Nat}:∀{l:List Fixt}{j:Nat}{a:List Int},(∀x∈l,inU ps x)→a.length=513→(0<(useU ps u l j a).getD k 0↔(∃y∈l,usesK ps u k y)∨0<a.getD k 0)
 |[],j,a,_,_=>by simp[useU]
 |x::r,j,a,hb,h=>by
  obtain⟨b1,b2,b3⟩:=hb x (List.mem_cons_self ..)
  have hl:(if x.univ=u then fillA a x.addr.toNat (j+1) (footS ps x).toNat else a).length=513:=by
   split
   ·rw[fillA_len (by omega)];exact h
   ·exact h
  rw[useU,useU_get (fun y hy=>hb y (List.mem_cons_of_mem _ hy)) hl]
  have e:0<(if x.univ=u then fillA a x.addr.toNat (j+1) (footS ps x).toNat else a).getD k 0↔usesK ps u k x∨0<a.getD k 0:=by
   by_cases hu:x.univ=u
   ·rw[if_pos hu,fillA_get (by omega)]
    unfold usesK
    by_cases h2:x.addr.toNat≤k∧k<x.addr.toNat+(footS ps x).toNat
    ·rw[if_pos h2];exact⟨fun _=>.inl ⟨hu,by omega,by omega⟩,fun _=>by omega⟩
    ·rw[if_neg h2];exact⟨.inr,fun e=>e.resolve_left fun e=>h2 (by omega)⟩
   ·rw[if_neg hu];exact⟨.inr,fun e=>e.resolve_left fun e=>hu e.1⟩
  rw[e]
  simp only[List.mem_cons,exists_eq_or_imp]
  exact⟨fun h=>h.elim (fun h=>.inl (.inr h)) fun h=>h.elim (fun h=>.inl (.inl h)) .inr,fun h=>h.elim (fun h=>h.elim (fun h=>.inr (.inl h)) .inl) fun h=>.inr (.inr h)⟩
theorem any_part {l:List Int}{m n:Nat}{p:Int→Bool}:(((l.take n).drop m).any p=true)↔∃k,m≤k∧k<n∧k<l.length∧p (l.getD k 0)=true:=by
 rw[List.any_eq_true]
 constructor
 ·rintro⟨x,hx,hp⟩
  obtain⟨i,hi⟩:=List.mem_iff_getElem?.1 hx
  rw[List.getElem?_drop,List.getElem?_take]at hi
  split at hi
  ·rename_i h
   have h2:=(List.getElem?_eq_some_iff.1 hi).1
   exact⟨m+i,by omega,h,h2,by rw[List.getD_eq_getElem?_getD,hi];exact hp⟩
  ·cases hi
 ·rintro⟨k,h1,h2,h3,h4⟩
  refine⟨l.getD k 0,List.mem_iff_getElem?.2 ⟨k-m,?_⟩,h4⟩
  rw[List.getElem?_drop,List.getElem?_take,show m+(k-m)=k by omega,if_pos h2,List.getD_eq_getElem?_getD,List.getElem?_eq_getElem h3];rfl
theorem aloC_ok {ps:List Prof}{x:Fixt}(h:aloC ps x=0):rngC x=0∧∃p,pfx ps x.prof=some p∧1≤p.foot∧x.addr+p.foot≤513:=by
 unfold aloC at h
 split at h
 ·rename_i h1;exact absurd h h1
 ·rename_i h1
  have h1:=Classical.not_not.1 h1
  split at h
  ·cases h
  ·split at h
   ·cases h
   ·rename_i p hp
    split at h
    ·cases h
    ·rename_i h3
     have:=rng_ok h1
     rw[wr1_ok (by omega)]at h3
     exact⟨h1,p,hp,by omega,by omega⟩
theorem aloC_in {ps:List Prof}{x:Fixt}(h:aloC ps x=0):inU ps x∧1≤footS ps x:=by
 obtain⟨h1,p,hp,h2,h3⟩:=aloC_ok h
 have:=rng_ok h1
 have e:footS ps x=p.foot:=by rw[footS,hp];rfl
 unfold inU
 rw[e]
 omega
theorem zI_get {k:Nat}:zI.getD k 0=0:=by
 rw[zI,List.getD_eq_getElem?_getD,List.getElem?_replicate];split<;>rfl
theorem fixF_eq {ps:List Prof}{b:List Fixt}{x:Fixt}(hb:∀y∈b,aloC ps y=0) :
  fixF (dedP ps) b x=if ¬aloC ps x=0 then aloC ps x else if b.any (fun p=>decide (p.chan=x.chan∧p.part=x.part))=true then 7 else if b.any (fun p=>ovl ps p x)=true then 10 else 0:=by
 unfold fixF
 rw[pfx_ded,useU_ded]
 by_cases h1:rngC x=0
 ·rw[if_neg (by simp[h1])]
  unfold aloC
  rw[if_neg (by simp[h1]:¬¬rngC x=0)]
  by_cases h2:¬x.cable=[]∧nameS x.cable=false
  ·rw[if_pos h2,if_pos h2];rfl
  ·rw[if_neg h2,if_neg h2]
   cases hp:pfx ps x.prof with
   |none=>rfl
   |some p =>
    dsimp only
    by_cases h3:p.foot<1∨wr1 x<p.foot
    ·simp[h3]
    ·simp only[if_neg h3,not_true_eq_false,if_false]
     have r:=rng_ok h1
     rw[wr1_ok (by omega)]at h3
     have e1:(b.any fun y=>decide (y.chan=x.chan)&&y.part == x.part)=b.any fun p=>decide (p.chan=x.chan∧p.part=x.part):=by
      congr 1;funext y;simp only[Bool.decide_and];rfl
     rw[e1]
     congr 1
     have ef:footS ps x=p.foot:=by rw[footS,hp];rfl
     have e2:((((useU ps x.univ b 0 zI).take (x.addr+p.foot).toNat).drop x.addr.toNat).any fun v=>decide (0<v))=b.any fun p=>ovl ps p x:=by
      rw[Bool.eq_iff_iff,any_part,List.any_eq_true,useU_len (fun y hy=>(aloC_in (hb y hy)).1) zI_len]
      simp only[decide_eq_true_eq,useU_get (fun y hy=>(aloC_in (hb y hy)).1) zI_len,zI_get,Int.lt_irrefl,or_false]
      constructor
      ·rintro⟨k,k1,k2,k3,y,hy,u1,u2,u3⟩
       obtain⟨⟨b1,b2,b3⟩,b4⟩:=aloC_in (hb y hy)
       have w1:IntKind.i64.wrap (x.addr+p.foot)=x.addr+p.foot:=iwrap (by omega) (by omega)
       have w2:IntKind.i64.wrap (y.addr+footS ps y)=y.addr+footS ps y:=iwrap (by omega) (by omega)
       exact⟨y,hy,by simp only[ovl,decide_eq_true_eq,w1,w2,ef];omega⟩
      ·rintro⟨y,hy,ho⟩
       obtain⟨⟨b1,b2,b3⟩,b4⟩:=aloC_in (hb y hy)
       have w1:IntKind.i64.wrap (x.addr+p.foot)=x.addr+p.foot:=iwrap (by omega) (by omega)
       have w2:IntKind.i64.wrap (y.addr+footS ps y)=y.addr+footS ps y:=iwrap (by omega) (by omega)
       simp only[ovl,decide_eq_true_eq,w1,w2,ef]at ho
       refine⟨(max x.addr y.addr).toNat,?_,?_,?_,y,hy,ho.1,?_,?_⟩<;>omega
     rw[e2]
 ·rw[if_pos h1]
  have:aloC ps x=2:=by
   unfold aloC
   rw[if_pos h1]
   unfold rngC at h1 ⊢
   split
   ·rfl
   ·split
    ·rfl
    ·rename_i a b;simp[a,b]at h1
  rw[this];rfl
theorem L139 {l:List Fixt}{ps:List Prof}(hl:l.length<140737488355328)(hb:∀x∈l,x.cable.length<140737488355328):∀r j,l.drop j=r→(∀x∈l.take j,aloC ps x=0)→runL Tryz.prog HH [5,20,21] 1 B139_0 [(5,.ep (rigV l (dedP ps)) 0),(20,.int .i64 l.length),(21,.int .i64 j)] (stN g 1)=lpE (stN g 1) [] 4 (fixR ps l r j):=by
 refine drop_ind (fun j h h8=>?_) (fun q r j h hx hd ih h8=>?_)
 all_goals rw[runL_of B139_0.eq_1]
 ·have h1:¬(j:Int)<l.length:=by omega
  push_cast[h1,fixR]
 ·have h1:(j:Int)<l.length:=by omega
  have hw:=iw1 (j:=j) (by omega)
  have h190:=fun(st:St)=>f224 (ps:=dedP ps) (st:=st) hl h hx (fun y hy=>by have:=(aloC_in (h8 y hy)).1;unfold inU at this ⊢;rw[foot_ded];exact this) (hb q (mem_at hd))
  rw[fixF_eq h8]at h190
  push_cast[rigV]at h190
  by_cases h2:aloC ps q=0
  ·have ih:=ih (by rw[take_snoc hd];intro x hx;rcases List.mem_append.1 hx with hx|hx;exact h8 x hx;rw[List.mem_singleton.1 hx];exact h2)
   push_cast[h1,hw,hx,rigV,h190,h2]at ih ⊢
   simp only[ih,fixR,h2]
   all_goals first|with_reducible rfl|exact dn_eq (by omega) (by with_reducible rfl)|((repeat' split)<;>(try simp_all)<;>(try (with_reducible refine dn_eq ?_ ?_<;>first|trivial|omega|rfl))<;>(try omega))
  ·clear ih
   push_cast[h1,hw,hx,rigV,h190,h2]
   simp[fixR,h2]
theorem f139 {l:List Fixt}{ps:List Prof}(hl:l.length<140737488355328)(hb:∀x∈l,x.cable.length<140737488355328)(hp:ps.length<140737488355328){st:St}:run Tryz.prog HH 139 [.sl (l.map Fixt.v),.sl (ps.map Prof.v)] st=some (.ret (.int .i64 (fixCR l ps)),st):=by
 have h189:=fun(st:St)=>f223 (l:=l) (ps:=ps) (st:=st) hp
 have hL:=L139 (g:=st.x.gl) (ps:=ps) hl hb _ 0 rfl (by simp)
 push_cast[rigV]at hL h189
 rw[run_shut F139 rfl rfl (by simp)]
 push_cast[h189,hL,fixCR,lpE]
 all_goals first|with_reducible rfl|exact dn_eq (by omega) (by with_reducible rfl)|((repeat' split)<;>(try simp_all)<;>(try (with_reducible refine dn_eq ?_ ?_<;>first|trivial|omega|rfl))<;>(try omega))
end Go.Proofs.YtpbiilllhjeibaaGreatDoor

namespace Go.Proofs.YtpbiilllhjeibaaGreatDoor
open Go.Sha
set_option maxRecDepth 100000
variable {g:List (Nat×Obj)}{n:Nat}
theorem insI_c {l:List Int}{a b:Int}:(insI l a).contains b=(l.contains b||b == a):=by
 unfold insI
 split
 ·rename_i h
  by_cases e:b=a
  ·subst e;simp only[h];simp
  ·simp[e]
 ·rw[List.contains_eq_any_beq,List.any_append,←List.contains_eq_any_beq];simp[BEq.comm]
theorem foldI_c {b:Int}:∀{os l:List Int},(os.foldl insI l).contains b=(l.contains b||os.contains b)
 |[],l=>by simp
 |a::r,l=>by rw[List.foldl_cons,foldI_c,insI_c,List.contains_cons,Bool.or_assoc]
theorem offs_c {q:Ftr}{v:Int}:(offs q).contains v=useQ v q:=by
 unfold offs useQ
 rw[Bool.eq_iff_iff]
 by_cases h:q.bits=16
 ·simp only[h,if_true,true_and,List.contains_cons,List.contains_nil,Bool.or_false,Bool.or_eq_true,beq_iff_eq,decide_eq_true_eq]
  exact⟨fun e=>e.elim (fun e=>.inl e.symm) (fun e=>.inr e.symm),fun e=>e.elim (fun e=>.inl e.symm) (fun e=>.inr e.symm)⟩
 ·simp only[h,if_false,false_and,or_false,List.contains_cons,List.contains_nil,Bool.or_false,beq_iff_eq,decide_eq_true_eq]
  exact⟨Eq.symm,Eq.symm⟩
def SetOk (b:List Ftr)(ts us:List Int):Prop:=(∀a,ts.contains a=b.any fun z=>z.attr == a)∧∀v,us.contains v=b.any (useQ v)
theorem SetOk.snoc {b:List Ftr}{ts us:List Int}(h:SetOk b ts us)(q:Ftr):SetOk (b++[q]) (insI ts q.attr) ((offs q).foldl insI us) :=
 ⟨fun a=>by rw[insI_c,h.1,List.any_append];simp[BEq.comm],fun v=>by rw[foldI_c,h.2,List.any_append,offs_c];simp⟩
theorem insC_eq {q:Ftr}(h:q.bits=8∨q.bits=16):insC q=insR q:=by
 have e:topV q.bits=if q.bits=8 then 255 else 65535:=by rcases h with h|h<;>rw[h]<;>decide
 unfold insC insR
 rw[e]
 by_cases h1:lvl q.home<;>by_cases h2:q.low<0∨q.high<q.low∨(if q.bits=8 then 255 else 65535)<q.high<;>simp[h1,h2]
theorem innC_eq {q:Ftr}{c:Int}(h:q.bits=8∨q.bits=16):innC c q=innR c q:=by unfold innC innR;rw[insC_eq h]
theorem featF_eq {foot c:Int}{q:Ftr}{b:List Ftr}{ts us:List Int}(h:SetOk b ts us):featR foot c q b=if ¬featF foot q ts us=0 then featF foot q ts us else innC c q:=by
 have e1:((offs q).any fun v=>decide (v<0∨foot≤v))=true↔q.coarse<0∨foot≤q.coarse∨q.bits=16∧(q.fine<0∨foot≤q.fine):=by
  unfold offs;by_cases hb:q.bits=16<;>simp[hb,or_assoc]
 have e2:(offs q).any us.contains=true↔b.any (useQ q.coarse)=true∨q.bits=16∧b.any (useQ q.fine)=true:=by
  rw[←h.2,←h.2];unfold offs;by_cases hb:q.bits=16<;>simp only[hb,if_true,if_false,List.any_cons,List.any_nil,Bool.or_false,Bool.or_eq_true,true_and,false_and,or_false]
 unfold featR featF
 rw[h.1]
 by_cases c1:q.attr<0∨15≤q.attr
 ·simp[c1]
 ·by_cases c2:(b.any fun z=>z.attr == q.attr)=true
  ·simp[c1,c2]
  ·by_cases c3:¬q.bits=8∧¬q.bits=16
   ·simp[c1,c2,c3]
   ·have hb:q.bits=8∨q.bits=16:=by omega
    rw[innC_eq hb]
    by_cases c4:q.coarse<0∨foot≤q.coarse∨q.bits=16∧(q.fine<0∨foot≤q.fine)
    ·simp only[if_neg c1,if_neg c2,if_neg c3,if_pos c4,if_pos (e1.2 c4)];rfl
    ·simp only[if_neg c1,if_neg c2,if_neg c3,if_neg c4,if_neg (fun e=>c4 (e1.1 e))]
     by_cases c5:q.bits=8∧¬q.fine=0
     ·simp only[if_pos c5];rfl
     ·simp only[if_neg c5]
      by_cases c6:(offs q).any us.contains=true
      ·simp only[if_pos c6]
       rw[if_pos ((e2.1 c6).elim .inl fun e=>.inr ⟨e.1,.inl e.2⟩)];rfl
      ·simp only[if_neg c6]
       by_cases c7:q.bits=16∧q.fine=q.coarse
       ·simp only[if_pos c7];rw[if_pos (.inr ⟨c7.1,.inr c7.2⟩)];rfl
       ·simp only[if_neg c7]
        rw[if_neg (fun e=>e.elim (fun e=>c6 (e2.2 (.inl e))) fun e=>e.2.elim (fun x=>c6 (e2.2 (.inr ⟨e.1,x⟩))) fun x=>c7 ⟨e.1,x⟩)];rfl
theorem featsP_eq {foot c:Int}{l:List Ftr}:∀{r:List Ftr}{j:Nat}{ts us:List Int},l.drop j=r→SetOk (l.take j) ts us→(featsP foot c r ts us).1=featsR foot c l r j
 |[],_,_,_,_,_=>rfl
 |q::r,j,ts,us,hd,h=>by
  rw[featsP,featsR,featF_eq h]
  by_cases h1:featF foot q ts us=0
  ·by_cases h2:innC c q=0
   ·have:=featsP_eq (foot:=foot) (c:=c) (l:=l) (r:=r) (j:=j+1) (by rw[←List.drop_drop,hd];rfl) (by rw[take_snoc hd];exact h.snoc q)
    simp only[h1,h2,not_true_eq_false,if_false,if_true];exact this
   ·simp[h1,h2]
  ·simp[h1]
theorem profP_eq {p:Prof}{l:List (List Pt)}:profP p l=profR p l:=by
 unfold profP profR profF
 rw[featsP_eq (l:=p.feats) (r:=p.feats) (j:=0) rfl ⟨fun _=>rfl,fun _=>rfl⟩]
 by_cases h1:cursC l=0
 ·by_cases h2:nameS p.name=false
  ·simp[h1,h2]
  ·by_cases h3:p.foot<1∨512<p.foot
   ·have h3':p.foot<1∨512<p.foot∨p.watts<0∨1048576<p.watts:=by omega
    simp[h1,h2,h3,h3']
   ·by_cases h4:p.watts<0∨1048576<p.watts
    ·have h3':p.foot<1∨512<p.foot∨p.watts<0∨1048576<p.watts:=by omega
     simp[h1,h2,h3,h4,h3']
    ·have h3':¬(p.foot<1∨512<p.foot∨p.watts<0∨1048576<p.watts):=by omega
     by_cases h5:16<(p.feats.length:Int)<;>simp[h1,h2,h3,h4,h3',h5]
 ·simp[h1]
def rigE (c:List (List Pt))(ps:List Prof)(fx:List Fixt):V:=.agg [.sl (c.map Pt.vs),.sl (ps.map Prof.v),.sl (fx.map Fixt.v)]
def strE (l:List (List UInt8)):List (V×V):=l.map fun x=>(.str x,.bool true)
theorem find_strE {a:List UInt8}:∀{l:List (List UInt8)}{i:Nat},(l.contains a=true→∃j,findV (.str a) (strE l) i=some (some (j,.bool true)))∧(l.contains a=false→findV (.str a) (strE l) i=some none)
 |[],i=>⟨fun h=>by simp at h,fun _=>rfl⟩
 |x::r,i=>by
  obtain⟨i1,i2⟩:=find_strE (a:=a) (l:=r) (i:=i+1)
  simp only[strE,List.map_cons,findV,sameV]at i1 i2 ⊢
  by_cases h:a=x
  ·subst h;exact⟨fun _=>⟨i,by simp⟩,fun e=>by simp at e⟩
  ·have h':(a == x)=false:=by simp[h]
   simp only[h',List.contains_cons,Bool.false_or]
   exact⟨i1,i2⟩
@[push_cast]theorem look_strE {st:St}{a:List UInt8}{l:List (List UInt8)}:lookB st (.bool false) false (findV (.str a) (strE l) 0)=some (.bool (l.contains a),st):=by
 cases h:l.contains a with
 |true=>obtain⟨j,e⟩:=(find_strE (i:=0)).1 h;rw[e];rfl
 |false=>rw[(find_strE (i:=0)).2 h];rfl
theorem mset_strE {st:St}{i:Nat}{a:List UInt8}{l:List (List UInt8)}(h:l.contains a=false):msetB st i (strE l) (.str a) (.bool true) (findV (.str a) (strE l) 0)=some (.und,⟨st.nx,st.mem,st.arr,⟨updO st.x.obj i (.map (strE (l++[a]))),st.x.gl,st.x.ty⟩⟩):=by
 rw[(find_strE (i:=0)).2 h];simp[msetB,putM,strE]
@[push_cast]theorem strE_all {l:List (List UInt8)}:((strE l).all fun p=>p.1.bd n&&p.2.bd n)=true:=by simp[strE,V.bd]
def stS (g:List (Nat×Obj))(a:List (List UInt8)):St:=⟨2,[],[],⟨[(1,.map (strE a))],g,[]⟩⟩
@[push_cast]theorem stS_eq {a:List (List UInt8)}:stS g a=⟨2,[],[],⟨[(1,.map (strE a))],g,[]⟩⟩:=idq rfl
theorem L80_0 {l:List (List Pt)}{x:V}(hl:Cok l):∀r j,l.drop j=r→runL Tryz.prog HH [1,15,16,17] 1 B80_0 [(1,.ep x 0),(15,.sl (l.map Pt.vs)),(16,.int .i64 l.length),(17,.int .i64 j)] (stN g 1)=lpX 0 (stN g 1) [(1,.ep x 0)] 2 (cursL r):=by
 have hb:=hl.1
 refine drop_ind (fun j h=>?_) (fun q r j h hx hd ih=>?_)
 all_goals rw[runL_of B80_0.eq_1]
 ·have h1:¬(j:Int)<l.length:=by omega
  push_cast[h1,cursL]
 ·have h1:(j:Int)<l.length:=by omega
  have hw:=iw1 (j:=j) (by omega)
  have hq:q.length<140737488355328:=hl.2 q (mem_at hd)
  push_cast[h1,hw,hx,f137 hq]at ih ⊢
  simp only[ih,cursL,lps,Int.reduceEq,not_false_eq_true]
  all_goals first|with_reducible rfl|exact dn_eq (by omega) (by with_reducible rfl)|((repeat' split)<;>(try simp_all)<;>(try (with_reducible refine dn_eq ?_ ?_<;>first|trivial|omega|rfl))<;>(try omega))
theorem L80_1 {l:List Prof}{c:List (List Pt)}{fx:List Fixt}(hl:l.length<140737488355328)(hb:∀q∈l,q.ok)(hc:Cok c):∀r j,l.drop j=r→∀ns,(∀s,ns.contains s=(l.take j).any fun p=>p.name == s)→∃ns',
  runL Tryz.prog HH [1,6,33,34,35] 2 B80_1 [(1,.ep (rigE c l fx) 0),(6,.mp 1),(33,.sl (l.map Prof.v)),(34,.int .i64 l.length),(35,.int .i64 j)] (stS g ns)=lpX 2 (stS g ns') [(1,.ep (rigE c l fx) 0)] 2 (profsR l c r j):=by
 refine drop_ind (fun j h ns hn=>?_) (fun q r j h hx hd ih ns hn=>?_)
 all_goals rw[runL_of B80_1.eq_1]
 ·have h1:¬(j:Int)<l.length:=by omega
  refine⟨ns,?_⟩
  push_cast[h1,profsR,Prof.v,rigE]
 ·have h1:(j:Int)<l.length:=by omega
  have hw:=iw1 (j:=j) (by omega)
  have h145:=fun(st:St)=>f138 (st:=st) (hb q (mem_at hd)) hc
  rw[profP_eq]at h145
  rw[profsR,←hn]
  cases h2:ns.contains q.name with
  |true =>
   refine⟨ns,?_⟩
   clear ih
   push_cast[Prof.v]at h145
   push_cast[h1,hw,hx,rigE,Prof.v,h145,h2]
   all_goals first|with_reducible rfl|exact dn_eq (by omega) (by with_reducible rfl)|((repeat' split)<;>(try simp_all)<;>(try (with_reducible refine dn_eq ?_ ?_<;>first|trivial|omega|rfl))<;>(try omega))
  |false =>
   obtain⟨ns',ih⟩:=ih (ns++[q.name]) (fun s=>by rw[take_snoc hd,List.any_append,←hn,List.contains_eq_any_beq,List.any_append,←List.contains_eq_any_beq];simp[BEq.comm])
   have h3:=fun(st:St) (i:Nat)=>mset_strE (st:=st) (i:=i) h2
   by_cases h4:profR q c=0
   ·refine⟨ns',?_⟩
    push_cast[Prof.v]at h145
    push_cast[h1,hw,hx,rigE,Prof.v,h145,h2,h3,h4]at ih ⊢
    simp only[ih]
   ·refine⟨ns,?_⟩
    clear ih
    push_cast[Prof.v]at h145
    push_cast[h1,hw,hx,rigE,Prof.v,h145,h2,h4]
def Pok (l:List Prof):Prop:=l.length<140737488355328∧(∀q∈l,q.ok)∧∀q∈l,q.okR
def Xok (l:List Fixt):Prop:=l.length<140737488355328∧∀x∈l,x.cable.length<140737488355328
def uniC (c:List (List Pt))(ps:List Prof)(fx:List Fixt):Int:=if ¬cursC c=0 then cursC c else if ¬profsCR ps c=0 then profsCR ps c else fixCR fx ps
theorem rigE_bd {c:List (List Pt)}{ps:List Prof}{fx:List Fixt}:V.bd 0 (rigE c ps fx)=true:=by simp[rigE,V.bd,V.bdL,bdL_map']
theorem f80 {c:List (List Pt)}{ps:List Prof}{fx:List Fixt}(hc:Cok c)(hp:Pok ps)(hx:Xok fx){st:St}:run Tryz.prog HH 80 [rigE c ps fx] st=some (.ret (.int .i64 (uniC c ps fx)),st):=by
 have h0:=L80_0 (g:=st.x.gl) (x:=rigE c ps fx) hc _ 0 rfl
 obtain⟨ns,h1⟩:=L80_1 (g:=st.x.gl) (fx:=fx) hp.1 hp.2.1 hc _ 0 rfl [] (fun _=>rfl)
 have h146:=fun(st:St)=>f139 (st:=st) hx.1 hx.2 hp.1
 have e:strE []=[]:=rfl
 rw[run_shut F80 rfl rfl (by simp[V.bdL,rigE_bd])]
 push_cast[rigE,e]at h0 h1
 push_cast[rigE,h0,h1,h146,lpX]
 unfold uniC cursC profsCR
 by_cases a1:16<(c.length:Int)<;>by_cases a2:cursL c=0<;>by_cases a3:32<(ps.length:Int)<;>by_cases a4:profsR ps c ps 0=0<;>simp[a1,a2,a3,a4]
theorem f81 {x:Sho}{st:St}:run Tryz.prog HH 81 [x.v] st=some (.ret (rigE x.curves x.profs x.fixts),st):=by
 rw[run_shut F81 rfl rfl (by simp)]
 push_cast[Sho.v,rigE]
theorem f79 {x:Sho}(hc:Cok x.curves)(hp:Pok x.profs)(hx:Xok x.fixts){st:St}:run Tryz.prog HH 79 [x.v] st=some (.ret (.int .i64 (uniC x.curves x.profs x.fixts)),st):=by
 have h:=fun(st:St)=>f81 (x:=x) (st:=st)
 have h2:=fun(st:St)=>f80 (st:=st) hc hp hx
 push_cast[Sho.v,rigE]at h h2
 rw[run_shut F79 rfl rfl (by simp)]
 push_cast[Sho.v,h,h2]
 all_goals first|with_reducible rfl|exact dn_eq (by omega) (by with_reducible rfl)|((repeat' split)<;>(try simp_all)<;>(try (with_reducible refine dn_eq ?_ ?_<;>first|trivial|omega|rfl))<;>(try omega))
end Go.Proofs.YtpbiilllhjeibaaGreatDoor

namespace Go.Proofs.YtpbiilllhjeibaaGreatDoor
open Go.Sha
set_option maxRecDepth 100000
theorem prmC_ok {c:Int}{x:Prm}(h:prmC c x=0):c≤x.chan∧x.chan≤999∧0≤x.attr∧x.attr≤14:=by
 unfold prmC at h;split at h<;>omega
theorem cmp_bef {x y:Prm}{c d:Int}(hc:0≤c)(hd:0≤d)(hx:prmC c x=0)(hy:prmC d y=0):(0≤cmpP x y)=(befP x y=false):=by
 have a:=prmC_ok hx;have b:=prmC_ok hy
 have w1:IntKind.i64.wrap (x.chan-y.chan)=x.chan-y.chan:=iwrap (by omega) (by omega)
 have w2:IntKind.i64.wrap (x.attr-y.attr)=x.attr-y.attr:=iwrap (by omega) (by omega)
 unfold cmpP befP
 rw[w1,w2,eq_iff_iff]
 simp only[Bool.or_eq_false_iff,Bool.and_eq_false_iff,decide_eq_false_iff_not]
 split<;>omega
theorem mem_prev {α:Type}[Inhabited α]{l:List α}{j:Nat}(h0:0<j)(h:j≤l.length):l.getD (j-1) default∈l.take j:=by
 rw[List.getD_eq_getElem?_getD,List.getElem?_eq_getElem (by omega)]
 exact List.mem_iff_getElem?.2 ⟨j-1,by rw[List.getElem?_take,if_pos (by omega),List.getElem?_eq_getElem (by omega)];rfl⟩
theorem drop_le {α:Type}{l r:List α}{q:α}{j:Nat}(hd:l.drop j=q::r):j<l.length:=by
 have:=congrArg List.length hd;simp at this;omega
theorem all_snoc {α:Type}{l r:List α}{q:α}{j:Nat}{P:α→Prop}(hd:l.drop j=q::r)(h:∀z∈l.take j,P z)(hq:P q):∀z∈l.take (j+1),P z:=by
 rw[take_snoc hd];intro z hz
 rcases List.mem_append.1 hz with hz|hz
 ·exact h z hz
 ·rw[List.mem_singleton.1 hz];exact hq
theorem drop_succ {α:Type}{l r:List α}{q:α}{j:Nat}(hd:l.drop j=q::r):l.drop (j+1)=r:=by rw[←List.drop_drop,hd];rfl
theorem hueC_ok {q:Hue}(h:hueC q=0):lvl q.lev∧prmC 0 q.p=0:=by
 unfold hueC at h
 split at h
 ·rename_i a;exact⟨a,h⟩
 ·omega
theorem huesP_eq {l:List Hue}:∀{r:List Hue}{j:Nat},l.drop j=r→(∀z∈l.take j,hueC z=0)→huesP l r j=huesR l r j
 |[],_,_,_=>rfl
 |q::r,j,hd,h=>by
  rw[huesP,huesR]
  by_cases h1:hueC q=0
  ·obtain⟨a,b⟩:=hueC_ok h1
   have b':=prmC_ok b
   have n:¬(q.chan<0∨999<q.chan∨q.attr<0∨15≤q.attr∨¬lvl q.lev):=by
    simp only[Hue.p]at b';omega
   rw[if_pos h1,if_neg n,huesP_eq (drop_succ hd) (all_snoc hd h h1)]
   have e:(0<j∧0≤cmpP (l.getD (j-1) default).p q.p)=(0<j∧befP (l.getD (j-1) default).p q.p=false):=by
    rw[eq_iff_iff]
    refine and_congr_right fun h0=>?_
    rw[cmp_bef (Int.le_refl 0) (Int.le_refl 0) (hueC_ok (h _ (mem_prev h0 (Nat.le_of_lt (drop_le hd))))).2 b]
   simp only[e]
  ·rw[if_neg h1]
   have n:q.chan<0∨999<q.chan∨q.attr<0∨15≤q.attr∨¬lvl q.lev:=by
    by_cases a:lvl q.lev
    ·simp only[hueC,a,if_true,prmC,Hue.p]at h1
     split at h1<;>omega
    ·exact .inr (.inr (.inr (.inr a)))
   rw[if_pos n]
   unfold hueC prmC at h1 ⊢
   split
   ·rename_i a
    rw[if_pos a]at h1
    split
    ·rfl
    ·rename_i b;rw[if_neg b]at h1;exact absurd rfl h1
   ·rfl
theorem hueL_eq {l:List Hue}:hueLP l=hueLR l:=by unfold hueLP hueLR;rw[huesP_eq (l:=l) (r:=l) (j:=0) rfl (by simp)]
theorem palsP_eq {l:List Pal}:∀{r:List Pal}{j:Nat},palsP l r j=palsR l r j
 |[],_=>rfl
 |q::r,j=>by rw[palsP,palsR,hueL_eq,palsP_eq]
theorem palsC_eq {l:List Pal}:palsCP l=palsCR l:=by unfold palsCP palsCR;rw[palsP_eq]
theorem gansP_eq {h:Bool}{l:List Gan}:∀{r:List Gan}{j:Nat},l.drop j=r→(∀z∈l.take j,prmC 1 z.prm=0)→gansP h l r j=gansR h l r j
 |[],_,_,_=>rfl
 |q::r,j,hd,hz=>by
  rw[gansP,gansR]
  by_cases h1:prmC 1 q.prm=0
  ·rw[gansP_eq (drop_succ hd) (all_snoc (P:=fun z=>prmC 1 z.prm=0) hd hz h1)]
   have e:(0<j∧0≤cmpP (l.getD (j-1) default).prm q.prm)=(0<j∧befP (l.getD (j-1) default).prm q.prm=false):=by
    rw[eq_iff_iff]
    refine and_congr_right fun h0=>?_
    rw[cmp_bef (by omega) (by omega) (hz _ (mem_prev h0 (Nat.le_of_lt (drop_le hd)))) h1]
   have e2:(q.lev<0∨65535<q.lev)=¬lvl q.lev:=propext (by unfold lvl;omega)
   simp only[e,e2]
  ·rw[if_neg h1,if_neg h1]
theorem sb_eq {x:Sb}:sbP x=sbR x:=by unfold sbP sbR;rw[gansP_eq (l:=x.gains) (r:=x.gains) (j:=0) rfl (by simp)]
theorem subsP_eq {l:List Sb}:∀{r:List Sb}{j:Nat}{n:Int},l.drop j=r→n=(if j=0 then 0 else(l.getD (j-1) default).num)→subsP r n=subsR l r j
 |[],_,_,_,_=>rfl
 |q::r,j,n,hd,hn=>by
  rw[subsP,subsR,sb_eq,subsP_eq (n:=q.num) (drop_succ hd) (by
   rw[if_neg (by omega),Nat.add_sub_cancel,List.getD_eq_getElem?_getD]
   have:=congrArg (·[0]?) hd
   simp at this;rw[this];rfl)]
  by_cases h1:sbR q=0
  ·rw[if_pos h1,if_pos h1]
   have e:(q.num≤n)=(0<j∧q.num≤(l.getD (j-1) default).num):=by
    rw[hn]
    by_cases h0:j=0
    ·rw[if_pos h0]
     have:¬sbOk q:=by intro h;unfold sbR at h1;rw[if_pos h]at h1;omega
     simp only[eq_iff_iff];unfold sbOk at this;omega
    ·rw[if_neg h0];simp only[eq_iff_iff];omega
   simp only[e]
  ·rw[if_neg h1,if_neg h1]
theorem subsC_eq {l:List Sb}:subsCP l=subsCR l:=by unfold subsCP subsCR;rw[subsP_eq (l:=l) (r:=l) (j:=0) (n:=0) rfl rfl]
theorem movsP_eq {l:List Mov}:∀{r:List Mov}{j:Nat},l.drop j=r→(∀z∈l.take j,prmC 1 z.prm=0)→movsP l r j=movsR l r j
 |[],_,_,_=>rfl
 |q::r,j,hd,hz=>by
  rw[movsP,movsR]
  unfold movX
  by_cases h1:prmC 1 q.prm=0
  ·rw[movsP_eq (drop_succ hd) (all_snoc (P:=fun z=>prmC 1 z.prm=0) hd hz h1)]
   have e:(0<(j:Int)∧0≤cmpP (l.getD (j-1) default).prm q.prm)=(0<j∧befP (l.getD (j-1) default).prm q.prm=false):=by
    rw[eq_iff_iff,show(0<(j:Int))=(0<j) by simp]
    refine and_congr_right fun h0=>?_
    rw[cmp_bef (by omega) (by omega) (hz _ (mem_prev h0 (Nat.le_of_lt (drop_le hd)))) h1]
   simp only[h1,e]
   by_cases h2:valC q.val=0
   ·by_cases h3:q.part<1∨4<q.part
    ·simp[h2,h3]
    ·by_cases h4:0<j∧befP (l.getD (j-1) default).prm q.prm=false
     ·simp only[h2,if_neg h3,if_pos h4];rfl
     ·simp only[h2,if_neg h3,if_neg h4];rfl
   ·simp[h2]
  ·simp[h1]
theorem movC_eq {l:List Mov}:movCP l=movCR l:=by unfold movCP movCR;rw[movsP_eq (l:=l) (r:=l) (j:=0) rfl (by simp)]
theorem cue_eq {x:Cu}:cueP x=cueR x:=by
 unfold cueP cueR
 rw[movC_eq,mpL_eq]
 unfold parC timC
 by_cases a1:numC x.num=0<;>by_cases a2:labC x.label=0<;>by_cases a3:movCR x.moves=0<;>simp only[a1,a2,a3,not_true_eq_false,not_false_eq_true,if_true,if_false]
 by_cases a4:(x.parts.length:Int)=0
 ·simp only[if_pos a4];rfl
 ·by_cases a5:4<(x.parts.length:Int)
  ·simp only[if_neg a4,if_pos a5];rfl
  ·by_cases a6:timL x.parts=0
   ·by_cases a7:(x.moves.any fun q=>decide ((x.parts.length:Int)<q.part))=true
    ·simp only[a4,a5,a6,a7,if_true,if_false,not_true_eq_false];rfl
    ·simp only[a4,a5,a6,a7,if_true,if_false,not_true_eq_false];rfl
   ·simp only[if_neg a4,if_neg a5,if_neg a6,if_pos a6,not_false_eq_true,if_true]
end Go.Proofs.YtpbiilllhjeibaaGreatDoor

namespace Go.Proofs.YtpbiilllhjeibaaGreatDoor
open Go.Sha
set_option maxRecDepth 100000
variable {g:List (Nat×Obj)}{n:Nat}
theorem isD_val {b:UInt8}(h:isD b=true):IntKind.u8.wrap ((b.toNat:Int)-48)=((b.toNat-48:Nat):Int)∧b.toNat-48≤9:=by
 simp only[isD,Bool.and_eq_true,decide_eq_true_eq]at h
 refine⟨?_,by omega⟩
 unfold IntKind.wrap
 simp[IntKind.bits,IntKind.signed]
 omega
theorem step_nat {m k:Nat}(hm:m≤100000000000000)(hk:k≤9):IntKind.i64.wrap (IntKind.i64.wrap (10*(m:Int))+IntKind.i64.wrap (k:Int))=((10*m+k:Nat):Int):=by
 have w1:IntKind.i64.wrap (10*(m:Int))=10*(m:Int):=iwrap (by omega) (by omega)
 have w2:IntKind.i64.wrap (k:Int)=(k:Int):=iwrap (by omega) (by omega)
 rw[w1,w2]
 have w3:IntKind.i64.wrap (10*(m:Int)+k)=10*(m:Int)+k:=iwrap (by omega) (by omega)
 rw[w3];omega
theorem vwL_nat:∀{w:List UInt8}{m B:Nat},(∀b∈w,isD b=true)→w.length≤B→m<10 ^ (10-B)→B≤10→vwL w m=((w.foldl (fun n b=>10*n+(b.toNat-48)) m:Nat):Int)∧w.foldl (fun n b=>10*n+(b.toNat-48)) m<10 ^ (10-B+w.length)
 |[],m,B,_,_,h,_=>⟨rfl,by simpa using h⟩
 |b::r,m,B,hw,hl,h,hB=>by
  simp at hl
  obtain⟨e,hk⟩:=isD_val (hw b (List.mem_cons_self ..))
  have hp:10 ^ (10-B)≤10 ^ 10:=Nat.pow_le_pow_right (by omega) (by omega)
  have h2:10*m+(b.toNat-48)<10 ^ (10-(B-1)):=by
   rw[show 10-(B-1)=(10-B)+1 by omega,Nat.pow_succ];omega
  have ih:=vwL_nat (w:=r) (m:=10*m+(b.toNat-48)) (B:=B-1) (fun x hx=>hw x (List.mem_cons_of_mem _ hx)) (by omega) h2 (by omega)
  rw[vwL,e,step_nat (by omega) hk,List.foldl_cons]
  refine⟨ih.1,?_⟩
  have:=ih.2
  rwa [show 10-(B-1)+r.length=10-B+(b::r).length by simp;omega]at this
def pdB (r:List UInt8)(k:Nat):UInt8:=if k<r.length then r.getD k 0 else 48
theorem pad_3 {r:List UInt8}:(r++[48,48,48]).take 3=[pdB r 0,pdB r 1,pdB r 2]:=by
 match r with
 |[]=>rfl
 |[a]=>simp[pdB]
 |[a,b]=>simp[pdB]
 |a::b::c::r=>simp[pdB]
theorem nxV_nat {r:List UInt8}{k m:Nat}(hr:∀b∈r,isD b=true)(hm:m≤100000000000000):nxV r k m=((10*m+((pdB r k).toNat-48):Nat):Int):=by
 unfold nxV pdB
 by_cases h:k<r.length
 ·rw[if_pos (by omega),if_pos h]
  obtain⟨e,hk⟩:=isD_val (hr (r.getD k 0) (by rw[List.getD_eq_getElem?_getD,List.getElem?_eq_getElem h];exact List.getElem_mem h))
  rw[e,step_nat hm hk]
 ·rw[if_neg (by omega),if_neg h]
  have w1:IntKind.i64.wrap (10*(m:Int))=10*(m:Int):=iwrap (by omega) (by omega)
  rw[w1]
  have:(48:UInt8).toNat=48:=rfl
  omega
theorem pd_le {r:List UInt8}{k:Nat}(hr:∀b∈r,isD b=true):(pdB r k).toNat-48≤9:=by
 unfold pdB
 split
 ·rename_i h
  exact(isD_val (hr (r.getD k 0) (by rw[List.getD_eq_getElem?_getD,List.getElem?_eq_getElem h];exact List.getElem_mem h))).2
 ·decide
theorem numC_parts {s:List UInt8}(h:numC s=0):(∀b∈nW s,isD b=true)∧(∀b∈nR s,isD b=true)∧(nW s).length≤4∧(nR s).length≤3:=by
 unfold numC at h
 split at h
 ·cases h
 ·rename_i h1
  split at h
  ·cases h
  ·rename_i h2
   split at h
   ·cases h
   ·split at h
    ·cases h
    ·rename_i h3 h4
     refine⟨digB_all (by simpa using h1),?_,by omega,by omega⟩
     cases hc:s.contains 46 with
     |false=>rw[(n_none hc).2];simp
     |true=>rw[hc]at h2;simp at h2;exact digB_all h2.1
theorem val_eq {s:List UInt8}(h:numC s=0):valN s=refV s:=by
 obtain⟨a1,a2,a3,a4⟩:=numC_parts h
 obtain⟨e1,e2⟩:=vwL_nat (w:=nW s) (m:=0) (B:=10) a1 (by omega) (by simp) (Nat.le_refl _)
 have hp:10 ^ (10-10+(nW s).length)≤10 ^ 4:=Nat.pow_le_pow_right (by omega) (by omega)
 generalize hN:(nW s).foldl (fun n b=>10*n+(b.toNat-48)) 0=N at e1 e2
 have p0:=pd_le (k:=0) a2;have p1:=pd_le (k:=1) a2;have p2:=pd_le (k:=2) a2
 unfold valN refV
 rw[if_pos h,show(0:Int)=((0:Nat):Int) from rfl,e1,nxV_nat a2 (by omega),nxV_nat a2 (by omega),nxV_nat a2 (by omega),natOf,numS,pad_3,List.foldl_append,hN]
 rfl
theorem cueP_num {x:Cu}(h:cueR x=0):numC x.num=0:=by
 unfold cueR at h
 split at h
 ·rename_i a;exact absurd h a
 ·rename_i a;exact Classical.not_not.1 a
theorem cuesP_eq {l:List Cu}:∀{r:List Cu}{j:Nat},l.drop j=r→(∀z∈l.take j,cueR z=0)→cuesP l r j=cuesR l r j
 |[],_,_,_=>rfl
 |q::r,j,hd,hz=>by
  rw[cuesP,cuesR,cue_eq]
  by_cases h1:cueR q=0
  ·rw[cuesP_eq (drop_succ hd) (all_snoc (P:=fun z=>cueR z=0) hd hz h1)]
   have e:(0<j∧0≤cmpN (l.getD (j-1) default).num q.num)=(0<j∧0≤ordR (l.getD (j-1) default).num q.num):=by
    rw[eq_iff_iff]
    refine and_congr_right fun h0=>?_
    have a:=cueP_num (hz _ (mem_prev h0 (Nat.le_of_lt (drop_le hd))))
    have b:=cueP_num h1
    unfold cmpN ordR
    rw[if_neg (by rw[a,b];simp),val_eq a,val_eq b]
   simp only[e]
  ·rw[if_pos h1,if_pos h1]
theorem lst_eq {x:Lst}:lstP x=lstR x:=by unfold lstP lstR;rw[cuesP_eq (l:=x.cues) (r:=x.cues) (j:=0) rfl (by simp)]
def grpsC (l:List Grp):Int:=if 32<(l.length:Int) then 5 else grpsL l l 0
theorem f83 {l:List Grp}(hl:l.length<140737488355328)(hb:∀x∈l,x.chans.length<140737488355328){st:St}:run Tryz.prog HH 83 [.sl (l.map Grp.v)] st=some (.ret (.int .i64 (grpsC l)),st):=by
 rw[run_shut F83 rfl rfl (by simp)]
 have hL0:=fun n=>L83 (g:=st.x.gl) (n:=n) hl hb _ 0 rfl
 push_cast[grpsC]at hL0
 push_cast[grpsC,hL0,lpE,lpX,lpI,lpB]
 all_goals first|with_reducible rfl|exact dn_eq (by omega) (by with_reducible rfl)|((repeat' split)<;>(try simp_all)<;>(try (with_reducible refine dn_eq ?_ ?_<;>first|trivial|omega|rfl))<;>(try omega))
theorem L40 {l:List Grp}(hl:l.length<140737488355328)(hb:∀x∈l,x.chans.length<140737488355328):∀r j,l.drop j=r→runL Tryz.prog HH [0,3] n B40_0 [(0,.sl (l.map Grp.v)),(3,.int .i64 j)] (stN g n)=lpE (stN g n) [] 2 (grpsL l r j):=by
 refine drop_ind (fun j h=>?_) (fun q r j h hx hd ih=>?_)
 all_goals rw[runL_of B40_0.eq_1]
 ·have h1:¬(j:Int)<l.length:=by omega
  push_cast[h1,grpsL,Grp.v]
 ·have h1:(j:Int)<l.length:=by omega
  have hw:=iw1 (j:=j) (by omega)
  have hq:q.chans.length<140737488355328:=hb q (mem_at hd)
  push_cast[h1,hw,hx,Grp.v,f75 hq,iwrap_pred (j:=j) (by omega)]at ih ⊢
  simp only[ih,grpsL,lps,Int.reduceEq,not_false_eq_true]
  all_goals first|with_reducible rfl|exact dn_eq (by omega) (by with_reducible rfl)|((repeat' split)<;>(try simp_all)<;>(try (with_reducible refine dn_eq ?_ ?_<;>first|trivial|omega|rfl))<;>(try omega))
theorem f40 {l:List Grp}(hl:l.length<140737488355328)(hb:∀x∈l,x.chans.length<140737488355328){st:St}:run Tryz.prog HH 40 [.sl (l.map Grp.v)] st=some (.ret (.int .i64 (grpsC l)),st):=by
 rw[run_shut F40 rfl rfl (by simp)]
 have hL0:=fun n=>L40 (g:=st.x.gl) (n:=n) hl hb _ 0 rfl
 push_cast[grpsC]at hL0
 push_cast[grpsC,hL0,lpE,lpX,lpI,lpB]
 all_goals first|with_reducible rfl|exact dn_eq (by omega) (by with_reducible rfl)|((repeat' split)<;>(try simp_all)<;>(try (with_reducible refine dn_eq ?_ ?_<;>first|trivial|omega|rfl))<;>(try omega))
def lstsL (l:List Lst):List Lst→Nat→Int
 |[],_=>0
 |q::r,j=>if ¬lstR q=0 then lstR q else if 0<j∧q.num≤(l.getD (j-1) default).num then 9 else lstsL l r (j+1)
def Lok (l:List Lst):Prop:=l.length<140737488355328∧∀q∈l,q.ok
theorem f141' {x:Lst}(h:x.ok){st:St}:run Tryz.prog HH 141 [x.v] st=some (.ret (.int .i64 (lstR x)),st):=by rw[f141 h,lst_eq]
theorem L85 {x:Sho}(hl:Lok x.lsts):∀r j,x.lsts.drop j=r→runL Tryz.prog HH [1,11,12,13] n B85_0 [(1,.ep x.v 0),(11,.sl (x.lsts.map Lst.v)),(12,.int .i64 x.lsts.length),(13,.int .i64 j)] (stN g n)=lpE (stN g n) [] 2 (lstsL x.lsts r j):=by
 have hb:=hl.1
 refine drop_ind (fun j h=>?_) (fun q r j h hx hd ih=>?_)
 all_goals rw[runL_of B85_0.eq_1]
 ·have h1:¬(j:Int)<x.lsts.length:=by omega
  push_cast[h1,lstsL,Sho.v,Lst.v]
 ·have h1:(j:Int)<x.lsts.length:=by omega
  have hw:=iw1 (j:=j) (by omega)
  have hq:q.ok:=hl.2 q (mem_at hd)
  push_cast[h1,hw,hx,Sho.v,Lst.v,f141' hq,iwrap_pred (j:=j) (by omega)]at ih ⊢
  simp only[ih,lstsL,lps,Int.reduceEq,not_false_eq_true]
  all_goals first|with_reducible rfl|exact dn_eq (by omega) (by with_reducible rfl)|((repeat' split)<;>(try simp_all)<;>(try (with_reducible refine dn_eq ?_ ?_<;>first|trivial|omega|rfl))<;>(try omega))
def lstsC (l:List Lst):Int:=if 8<(l.length:Int) then 5 else lstsL l l 0
theorem f85 {x:Sho}(hl:Lok x.lsts){st:St}:run Tryz.prog HH 85 [x.v] st=some (.ret (.int .i64 (lstsC x.lsts)),st):=by
 rw[run_shut F85 rfl rfl (by simp)]
 have hL0:=fun n=>L85 (g:=st.x.gl) (n:=n) hl _ 0 rfl
 push_cast[Sho.v,lstsC]at hL0
 push_cast[Sho.v,lstsC,hL0,lpE,lpX,lpI,lpB]
 all_goals first|with_reducible rfl|exact dn_eq (by omega) (by with_reducible rfl)|((repeat' split)<;>(try simp_all)<;>(try (with_reducible refine dn_eq ?_ ?_<;>first|trivial|omega|rfl))<;>(try omega))
theorem L41 {l:List Lst}(hl:Lok l):∀r j,l.drop j=r→runL Tryz.prog HH [0,3] n B41_0 [(0,.sl (l.map Lst.v)),(3,.int .i64 j)] (stN g n)=lpE (stN g n) [] 2 (lstsL l r j):=by
 have hb:=hl.1
 refine drop_ind (fun j h=>?_) (fun q r j h hx hd ih=>?_)
 all_goals rw[runL_of B41_0.eq_1]
 ·have h1:¬(j:Int)<l.length:=by omega
  push_cast[h1,lstsL,Lst.v]
 ·have h1:(j:Int)<l.length:=by omega
  have hw:=iw1 (j:=j) (by omega)
  have hq:q.ok:=hl.2 q (mem_at hd)
  push_cast[h1,hw,hx,Lst.v,f70 hq,iwrap_pred (j:=j) (by omega)]at ih ⊢
  simp only[ih,lstsL,lps,Int.reduceEq,not_false_eq_true]
  all_goals first|with_reducible rfl|exact dn_eq (by omega) (by with_reducible rfl)|((repeat' split)<;>(try simp_all)<;>(try (with_reducible refine dn_eq ?_ ?_<;>first|trivial|omega|rfl))<;>(try omega))
theorem f41 {l:List Lst}(hl:Lok l){st:St}:run Tryz.prog HH 41 [.sl (l.map Lst.v)] st=some (.ret (.int .i64 (lstsC l)),st):=by
 rw[run_shut F41 rfl rfl (by simp)]
 have hL0:=fun n=>L41 (g:=st.x.gl) (n:=n) hl _ 0 rfl
 push_cast[lstsC]at hL0
 push_cast[lstsC,hL0,lpE,lpX,lpI,lpB]
 all_goals first|with_reducible rfl|exact dn_eq (by omega) (by with_reducible rfl)|((repeat' split)<;>(try simp_all)<;>(try (with_reducible refine dn_eq ?_ ?_<;>first|trivial|omega|rfl))<;>(try omega))
end Go.Proofs.YtpbiilllhjeibaaGreatDoor

namespace Go.Proofs.YtpbiilllhjeibaaGreatDoor
open Go.Sha
set_option maxRecDepth 100000
variable {g:List (Nat×Obj)}{n:Nat}
def stP (g:List (Nat×Obj))(xs:List V):St:=⟨2,[],[(1,⟨5,1,xs,true,true⟩)],⟨[],g,[]⟩⟩
@[push_cast]theorem stP_eq {xs:List V}:stP g xs=⟨2,[],[(1,⟨5,1,xs,true,true⟩)],⟨[],g,[]⟩⟩:=idq rfl
theorem L78 {s:List UInt8}(hl:s.length<140737488355328):∀r j,s.drop j=r→runL Tryz.prog HH [11,12,13] 2 B78_0 [(11,.osl 1 s.length),(12,.int .i64 s.length),(13,.int .i64 j)] (stP g (s.map bV))=lpE (stP g (s.map bV)) [] 2 (labL r):=by
 refine drop_ind (fun j h=>?_) (fun q r j h hx hd ih=>?_)
 all_goals rw[runL_of B78_0.eq_1]
 ·have h1:¬(j:Int)<s.length:=by omega
  push_cast[h1,labL]
 ·have h1:(j:Int)<s.length:=by omega
  have hw:=iw1 (j:=j) (by omega)
  have hk:∀d,(s.map bV).getD j d=bV q:=getD_drop hd
  push_cast[h1,hw,hx,bV,hk]at ih ⊢
  simp only[ih,labL,lps,Int.reduceEq,not_false_eq_true]
  all_goals first|with_reducible rfl|exact dn_eq (by omega) (by with_reducible rfl)|((repeat' split)<;>(try simp_all)<;>(try (with_reducible refine dn_eq ?_ ?_<;>first|trivial|omega|rfl))<;>(try omega))
theorem f78 {x:Sho}(hl:x.title.length<140737488355328){st:St}:run Tryz.prog HH 78 [x.v] st=some (.ret (.int .i64 (labC x.title)),st):=by
 rw[run_shut F78 rfl rfl (by simp)]
 have hL0:=L78 (g:=st.x.gl) hl _ 0 rfl
 push_cast at hL0
 push_cast[Sho.v,hL0,lpE,labC]
 exact dn_eq (by simp[maxLen];omega) rfl
theorem L71 {s:List UInt8}(hl:s.length<140737488355328):∀r j,s.drop j=r→runL Tryz.prog HH [0,3] n B71_0 [(0,.str s),(3,.int .i64 j)] (stN g n)=lpE (stN g n) [] 2 (labL r):=by
 refine drop_ind (fun j h=>?_) (fun q r j h hx hd ih=>?_)
 all_goals rw[runL_of B71_0.eq_1]
 ·have h1:¬(j:Int)<s.length:=by omega
  push_cast[h1,labL]
 ·have h1:(j:Int)<s.length:=by omega
  have hw:=iw1 (j:=j) (by omega)
  push_cast[h1,hw,hx]at ih ⊢
  simp only[ih,labL,lps,Int.reduceEq,not_false_eq_true]
  all_goals first|with_reducible rfl|exact dn_eq (by omega) (by with_reducible rfl)|((repeat' split)<;>(try simp_all)<;>(try (with_reducible refine dn_eq ?_ ?_<;>first|trivial|omega|rfl))<;>(try omega))
theorem f71 {s:List UInt8}(hl:s.length<140737488355328){st:St}:run Tryz.prog HH 71 [.str s] st=some (.ret (.int .i64 (labC s)),st):=by
 rw[run_shut F71 rfl rfl (by simp)]
 have hL0:=fun n=>L71 (g:=st.x.gl) (n:=n) hl _ 0 rfl
 push_cast[labC]at hL0
 push_cast[labC,hL0,lpE,lpX,lpI,lpB]
 all_goals first|with_reducible rfl|exact dn_eq (by omega) (by with_reducible rfl)|((repeat' split)<;>(try simp_all)<;>(try (with_reducible refine dn_eq ?_ ?_<;>first|trivial|omega|rfl))<;>(try omega))
structure Sho.ok (x:Sho):Prop where
 t:x.title.length<140737488355328
 c:Cok x.curves
 p:Pok x.profs
 f:Xok x.fixts
 g:x.grps.length<140737488355328∧∀q∈x.grps,q.chans.length<140737488355328
 l:x.pals.length<140737488355328∧∀q∈x.pals,q.hues.length<140737488355328
 k:Lok x.lsts
 s:x.subs.length<140737488355328∧∀q∈x.subs,q.gains.length<140737488355328
 e:x.effs.length<140737488355328∧∀q∈x.effs,q.wave.length<140737488355328
theorem f82 {x:Sho}(h:x.ok){st:St}:run Tryz.prog HH 82 [x.v] st=some (.ret (.int .i64 (grpsC x.grps)),st):=by
 rw[run_shut F82 rfl rfl (by simp)]
 push_cast[Sho.v,f83 h.g.1 h.g.2]
 all_goals first|with_reducible rfl|exact dn_eq (by omega) (by with_reducible rfl)|((repeat' split)<;>(try simp_all)<;>(try (with_reducible refine dn_eq ?_ ?_<;>first|trivial|omega|rfl))<;>(try omega))
theorem f84 {x:Sho}(h:x.ok){st:St}:run Tryz.prog HH 84 [x.v] st=some (.ret (.int .i64 (palsCR x.pals)),st):=by
 rw[run_shut F84 rfl rfl (by simp)]
 push_cast[Sho.v,f64 h.l.1 h.l.2,palsC_eq]
 all_goals first|with_reducible rfl|exact dn_eq (by omega) (by with_reducible rfl)|((repeat' split)<;>(try simp_all)<;>(try (with_reducible refine dn_eq ?_ ?_<;>first|trivial|omega|rfl))<;>(try omega))
theorem f86 {x:Sho}(h:x.ok){st:St}:run Tryz.prog HH 86 [x.v] st=some (.ret (.int .i64 (subsCR x.subs)),st):=by
 rw[run_shut F86 rfl rfl (by simp)]
 push_cast[Sho.v,f87 h.s.1 h.s.2,subsC_eq]
 all_goals first|with_reducible rfl|exact dn_eq (by omega) (by with_reducible rfl)|((repeat' split)<;>(try simp_all)<;>(try (with_reducible refine dn_eq ?_ ?_<;>first|trivial|omega|rfl))<;>(try omega))
theorem f88 {x:Sho}(h:x.ok){st:St}:run Tryz.prog HH 88 [x.v] st=some (.ret (.int .i64 (effsC x.effs)),st):=by
 rw[run_shut F88 rfl rfl (by simp)]
 push_cast[Sho.v,f89 h.e.1 h.e.2]
 all_goals first|with_reducible rfl|exact dn_eq (by omega) (by with_reducible rfl)|((repeat' split)<;>(try simp_all)<;>(try (with_reducible refine dn_eq ?_ ?_<;>first|trivial|omega|rfl))<;>(try omega))
def shoC (x:Sho):Int:=if ¬labC x.title=0 then labC x.title else if ¬uniC x.curves x.profs x.fixts=0 then uniC x.curves x.profs x.fixts else if ¬grpsC x.grps=0 then grpsC x.grps else if ¬palsCR x.pals=0 then palsCR x.pals
 else if ¬lstsC x.lsts=0 then lstsC x.lsts else if ¬subsCR x.subs=0 then subsCR x.subs else effsC x.effs
theorem f20 {x:Sho}(h:x.ok){st:St}:run Tryz.prog HH 20 [x.v] st=some (.ret (.int .i64 (shoC x)),st):=by
 have h1:=fun(st:St)=>f78 (st:=st) h.t
 have h2:=fun(st:St)=>f79 (st:=st) h.c h.p h.f
 have h3:=fun(st:St)=>f82 (st:=st) h
 have h4:=fun(st:St)=>f84 (st:=st) h
 have h5:=fun(st:St)=>f85 (st:=st) h.k
 have h6:=fun(st:St)=>f86 (st:=st) h
 have h7:=fun(st:St)=>f88 (st:=st) h
 push_cast[Sho.v]at h1 h2 h3 h4 h5 h6 h7
 rw[run_shut F20 rfl rfl (by simp)]
 push_cast[Sho.v,h1,h2,h3,h4,h5,h6,h7,(fun(st:St)=>run_shut (P:=Tryz.prog) (H:=HH) (args:=[]) (st:=st) F45 rfl rfl rfl),runL_of B20_0.eq_1,shoC,ite0']
theorem f39 {x:Sho}(h:x.ok){st:St}:run Tryz.prog HH 39 [x.v] st=some (.ret (.int .i64 (if ¬labC x.title=0 then labC x.title else uniC x.curves x.profs x.fixts)),st):=by
 have hr:∀q∈x.profs,q.okR:=h.p.2.2
 rw[run_shut F39 rfl rfl (by simp)]
 push_cast[Sho.v,f71 h.t,f72 h.c.1 h.c.2,f73 h.p.1 hr h.c,f74 h.f.1 h.f.2 h.p.1,uniC]
 all_goals first|with_reducible rfl|exact dn_eq (by omega) (by with_reducible rfl)|((repeat' split)<;>(try simp_all)<;>(try (with_reducible refine dn_eq ?_ ?_<;>first|trivial|omega|rfl))<;>(try omega))
theorem f18 {x:Sho}(h:x.ok){st:St}:run Tryz.prog HH 18 [x.v] st=some (.ret (.int .i64 (shoC x)),st):=by
 have h1:=fun(st:St)=>f39 (st:=st) h
 push_cast[Sho.v]at h1
 rw[run_shut F18 rfl rfl (by simp)]
 push_cast[Sho.v,h1,f40 h.g.1 h.g.2,f7 h.l.1 h.l.2,f41 h.k,f42 h.s.1 h.s.2,f43 h.e.1 h.e.2]
 unfold shoC
 by_cases a1:labC x.title=0<;>by_cases a2:uniC x.curves x.profs x.fixts=0<;>simp[a1,a2]
end Go.Proofs.YtpbiilllhjeibaaGreatDoor

namespace Go.Proofs.YtpbiilllhjeibaaGreatDoor
open Go.Sha
set_option maxRecDepth 10000
def B17_0:Cd:=(.join [1,3] (.g [.m 53 3,.a 54 2 1,.l 55 54,.u 56 55,.b 57 .lss 53 56] (.i 57 .skip (.exit [1] 0))) (.join [1,3] (.block 1 (.g [.a 60 2 1,.l 61 60,.m 62 3,.r 63 4 61 62,.d 64 4 63,.f 65 37 64,.z 66 65] (.i 66 (.g [.k 2 false] (.ret [2])) .skip))) (.reg [.m 58 3,.v 59 .add 58 1,.m 3 59])))
def B17_1:Cd:=(.join [1,4] (.join [1,4,75] (.reg [.m 67 4,.a 68 6 1,.l 69 68,.u 70 69,.b 71 .lss 67 70,.m 72 71,.my 73 4 72,.vy 74 .lss 73 10 72,.e 75 72 74]) (.i 75 .skip (.exit [1] 2))) (.join [1,4] (.block 3 (.g [.a 78 6 1,.l 79 78,.m 80 4,.r 81 3 79 80,.d 82 3 81,.f 83 38 82,.z 84 83] (.i 84 (.g [.k 2 false] (.ret [2])) .skip))) (.reg [.m 76 4,.v 77 .add 76 1,.m 4 77])))
theorem F17:compF Tryz.prog 17=some ⟨101,[.tmp 2],(.g [.q 1 31 0,.k 2 false] (.z [1] (.join [1] (.join [1,52] (.reg [.a 5 0 1,.l 6 5,.s 7 (.lens (.t 6)),.v 8 .gtr 7 100,.m 9 8,.ax 10 1 1 9,.lx 11 10 9,.x 12 (.f 32 [.t 11]) 9,.x 13 (.un .not (.t 12)) 9,.o 14 9 13,.m 15 14,.ax 16 2 1 15,.lx 17 16 15,.x 18 (.len (.t 17)) 15,.vx 19 .gtr 18 40 15,.o 20 15 19,.m 21 20,.ax 22 3 1 21,.lx 23 22 21,.ax 24 2 1 21,.lx 25 24 21,.x 26 (.f 33 [.t 23,.t 25]) 21,.x 27 (.un .not (.t 26)) 21,.o 28 21 27,.m 29 28,.ax 30 4 1 29,.lx 31 30 29,.x 32 (.f 34 [.t 31]) 29,.x 33 (.un .not (.t 32)) 29,.o 34 29 33,.m 35 34,.ax 36 5 1 35,.lx 37 36 35,.x 38 (.f 6 [.t 37]) 35,.x 39 (.un .not (.t 38)) 35,.o 40 35 39,.m 41 40,.ax 42 7 1 41,.lx 43 42 41,.x 44 (.f 35 [.t 43]) 41,.x 45 (.un .not (.t 44)) 41,.o 46 41 45,.m 47 46,.ax 48 8 1 47,.lx 49 48 47,.x 50 (.f 36 [.t 49,(.c .nils)]) 47,.x 51 (.un .not (.t 50)) 47,.o 52 47 51]) (.i 52 (.g [.k 2 false] (.ret [2])) .skip)) (.join [1] (.g [.c 3 0] (.block 0 (.loop [1,3] [] B17_0))) (.join [1] (.g [.c 4 0] (.block 2 (.loop [1,4] [] B17_1))) (.join [2] (.reg [.a 85 6 1,.l 86 85,.u 87 86,.v 88 .leq 87 3,.m 89 88,.ax 90 6 1 89,.lx 91 90 89,.x 92 (.len (.t 91)) 89,.vx 93 .gtr 92 8 89,.mx 94 93 89,.ay 95 6 1 94,.ly 96 95 94,.y 97 (.len (.t 96)) 94,.vy 98 .leq 97 20 94,.x 99 (.pick (.t 94) (.t 98) (.c (.bool false))) 89,.o 100 89 99,.m 2 100]) (.ret [2])))))))⟩:=by kernel_rfl
def B33_0:Cd:=(.join [1,5] (.join [1,5,31] (.reg [.m 24 5,.m 25 1,.u 26 25,.b 27 .lss 24 26,.m 28 27,.my 29 5 28,.vy 30 .lss 29 6 28,.e 31 28 30]) (.i 31 .skip (.exit [] 0))) (.join [1,5] (.block 1 (.g [.m 34 1,.m 35 5,.r 36 4 34 35,.a 37 3 36,.l 38 37,.u 39 38,.v 40 .gtr 39 16] (.i 40 (.g [.k 4 false] (.ret [4])) .skip))) (.reg [.m 32 5,.v 33 .add 32 1,.m 5 33])))
theorem F33:compF Tryz.prog 33=some ⟨41,[.tmp 4],(.g [.k 4 false] (.join [1] (.join [1,23] (.reg [.m 6 0,.u 7 6,.v 8 .gtr 7 12,.m 9 8,.my 10 0 9,.y 11 (.len (.t 10)) 9,.vy 12 .leq 11 64 9,.e 13 9 12,.m 14 13,.mx 15 1 14,.x 16 (.len (.t 15)) 14,.vx 17 .gtr 16 6 14,.mx 18 17 14,.my 19 1 18,.y 20 (.len (.t 19)) 18,.vy 21 .leq 20 32 18,.x 22 (.pick (.t 18) (.t 21) (.c (.bool false))) 14,.o 23 14 22]) (.i 23 (.g [.k 4 false] (.ret [4])) .skip)) (.join [] (.g [.c 5 0] (.block 0 (.loop [1,5] [] B33_0))) (.g [.k 4 true] (.ret [4])))))⟩:=by kernel_rfl
def B34_0:Cd:=(.join [0,3] (.join [0,3,11] (.reg [.m 4 3,.m 5 0,.u 6 5,.b 7 .lss 4 6,.m 8 7,.my 9 3 8,.vy 10 .lss 9 60 8,.e 11 8 10]) (.i 11 .skip (.exit [0] 0))) (.join [0,3] (.block 1 (.join [0,3,29] (.reg [.m 14 0,.m 15 3,.r 16 2 14 15,.a 17 1 16,.l 18 17,.u 19 18,.v 20 .gtr 19 40,.m 21 20,.my 22 0 21,.my 23 3 21,.ry 24 2 22 23 21,.ay 25 1 24 21,.ly 26 25 21,.y 27 (.len (.t 26)) 21,.vy 28 .leq 27 256 21,.e 29 21 28]) (.i 29 (.g [.k 2 false] (.ret [2])) .skip))) (.reg [.m 12 3,.v 13 .add 12 1,.m 3 13])))
theorem F34:compF Tryz.prog 34=some ⟨33,[.tmp 2],(.g [.k 2 false] (.join [0] (.g [.c 3 0] (.block 0 (.loop [0,3] [] B34_0))) (.g [.m 30 0,.u 31 30,.v 32 .leq 31 60,.m 2 32] (.ret [2]))))⟩:=by kernel_rfl
def B6_0:Cd:=(.join [0,3] (.g [.m 7 3,.m 8 0,.u 9 8,.b 10 .lss 7 9] (.i 10 .skip (.exit [] 0))) (.join [0,3] (.block 1 (.g [.m 13 0,.m 14 3,.r 15 2 13 14,.a 16 1 15,.l 17 16,.u 18 17,.v 19 .gtr 18 512] (.i 19 (.g [.k 2 false] (.ret [2])) .skip))) (.reg [.m 11 3,.v 12 .add 11 1,.m 3 12])))
theorem F6:compF Tryz.prog 6=some ⟨20,[.tmp 2],(.g [.k 2 false] (.join [0] (.g [.m 4 0,.u 5 4,.v 6 .gtr 5 64] (.i 6 (.g [.k 2 false] (.ret [2])) .skip)) (.join [] (.g [.c 3 0] (.block 0 (.loop [0,3] [] B6_0))) (.g [.k 2 true] (.ret [2])))))⟩:=by kernel_rfl
def B35_0:Cd:=(.join [0,3] (.join [0,3,11] (.reg [.m 4 3,.m 5 0,.u 6 5,.b 7 .lss 4 6,.m 8 7,.my 9 3 8,.vy 10 .lss 9 40 8,.e 11 8 10]) (.i 11 .skip (.exit [0] 0))) (.join [0,3] (.block 1 (.join [0,3,29] (.reg [.m 14 0,.m 15 3,.r 16 4 14 15,.a 17 3 16,.l 18 17,.u 19 18,.v 20 .gtr 19 30,.m 21 20,.my 22 0 21,.my 23 3 21,.ry 24 4 22 23 21,.ay 25 3 24 21,.ly 26 25 21,.y 27 (.len (.t 26)) 21,.vy 28 .leq 27 128 21,.e 29 21 28]) (.i 29 (.g [.k 2 false] (.ret [2])) .skip))) (.reg [.m 12 3,.v 13 .add 12 1,.m 3 13])))
theorem F35:compF Tryz.prog 35=some ⟨33,[.tmp 2],(.g [.k 2 false] (.join [0] (.g [.c 3 0] (.block 0 (.loop [0,3] [] B35_0))) (.g [.m 30 0,.u 31 30,.v 32 .leq 31 40,.m 2 32] (.ret [2]))))⟩:=by kernel_rfl
def B36_0:Cd:=(.join [1,5] (.join [1,5,31] (.reg [.m 24 5,.m 25 1,.u 26 25,.b 27 .lss 24 26,.m 28 27,.my 29 5 28,.vy 30 .lss 29 4 28,.e 31 28 30]) (.i 31 .skip (.exit [] 0))) (.join [1,5] (.block 1 (.join [1,5,49] (.reg [.m 34 1,.m 35 5,.r 36 6 34 35,.a 37 1 36,.l 38 37,.u 39 38,.v 40 .gtr 39 8,.m 41 40,.my 42 1 41,.my 43 5 41,.ry 44 6 42 43 41,.ay 45 1 44 41,.ly 46 45 41,.y 47 (.len (.t 46)) 41,.vy 48 .leq 47 256 41,.e 49 41 48]) (.i 49 (.g [.k 4 false] (.ret [4])) .skip))) (.reg [.m 32 5,.v 33 .add 32 1,.m 5 33])))
theorem F36:compF Tryz.prog 36=some ⟨50,[.tmp 4],(.g [.k 4 false] (.join [1] (.join [1,23] (.reg [.m 6 0,.u 7 6,.v 8 .gtr 7 4,.m 9 8,.my 10 0 9,.y 11 (.len (.t 10)) 9,.vy 12 .leq 11 16 9,.e 13 9 12,.m 14 13,.mx 15 1 14,.x 16 (.len (.t 15)) 14,.vx 17 .gtr 16 4 14,.mx 18 17 14,.my 19 1 18,.y 20 (.len (.t 19)) 18,.vy 21 .leq 20 16 18,.x 22 (.pick (.t 18) (.t 21) (.c (.bool false))) 14,.o 23 14 22]) (.i 23 (.g [.k 4 false] (.ret [4])) .skip)) (.join [] (.g [.c 5 0] (.block 0 (.loop [1,5] [] B36_0))) (.g [.k 4 true] (.ret [4])))))⟩:=by kernel_rfl
def B37_0:Cd:=(.join [1,3] (.join [1,3,12] (.reg [.m 4 3,.a 5 3 1,.l 6 5,.u 7 6,.b 8 .lss 4 7,.m 9 8,.my 10 3 9,.vy 11 .lss 10 40 9,.e 12 9 11]) (.i 12 .skip (.exit [1] 0))) (.join [1,3] (.block 1 (.g [.a 15 3 1,.l 16 15,.m 17 3,.r 18 10 16 17,.a 19 9 18,.l 20 19,.u 21 20,.v 22 .gtr 21 40] (.i 22 (.g [.k 2 false] (.ret [2])) .skip))) (.reg [.m 13 3,.v 14 .add 13 1,.m 3 14])))
theorem F37:compF Tryz.prog 37=some ⟨33,[.tmp 2],(.g [.q 1 107 0,.k 2 false] (.z [1] (.join [1] (.g [.c 3 0] (.block 0 (.loop [1,3] [] B37_0))) (.join [2] (.reg [.a 23 3 1,.l 24 23,.u 25 24,.v 26 .leq 25 40,.m 27 26,.ay 28 0 1 27,.ly 29 28 27,.y 30 (.lens (.t 29)) 27,.vy 31 .leq 30 100 27,.e 32 27 31,.m 2 32]) (.ret [2])))))⟩:=by kernel_rfl
def B38_0:Cd:=(.join [1,3,4] (.g [.m 15 4,.a 16 2 1,.l 17 16,.u 18 17,.b 19 .lss 15 18] (.i 19 .skip (.exit [] 0))) (.join [1,3,4] (.block 1 (.g [.m 22 3,.a 23 2 1,.l 24 23,.m 25 4,.r 26 9 24 25,.a 27 2 26,.l 28 27,.u 29 28,.b 30 .add 22 29,.m 3 30] (.join [1,3,4,42] (.reg [.a 31 2 1,.l 32 31,.m 33 4,.r 34 9 32 33,.a 35 2 34,.l 36 35,.u 37 36,.v 38 .gtr 37 20,.m 39 38,.mx 40 3 39,.vx 41 .gtr 40 30 39,.o 42 39 41]) (.i 42 (.g [.d 43 3 1,.f 44 70 43,.v 45 .neq 44 0,.m 2 45] (.ret [2])) .skip)))) (.reg [.m 20 4,.v 21 .add 20 1,.m 4 21])))
theorem F38:compF Tryz.prog 38=some ⟨46,[.tmp 2],(.g [.q 1 111 0,.k 2 false] (.z [1] (.join [1] (.g [.d 5 3 1,.f 6 69 5,.z 7 6] (.i 7 (.g [.k 2 false] (.ret [2])) .skip)) (.join [1] (.g [.a 8 2 1,.l 9 8,.u 10 9,.v 11 .gtr 10 10] (.i 11 (.g [.d 12 3 1,.f 13 70 12,.v 14 .neq 13 0,.m 2 14] (.ret [2])) .skip)) (.g [.c 3 0] (.join [] (.g [.c 4 0] (.block 0 (.loop [1,3,4] [] B38_0))) (.g [.k 2 true] (.ret [2]))))))))⟩:=by kernel_rfl
def B69_0:Cd:=(.join [1,3] (.g [.m 8 3,.a 9 2 1,.l 10 9,.u 11 10,.b 12 .lss 8 11] (.i 12 .skip (.exit [] 0))) (.join [1,3] (.block 1 (.g [.a 15 2 1,.l 16 15,.m 17 3,.r 18 9 16 17,.d 19 9 18,.f 20 128 19,.z 21 20] (.i 21 (.g [.k 2 false] (.ret [2])) .skip))) (.reg [.m 13 3,.v 14 .add 13 1,.m 3 14])))
theorem F69:compF Tryz.prog 69=some ⟨22,[.tmp 2],(.g [.q 1 111 0,.k 2 false] (.z [1] (.join [1] (.g [.a 4 2 1,.l 5 4,.u 6 5,.v 7 .gtr 6 128] (.i 7 (.g [.k 2 false] (.ret [2])) .skip)) (.join [] (.g [.c 3 0] (.block 0 (.loop [1,3] [] B69_0))) (.g [.k 2 true] (.ret [2]))))))⟩:=by kernel_rfl
theorem F128:compF Tryz.prog 128=some ⟨30,[.tmp 2],(.g [.q 1 48 0,.k 2 false] (.z [1] (.join [2] (.reg [.a 3 0 1,.l 4 3,.s 5 (.lens (.t 4)),.v 6 .leq 5 40,.m 7 6,.ay 8 1 1 7,.ly 9 8 7,.y 10 (.lens (.t 9)) 7,.vy 11 .leq 10 100 7,.e 12 7 11,.m 13 12,.ay 14 7 1 13,.ly 15 14 13,.y 16 (.lens (.t 15)) 13,.vy 17 .leq 16 40 13,.e 18 13 17,.m 19 18,.ay 20 3 1 19,.ly 21 20 19,.y 22 (.len (.t 21)) 19,.vy 23 .leq 22 10 19,.e 24 19 23,.m 25 24,.ay 26 2 1 25,.ly 27 26 25,.y 28 (.f 200 [.t 27]) 25,.e 29 25 28,.m 2 29]) (.ret [2]))))⟩:=by kernel_rfl
theorem F200:compF Tryz.prog 200=some ⟨6,[.tmp 2],(.g [.k 2 false] (.g [.m 3 0,.u 4 3,.v 5 .leq 4 300,.m 2 5] (.ret [2])))⟩:=by kernel_rfl
end Go.Proofs.YtpbiilllhjeibaaGreatDoor

namespace Go.Proofs.YtpbiilllhjeibaaGreatDoor
open Go.Sha
set_option maxRecDepth 100000
variable {g:List (Nat×Obj)}{n:Nat}
def anyN {α:Type}(m:Int)(p:α→Prop)[DecidablePred p]:List α→Nat→Bool
 |[],_=>false
 |q::r,j=>if(j:Int)<m then if p q then true else anyN m p r (j+1) else false
theorem L32 {l:List (List Pt)}(hl:l.length<140737488355328):∀r j,l.drop j=r→runL Tryz.prog HH [0,3] n B32_0 [(0,.sl (l.map Pt.vs)),(3,.int .i64 j)] (stN g n)=lpB (stN g n) [(0,.sl (l.map Pt.vs))] 2 (anyN 40 (fun q:List Pt=>40<(q.length:Int)) r j) false:=by
 refine drop_ind (fun j h=>?_) (fun q r j h hx hd ih=>?_)
 all_goals rw[runL_of B32_0.eq_1]
 ·have h1:¬(j:Int)<l.length:=by omega
  push_cast[h1,anyN]
 ·have h1:(j:Int)<l.length:=by omega
  have hw:=iw1 (j:=j) (by omega)
  push_cast[h1,hw,hx,f68]at ih ⊢
  simp only[ih,anyN,lps,Int.reduceEq,not_false_eq_true]
  all_goals first|with_reducible rfl|exact dn_eq (by omega) (by with_reducible rfl)|((repeat' split)<;>(try simp_all)<;>(try (with_reducible refine dn_eq ?_ ?_<;>first|trivial|omega|rfl))<;>(try omega))
theorem f32 {l:List (List Pt)}(hl:l.length<140737488355328):∃b,∀st,run Tryz.prog HH 32 [.sl (l.map Pt.vs)] st=some (.ret (.bool b),st):=by
 refine⟨if anyN 40 (fun q:List Pt=>40<(q.length:Int)) l 0=true then false else decide ((l.length:Int)≤40),fun st=>?_⟩
 rw[run_shut F32 rfl rfl (by simp)]
 have hL0:=fun n=>L32 (g:=st.x.gl) (n:=n) hl _ 0 rfl
 push_cast at hL0
 push_cast[hL0,lpE,lpX,lpI,lpB]
 all_goals first|with_reducible rfl|exact dn_eq (by omega) (by with_reducible rfl)|((repeat' split)<;>(try simp_all)<;>(try (with_reducible refine dn_eq ?_ ?_<;>first|trivial|omega|rfl))<;>(try omega))
theorem L33 {l:List Prof}(hl:l.length<140737488355328):∀r j,l.drop j=r→runL Tryz.prog HH [1,5] n B33_0 [(1,.sl (l.map Prof.v)),(5,.int .i64 j)] (stN g n)=lpB (stN g n) [] 4 (anyN 6 (fun q:Prof=>16<(q.feats.length:Int)) r j) false:=by
 refine drop_ind (fun j h=>?_) (fun q r j h hx hd ih=>?_)
 all_goals rw[runL_of B33_0.eq_1]
 ·have h1:¬(j:Int)<l.length:=by omega
  push_cast[h1,anyN,Prof.v]
 ·have h1:(j:Int)<l.length:=by omega
  have hw:=iw1 (j:=j) (by omega)
  push_cast[h1,hw,hx,Prof.v]at ih ⊢
  simp only[ih,anyN,lps,Int.reduceEq,not_false_eq_true]
  all_goals first|with_reducible rfl|exact dn_eq (by omega) (by with_reducible rfl)|((repeat' split)<;>(try simp_all)<;>(try (with_reducible refine dn_eq ?_ ?_<;>first|trivial|omega|rfl))<;>(try omega))
theorem f33 {l:List Fixt}{ps:List Prof}(hl:ps.length<140737488355328):∃b,∀st,run Tryz.prog HH 33 [.sl (l.map Fixt.v),.sl (ps.map Prof.v)] st=some (.ret (.bool b),st):=by
 apply Exists.intro
 intro st
 have hL0:=fun n=>L33 (g:=st.x.gl) (n:=n) hl _ 0 rfl
 rw[run_shut F33 rfl rfl (by simp)]
 push_cast at hL0
 push_cast[hL0,lpB]
 exact rfl
theorem L34 {l:List Grp}(hl:l.length<140737488355328):∀r j,l.drop j=r→runL Tryz.prog HH [0,3] n B34_0 [(0,.sl (l.map Grp.v)),(3,.int .i64 j)] (stN g n)=lpB (stN g n) [(0,.sl (l.map Grp.v))] 2 (anyN 60 (fun q:Grp=>40<(q.chans.length:Int)∧(q.chans.length:Int)≤256) r j) false:=by
 refine drop_ind (fun j h=>?_) (fun q r j h hx hd ih=>?_)
 all_goals rw[runL_of B34_0.eq_1]
 ·have h1:¬(j:Int)<l.length:=by omega
  push_cast[h1,anyN,Grp.v]
 ·have h1:(j:Int)<l.length:=by omega
  have hw:=iw1 (j:=j) (by omega)
  push_cast[h1,hw,hx,Grp.v]at ih ⊢
  simp only[ih,anyN,lps,Int.reduceEq,not_false_eq_true]
  all_goals first|with_reducible rfl|exact dn_eq (by omega) (by with_reducible rfl)|((repeat' split)<;>(try simp_all)<;>(try (with_reducible refine dn_eq ?_ ?_<;>first|trivial|omega|rfl))<;>(try omega))
theorem f34 {l:List Grp}(hl:l.length<140737488355328):∃b,∀st,run Tryz.prog HH 34 [.sl (l.map Grp.v)] st=some (.ret (.bool b),st):=by
 refine⟨if anyN 60 (fun q:Grp=>40<(q.chans.length:Int)∧(q.chans.length:Int)≤256) l 0=true then false else decide ((l.length:Int)≤60),fun st=>?_⟩
 rw[run_shut F34 rfl rfl (by simp)]
 have hL0:=fun n=>L34 (g:=st.x.gl) (n:=n) hl _ 0 rfl
 push_cast at hL0
 push_cast[hL0,lpE,lpX,lpI,lpB]
 all_goals first|with_reducible rfl|exact dn_eq (by omega) (by with_reducible rfl)|((repeat' split)<;>(try simp_all)<;>(try (with_reducible refine dn_eq ?_ ?_<;>first|trivial|omega|rfl))<;>(try omega))
def anyP {α:Type}(p:α→Prop)[DecidablePred p]:List α→Bool
 |[]=>false
 |q::r=>if p q then true else anyP p r
theorem L6 {l:List Pal}(hl:l.length<140737488355328):∀r j,l.drop j=r→runL Tryz.prog HH [0,3] n B6_0 [(0,.sl (l.map Pal.v)),(3,.int .i64 j)] (stN g n)=lpB (stN g n) [] 2 (anyP (fun q:Pal=>512<(q.hues.length:Int)) r) false:=by
 refine drop_ind (fun j h=>?_) (fun q r j h hx hd ih=>?_)
 all_goals rw[runL_of B6_0.eq_1]
 ·have h1:¬(j:Int)<l.length:=by omega
  push_cast[h1,anyP,Pal.v]
 ·have h1:(j:Int)<l.length:=by omega
  have hw:=iw1 (j:=j) (by omega)
  push_cast[h1,hw,hx,Pal.v]at ih ⊢
  simp only[ih,anyP,lps,Int.reduceEq,not_false_eq_true]
  all_goals first|with_reducible rfl|exact dn_eq (by omega) (by with_reducible rfl)|((repeat' split)<;>(try simp_all)<;>(try (with_reducible refine dn_eq ?_ ?_<;>first|trivial|omega|rfl))<;>(try omega))
theorem f6 {l:List Pal}(hl:l.length<140737488355328):∃b,∀st,run Tryz.prog HH 6 [.sl (l.map Pal.v)] st=some (.ret (.bool b),st):=by
 refine⟨if 64<(l.length:Int) then false else if anyP (fun q:Pal=>512<(q.hues.length:Int)) l=true then false else true,fun st=>?_⟩
 rw[run_shut F6 rfl rfl (by simp)]
 have hL0:=fun n=>L6 (g:=st.x.gl) (n:=n) hl _ 0 rfl
 push_cast at hL0
 push_cast[hL0,lpE,lpX,lpI,lpB]
 all_goals first|with_reducible rfl|exact dn_eq (by omega) (by with_reducible rfl)|((repeat' split)<;>(try simp_all)<;>(try (with_reducible refine dn_eq ?_ ?_<;>first|trivial|omega|rfl))<;>(try omega))
theorem L35 {l:List Sb}(hl:l.length<140737488355328):∀r j,l.drop j=r→runL Tryz.prog HH [0,3] n B35_0 [(0,.sl (l.map Sb.v)),(3,.int .i64 j)] (stN g n)=lpB (stN g n) [(0,.sl (l.map Sb.v))] 2 (anyN 40 (fun q:Sb=>30<(q.gains.length:Int)∧(q.gains.length:Int)≤128) r j) false:=by
 refine drop_ind (fun j h=>?_) (fun q r j h hx hd ih=>?_)
 all_goals rw[runL_of B35_0.eq_1]
 ·have h1:¬(j:Int)<l.length:=by omega
  push_cast[h1,anyN,Sb.v]
 ·have h1:(j:Int)<l.length:=by omega
  have hw:=iw1 (j:=j) (by omega)
  push_cast[h1,hw,hx,Sb.v]at ih ⊢
  simp only[ih,anyN,lps,Int.reduceEq,not_false_eq_true]
  all_goals first|with_reducible rfl|exact dn_eq (by omega) (by with_reducible rfl)|((repeat' split)<;>(try simp_all)<;>(try (with_reducible refine dn_eq ?_ ?_<;>first|trivial|omega|rfl))<;>(try omega))
theorem f35 {l:List Sb}(hl:l.length<140737488355328):∃b,∀st,run Tryz.prog HH 35 [.sl (l.map Sb.v)] st=some (.ret (.bool b),st):=by
 refine⟨if anyN 40 (fun q:Sb=>30<(q.gains.length:Int)∧(q.gains.length:Int)≤128) l 0=true then false else decide ((l.length:Int)≤40),fun st=>?_⟩
 rw[run_shut F35 rfl rfl (by simp)]
 have hL0:=fun n=>L35 (g:=st.x.gl) (n:=n) hl _ 0 rfl
 push_cast at hL0
 push_cast[hL0,lpE,lpX,lpI,lpB]
 all_goals first|with_reducible rfl|exact dn_eq (by omega) (by with_reducible rfl)|((repeat' split)<;>(try simp_all)<;>(try (with_reducible refine dn_eq ?_ ?_<;>first|trivial|omega|rfl))<;>(try omega))
theorem f36 {l:List Eff}:∃b,∀st,run Tryz.prog HH 36 [.sl (l.map Eff.v),.sl []] st=some (.ret (.bool b),st):=by
 refine⟨if 4<(l.length:Int)∧(l.length:Int)≤16 then false else true,fun st=>?_⟩
 rw[run_shut F36 rfl rfl (by simp)]
 push_cast[runL_of B36_0.eq_1]
 all_goals first|with_reducible rfl|exact dn_eq (by omega) (by with_reducible rfl)|((repeat' split)<;>(try simp_all)<;>(try (with_reducible refine dn_eq ?_ ?_<;>first|trivial|omega|rfl))<;>(try omega))
theorem L37 {x:Prof}(hl:x.feats.length<140737488355328):∀r j,x.feats.drop j=r→runL Tryz.prog HH [1,3] n B37_0 [(1,.ep x.v 0),(3,.int .i64 j)] (stN g n)=lpB (stN g n) [(1,.ep x.v 0)] 2 (anyN 40 (fun q:Ftr=>40<(q.wheel.length:Int)) r j) false:=by
 refine drop_ind (fun j h=>?_) (fun q r j h hx hd ih=>?_)
 all_goals rw[runL_of B37_0.eq_1]
 ·have h1:¬(j:Int)<x.feats.length:=by omega
  push_cast[h1,anyN,Prof.v,Ftr.v]
 ·have h1:(j:Int)<x.feats.length:=by omega
  have hw:=iw1 (j:=j) (by omega)
  push_cast[h1,hw,hx,Prof.v,Ftr.v]at ih ⊢
  simp only[ih,anyN,lps,Int.reduceEq,not_false_eq_true]
  all_goals first|with_reducible rfl|exact dn_eq (by omega) (by with_reducible rfl)|((repeat' split)<;>(try simp_all)<;>(try (with_reducible refine dn_eq ?_ ?_<;>first|trivial|omega|rfl))<;>(try omega))
def few51 (x:Prof):Bool:=if anyN 40 (fun q:Ftr=>40<(q.wheel.length:Int)) x.feats 0=true then false else(decide ((x.feats.length:Int)≤40)&&decide ((x.name.length:Int)≤100))
theorem f37 {x:Prof}(hl:x.feats.length<140737488355328){st:St}:run Tryz.prog HH 37 [x.v] st=some (.ret (.bool (few51 x)),st):=by
 rw[run_shut F37 rfl rfl (by simp)]
 have hL0:=fun n=>L37 (g:=st.x.gl) (n:=n) hl _ 0 rfl
 push_cast[Prof.v,few51]at hL0
 push_cast[Prof.v,few51,hL0,lpE,lpX,lpI,lpB]
 all_goals first|with_reducible rfl|exact dn_eq (by omega) (by with_reducible rfl)|((repeat' split)<;>(try simp_all)<;>(try (with_reducible refine dn_eq ?_ ?_<;>first|trivial|omega|rfl))<;>(try omega))
def few129 (x:Cu):Bool:=decide ((x.num.length:Int)≤40)&&(decide ((x.label.length:Int)≤100)&&(decide ((x.link.length:Int)≤40)&&(decide ((x.parts.length:Int)≤10)&&decide ((x.moves.length:Int)≤300))))
theorem f128 {x:Cu}{st:St}:run Tryz.prog HH 128 [x.v] st=some (.ret (.bool (few129 x)),st):=by
 rw[run_shut F128 rfl rfl (by simp)]
 push_cast[Cu.v,(fun(a0:V) (st:St) (h:V.bdL 0 [a0]=true)=>run_shut (P:=Tryz.prog) (H:=HH) (args:=[a0]) (st:=st) F200 rfl rfl h),few129]
theorem L69 {x:Lst}(hl:x.cues.length<140737488355328):∀r j,x.cues.drop j=r→runL Tryz.prog HH [1,3] n B69_0 [(1,.ep x.v 0),(3,.int .i64 j)] (stN g n)=lpB (stN g n) [] 2 (anyP (fun q:Cu=>few129 q=false) r) false:=by
 refine drop_ind (fun j h=>?_) (fun q r j h hx hd ih=>?_)
 all_goals rw[runL_of B69_0.eq_1]
 ·have h1:¬(j:Int)<x.cues.length:=by omega
  push_cast[h1,anyP,Lst.v,Cu.v]
 ·have h1:(j:Int)<x.cues.length:=by omega
  have hw:=iw1 (j:=j) (by omega)
  push_cast[h1,hw,hx,Lst.v,Cu.v,f128]at ih ⊢
  simp only[ih,anyP,lps,Int.reduceEq,not_false_eq_true]
  all_goals first|with_reducible rfl|exact dn_eq (by omega) (by with_reducible rfl)|((repeat' split)<;>(try simp_all)<;>(try (with_reducible refine dn_eq ?_ ?_<;>first|trivial|omega|rfl))<;>(try omega))
theorem f69 {x:Lst}(hl:x.cues.length<140737488355328):∃b,∀st,run Tryz.prog HH 69 [x.v] st=some (.ret (.bool b),st):=by
 refine⟨if 128<(x.cues.length:Int) then false else if anyP (fun q:Cu=>few129 q=false) x.cues=true then false else true,fun st=>?_⟩
 rw[run_shut F69 rfl rfl (by simp)]
 have hL0:=fun n=>L69 (g:=st.x.gl) (n:=n) hl _ 0 rfl
 push_cast[Lst.v]at hL0
 push_cast[Lst.v,hL0,lpE,lpX,lpI,lpB]
 all_goals first|with_reducible rfl|exact dn_eq (by omega) (by with_reducible rfl)|((repeat' split)<;>(try simp_all)<;>(try (with_reducible refine dn_eq ?_ ?_<;>first|trivial|omega|rfl))<;>(try omega))
def add52:List Cu→Int→Option Int
 |[],_=>none
 |q::r,m=>if 20<(q.moves.length:Int)∨30<IntKind.i64.wrap (m+q.moves.length) then some 1 else add52 r (IntKind.i64.wrap (m+q.moves.length))
theorem L38 {x:Lst}(hx0:x.ok):∀r j,x.cues.drop j=r→∀m,runL Tryz.prog HH [1,3,4] n B38_0 [(1,.ep x.v 0),(3,.int .i64 m),(4,.int .i64 j)] (stN g n)=(match add52 r m with|none=>some (.exit 0,[],stN g n)|some _=>some (.ret,[(2,.bool (lstR x != 0))],stN g n)):=by
 have hl:=hx0.a
 have h91:=fun(st:St)=>f70 (st:=st) hx0
 refine drop_ind (fun j h m=>?_) (fun q r j h hx hd ih m=>?_)
 all_goals rw[runL_of B38_0.eq_1]
 ·have h1:¬(j:Int)<x.cues.length:=by omega
  push_cast[h1,add52,Lst.v]
 ·have h1:(j:Int)<x.cues.length:=by omega
  have hw:=iw1 (j:=j) (by omega)
  push_cast[Lst.v]at h91
  push_cast[h1,hw,hx,Lst.v,Cu.v,h91]at ih ⊢
  simp only[ih,add52]
  split<;>rfl
theorem f38 {x:Lst}(h:x.ok):∃b,∀st,run Tryz.prog HH 38 [x.v] st=some (.ret (.bool b),st):=by
 obtain⟨b,hb⟩:=f69 h.a
 have h91:=fun(st:St)=>f70 (st:=st) h
 have h0:=fun g n=>L38 (g:=g) (n:=n) h x.cues 0 rfl 0
 cases h2:add52 x.cues 0 with
 |none =>
  rw[h2]at h0
  push_cast[Lst.v]at h0 hb h91
  refine⟨if b=false then false else if 10<(x.cues.length:Int) then lstR x != 0 else true,fun st=>?_⟩
  rw[run_shut F38 rfl rfl (by simp)]
  push_cast[Lst.v,hb,h91,h0]
  all_goals first|with_reducible rfl|exact dn_eq (by omega) (by with_reducible rfl)|((repeat' split)<;>(try simp_all)<;>(try (with_reducible refine dn_eq ?_ ?_<;>first|trivial|omega|rfl))<;>(try omega))
 |some k =>
  rw[h2]at h0
  push_cast[Lst.v]at h0 hb h91
  refine⟨if b=false then false else lstR x != 0,fun st=>?_⟩
  rw[run_shut F38 rfl rfl (by simp)]
  push_cast[Lst.v,hb,h91,h0]
  all_goals first|with_reducible rfl|exact dn_eq (by omega) (by with_reducible rfl)|((repeat' split)<;>(try simp_all)<;>(try (with_reducible refine dn_eq ?_ ?_<;>first|trivial|omega|rfl))<;>(try omega))
open Classical in
noncomputable def few52 (x:Lst):Bool:=if h:x.ok then(f38 h).choose else false
theorem f38' {x:Lst}(h:x.ok){st:St}:run Tryz.prog HH 38 [x.v] st=some (.ret (.bool (few52 x)),st):=by
 unfold few52;rw[dif_pos h];exact(f38 h).choose_spec st
theorem L17_0 {x:Sho}(hx0:x.ok):∀r j,x.profs.drop j=r→runL Tryz.prog HH [1,3] n B17_0 [(1,.ep x.v 0),(3,.int .i64 j)] (stN g n)=lpB (stN g n) [(1,.ep x.v 0)] 2 (anyP (fun q=>few51 q=false) r) false:=by
 have hl:=hx0.p.1
 refine drop_ind (fun j h=>?_) (fun q r j h hx hd ih=>?_)
 all_goals rw[runL_of B17_0.eq_1]
 ·have h1:¬(j:Int)<x.profs.length:=by omega
  push_cast[h1,anyP,Sho.v,Prof.v]
 ·have h1:(j:Int)<x.profs.length:=by omega
  have hw:=iw1 (j:=j) (by omega)
  have hq:q.feats.length<140737488355328:=(hx0.p.2.1 q (mem_at hd)).a
  push_cast[h1,hw,hx,Sho.v,Prof.v,f37 hq]at ih ⊢
  simp only[ih,anyP,lps,Int.reduceEq,not_false_eq_true]
  all_goals first|with_reducible rfl|exact dn_eq (by omega) (by with_reducible rfl)|((repeat' split)<;>(try simp_all)<;>(try (with_reducible refine dn_eq ?_ ?_<;>first|trivial|omega|rfl))<;>(try omega))
theorem L17_1 {x:Sho}(hx0:x.ok):∀r j,x.lsts.drop j=r→runL Tryz.prog HH [1,4] n B17_1 [(1,.ep x.v 0),(4,.int .i64 j)] (stN g n)=if anyN 10 (fun q=>few52 q=false) r j=true then some (.ret,[(2,.bool false)],stN g n) else some (.exit 2,[(1,.ep x.v 0)],stN g n):=by
 have hl:=hx0.k.1
 refine drop_ind (fun j h=>?_) (fun q r j h hx hd ih=>?_)
 all_goals rw[runL_of B17_1.eq_1]
 ·have h1:¬(j:Int)<x.lsts.length:=by omega
  push_cast[h1,anyN,Sho.v,Lst.v]
 ·have h1:(j:Int)<x.lsts.length:=by omega
  have hw:=iw1 (j:=j) (by omega)
  have hq:q.ok:=hx0.k.2 q (mem_at hd)
  push_cast[h1,hw,hx,Sho.v,Lst.v,f38' hq]at ih ⊢
  simp only[ih,anyN,lps,Int.reduceEq,not_false_eq_true]
  all_goals first|with_reducible rfl|exact dn_eq (by omega) (by with_reducible rfl)|((repeat' split)<;>(try simp_all)<;>(try (with_reducible refine dn_eq ?_ ?_<;>first|trivial|omega|rfl))<;>(try omega))
theorem f17 {x:Sho}(h:x.ok):∃b,∀st,run Tryz.prog HH 17 [x.v] st=some (.ret (.bool b),st):=by
 obtain⟨b1,h1⟩:=f32 h.c.1
 obtain⟨b2,h2⟩:=f33 (l:=x.fixts) h.p.1
 obtain⟨b3,h3⟩:=f34 h.g.1
 obtain⟨b4,h4⟩:=f6 h.l.1
 obtain⟨b5,h5⟩:=f35 h.s.1
 obtain⟨b6,h6⟩:=f36 (l:=x.effs)
 have k0:=fun g n=>L17_0 (g:=g) (n:=n) h x.profs 0 rfl
 have k1:=fun g n=>L17_1 (g:=g) (n:=n) h x.lsts 0 rfl
 push_cast[Sho.v]at k0 k1
 apply Exists.intro
 intro st
 rw[run_shut F17 rfl rfl (by simp)]
 push_cast[Sho.v,h1,h2,h3,h4,h5,h6,k0,k1,lpB]
 exact rfl
end Go.Proofs.YtpbiilllhjeibaaGreatDoor

namespace Go.Proofs.YtpbiilllhjeibaaGreatDoor
open Go.Sha
set_option maxRecDepth 100000
variable {g:List (Nat×Obj)}{n:Nat}
theorem f121 {p:Prof}{x:Fixt}{st:St}:run Tryz.prog HH 121 [p.v,.ep x.v 0] st=some (.ret (.bool (p.name == x.prof)),st):=by
 rw[run_shut F121 rfl rfl (by simp)]
 push_cast[Prof.v,Fixt.v]
 all_goals first|with_reducible rfl|exact dn_eq (by omega) (by with_reducible rfl)|((repeat' split)<;>(try simp_all)<;>(try (with_reducible refine dn_eq ?_ ?_<;>first|trivial|omega|rfl))<;>(try omega))
theorem f120 {l:List Prof}{x:Fixt}(hl:l.length<140737488355328){st:St}:run Tryz.prog HH 120 [.sl (l.map Prof.v),.fn (.func 121) [] [.ep x.v 0]] st=some (.ret (.int .i64 (ix (fun p=>p.name == x.prof) l 0)),st) :=
 IxF (f:=Prof.v) (n:=some 4) (fun _=>rfl) (fun _=>rfl) F120 rfl (by simp) hl (fun q _ _=>f121) (fun _ _=>rfl) (fun _=>rfl)
theorem f63 {s:Sho}{x:Fixt}{q:Prof}(hl:s.profs.length<140737488355328)(hq:pfx s.profs x.prof=some q){st:St}:run Tryz.prog HH 63 [s.v,x.v] st=some (.ret (.sl (q.feats.map Ftr.v)),st):=by
 obtain⟨k,k1,k2,k3⟩:=(ix_find (j:=0)).2 q hq
 rw[Nat.zero_add]at k1
 have k4:(k:Int)<s.profs.length:=by omega
 have h92:=fun(st:St)=>f120 (x:=x) (st:=st) hl
 rw[k1]at h92
 push_cast[Fixt.v]at h92
 rw[run_shut F63 rfl rfl (by simp)]
 push_cast[Sho.v,Fixt.v,Prof.v,h92,k3,k4]
 all_goals first|with_reducible rfl|exact dn_eq (by omega) (by with_reducible rfl)|((repeat' split)<;>(try simp_all)<;>(try (with_reducible refine dn_eq ?_ ?_<;>first|trivial|omega|rfl))<;>(try omega))
def fcV:Option Ftr→List V
 |none=>[.i 0,.i 0,.i 0,.i 0,.i 0,.i 0,.i 0,.i 0,.bool false,.nils]
 |some f=>f.v.cells
@[push_cast]theorem fc_len {o:Option Ftr}:(fcV o).length=10:=by cases o<;>rfl
@[push_cast]theorem fc_drop {o:Option Ftr}:(fcV o).drop 10=[]:=by cases o<;>rfl
@[push_cast]theorem fc_bd {o:Option Ftr}:V.bdL n (fcV o)=true:=by cases o<;>simp[fcV,V.bdL,V.bd,V.cells,bdL_map']
theorem fc_some {f:Ftr}:fcV (some f)=f.v.cells:=rfl
def stF (g:List (Nat×Obj))(n:Nat)(o:Option Ftr):St:=⟨n,[(3,fcV o),(2,[.i 0,.i 0,.i 0,.i 0,.i 0,.i 0,.i 0,.i 0,.bool false,.nils])],[],⟨[],g,[]⟩⟩
@[push_cast]theorem stF_eq {o:Option Ftr}:stF g n o=⟨n,[(3,fcV o),(2,[.i 0,.i 0,.i 0,.i 0,.i 0,.i 0,.i 0,.i 0,.bool false,.nils])],[],⟨[],g,[]⟩⟩:=idq rfl
def ftL (a pt:Int):List Ftr→Option Ftr×Int→Option Ftr×Int
 |[],s=>s
 |f::r,s=>ftL a pt r (if f.attr=a then(some f,pt) else s)
theorem L28_0 {l:List Ftr}{p:Prm}{x:Fixt}{e2 e13 e14 e15:V}(hl:l.length<140737488355328)(b2:V.bd 5 e2=true)(b13:V.bd 5 e13=true)(b14:V.bd 5 e14=true)(b15:V.bd 5 e15=true):∀r j,l.drop j=r→∀o m,
  runL Tryz.prog HH [2,3,4,6,7,9,13,14,15,36,37,38] 5 B28_0 [(2,e2),(3,.ep p.v 0),(4,.ptr 2 0),(6,.ptr 3 0),(7,.int .i64 m),(9,.ep x.v 0),(13,e13),(14,e14),(15,e15),(36,.sl (l.map Ftr.v)),(37,.int .i64 l.length),(38,.int .i64 j)] (stF g 5 o)
   = some (.exit 2,[(2,e2),(3,.ep p.v 0),(4,.ptr 2 0),(6,.ptr 3 0),(7,.int .i64 (ftL p.attr x.part r (o,m)).2),(13,e13),(14,e14),(15,e15)],stF g 5 (ftL p.attr x.part r (o,m)).1):=by
 refine drop_ind (fun j h o m=>?_) (fun q r j h hx hd ih o m=>?_)
 all_goals rw[runL_of B28_0.eq_1]
 ·have h1:¬(j:Int)<l.length:=by omega
  push_cast[h1,ftL,Ftr.v]
 ·have h1:(j:Int)<l.length:=by omega
  have hw:=iw1 (j:=j) (by omega)
  rw[ftL]
  by_cases h2:q.attr=p.attr
  ·rw[if_pos h2]
   have ih:=ih (some q) x.part
   have h3:=eq_true h2
   push_cast[h1,hw,hx,Ftr.v,Prm.v,Fixt.v,fc_some,h3,b2,b13,b14,b15]at ih ⊢
   exact ih
  ·rw[if_neg h2]
   have ih:=ih o m
   push_cast[h1,hw,hx,Ftr.v,Prm.v,Fixt.v,h2,b2,b13,b14,b15]at ih ⊢
   exact ih
def ftX (ps:List Prof)(p:Prm)(x:Fixt)(s:Option Ftr×Int):Option Ftr×Int:=if ¬x.chan=p.chan∨0<s.2∧s.2<x.part then s else ftL p.attr x.part (((pfx ps x.prof).map Prof.feats).getD []) s
theorem L28_1 {s:Sho}{p:Prm}(hl:s.fixts.length<140737488355328)(hp:s.profs.length<140737488355328)(hq:∀q∈s.profs,q.feats.length<140737488355328)(hf:∀x∈s.fixts,(pfx s.profs x.prof).isSome=true):∀r j,s.fixts.drop j=r→∀o m,
  runL Tryz.prog HH [2,3,4,6,7,13,14,15] 4 B28_1 [(2,.ep s.v 0),(3,.ep p.v 0),(4,.ptr 2 0),(6,.ptr 3 0),(7,.int .i64 m),(13,.sl (s.fixts.map Fixt.v)),(14,.int .i64 s.fixts.length),(15,.int .i64 j)] (stF g 4 o)
   = some (.exit 0,[(4,.ptr 2 0),(6,.ptr 3 0),(7,.int .i64 (r.foldl (fun a x=>ftX s.profs p x a) (o,m)).2)],stF g 4 (r.foldl (fun a x=>ftX s.profs p x a) (o,m)).1):=by
 refine drop_ind (fun j h o m=>?_) (fun x r j h hx hd ih o m=>?_)
 all_goals rw[runL_of B28_1.eq_1]
 ·have h1:¬(j:Int)<s.fixts.length:=by omega
  push_cast[h1,List.foldl_nil,Sho.v,Fixt.v]
 ·have h1:(j:Int)<s.fixts.length:=by omega
  have hw:=iw1 (j:=j) (by omega)
  obtain⟨q,hq1⟩:=Option.isSome_iff_exists.1 (hf x (mem_at hd))
  have hq2:=hq q (List.mem_of_find?_eq_some hq1)
  have h55:=fun(st:St)=>f63 (st:=st) hp hq1
  have h0:=fun m o=>L28_0 (g:=g) (l:=q.feats) (p:=p) (x:=x) (e2:=.ep s.v 0) (e13:=.sl (s.fixts.map Fixt.v)) (e14:=.int .i64 s.fixts.length) (e15:=.int .i64 j) hq2 (by simp[V.bd,V.bdL,bdL_map']) (by simp[V.bd,V.bdL,bdL_map']) rfl rfl _ 0 rfl o m
  have e:ftX s.profs p x (o,m)=if ¬x.chan=p.chan∨0<m∧m<x.part then(o,m) else ftL p.attr x.part q.feats (o,m):=by simp only[ftX,hq1];rfl
  rw[List.foldl_cons,e]
  by_cases h2:¬x.chan=p.chan∨0<m∧m<x.part
  ·rw[if_pos h2]
   have ih:=ih o m
   have h3:=eq_true h2
   push_cast[h1,hw,hx,Sho.v,Fixt.v,Prm.v,h3]at ih ⊢
   exact ih
  ·rw[if_neg h2]
   have ih:=ih (ftL p.attr x.part q.feats (o,m)).1 (ftL p.attr x.part q.feats (o,m)).2
   have h3:=eq_false h2
   push_cast[Sho.v,Fixt.v,Prm.v]at h55 h0
   push_cast[h1,hw,hx,Sho.v,Fixt.v,Prm.v,h3,h55,h0]at ih ⊢
   exact ih
def ownP (s:Sho)(p:Prm):Option Ftr×Int:=s.fixts.foldl (fun a x=>ftX s.profs p x a) (none,0)
def F0:Ftr:=⟨0,0,0,0,0,0,0,0,false,[]⟩
theorem f28 {s:Sho}{p:Prm}(hl:s.fixts.length<140737488355328)(hp:s.profs.length<140737488355328)(hq:∀q∈s.profs,q.feats.length<140737488355328)(hf:∀x∈s.fixts,(pfx s.profs x.prof).isSome=true){st:St}:run Tryz.prog HH 28 [s.v,p.v] st=some (.ret (.tup [((ownP s p).1.getD F0).v,.bool (decide (0<(ownP s p).2))]),st):=by
 have h0:=L28_1 (g:=st.x.gl) (p:=p) hl hp hq hf _ 0 rfl none 0
 rw[List.drop_zero,show s.fixts.foldl (fun a x=>ftX s.profs p x a) (none,0)=ownP s p from rfl]at h0
 cases ho:(ownP s p).1 with
 |none =>
  rw[ho]at h0
  push_cast[Sho.v,Prm.v,fcV]at h0
  rw[run_shut F28 rfl rfl (by simp)]
  push_cast[Sho.v,Prm.v,h0,F0,Ftr.v]
 |some f =>
  rw[ho]at h0
  push_cast[Sho.v,Prm.v,fcV,Ftr.v]at h0
  rw[run_shut F28 rfl rfl (by simp)]
  push_cast[Sho.v,Prm.v,h0,Ftr.v]
def partK (l:List Fixt)(c k:Int):List Fixt:=l.filter fun x=>decide (x.chan=c∧x.part=k)
def partsF (l:List Fixt)(c:Int):Nat→Nat→List Fixt
 |_,0=>[]
 |k,m+1=>partK l c k++partsF l c (k+1) m
def ffF (a:Int)(l:List Ftr):Option Ftr:=l.find? fun f=>decide (f.attr=a)
def havL (ps:List Prof)(a:Int):List Fixt→Option (Fixt×Ftr)
 |[]=>none
 |x::r=>match ffF a (((pfx ps x.prof).map Prof.feats).getD []) with
  |some f=>some (x,f)
  |none=>havL ps a r
theorem partsF_mem {l:List Fixt}{c:Int}:∀{m k:Nat}{x:Fixt},x∈partsF l c k m→x∈l∧x.chan=c∧k≤x.part∧x.part<k+m
 |0,_,_,h=>by simp[partsF]at h
 |m+1,k,x,h=>by
  rw[partsF,List.mem_append]at h
  rcases h with h|h
  ·simp only[partK,List.mem_filter,decide_eq_true_eq]at h
   exact⟨h.1,h.2.1,by omega,by omega⟩
  ·obtain⟨a,b,c,d⟩:=partsF_mem h
   exact⟨a,b,by omega,by omega⟩
def havR (fx:List Fixt)(ps:List Prof)(p:Prm):Option (Fixt×Ftr):=havL ps p.attr (partsF fx p.chan 1 64)
theorem shoC_parts {x:Sho}(h:shoC x=0):labC x.title=0∧cursC x.curves=0∧profsCR x.profs x.curves=0∧fixCR x.fixts x.profs=0∧grpsC x.grps=0∧palsCR x.pals=0∧lstsC x.lsts=0∧subsCR x.subs=0∧effsC x.effs=0:=by
 unfold shoC uniC at h
 repeat' split at h
 all_goals first|(rename_i a;exact absurd h a)|skip
 simp_all
theorem fixR_all {ps:List Prof}{l:List Fixt}:∀{r:List Fixt}{j:Nat},l.drop j=r→fixR ps l r j=0→∀x∈r,aloC ps x=0
 |[],_,_,_,x,hx=>by simp at hx
 |q::r,j,hd,h,x,hx=>by
  rw[fixR]at h
  repeat' split at h
  all_goals first|(rename_i a;exact absurd h a)|cases h|skip
  ·rcases List.mem_cons.1 hx with rfl|hx
   ·rename_i a _ _;exact Classical.not_not.1 a
   ·exact fixR_all (drop_succ hd) h x hx
theorem fix_ok {fx:List Fixt}{ps:List Prof}(h:fixCR fx ps=0):ps.length≤32∧fx.length≤64∧fixR ps fx fx 0=0∧∀x∈fx,aloC ps x=0:=by
 unfold fixCR at h
 split at h
 ·cases h
 ·exact⟨by omega,by omega,h,fixR_all (j:=0) rfl h⟩
def ftrE (s:Sho)(p:Prm):Int:=if ¬shoC s=0 then shoC s else prmC 1 p
end Go.Proofs.YtpbiilllhjeibaaGreatDoor

namespace Go.Proofs.YtpbiilllhjeibaaGreatDoor
open Go.Sha
set_option maxRecDepth 100000
variable {g:List (Nat×Obj)}{n:Nat}
def ftrP (s:Sho)(p:Prm):Ftr:=if ftrE s p=0 then(ownP s p).1.getD F0 else F0
def ownR (s:Sho)(p:Prm):Option Ftr:=(havR s.fixts s.profs p).map (·.2)
def okR (s:Sho)(p:Prm):Bool:=if ftrE s p=0 then(ownR s p).isSome else false
def AttrD (l:List Ftr):Prop:=l.Pairwise fun a b=>¬a.attr=b.attr
theorem featsR_D {foot c:Int}{l:List Ftr}:∀{r:List Ftr}{j:Nat},l.drop j=r→featsR foot c l r j=0→AttrD (l.take j)→AttrD l
 |[],j,hd,_,h=>by
  have:l.length≤j:=List.drop_eq_nil_iff.1 hd
  rwa [List.take_of_length_le this]at h
 |q::r,j,hd,h0,h=>by
  rw[featsR]at h0
  split at h0
  ·rename_i h1
   refine featsR_D (drop_succ hd) h0 ?_
   rw[take_snoc hd]
   refine List.pairwise_append.2 ⟨h,List.pairwise_singleton ..,fun a ha b hb=>?_⟩
   rw[List.mem_singleton.1 hb]
   intro e
   have k:((l.take j).any fun z=>z.attr == q.attr)=true:=List.any_eq_true.2 ⟨a,ha,by simp[e]⟩
   unfold featR at h1
   by_cases c1:q.attr<0∨15≤q.attr
   ·rw[if_pos c1]at h1;cases h1
   ·rw[if_neg c1,if_pos k]at h1;cases h1
  ·rename_i h1;exact absurd h0 h1
theorem profsR_all {l:List Prof}{m:List (List Pt)}:∀{r:List Prof}{j:Nat},l.drop j=r→profsR l m r j=0→∀q∈r,profR q m=0
 |[],_,_,_,x,hx=>by simp at hx
 |q::r,j,hd,h,x,hx=>by
  rw[profsR]at h
  repeat' split at h
  all_goals first|(rename_i a;exact absurd h a)|cases h|skip
  rcases List.mem_cons.1 hx with rfl|hx
  ·rename_i a _;exact Classical.not_not.1 a
  ·exact profsR_all (drop_succ hd) h x hx
theorem prof_D {s:Sho}(hs:shoC s=0){q:Prof}(hq:q∈s.profs):AttrD q.feats:=by
 have h:=(shoC_parts hs).2.2.1
 unfold profsCR at h
 split at h
 ·cases h
 ·have:=profsR_all (j:=0) rfl h q hq
  unfold profR at this
  repeat' split at this
  all_goals first|(rename_i a;exact absurd this a)|cases this|skip
  exact featsR_D (j:=0) rfl this List.Pairwise.nil
theorem ftL_eq {a pt:Int}:∀{l:List Ftr}{s:Option Ftr×Int},AttrD l→ftL a pt l s=match ffF a l with
  |some f=>(some f,pt)
  |none=>s
 |[],_,_=>rfl
 |f::r,s,h=>by
  have h1:=List.pairwise_cons.1 h
  rw[ftL,ftL_eq h1.2]
  by_cases e:f.attr=a
  ·have:ffF a r=none:=List.find?_eq_none.2 fun g hg=>by
    have:=h1.1 g hg;simp only[decide_eq_true_eq];intro e2;exact this (by omega)
   rw[this,if_pos e,show ffF a (f::r)=some f by simp[ffF,e]]
  ·rw[if_neg e,show ffF a (f::r)=ffF a r by simp[ffF,e]]
def hasG (ps:List Prof)(p:Prm)(x:Fixt):Option Ftr:=if x.chan=p.chan then ffF p.attr (((pfx ps x.prof).map Prof.feats).getD []) else none
def Least (ps:List Prof)(p:Prm)(l:List Fixt)(o:Option Ftr)(m:Int):Prop :=
 (o=none∧m=0∧∀x∈l,hasG ps p x=none)∨∃x∈l,0<x.part∧hasG ps p x=o∧o≠none∧m=x.part∧∀y∈l,hasG ps p y≠none→x.part≤y.part
theorem ftX_least {ps:List Prof}{p:Prm}(hD:∀q∈ps,AttrD q.feats){l:List Fixt}{x:Fixt}{o:Option Ftr}{m:Int}(hx:1≤x.part)(h:Least ps p l o m):Least ps p (l++[x]) (ftX ps p x (o,m)).1 (ftX ps p x (o,m)).2:=by
 have hd:AttrD (((pfx ps x.prof).map Prof.feats).getD []):=by
  cases e:pfx ps x.prof with
  |none=>exact List.Pairwise.nil
  |some q=>exact hD q (List.mem_of_find?_eq_some e)
 unfold ftX
 by_cases h1:¬x.chan=p.chan∨0<m∧m<x.part
 ·rw[if_pos h1]
  rcases h with⟨a,b,c⟩|⟨z,z1,z2,z3,z4,z5,z6⟩
  ·refine .inl ⟨a,b,fun y hy=>?_⟩
   rcases List.mem_append.1 hy with hy|hy
   ·exact c y hy
   ·rw[List.mem_singleton.1 hy,hasG,if_neg]
    rcases h1 with h1|h1
    ·exact h1
    ·omega
  ·refine .inr ⟨z,List.mem_append_left _ z1,z2,z3,z4,z5,fun y hy hn=>?_⟩
   rcases List.mem_append.1 hy with hy|hy
   ·exact z6 y hy hn
   ·rw[List.mem_singleton.1 hy]at hn ⊢
    rcases h1 with h1|h1
    ·exact absurd (by rw[hasG,if_neg h1]) hn
    ·have h1:0<m∧m<x.part:=h1
     omega
 ·rw[if_neg h1,ftL_eq hd]
  have hc:x.chan=p.chan:=Classical.byContradiction fun e=>h1 (.inl e)
  cases hf:ffF p.attr (((pfx ps x.prof).map Prof.feats).getD []) with
  |none =>
   have hn:hasG ps p x=none:=by rw[hasG,if_pos hc,hf]
   rcases h with⟨a,b,c⟩|⟨z,z1,z2,z3,z4,z5,z6⟩
   ·refine .inl ⟨a,b,fun y hy=>?_⟩
    rcases List.mem_append.1 hy with hy|hy
    ·exact c y hy
    ·rw[List.mem_singleton.1 hy];exact hn
   ·refine .inr ⟨z,List.mem_append_left _ z1,z2,z3,z4,z5,fun y hy hy2=>?_⟩
    rcases List.mem_append.1 hy with hy|hy
    ·exact z6 y hy hy2
    ·rw[List.mem_singleton.1 hy]at hy2;exact absurd hn hy2
  |some f =>
   have hn:hasG ps p x=some f:=by rw[hasG,if_pos hc,hf]
   refine .inr ⟨x,by simp,by omega,hn,by simp,rfl,fun y hy hy2=>?_⟩
   rcases List.mem_append.1 hy with hy|hy
   ·rcases h with⟨a,b,c⟩|⟨z,z1,z2,z3,z4,z5,z6⟩
    ·exact absurd (c y hy) hy2
    ·have:=z6 y hy hy2
     have h1:¬(¬x.chan=p.chan∨0<m∧m<x.part):=h1
     omega
   ·rw[List.mem_singleton.1 hy];exact Int.le_refl _
theorem fold_least {ps:List Prof}{p:Prm}(hD:∀q∈ps,AttrD q.feats):∀{r l:List Fixt}{a:Option Ftr×Int},(∀x∈r,1≤x.part)→Least ps p l a.1 a.2→Least ps p (l++r) (r.foldl (fun a x=>ftX ps p x a) a).1 (r.foldl (fun a x=>ftX ps p x a) a).2
 |[],l,a,_,h=>by simpa using h
 |x::r,l,a,hx,h=>by
  have:=fold_least hD (r:=r) (l:=l++[x]) (a:=ftX ps p x a) (fun y hy=>hx y (List.mem_cons_of_mem _ hy)) (ftX_least hD (hx x (List.mem_cons_self ..)) h)
  simpa using this
theorem havL_app {ps:List Prof}{a:Int}:∀{l m:List Fixt},havL ps a (l++m)=(havL ps a l).or (havL ps a m)
 |[],m=>rfl
 |x::r,m=>by
  rw[List.cons_append,havL,havL]
  cases ffF a (((pfx ps x.prof).map Prof.feats).getD []) with
  |none=>exact havL_app
  |some f=>rfl
theorem havL_some {ps:List Prof}{a:Int}:∀{l:List Fixt}{y:Fixt×Ftr},havL ps a l=some y→y.1∈l∧ffF a (((pfx ps y.1.prof).map Prof.feats).getD [])=some y.2
 |[],y,h=>by cases h
 |x::r,y,h=>by
  rw[havL]at h
  split at h
  ·rename_i f hf;cases h;exact⟨List.mem_cons_self ..,hf⟩
  ·obtain⟨a,b⟩:=havL_some h;exact⟨List.mem_cons_of_mem _ a,b⟩
theorem havL_none {ps:List Prof}{a:Int}:∀{l:List Fixt},havL ps a l=none→∀x∈l,ffF a (((pfx ps x.prof).map Prof.feats).getD [])=none
 |[],_,x,h=>by simp at h
 |z::r,h,x,hx=>by
  rw[havL]at h
  split at h
  ·cases h
  ·rename_i hf
   rcases List.mem_cons.1 hx with rfl|hx
   ·exact hf
   ·exact havL_none h x hx
theorem hav_least {ps:List Prof}{p:Prm}{l:List Fixt}:∀{m k:Nat},(∀y,havL ps p.attr (partsF l p.chan k m)=some y→y.1∈l∧hasG ps p y.1=some y.2∧∀z∈l,hasG ps p z≠none→k≤z.part→y.1.part≤z.part) ∧
  (havL ps p.attr (partsF l p.chan k m)=none→∀z∈l,hasG ps p z≠none→k≤z.part→z.part<k+m→False)
 |0,k=>⟨fun y h=>(by cases h),fun _ z _ _ _ _=>(by omega)⟩
 |m+1,k=>by
  obtain⟨i1,i2⟩:=hav_least (ps:=ps) (p:=p) (l:=l) (m:=m) (k:=k+1)
  rw[partsF,havL_app]
  have key:∀z∈l,hasG ps p z≠none→z.part=(k:Int)→z∈partK l p.chan k∧ffF p.attr (((pfx ps z.prof).map Prof.feats).getD [])≠none:=fun z hz hn hk=>by
   unfold hasG at hn
   by_cases hc:z.chan=p.chan
   ·rw[if_pos hc]at hn
    exact⟨List.mem_filter.2 ⟨hz,by simp[hc,hk]⟩,hn⟩
   ·rw[if_neg hc]at hn;exact absurd rfl hn
  cases h1:havL ps p.attr (partK l p.chan k) with
  |some y =>
   refine⟨fun y' e=>?_,fun e=>by cases e⟩
   have e:y=y':=by simpa using e
   subst e
   obtain⟨a,b⟩:=havL_some h1
   simp only[partK,List.mem_filter,decide_eq_true_eq]at a
   exact⟨a.1,by rw[hasG,if_pos a.2.1,b],fun z hz hn hk=>by omega⟩
  |none =>
   rw[Option.none_or]
   have no:∀z∈l,hasG ps p z≠none→z.part=(k:Int)→False:=fun z hz hn hk=>by
    obtain⟨a,b⟩:=key z hz hn hk
    exact b (havL_none h1 z a)
   refine⟨fun y e=>?_,fun e z hz hn hk hlt=>?_⟩
   ·obtain⟨a,b,c⟩:=i1 y e
    exact⟨a,b,fun z hz hn hk=>c z hz hn (by have:¬z.part=(k:Int):=no z hz hn;omega)⟩
   ·exact i2 e z hz hn (by have:¬z.part=(k:Int):=no z hz hn;omega) (by omega)
theorem fixR_D {ps:List Prof}{l:List Fixt}:∀{r:List Fixt}{j:Nat},l.drop j=r→fixR ps l r j=0→(l.take j).Pairwise (fun x y=>¬(x.chan=y.chan∧x.part=y.part))→l.Pairwise fun x y=>¬(x.chan=y.chan∧x.part=y.part)
 |[],j,hd,_,h=>by
  have:l.length≤j:=List.drop_eq_nil_iff.1 hd
  rwa [List.take_of_length_le this]at h
 |q::r,j,hd,h0,h=>by
  rw[fixR]at h0
  repeat' split at h0
  all_goals first|(rename_i a;exact absurd h0 a)|cases h0|skip
  refine fixR_D (drop_succ hd) h0 ?_
  rw[take_snoc hd]
  refine List.pairwise_append.2 ⟨h,List.pairwise_singleton ..,fun a ha b hb=>?_⟩
  rw[List.mem_singleton.1 hb]
  intro e
  rename_i k _
  exact k (List.any_eq_true.2 ⟨a,ha,by simp[e]⟩)
theorem same_part {l:List Fixt}(h:l.Pairwise fun x y=>¬(x.chan=y.chan∧x.part=y.part)):∀{x y:Fixt},x∈l→y∈l→x.chan=y.chan→x.part=y.part→x=y:=by
 induction l with
 |nil=>intro x y hx;simp at hx
 |cons z r ih =>
  intro x y hx hy hc hp
  have h1:=List.pairwise_cons.1 h
  rcases List.mem_cons.1 hx with e1|e1<;>rcases List.mem_cons.1 hy with e2|e2
  ·rw[e1,e2]
  ·exact absurd ⟨by rw[←e1];exact hc,by rw[←e1];exact hp⟩ (h1.1 y e2)
  ·exact absurd ⟨by rw[←e2];exact hc.symm,by rw[←e2];exact hp.symm⟩ (h1.1 x e1)
  ·exact ih h1.2 e1 e2 hc hp
theorem hasG_chan {ps:List Prof}{p:Prm}{x:Fixt}(h:hasG ps p x≠none):x.chan=p.chan:=by
 unfold hasG at h;split at h
 ·assumption
 ·exact absurd rfl h
theorem own_eq {s:Sho}{p:Prm}(hs:shoC s=0):(ownP s p).1=ownR s p∧decide (0<(ownP s p).2)=(ownR s p).isSome:=by
 have hf:=fix_ok (shoC_parts hs).2.2.2.1
 have hpart:∀x∈s.fixts,1≤x.part∧x.part≤64:=fun x hx=>by
  have:=rng_ok (aloC_ok (hf.2.2.2 x hx)).1;omega
 have hL:=fold_least (ps:=s.profs) (p:=p) (fun q hq=>prof_D hs hq) (r:=s.fixts) (l:=[]) (a:=(none,0)) (fun x hx=>(hpart x hx).1) (.inl ⟨rfl,rfl,by simp⟩)
 rw[List.nil_append]at hL
 have hD:=fixR_D (j:=0) rfl hf.2.2.1 (by simp)
 obtain⟨j1,j2⟩:=hav_least (ps:=s.profs) (p:=p) (l:=s.fixts) (m:=64) (k:=1)
 change Least s.profs p s.fixts (ownP s p).1 (ownP s p).2 at hL
 unfold ownR havR
 rcases hL with⟨a,b,c⟩|⟨x,x1,x2,x3,x4,x5,x6⟩
 ·have:havL s.profs p.attr (partsF s.fixts p.chan 1 64)=none:=by
   cases e:havL s.profs p.attr (partsF s.fixts p.chan 1 64) with
   |none=>rfl
   |some y =>
    obtain⟨k1,k2,_⟩:=j1 y e
    rw[c _ k1]at k2;cases k2
  rw[this,a,b];exact⟨rfl,rfl⟩
 ·cases e:havL s.profs p.attr (partsF s.fixts p.chan 1 64) with
  |none=>exact(j2 e x x1 (by rw[x3];exact x4) (by have:=hpart x x1;omega) (by have:=hpart x x1;omega)).elim
  |some y =>
   obtain⟨k1,k2,k3⟩:=j1 y e
   have h1:=k3 x x1 (by rw[x3];exact x4) (by have:=hpart x x1;omega)
   have h2:=x6 y.1 k1 (by rw[k2];simp)
   have hc1:=hasG_chan (x:=y.1) (by rw[k2];simp)
   have hc2:=hasG_chan (x:=x) (by rw[x3];exact x4)
   have hxy:=same_part hD x1 k1 (by omega) (by omega)
   subst hxy
   refine⟨by rw[←x3,k2];rfl,?_⟩
   rw[x5];simp;omega
end Go.Proofs.YtpbiilllhjeibaaGreatDoor

namespace Go.Proofs.YtpbiilllhjeibaaGreatDoor
open Go.Sha
set_option maxRecDepth 10000
theorem F123:compF Tryz.prog 123=some ⟨11,[.tmp 4,.tmp 5],(.g [.c 4 0,.k 5 false] (.g [.m 6 0,.m 7 1,.s 8 (.f 198 [.t 6,.t 7,(.c (.fn (.func 199) [] []))]),.j 9 0 8,.j 10 1 8,.m 4 9,.m 5 10] (.ret [4,5])))⟩:=by kernel_rfl
def B198_0:Cd:=(.join [0,1,2,8,9,10] (.g [.m 15 9,.m 16 10,.b 17 .lss 15 16] (.i 17 .skip (.exit [0,1,2,8,9] 0))) (.block 1 (.g [.m 18 9,.m 19 10,.b 20 .add 18 19,.s 21 (.cvi .u64 (.t 20)),.s 22 (.bin .shr (.t 21) (.c (.int .u64 1))),.s 23 (.cvi .i64 (.t 22)),.m 11 23] (.g [.m 24 2,.m 25 0,.m 26 11,.r 27 2 25 26,.d 28 2 27,.m 29 1,.s 30 (.call (.t 24) [.t 28,.t 29]),.v 31 .lss 30 0] (.i 31 (.reg [.m 32 11,.v 33 .add 32 1,.m 9 33]) (.reg [.m 34 11,.m 10 34]))))))
theorem F198:compF Tryz.prog 198=some ⟨49,[.tmp 6,.tmp 7],(.g [.c 6 0,.k 7 false] (.g [.m 12 0,.u 13 12,.m 8 13] (.g [.m 14 8,.c 9 0,.m 10 14] (.join [0,1,2,8,9] (.block 0 (.loop [0,1,2,8,9,10] [] B198_0)) (.join [6,7] (.reg [.m 35 9,.m 36 9,.m 37 8,.b 38 .lss 36 37,.m 39 38,.my 40 2 39,.my 41 0 39,.my 42 9 39,.ry 43 2 41 42 39,.y 44 (.load (some 2) (.t 43)) 39,.my 45 1 39,.y 46 (.call (.t 40) [.t 44,.t 45]) 39,.vy 47 .eql 46 0 39,.e 48 39 47,.m 6 35,.m 7 48]) (.ret [6,7]))))))⟩:=by kernel_rfl
theorem F199:compF Tryz.prog 199=some ⟨9,[.tmp 4],(.g [.q 2 34 0,.c 4 0] (.z [2] (.g [.a 5 0 2,.l 6 5,.m 7 1,.b 8 .sub 6 7,.m 4 8] (.ret [4]))))⟩:=by kernel_rfl
end Go.Proofs.YtpbiilllhjeibaaGreatDoor

namespace Go.Proofs.YtpbiilllhjeibaaGreatDoor
open Go.Sha
set_option maxRecDepth 100000
variable {g:List (Nat×Obj)}{n:Nat}
def bsI (c:Nat→Int)(i j:Nat):Nat:=if h:i<j then if c ((i+j) / 2)<0 then bsI c ((i+j) / 2+1) j else bsI c i ((i+j) / 2) else i
termination_by j-i
theorem bsI_ok {c:Nat→Int}{N:Nat}(hm:∀a b,a<b→b<N→c b≤0→c a<0):∀{i j:Nat},i≤j→j≤N→(∀k<i,c k<0)→(∀k,j≤k→k<N→0≤c k)→i≤bsI c i j∧bsI c i j≤j∧(∀k<bsI c i j,c k<0)∧∀k,bsI c i j≤k→k<N→0≤c k:=by
 intro i j
 induction i,j using bsI.induct c with
 |case1 i j h h2 ih =>
  intro hij hj h3 h4
  rw[bsI,dif_pos h,if_pos h2]
  have:=ih (by omega) hj (fun k hk=>by
   rcases Nat.lt_or_ge k ((i+j) / 2) with e|e
   ·exact hm k ((i+j) / 2) e (by omega) (by omega)
   ·rw[show k=(i+j) / 2 by omega];exact h2) h4
  exact⟨by omega,this.2.1,this.2.2.1,this.2.2.2⟩
 |case2 i j h h2 ih =>
  intro hij hj h3 h4
  rw[bsI,dif_pos h,if_neg h2]
  have:=ih (by omega) (by omega) h3 (fun k hk hk2=>by
   rcases Nat.lt_or_ge ((i+j) / 2) k with e|e
   ·apply Classical.byContradiction;intro e2
    exact h2 (hm ((i+j) / 2) k e hk2 (by omega))
   ·rw[show k=(i+j) / 2 by omega];omega)
  exact⟨this.1,by omega,this.2.2.1,this.2.2.2⟩
 |case3 i j h =>
  intro hij hj h3 h4
  rw[bsI,dif_neg h]
  exact⟨Nat.le_refl _,hij,h3,fun k hk hk2=>h4 k (by omega) hk2⟩
theorem bs_find {α:Type}[Inhabited α]{l:List α}{c:α→Int}(hs:l.Pairwise fun a b=>c b≤0→c a<0) :
  let r:=bsI (fun k=>c (l.getD k default)) 0 l.length
  r≤l.length∧(∀x,l.find? (fun x=>decide (c x=0))=some x→r<l.length∧(∀d,l.getD r d=x)∧c x=0)∧(l.find? (fun x=>decide (c x=0))=none→¬(r<l.length∧c (l.getD r default)=0)):=by
 intro r
 have hg:∀k d,k<l.length→l.getD k d∈l∧l[k]?=some (l.getD k d):=fun k d hk=>by
  rw[List.getD_eq_getElem?_getD,List.getElem?_eq_getElem hk];exact⟨List.getElem_mem hk,rfl⟩
 have hm:∀a b,a<b→b<l.length→c (l.getD b default)≤0→c (l.getD a default)<0:=fun a b hab hb h=>by
  have h1:=(hg a default (by omega)).2
  have h2:=(hg b default hb).2
  rw[List.getElem?_eq_getElem (by omega)]at h1 h2
  have:=List.pairwise_iff_getElem.1 hs a b (by omega) hb hab
  rw[Option.some.inj h1,Option.some.inj h2]at this
  exact this h
 obtain⟨_,r1,r2,r3⟩:=bsI_ok (c:=fun k=>c (l.getD k default)) hm (i:=0) (j:=l.length) (by omega) (Nat.le_refl _) (fun k hk=>by omega) (fun k h1 h2=>by omega)
 refine⟨r1,fun x hx=>?_,fun hx h=>?_⟩
 ·have h0:c x=0:=by simpa using List.find?_some hx
  obtain⟨k,hk⟩:=List.mem_iff_getElem?.1 (List.mem_of_find?_eq_some hx)
  have hkl:=(List.getElem?_eq_some_iff.1 hk).1
  have hkx:∀d,l.getD k d=x:=fun d=>by rw[List.getD_eq_getElem?_getD,hk];rfl
  have e1:r≤k:=by
   apply Classical.byContradiction;intro e
   have:=r2 k (by omega);rw[hkx]at this;omega
  have e2:r=k:=by
   apply Classical.byContradiction;intro e
   have a:=hm r k (by omega) hkl (by rw[hkx];omega)
   have b:=r3 r (Nat.le_refl _) (by omega)
   omega
  rw[e2];exact⟨hkl,hkx,h0⟩
 ·have:=List.find?_eq_none.1 hx _ (hg r default h.1).1
  rw[decide_eq_true_eq]at this;exact this h.2
theorem f199 {x:Pal}{v:Int}{st:St}:run Tryz.prog HH 199 [x.v,.int .i64 v] st=some (.ret (.int .i64 (IntKind.i64.wrap (x.num-v))),st):=by
 rw[run_shut F199 rfl rfl (by simp)]
 push_cast[Pal.v]
 all_goals first|with_reducible rfl|exact dn_eq (by omega) (by with_reducible rfl)|((repeat' split)<;>(try simp_all)<;>(try (with_reducible refine dn_eq ?_ ?_<;>first|trivial|omega|rfl))<;>(try omega))
theorem halfI {i j:Nat}(h:i+j<4611686018427387904):IntKind.i64.wrap ((IntKind.u64.wrap (IntKind.i64.wrap ((i:Int)+j))).fdiv (2 ^ min 1 IntKind.u64.bits))=(((i+j) / 2:Nat):Int):=by
 have w1:IntKind.i64.wrap ((i:Int)+j)=((i+j:Nat):Int):=by rw[←Int.natCast_add];exact iwrap (by omega) (by omega)
 have w2:IntKind.u64.wrap ((i+j:Nat):Int)=((i+j:Nat):Int):=by
  unfold IntKind.wrap;simp[IntKind.bits,IntKind.signed];omega
 rw[w1,w2,show(2 ^ min 1 IntKind.u64.bits:Int)=2 from rfl,Int.fdiv_eq_ediv_of_nonneg _ (by omega),show(((i+j:Nat):Int) / 2)=(((i+j) / 2:Nat):Int) by simp]
 exact iwrap (by omega) (by omega)
theorem L198 {l:List Pal}{v:Int}(hl:l.length<140737488355328):∀i j,i≤j→j≤l.length→runL Tryz.prog HH [0,1,2,8,9,10] n B198_0 [(0,.sl (l.map Pal.v)),(1,.int .i64 v),(2,.fn (.func 199) [] []),(8,.int .i64 l.length),(9,.int .i64 i),(10,.int .i64 j)] (stN g n)
  = some (.exit 0,[(0,.sl (l.map Pal.v)),(1,.int .i64 v),(2,.fn (.func 199) [] []),(8,.int .i64 l.length),(9,.int .i64 (bsI (fun k=>IntKind.i64.wrap ((l.getD k default).num-v)) i j))],stN g n):=by
 intro i j
 induction i,j using bsI.induct (fun k=>IntKind.i64.wrap ((l.getD k default).num-v)) with
 |case1 i j h h2 ih =>
  intro hij hj
  have ih:=ih (by omega) hj
  rw[bsI,dif_pos h,if_pos h2,runL_of B198_0.eq_1]
  have h1:(i:Int)<j:=by omega
  have h3:=halfI (i:=i) (j:=j) (by omega)
  have h4:(((i+j) / 2:Nat):Int)<l.length:=by omega
  have h5:IntKind.i64.wrap ((((i+j) / 2:Nat):Int)+1)=(((i+j) / 2+1:Nat):Int):=iwrap (by omega) (by omega)
  have h207:=fun(st:St)=>f199 (x:=l.getD ((i+j) / 2) default) (v:=v) (st:=st)
  generalize hk:(i+j) / 2=k at *
  push_cast[Pal.v]at ih h207
  push_cast[h1,h3,h4,h5,h207,Pal.v,h2]
  exact ih
 |case2 i j h h2 ih =>
  intro hij hj
  have ih:=ih (by omega) (by omega)
  rw[bsI,dif_pos h,if_neg h2,runL_of B198_0.eq_1]
  have h1:(i:Int)<j:=by omega
  have h3:=halfI (i:=i) (j:=j) (by omega)
  have h4:(((i+j) / 2:Nat):Int)<l.length:=by omega
  have h207:=fun(st:St)=>f199 (x:=l.getD ((i+j) / 2) default) (v:=v) (st:=st)
  generalize hk:(i+j) / 2=k at *
  push_cast[Pal.v]at ih h207
  push_cast[h1,h3,h4,h207,Pal.v,h2]
  exact ih
 |case3 i j h =>
  intro hij hj
  rw[bsI,dif_neg h,runL_of B198_0.eq_1]
  have h1:¬(i:Int)<j:=by omega
  push_cast[h1,Pal.v]
def bsP (l:List Pal)(v:Int):Nat:=bsI (fun k=>IntKind.i64.wrap ((l.getD k default).num-v)) 0 l.length
theorem f198 {l:List Pal}{v:Int}(hl:l.length<140737488355328){st:St}:run Tryz.prog HH 198 [.sl (l.map Pal.v),.int .i64 v,.fn (.func 199) [] []] st=some (.ret (.tup [.int .i64 (bsP l v),.bool (decide ((bsP l v:Int)<l.length)&&IntKind.i64.wrap ((l.getD (bsP l v) default).num-v) == 0)]),st):=by
 have h0:=fun n=>L198 (g:=st.x.gl) (n:=n) (v:=v) hl 0 l.length (by omega) (Nat.le_refl _)
 have h207:=fun(st:St)=>f199 (x:=l.getD (bsP l v) default) (v:=v) (st:=st)
 rw[run_shut F198 rfl rfl (by simp)]
 rw[show bsI (fun k=>IntKind.i64.wrap ((l.getD k default).num-v)) 0 l.length=bsP l v from rfl]at h0
 push_cast[Pal.v]at h0 h207
 push_cast[Pal.v,h0,h207]
 exact dn_eq (by omega) rfl
theorem f125 {x:Hue}{q:Prm}{st:St}:run Tryz.prog HH 125 [x.v,q.v] st=some (.ret (.int .i64 (cmpP x.p q)),st):=by
 have h:=fun(st:St)=>f127 (x:=x) (st:=st)
 have h2:=fun(st:St)=>f126 (x:=x.p) (y:=q) (st:=st)
 push_cast[Hue.v,Prm.v,Hue.p]at h h2
 rw[run_shut F125 rfl rfl (by simp)]
 push_cast[Hue.v,Prm.v,h,h2]
 all_goals first|with_reducible rfl|exact dn_eq (by omega) (by with_reducible rfl)|((repeat' split)<;>(try simp_all)<;>(try (with_reducible refine dn_eq ?_ ?_<;>first|trivial|omega|rfl))<;>(try omega))
theorem L124 {l:List Hue}{q:Prm}(hl:l.length<140737488355328):∀i j,i≤j→j≤l.length→runL Tryz.prog HH [0,2,4,8,9,10] n B124_0 [(0,.sl (l.map Hue.v)),(2,.fn (.func 125) [] []),(4,.ep q.v 0),(8,.int .i64 l.length),(9,.int .i64 i),(10,.int .i64 j)] (stN g n)
  = some (.exit 0,[(0,.sl (l.map Hue.v)),(2,.fn (.func 125) [] []),(4,.ep q.v 0),(8,.int .i64 l.length),(9,.int .i64 (bsI (fun k=>cmpP (l.getD k default).p q) i j))],stN g n):=by
 intro i j
 induction i,j using bsI.induct (fun k=>cmpP (l.getD k default).p q) with
 |case1 i j h h2 ih =>
  intro hij hj
  have ih:=ih (by omega) hj
  rw[bsI,dif_pos h,if_pos h2,runL_of B124_0.eq_1]
  have h1:(i:Int)<j:=by omega
  have h3:=halfI (i:=i) (j:=j) (by omega)
  have h4:(((i+j) / 2:Nat):Int)<l.length:=by omega
  have h5:IntKind.i64.wrap ((((i+j) / 2:Nat):Int)+1)=(((i+j) / 2+1:Nat):Int):=iwrap (by omega) (by omega)
  have h163:=fun(st:St)=>f125 (x:=l.getD ((i+j) / 2) default) (q:=q) (st:=st)
  generalize hk:(i+j) / 2=k at *
  push_cast[Hue.v,Prm.v]at ih h163
  push_cast[h1,h3,h4,h5,h163,Hue.v,Prm.v,h2]
  exact ih
 |case2 i j h h2 ih =>
  intro hij hj
  have ih:=ih (by omega) (by omega)
  rw[bsI,dif_pos h,if_neg h2,runL_of B124_0.eq_1]
  have h1:(i:Int)<j:=by omega
  have h3:=halfI (i:=i) (j:=j) (by omega)
  have h4:(((i+j) / 2:Nat):Int)<l.length:=by omega
  have h163:=fun(st:St)=>f125 (x:=l.getD ((i+j) / 2) default) (q:=q) (st:=st)
  generalize hk:(i+j) / 2=k at *
  push_cast[Hue.v,Prm.v]at ih h163
  push_cast[h1,h3,h4,h163,Hue.v,Prm.v,h2]
  exact ih
 |case3 i j h =>
  intro hij hj
  rw[bsI,dif_neg h,runL_of B124_0.eq_1]
  have h1:¬(i:Int)<j:=by omega
  push_cast[h1,Hue.v,Prm.v]
def bsH (l:List Hue)(q:Prm):Nat:=bsI (fun k=>cmpP (l.getD k default).p q) 0 l.length
theorem f124 {l:List Hue}{q:Prm}(hl:l.length<140737488355328){st:St}:run Tryz.prog HH 124 [.sl (l.map Hue.v),q.v,.fn (.func 125) [] []] st=some (.ret (.tup [.int .i64 (bsH l q),.bool (decide ((bsH l q:Int)<l.length)&&cmpP (l.getD (bsH l q) default).p q == 0)]),st):=by
 have h0:=fun n=>L124 (g:=st.x.gl) (n:=n) (q:=q) hl 0 l.length (by omega) (Nat.le_refl _)
 have h163:=fun(st:St)=>f125 (x:=l.getD (bsH l q) default) (q:=q) (st:=st)
 rw[run_shut F124 rfl rfl (by simp)]
 rw[show bsI (fun k=>cmpP (l.getD k default).p q) 0 l.length=bsH l q from rfl]at h0
 push_cast[Hue.v,Prm.v]at h0 h163
 push_cast[Hue.v,Prm.v,h0,h163]
 exact dn_eq (by omega) rfl
theorem palsR_all {l:List Pal}:∀{r:List Pal}{j:Nat},l.drop j=r→palsR l r j=0→(∀q∈r,1≤q.num∧q.num≤1048576∧hueLR q.hues=0)∧((l.take j).Pairwise (fun a b=>a.num<b.num)→l.Pairwise fun a b=>a.num<b.num)
 |[],j,hd,_=>by
  have:l.length≤j:=List.drop_eq_nil_iff.1 hd
  rw[List.take_of_length_le this];exact⟨by simp,fun h=>h⟩
 |q::r,j,hd,h=>by
  rw[palsR]at h
  split at h
  ·cases h
  ·rename_i h1
   split at h
   ·cases h
   ·rename_i h2
    split at h
    ·rename_i h3
     obtain⟨a,b⟩:=palsR_all (drop_succ hd) h
     refine⟨fun x hx=>?_,fun hp=>b ?_⟩
     ·rcases List.mem_cons.1 hx with rfl|hx
      ·exact⟨by omega,by omega,h3⟩
      ·exact a x hx
     ·rw[take_snoc hd]
      refine List.pairwise_append.2 ⟨hp,List.pairwise_singleton ..,fun y hy z hz=>?_⟩
      rw[List.mem_singleton.1 hz]
      obtain⟨k,hk⟩:=List.mem_iff_getElem?.1 hy
      have hj:=drop_le hd
      rw[List.getElem?_take]at hk
      split at hk
      ·rename_i hkj
       have e:l.getD (j-1) default=l[j-1]:=by rw[List.getD_eq_getElem?_getD,List.getElem?_eq_getElem (by omega)];rfl
       rw[e]at h2
       rcases Nat.lt_or_ge k (j-1) with hk2|hk2
       ·have hm:=List.pairwise_iff_getElem.1 hp k (j-1) (by simp;omega) (by simp;omega) hk2
        rw[List.getElem_take,List.getElem_take]at hm
        rw[List.getElem?_eq_getElem (by omega)]at hk
        rw[←Option.some.inj hk];omega
       ·have:k=j-1:=by omega
        subst this
        rw[List.getElem?_eq_getElem (by omega)]at hk
        rw[←Option.some.inj hk];omega
      ·cases hk
    ·rename_i h3;exact absurd h h3
theorem huesR_all {l:List Hue}:∀{r:List Hue}{j:Nat},l.drop j=r→huesR l r j=0→(∀q∈r,prmC 0 q.p=0∧lvl q.lev)∧((l.take j).Pairwise (fun a b=>befP a.p b.p=true)→l.Pairwise fun a b=>befP a.p b.p=true)
 |[],j,hd,_=>by
  have:l.length≤j:=List.drop_eq_nil_iff.1 hd
  rw[List.take_of_length_le this];exact⟨by simp,fun h=>h⟩
 |q::r,j,hd,h=>by
  rw[huesR]at h
  split at h
  ·cases h
  ·rename_i h1
   split at h
   ·cases h
   ·rename_i h2
    obtain⟨a,b⟩:=huesR_all (drop_succ hd) h
    refine⟨fun x hx=>?_,fun hp=>b ?_⟩
    ·rcases List.mem_cons.1 hx with rfl|hx
     ·refine⟨?_,Classical.byContradiction fun e=>h1 (.inr (.inr (.inr (.inr e))))⟩
      unfold prmC;rw[if_neg];simp only[Hue.p];omega
     ·exact a x hx
    ·rw[take_snoc hd]
     refine List.pairwise_append.2 ⟨hp,List.pairwise_singleton ..,fun y hy z hz=>?_⟩
     rw[List.mem_singleton.1 hz]
     obtain⟨k,hk⟩:=List.mem_iff_getElem?.1 hy
     have hj:=drop_le hd
     rw[List.getElem?_take]at hk
     split at hk
     ·rename_i hkj
      have e:l.getD (j-1) default=l[j-1]:=by rw[List.getD_eq_getElem?_getD,List.getElem?_eq_getElem (by omega)];rfl
      have h3:befP l[j-1].p q.p=true:=by
       rw[←e];cases hb:befP (l.getD (j-1) default).p q.p with
       |true=>rfl
       |false=>exact absurd ⟨by omega,hb⟩ h2
      rcases Nat.lt_or_ge k (j-1) with hk2|hk2
      ·have hm:=List.pairwise_iff_getElem.1 hp k (j-1) (by simp;omega) (by simp;omega) hk2
       rw[List.getElem_take,List.getElem_take]at hm
       rw[List.getElem?_eq_getElem (by omega)]at hk
       rw[←Option.some.inj hk]
       simp only[befP,Bool.or_eq_true,Bool.and_eq_true,decide_eq_true_eq]at hm h3 ⊢
       omega
      ·have:k=j-1:=by omega
       subst this
       rw[List.getElem?_eq_getElem (by omega)]at hk
       rw[←Option.some.inj hk];exact h3
     ·cases hk
theorem pals_ok {l:List Pal}(h:palsCR l=0):(∀q∈l,1≤q.num∧q.num≤1048576∧hueLR q.hues=0)∧l.Pairwise fun a b=>a.num<b.num:=by
 unfold palsCR at h
 split at h
 ·cases h
 ·obtain⟨a,b⟩:=palsR_all (j:=0) rfl h
  exact⟨a,b List.Pairwise.nil⟩
theorem hues_ok {l:List Hue}(h:hueLR l=0):(∀q∈l,prmC 0 q.p=0∧lvl q.lev)∧l.Pairwise fun a b=>befP a.p b.p=true:=by
 unfold hueLR at h
 split at h
 ·cases h
 ·obtain⟨a,b⟩:=huesR_all (j:=0) rfl h
  exact⟨a,b List.Pairwise.nil⟩
end Go.Proofs.YtpbiilllhjeibaaGreatDoor

namespace Go.Proofs.YtpbiilllhjeibaaGreatDoor
open Go.Sha
set_option maxRecDepth 100000
variable {g:List (Nat×Obj)}{n:Nat}
def palF (l:List Pal)(v:Int):Option Pal:=l.find? fun x=>decide (x.num=v)
def hueF (l:List Hue)(c a:Int):Option Hue:=l.find? fun x=>decide (x.chan=c∧x.attr=a)
theorem pals_len {l:List Pal}(h:palsCR l=0):l.length≤32:=by
 unfold palsCR at h;split at h
 ·cases h
 ·omega
theorem hues_len {l:List Hue}(h:hueLR l=0):l.length≤256:=by
 unfold hueLR at h;split at h
 ·cases h
 ·omega
theorem find_congr {α:Type}{p q:α→Bool}:∀{l:List α},(∀x∈l,p x=q x)→l.find? p=l.find? q
 |[],_=>rfl
 |x::r,h=>by
  rw[List.find?_cons,List.find?_cons,h x (List.mem_cons_self ..),find_congr (l:=r) fun y hy=>h y (List.mem_cons_of_mem _ hy)]
theorem f123 {l:List Pal}{v:Int}(h:palsCR l=0)(hv:-1≤v∧v≤1048576) :
  (∀x,palF l v=some x→∃k:Nat,k<l.length∧(∀d,l.getD k d=x)∧∀st,run Tryz.prog HH 123 [.sl (l.map Pal.v),.int .i64 v] st=some (.ret (.tup [.int .i64 k,.bool true]),st)) ∧
  (palF l v=none→∃k:Nat,∀st,run Tryz.prog HH 123 [.sl (l.map Pal.v),.int .i64 v] st=some (.ret (.tup [.int .i64 k,.bool false]),st)):=by
 obtain⟨h1,h2⟩:=pals_ok h
 have hl:=pals_len h
 have w:∀x∈l,IntKind.i64.wrap (x.num-v)=x.num-v:=fun x hx=>by have:=h1 x hx;exact iwrap (by omega) (by omega)
 have hp:l.Pairwise fun a b=>IntKind.i64.wrap (b.num-v)≤0→IntKind.i64.wrap (a.num-v)<0 :=
  (List.Pairwise.and_mem.1 h2).imp fun {a b} ⟨ha,hb,hab⟩ hc=>by rw[w b hb]at hc;rw[w a ha];omega
 have hf:palF l v=l.find? fun x=>decide (IntKind.i64.wrap (x.num-v)=0):=find_congr fun x hx=>by
  rw[w x hx];exact decide_eq_decide.2 (by omega)
 obtain⟨r1,r2,r3⟩:=bs_find (c:=fun x:Pal=>IntKind.i64.wrap (x.num-v)) hp
 have h206:=fun(st:St)=>f198 (l:=l) (v:=v) (st:=st) (by omega)
 change bsP l v≤l.length at r1
 rw[hf]
 refine⟨fun x hx=>⟨bsP l v,(r2 x hx).1,(r2 x hx).2.1,fun st=>?_⟩,fun hx=>⟨bsP l v,fun st=>?_⟩⟩
 ·have e:(decide ((bsP l v:Int)<l.length)&&IntKind.i64.wrap ((l.getD (bsP l v) default).num-v) == 0)=true:=by
   have a:=(r2 x hx).1;have b:=(r2 x hx).2.1 default;have c:=(r2 x hx).2.2
   change bsP l v<l.length at a
   change l.getD (bsP l v) default=x at b
   rw[b]
   simp only[Bool.and_eq_true,decide_eq_true_eq,beq_iff_eq]
   exact⟨by omega,c⟩
  rw[e]at h206
  rw[run_shut F123 rfl rfl (by simp)]
  push_cast[Pal.v,h206]
  all_goals first|with_reducible rfl|exact dn_eq (by omega) (by with_reducible rfl)|((repeat' split)<;>(try simp_all)<;>(try (with_reducible refine dn_eq ?_ ?_<;>first|trivial|omega|rfl))<;>(try omega))
 ·have e:(decide ((bsP l v:Int)<l.length)&&IntKind.i64.wrap ((l.getD (bsP l v) default).num-v) == 0)=false:=by
   have a:=r3 hx
   rw[Bool.eq_false_iff];intro e
   simp only[Bool.and_eq_true,decide_eq_true_eq,beq_iff_eq]at e
   exact a ⟨by have:=e.1;change bsP l v<l.length;omega,e.2⟩
  rw[e]at h206
  rw[run_shut F123 rfl rfl (by simp)]
  push_cast[Pal.v,h206]
  all_goals first|with_reducible rfl|exact dn_eq (by omega) (by with_reducible rfl)|((repeat' split)<;>(try simp_all)<;>(try (with_reducible refine dn_eq ?_ ?_<;>first|trivial|omega|rfl))<;>(try omega))
theorem f124' {l:List Hue}{q:Prm}(h:hueLR l=0)(hq:prmC 0 q=0) :
  (∀x,hueF l q.chan q.attr=some x→∃k:Nat,k<l.length∧(∀d,l.getD k d=x)∧∀st,run Tryz.prog HH 124 [.sl (l.map Hue.v),q.v,.fn (.func 125) [] []] st=some (.ret (.tup [.int .i64 k,.bool true]),st)) ∧
  (hueF l q.chan q.attr=none→∃k:Nat,∀st,run Tryz.prog HH 124 [.sl (l.map Hue.v),q.v,.fn (.func 125) [] []] st=some (.ret (.tup [.int .i64 k,.bool false]),st)):=by
 obtain⟨h1,h2⟩:=hues_ok h
 have hl:=hues_len h
 have hq':=prmC_ok hq
 have w:∀x∈l,cmpP x.p q=if ¬x.chan=q.chan then x.chan-q.chan else x.attr-q.attr:=fun x hx=>by
  have:=prmC_ok (h1 x hx).1
  simp only[Hue.p]at this
  have w1:IntKind.i64.wrap (x.chan-q.chan)=x.chan-q.chan:=iwrap (by omega) (by omega)
  have w2:IntKind.i64.wrap (x.attr-q.attr)=x.attr-q.attr:=iwrap (by omega) (by omega)
  simp only[cmpP,Hue.p,w1,w2]
 have hp:l.Pairwise fun a b=>cmpP b.p q≤0→cmpP a.p q<0 :=
  (List.Pairwise.and_mem.1 h2).imp fun {a b} ⟨ha,hb,hab⟩ hc=>by
   rw[w b hb]at hc;rw[w a ha]
   simp only[befP,Hue.p,Bool.or_eq_true,Bool.and_eq_true,decide_eq_true_eq]at hab
   split at hc<;>split<;>omega
 have hf:hueF l q.chan q.attr=l.find? fun x=>decide (cmpP x.p q=0):=find_congr fun x hx=>by
  rw[w x hx];refine decide_eq_decide.2 ?_;split<;>omega
 obtain⟨r1,r2,r3⟩:=bs_find (c:=fun x:Hue=>cmpP x.p q) hp
 have h162:=fun(st:St)=>f124 (l:=l) (q:=q) (st:=st) (by omega)
 rw[hf]
 refine⟨fun x hx=>⟨bsH l q,(r2 x hx).1,(r2 x hx).2.1,fun st=>?_⟩,fun hx=>⟨bsH l q,fun st=>?_⟩⟩
 ·rw[h162]
  have a:=(r2 x hx).1;have b:=(r2 x hx).2.1 default;have c:=(r2 x hx).2.2
  change bsH l q<l.length at a
  change l.getD (bsH l q) default=x at b
  rw[b,show(decide ((bsH l q:Int)<l.length)&&cmpP x.p q == 0)=true by simp only[Bool.and_eq_true,decide_eq_true_eq,beq_iff_eq];exact⟨by omega,c⟩]
 ·rw[h162]
  have a:=r3 hx
  rw[show(decide ((bsH l q:Int)<l.length)&&cmpP (l.getD (bsH l q) default).p q == 0)=false by
   rw[Bool.eq_false_iff];intro e
   simp only[Bool.and_eq_true,decide_eq_true_eq,beq_iff_eq]at e
   exact a ⟨by have:=e.1;change bsH l q<l.length;omega,e.2⟩]
def hueV (l:List Pal)(v:Int)(p:Prm):Option Int:=(palF l v).bind fun x=>((hueF x.hues p.chan p.attr).or (hueF x.hues 0 p.attr)).map Hue.lev
theorem f66 {l:List Pal}{v:Int}{p:Prm}(h:palsCR l=0)(hv:-1≤v∧v≤1048576)(hp:prmC 1 p=0){st:St}:run Tryz.prog HH 66 [.sl (l.map Pal.v),.int .i64 v,p.v] st=some (.ret (.tup [.int .i64 ((hueV l v p).getD 0),.bool (hueV l v p).isSome]),st):=by
 obtain⟨s1,s2⟩:=f123 h hv
 have hp':=prmC_ok hp
 cases hx:palF l v with
 |none =>
  obtain⟨k,h161⟩:=s2 hx
  rw[run_shut F66 rfl rfl (by simp)]
  push_cast[Pal.v,Prm.v,h161,hueV,hx,Option.bind_none,Option.isSome_none]
  all_goals first|with_reducible rfl|exact dn_eq (by omega) (by with_reducible rfl)|((repeat' split)<;>(try simp_all)<;>(try (with_reducible refine dn_eq ?_ ?_<;>first|trivial|omega|rfl))<;>(try omega))
 |some x =>
  obtain⟨k,k1,k2,h161⟩:=s1 x hx
  have k3:(k:Int)<l.length:=by omega
  have hh:=((pals_ok h).1 x (List.mem_of_find?_eq_some hx)).2.2
  obtain⟨t1,t2⟩:=f124' (q:=p) hh (by unfold prmC;rw[if_neg (by omega)])
  obtain⟨u1,u2⟩:=f124' (q:=⟨0,p.attr⟩) hh (by unfold prmC;rw[if_neg (by simp only;omega)])
  have e:hueV l v p=((hueF x.hues p.chan p.attr).or (hueF x.hues 0 p.attr)).map Hue.lev:=by rw[hueV,hx];rfl
  rw[e]
  cases hy:hueF x.hues p.chan p.attr with
  |some y =>
   obtain⟨i,i1,i2,h162⟩:=t1 y hy
   have i3:(i:Int)<x.hues.length:=by omega
   push_cast[Pal.v,Prm.v,Hue.v]at h161 h162
   rw[run_shut F66 rfl rfl (by simp)]
   push_cast[Pal.v,Prm.v,Hue.v,h161,h162,k2,k3,i2,i3,runL_of B66_0.eq_1,Option.some_or,Option.isSome_some]
   all_goals first|with_reducible rfl|exact dn_eq (by omega) (by with_reducible rfl)|((repeat' split)<;>(try simp_all)<;>(try (with_reducible refine dn_eq ?_ ?_<;>first|trivial|omega|rfl))<;>(try omega))
  |none =>
   obtain⟨i,h162⟩:=t2 hy
   cases hz:hueF x.hues 0 p.attr with
   |some y =>
    obtain⟨j,j1,j2,h162'⟩:=u1 y hz
    have j3:(j:Int)<x.hues.length:=by omega
    push_cast[Pal.v,Prm.v,Hue.v]at h161 h162 h162'
    rw[run_shut F66 rfl rfl (by simp)]
    push_cast[Pal.v,Prm.v,Hue.v,h161,h162,h162',k2,k3,j2,j3,runL_of B66_0.eq_1,Option.none_or,Option.isSome_some]
    all_goals first|with_reducible rfl|exact dn_eq (by omega) (by with_reducible rfl)|((repeat' split)<;>(try simp_all)<;>(try (with_reducible refine dn_eq ?_ ?_<;>first|trivial|omega|rfl))<;>(try omega))
   |none =>
    obtain⟨j,h162'⟩:=u2 hz
    push_cast[Pal.v,Prm.v,Hue.v]at h161 h162 h162'
    rw[run_shut F66 rfl rfl (by simp)]
    push_cast[Pal.v,Prm.v,Hue.v,h161,h162,h162',k2,k3,runL_of B66_0.eq_1,Option.none_or,Option.isSome_none]
    all_goals first|with_reducible rfl|exact dn_eq (by omega) (by with_reducible rfl)|((repeat' split)<;>(try simp_all)<;>(try (with_reducible refine dn_eq ?_ ?_<;>first|trivial|omega|rfl))<;>(try omega))
def lvV (l:List Pal)(v:Val)(p:Prm)(home:Int):Int:=if v.pal=0 then v.lev else(hueV l v.pal p).getD home
theorem valC_ok {v:Val}(h:valC v=0):v.pal=0∧lvl v.lev∨-1≤v.pal∧¬v.pal=0∧v.pal≤1048576∧v.lev=0:=by
 unfold valC at h;split at h
 ·assumption
 ·omega
theorem f29 {l:List Pal}{v:Val}{p:Prm}{home:Int}(hb:∀q∈l,q.hues.length<140737488355328)(h:palsCR l=0)(hv:valC v=0)(hp:prmC 1 p=0)(hh:lvl home){st:St}:run Tryz.prog HH 29 [.sl (l.map Pal.v),v.v,p.v,.int .i64 home] st=some (.ret (.tup [.int .i64 (lvV l v p home),.int .i64 0]),st):=by
 have hl:=pals_len h
 have h104:=fun(st:St)=>f64 (l:=l) (st:=st) (by omega) hb
 rw[palsC_eq,h]at h104
 have h66:=fun(st:St)=>f26 (x:=v) (st:=st)
 have h119:=fun(st:St)=>f65 (x:=p) (c:=1) (st:=st)
 have h118:=fun(st:St)=>f62 (v:=home) (st:=st)
 rw[hv]at h66;rw[hp]at h119;rw[decide_eq_true hh]at h118
 have hv':=valC_ok hv
 by_cases h1:v.pal=0
 ·have h1':=eq_true h1
  push_cast[Pal.v,Val.v,Prm.v]at h104 h66 h119
  rw[run_shut F29 rfl rfl (by simp)]
  push_cast[Pal.v,Val.v,Prm.v,h104,h66,h119,h118,runL_of B29_0.eq_1,h1',lvV]
 ·have h120:=fun(st:St)=>f66 (st:=st) h (v:=v.pal) (by omega) hp
  cases hx:hueV l v.pal p with
  |none =>
   rw[hx]at h120
   push_cast[Pal.v,Val.v,Prm.v,Option.isSome_none]at h104 h66 h119 h120
   rw[run_shut F29 rfl rfl (by simp)]
   push_cast[Pal.v,Val.v,Prm.v,h104,h66,h119,h118,h120,runL_of B29_0.eq_1,h1,lvV,hx]
   all_goals first|with_reducible rfl|exact dn_eq (by omega) (by with_reducible rfl)|((repeat' split)<;>(try simp_all)<;>(try (with_reducible refine dn_eq ?_ ?_<;>first|trivial|omega|rfl))<;>(try omega))
  |some y =>
   rw[hx]at h120
   push_cast[Pal.v,Val.v,Prm.v,Option.isSome_some]at h104 h66 h119 h120
   rw[run_shut F29 rfl rfl (by simp)]
   push_cast[Pal.v,Val.v,Prm.v,h104,h66,h119,h118,h120,runL_of B29_0.eq_1,h1,lvV,hx]
   all_goals first|with_reducible rfl|exact dn_eq (by omega) (by with_reducible rfl)|((repeat' split)<;>(try simp_all)<;>(try (with_reducible refine dn_eq ?_ ?_<;>first|trivial|omega|rfl))<;>(try omega))
theorem featsR_all {foot c:Int}{l:List Ftr}:∀{r:List Ftr}{j:Nat},l.drop j=r→featsR foot c l r j=0→∀q∈r,∃b,featR foot c q b=0
 |[],_,_,_,x,hx=>by simp at hx
 |q::r,j,hd,h,x,hx=>by
  rw[featsR]at h
  split at h
  ·rename_i h1
   rcases List.mem_cons.1 hx with rfl|hx
   ·exact⟨_,h1⟩
   ·exact featsR_all (drop_succ hd) h x hx
  ·rename_i h1;exact absurd h h1
theorem featR_home {foot c:Int}{q:Ftr}{b:List Ftr}(h:featR foot c q b=0):lvl q.home∧(q.attr<0∨15≤q.attr→False):=by
 unfold featR at h
 by_cases c1:q.attr<0∨15≤q.attr
 ·rw[if_pos c1]at h;cases h
 ·refine⟨?_,c1⟩
  have key:innR c q=0→lvl q.home:=fun h=>by
   unfold innR insR at h
   split at h
   ·cases h
   ·by_cases a:¬lvl q.home∨q.low<0∨q.high<q.low∨(if q.bits=8 then 255 else 65535)<q.high
    ·rw[if_pos a]at h;cases h
    ·exact Classical.byContradiction fun e=>a (.inl e)
  rw[if_neg c1]at h
  split at h
  ·cases h
  ·split at h
   ·cases h
   ·split at h
    ·cases h
    ·split at h
     ·cases h
     ·split at h
      ·cases h
      ·exact key h
theorem prof_feat {s:Sho}(hs:shoC s=0){q:Prof}(hq:q∈s.profs){f:Ftr}(hf:f∈q.feats):lvl f.home∧(f.attr<0∨15≤f.attr→False):=by
 have h:=(shoC_parts hs).2.2.1
 unfold profsCR at h
 split at h
 ·cases h
 ·have:=profsR_all (j:=0) rfl h q hq
  unfold profR at this
  repeat' split at this
  all_goals first|(rename_i a;exact absurd this a)|cases this|skip
  obtain⟨b,hb⟩:=featsR_all (j:=0) rfl this f hf
  exact featR_home hb
theorem own_in {s:Sho}{p:Prm}{f:Ftr}(h:ownR s p=some f):f.attr=p.attr∧∃x∈s.fixts,x.chan=p.chan∧∃q,pfx s.profs x.prof=some q∧q∈s.profs∧f∈q.feats:=by
 obtain⟨y,hy,rfl⟩:=Option.map_eq_some_iff.1 h
 obtain⟨a,b⟩:=havL_some hy
 obtain⟨c1,c2,_⟩:=partsF_mem a
 cases hq:pfx s.profs y.1.prof with
 |none=>rw[hq]at b;cases b
 |some q =>
  rw[hq]at b
  have hb:=List.find?_some b
  rw[decide_eq_true_eq]at hb
  exact⟨hb,y.1,c1,c2,q,hq,List.mem_of_find?_eq_some hq,List.mem_of_find?_eq_some b⟩
theorem own_home {s:Sho}{p:Prm}(hs:shoC s=0):lvl ((ownR s p).getD F0).home:=by
 cases h:ownR s p with
 |none=>decide
 |some f =>
  obtain⟨_,x,_,_,q,_,h1,h2⟩:=own_in h
  exact(prof_feat hs h1 h2).1
def levE (s:Sho)(p:Prm)(v:Val):Int:=if ¬shoC s=0 then shoC s else if ¬valC v=0 then valC v else prmC 1 p
def levV (s:Sho)(p:Prm)(v:Val):Int:=if levE s p v=0 then lvV s.pals v p ((ownR s p).getD F0).home else 0
theorem f13 {s:Sho}{p:Prm}{v:Val}(h:s.ok){st:St}:run Tryz.prog HH 13 [s.v,p.v,v.v] st=some (.ret (.tup [.int .i64 (levV s p v),.int .i64 (levE s p v)]),st):=by
 have h15:=fun(st:St)=>f20 (st:=st) h
 have h66:=fun(st:St)=>f26 (x:=v) (st:=st)
 have h67:=fun(st:St)=>f27 (x:=p) (st:=st)
 by_cases h1:shoC s=0
 ·have hf:=fix_ok (shoC_parts h1).2.2.2.1
  have hp:=(shoC_parts h1).2.2.2.2.2.1
  have h68:=fun(st:St)=>f28 (p:=p) (st:=st) (by omega) (by omega) (fun q hq=>(h.p.2.1 q hq).a) (fun x hx=>aloC_some (hf.2.2.2 x hx))
  rw[(own_eq (p:=p) h1).1]at h68
  by_cases h2:valC v=0
  ·by_cases h3:prmC 1 p=0
   ·have h69:=fun(st:St)=>f29 (st:=st) h.l.2 hp h2 h3 (own_home (p:=p) h1)
    push_cast[Sho.v,Prm.v,Val.v,Ftr.v,Pal.v]at h15 h66 h67 h68 h69
    rw[run_shut F13 rfl rfl (by simp)]
    push_cast[Sho.v,Prm.v,Val.v,Ftr.v,Pal.v,h15,h66,h67,h68,h69,h1,h2,h3,levV,levE]
   ·push_cast[Sho.v,Prm.v,Val.v]at h15 h66 h67
    rw[run_shut F13 rfl rfl (by simp)]
    push_cast[Sho.v,Prm.v,Val.v,h15,h66,h67,h1,h2,h3,levV,levE]
  ·push_cast[Sho.v,Val.v]at h15 h66
   rw[run_shut F13 rfl rfl (by simp)]
   push_cast[Sho.v,Prm.v,Val.v,h15,h66,h1,h2,levV,levE]
 ·push_cast[Sho.v]at h15
  rw[run_shut F13 rfl rfl (by simp)]
  push_cast[Sho.v,Prm.v,Val.v,h15,h1,levV,levE]
end Go.Proofs.YtpbiilllhjeibaaGreatDoor

namespace Go.Proofs.YtpbiilllhjeibaaGreatDoor
open Go.Sha
set_option maxRecDepth 10000
def B3_0:Cd:=(.join [3,4,5,7,9,11,14,16] (.g [.m 90 16,.v 91 .leq 90 6] (.i 91 .skip (.exit [] 0))) (.join [3,4,5,7,9,11,14,16] (.block 1 (.g [.d 95 9 3,.d 96 2 5,.m 97 16,.s 98 (.build [.i 0,.i 0] [(0,1,(.t 97))]),.s 99 (.f 13 [.t 95,.t 96,.t 98]),.m 94 99,.j 100 0 94,.j 101 1 94,.m 17 100,.m 18 101] (.g [.d 103 9 7,.d 104 2 5,.m 105 16,.s 106 (.build [.i 0,.i 0] [(0,1,(.t 105))]),.s 107 (.f 13 [.t 103,.t 104,.t 106]),.m 102 107,.j 108 0 102,.j 109 1 102,.m 19 108,.m 20 109] (.g [.d 111 9 9,.d 112 2 5,.m 113 16,.s 114 (.build [.i 0,.i 0] [(0,1,(.t 113))]),.s 115 (.f 13 [.t 111,.t 112,.t 114]),.m 110 115,.j 116 0 110,.j 117 1 110,.m 21 116,.m 22 117] (.join [3,4,5,7,9,11,14,16,17,19,21] (.g [.m 118 18,.m 119 20,.b 120 .add 118 119,.m 121 22,.b 122 .add 120 121,.v 123 .neq 122 0] (.i 123 (.g [.k 6 false] (.ret [6])) .skip)) (.join [3,4,5,7,9,11,14,16,153] (.reg [.m 124 16,.a 125 0 4,.l 126 125,.b 127 .eql 124 126,.m 128 127,.my 129 19 128,.my 130 14 128,.by' 131 .neq 129 130 128,.my 132 131 128,.mx 133 21 132,.mx 134 11 132,.bx 135 .neq 133 134 132,.y 136 (.pick (.t 132) (.c (.bool true)) (.t 135)) 128,.e 137 128 136,.m 138 137,.mx 139 16 138,.ax 140 0 4 138,.lx 141 140 138,.bx 142 .neq 139 141 138,.mx 143 142 138,.my 144 19 143,.my 145 17 143,.by' 146 .neq 144 145 143,.my 147 146 143,.mx 148 21 147,.mx 149 17 147,.bx 150 .neq 148 149 147,.y 151 (.pick (.t 147) (.c (.bool true)) (.t 150)) 143,.x 152 (.pick (.t 143) (.t 151) (.c (.bool false))) 138,.o 153 138 152]) (.i 153 (.g [.k 6 false] (.ret [6])) .skip))))))) (.reg [.m 92 16,.v 93 .add 92 1,.m 16 93])))
theorem F3:compF Tryz.prog 3=some ⟨154,[.tmp 6],(.g [.q 3 31 0,.q 4 34 1,.q 5 36 2,.k 6 false] (.z [3,4,5] (.join [3,4,5] (.g [.s 23 (.f 4 []),.z 24 23] (.i 24 (.g [.k 6 false] (.ret [6])) .skip)) (.join [3,4,5] (.join [3,4,5,44] (.reg [.d 25 9 3,.f 26 5 25,.z 27 26,.m 28 27,.x 29 (.load (some 2) (.t 4)) 28,.x 30 (.bslice 34 2 [.t 29]) 28,.x 31 (.f 6 [.t 30]) 28,.x 32 (.un .not (.t 31)) 28,.o 33 28 32,.m 34 33,.x 35 (.load (some 2) (.t 4)) 34,.x 36 (.bslice 34 2 [.t 35]) 34,.x 37 (.f 7 [.t 36]) 34,.vx 38 .neq 37 0 34,.o 39 34 38,.m 40 39,.x 41 (.load (some 2) (.t 5)) 40,.x 42 (.f 8 [.t 41]) 40,.vx 43 .neq 42 0 40,.o 44 40 43]) (.i 44 (.g [.k 6 true] (.ret [6])) .skip)) (.g [.d 46 9 3,.d 47 2 4,.s 48 (.build [.i 0,.i 0,.i 0,.i 0,(.str []),(.str []),(.str []),.nils,.nils,(.bool false),(.bool false),.i 0,(.str []),.i 0,.i 0,.nils,.i 0,.nils,.i 0,.i 0,(.bool false),.nils,.i 0,.i 0,.nils,.i 0,.i 0,.i 0,.i 0,.i 0,(.str []),.i 0,.i 0,.i 0,(.str [])] [(0,1,(.i 3)),(14,2,(.t 47))]),.g' 49 9 46 48,.m 45 49,.j 50 0 45,.j 51 1 45,.s 7 (.alloc 31 [(.str []),.nils,.nils,.nils,.nils,.nils,.nils,.nils,.nils]),.w 9 7 50,.m 8 51] (.z [7] (.join [3,4,5,7] (.g [.m 52 8,.v 53 .neq 52 0] (.i 53 (.g [.m 54 8,.v 55 .eql 54 5,.m 6 55] (.ret [6])) .skip)) (.g [.d 57 9 7,.a 58 0 4,.l 59 58,.s 60 (.build [.i 0,.i 0,.i 0,.i 0,(.str []),(.str []),(.str []),.nils,.nils,(.bool false),(.bool false),.i 0,(.str []),.i 0,.i 0,.nils,.i 0,.nils,.i 0,.i 0,(.bool false),.nils,.i 0,.i 0,.nils,.i 0,.i 0,.i 0,.i 0,.i 0,(.str []),.i 0,.i 0,.i 0,(.str [])] [(0,1,(.i 4)),(1,1,(.t 59))]),.g' 61 9 57 60,.m 56 61,.j 62 0 56,.j 63 1 56,.s 9 (.alloc 31 [(.str []),.nils,.nils,.nils,.nils,.nils,.nils,.nils,.nils]),.w 9 9 62,.m 10 63] (.z [9] (.g [.d 65 9 3,.d 66 2 5,.g' 67 10 65 66,.m 64 67,.j 68 0 64,.j 69 1 64,.j 70 2 64,.m 11 68,.m 12 69,.m 13 70] (.join [3,4,5,7,9,11] (.join [3,4,5,7,9,11,76] (.reg [.m 71 10,.v 72 .neq 71 0,.m 73 72,.mx 74 13 73,.vx 75 .neq 74 0 73,.o 76 73 75]) (.i 76 (.g [.k 6 false] (.ret [6])) .skip)) (.join [3,4,5,7,9,11,14,15] (.greg [] [] [[],[false],[true],[true],[true],[true],[true],[],[],[],[],[],[]] [.d 78 2 4,.s 79 (.bslice 34 2 [.t 78]),.a 80 0 4,.l 81 80,.f 82 12 81,.d 83 2 5,.m 84 11,.s 85 (.f 11 [.t 79,.t 82,.t 83,.t 84]),.m 77 85,.j 86 0 77,.j 87 1 77,.m 14 86,.m 15 87]) (.join [3,4,5,7,9,11,14] (.g [.m 88 15,.v 89 .neq 88 0] (.i 89 (.g [.k 6 false] (.ret [6])) .skip)) (.join [] (.g [.c 16 1] (.block 0 (.loop [3,4,5,7,9,11,14,16] [] B3_0))) (.g [.k 6 true] (.ret [6]))))))))))))))))⟩:=by kernel_rfl
def B4_0:Cd:=(.g [.b 17 .lss 16 15] (.join [1,2,14,15,16] (.i 17 .skip (.exit [1,2] 0)) (.join [1,2,14,15,16] (.block 1 (.g [.r 18 1 14 16,.l 19 18,.m 4 19] (.g [.d 21 11 1,.m 22 4,.s 23 (.build [.i 0,.i 0,.i 0,.i 0,(.str []),(.str []),(.str []),.nils,.nils,(.bool false),(.bool false),.i 0,(.str []),.i 0,.i 0,.nils,.i 0,.nils,.i 0,.i 0,(.bool false),.nils,.i 0,.i 0,.nils,.i 0,.i 0,.i 0,.i 0,.i 0,(.str []),.i 0,.i 0,.i 0,(.str [])] [(0,1,(.i 13)),(4,1,(.t 22))]),.g' 24 14 21 23,.m 20 24,.j 25 0 20,.j 26 1 20,.s 5 (.alloc 74 [.nils,(.str []),.nils,.nils,.nils,.nils,.nils,.nils,.nils,.nils,.nils]),.w 11 5 25,.m 6 26] (.z [5] (.reg [.d 27 11 5,.m 28 2,.m 29 6,.b 30 .add 28 29,.w 11 1 27,.m 2 30]))))) (.reg [.v 31 .add 16 1,.m 16 31]))))
theorem F4:compF Tryz.prog 4=some ⟨73,[.tmp 0],(.g [.k 0 false] (.g [.s 13 (.build [.nils,(.str []),.nils,.nils,.nils,.nils,.nils,.nils,.nils,.nils,.nils] []),.s 1 (.alloc 74 [.nils,(.str []),.nils,.nils,.nils,.nils,.nils,.nils,.nils,.nils,.nils]),.w 11 1 13] (.g [.c 2 0] (.join [1,2] (.g [.s 14 (.bslice 9 1 [(.w [65]),(.w [66])]),.u 15 14,.c 16 0] (.block 0 (.loop [1,2,14,15,16] [] B4_0))) (.g [.d 33 11 1,.f 34 15 33,.m 32 34,.j 35 0 32,.j 36 1 32,.s 7 (.alloc 74 [.nils,(.str []),.nils,.nils,.nils,.nils,.nils,.nils,.nils,.nils,.nils]),.w 11 7 35,.m 8 36] (.z [7] (.g [.d 38 11 7,.f 39 15 38,.m 37 39,.j 40 0 37,.j 41 1 37,.s 9 (.alloc 74 [.nils,(.str []),.nils,.nils,.nils,.nils,.nils,.nils,.nils,.nils,.nils]),.w 11 9 40,.m 10 41] (.z [9] (.g [.d 43 11 9,.f 44 16 43,.m 42 44,.j 45 0 42,.j 46 1 42,.s 11 (.alloc 74 [.nils,(.str []),.nils,.nils,.nils,.nils,.nils,.nils,.nils,.nils,.nils]),.w 11 11 45,.m 12 46] (.z [11] (.join [0] (.reg [.m 47 2,.m 48 8,.b 49 .add 47 48,.m 50 10,.b 51 .add 49 50,.m 52 12,.b 53 .add 51 52,.v 54 .eql 53 0,.m 55 54,.ay 56 1 1 55,.ay 57 0 56 55,.ly 58 57 55,.y 59 (.bin .eql (.t 58) (.w [66])) 55,.e 60 55 59,.m 61 60,.ay 62 1 9 61,.ay 63 0 62 61,.ly 64 63 61,.y 65 (.bin .eql (.t 64) (.w [])) 61,.e 66 61 65,.m 67 66,.ay 68 1 11 67,.ay 69 0 68 67,.ly 70 69 67,.y 71 (.bin .eql (.t 70) (.w [65])) 67,.e 72 67 71,.m 0 72]) (.ret [0]))))))))))))⟩:=by kernel_rfl
theorem F5:compF Tryz.prog 5=some ⟨10,[.tmp 2],(.g [.q 1 31 0,.k 2 false] (.z [1] (.join [2] (.reg [.d 3 9 1,.f 4 17 3,.m 5 4,.y 6 (.load (some 9) (.t 1)) 5,.y 7 (.f 18 [.t 6]) 5,.vy 8 .eql 7 0 5,.e 9 5 8,.m 2 9]) (.ret [2]))))⟩:=by kernel_rfl
theorem F10:compF Tryz.prog 10=some ⟨21,[.tmp 4,.tmp 5,.tmp 6],(.g [.q 2 31 0,.q 3 36 1,.c 4 0,.k 5 false,.c 6 0] (.z [2,3] (.g [.d 11 9 2,.d 12 2 3,.g' 13 22 11 12,.m 10 13,.j 14 0 10,.j 15 1 10,.j 16 2 10,.s 7 (.alloc 84 [.i 0,.i 0,.i 0,.i 0,.i 0,.i 0,.i 0,.i 0,(.bool false),.nils]),.w 10 7 14,.m 8 15,.m 9 16] (.z [7] (.g [.a 17 5 7,.l 18 17,.m 19 8,.m 20 9,.m 4 18,.m 5 19,.m 6 20] (.ret [4,5,6]))))))⟩:=by kernel_rfl
theorem F11:compF Tryz.prog 11=some ⟨36,[.tmp 8,.tmp 9],(.g [.q 5 67 1,.q 6 36 2,.c 8 0,.c 9 0] (.z [5,6] (.join [0,3,5,6] (.g [.m 13 0,.f 14 7 13,.m 10 14] (.g [.m 15 10,.v 16 .neq 15 0] (.i 16 (.g [.m 17 10,.c 8 0,.m 9 17] (.ret [8,9])) .skip))) (.join [0,3,5,6] (.g [.d 18 2 5,.f 19 23 18,.m 11 19] (.g [.m 20 11,.v 21 .neq 20 0] (.i 21 (.g [.m 22 11,.c 8 0,.m 9 22] (.ret [8,9])) .skip))) (.join [0,3,5,6] (.g [.d 23 2 6,.f 24 8 23,.m 12 24] (.g [.m 25 12,.v 26 .neq 25 0] (.i 26 (.g [.m 27 12,.c 8 0,.m 9 27] (.ret [8,9])) .skip))) (.join [0,3,5,6] (.g [.m 28 3,.f 29 24 28,.z 30 29] (.i 30 (.g [.c 8 0,.c 9 2] (.ret [8,9])) .skip)) (.g [.m 31 0,.d 32 2 5,.d 33 2 6,.m 34 3,.s 35 (.f 25 [.t 31,.t 32,.t 33,.t 34]),.m 8 35,.c 9 0] (.ret [8,9]))))))))⟩:=by kernel_rfl
theorem F12:compF Tryz.prog 12=some ⟨5,[.cell 2 (some 2)],(.g [.s 2 (.alloc 67 [.i 0,.i 0])] (.g [.m 3 0,.s 4 (.build [.i 0,.i 0] [(0,1,(.t 3))]),.w 2 2 4] (.ret [2])))⟩:=by kernel_rfl
theorem F22:compF Tryz.prog 22=some ⟨31,[.cell 4 (some 10),.tmp 5,.tmp 6],(.g [.q 2 31 0,.q 3 36 1,.s 4 (.alloc 84 [.i 0,.i 0,.i 0,.i 0,.i 0,.i 0,.i 0,.i 0,(.bool false),.nils]),.k 5 false,.c 6 0] (.z [2,3] (.join [2,3,4] (.g [.d 11 9 2,.f 12 20 11,.m 7 12] (.g [.m 13 7,.v 14 .neq 13 0] (.i 14 (.g [.s 15 (.build [.i 0,.i 0,.i 0,.i 0,.i 0,.i 0,.i 0,.i 0,(.bool false),.nils] []),.m 16 7,.w 10 4 15,.k 5 false,.m 6 16] (.ret [4,5,6])) .skip))) (.join [2,3,4] (.g [.d 17 2 3,.f 18 27 17,.m 8 18] (.g [.m 19 8,.v 20 .neq 19 0] (.i 20 (.g [.s 21 (.build [.i 0,.i 0,.i 0,.i 0,.i 0,.i 0,.i 0,.i 0,(.bool false),.nils] []),.m 22 8,.w 10 4 21,.k 5 false,.m 6 22] (.ret [4,5,6])) .skip))) (.g [.d 24 9 2,.d 25 2 3,.g' 26 28 24 25,.m 23 26,.j 27 0 23,.j 28 1 23,.s 9 (.alloc 84 [.i 0,.i 0,.i 0,.i 0,.i 0,.i 0,.i 0,.i 0,(.bool false),.nils]),.w 10 9 27,.m 10 28] (.z [9] (.g [.d 29 10 9,.m 30 10,.w 10 4 29,.m 5 30,.c 6 0] (.ret [4,5,6]))))))))⟩:=by kernel_rfl
theorem F9:compF Tryz.prog 9=some ⟨18,[.cell 4 (some 9),.tmp 5],(.g [.q 2 31 0,.q 3 61 1,.s 4 (.alloc 31 [(.str []),.nils,.nils,.nils,.nils,.nils,.nils,.nils,.nils]),.c 5 0] (.z [2,3] (.join [2,3,4] (.g [.d 7 9 2,.f 8 20 7,.m 6 8] (.g [.m 9 6,.v 10 .neq 9 0] (.i 10 (.g [.s 11 (.build [(.str []),.nils,.nils,.nils,.nils,.nils,.nils,.nils,.nils] []),.m 12 6,.w 9 4 11,.m 5 12] (.ret [4,5])) .skip))) (.g [.d 13 9 2,.d 14 35 3,.g' 15 21 13 14,.j 16 0 15,.j 17 1 15,.w 9 4 16,.m 5 17] (.ret [4,5])))))⟩:=by kernel_rfl
end Go.Proofs.YtpbiilllhjeibaaGreatDoor

namespace Go.Proofs.YtpbiilllhjeibaaGreatDoor
open Go.Sha
set_option maxRecDepth 100000
variable {g:List (Nat×Obj)}{n:Nat}
theorem f22 {s:Sho}{p:Prm}(h:s.ok){st:St}:run Tryz.prog HH 22 [s.v,p.v] st=some (.ret (.tup [(if ftrE s p=0 then(ownP s p).1.getD F0 else F0).v,.bool (if ftrE s p=0 then decide (0<(ownP s p).2) else false),.int .i64 (ftrE s p)]),st):=by
 have h15:=fun(st:St)=>f20 (st:=st) h
 have h67:=fun(st:St)=>f27 (x:=p) (st:=st)
 by_cases h1:shoC s=0
 ·have hf:=fix_ok (shoC_parts h1).2.2.2.1
  have h68:=fun(st:St)=>f28 (p:=p) (st:=st) (by omega) (by omega) (fun q hq=>(h.p.2.1 q hq).a) (fun x hx=>aloC_some (hf.2.2.2 x hx))
  by_cases h2:prmC 1 p=0
  ·push_cast[Sho.v,Prm.v,Ftr.v]at h15 h67 h68
   rw[run_shut F22 rfl rfl (by simp)]
   push_cast[Sho.v,Prm.v,h15,h67,h68,h1,h2,ftrE,F0,Ftr.v]
  ·push_cast[Sho.v,Prm.v]at h15 h67
   rw[run_shut F22 rfl rfl (by simp)]
   push_cast[Sho.v,Prm.v,h15,h67,h1,h2,ftrE,F0,Ftr.v]
 ·push_cast[Sho.v,Prm.v]at h15
  rw[run_shut F22 rfl rfl (by simp)]
  push_cast[Sho.v,Prm.v,h15,h1,ftrE,F0,Ftr.v]
def okP (s:Sho)(p:Prm):Bool:=if ftrE s p=0 then decide (0<(ownP s p).2) else false
theorem f22' {s:Sho}{p:Prm}(h:s.ok){st:St}:run Tryz.prog HH 22 [s.v,p.v] st=some (.ret (.tup [(ftrP s p).v,.bool (okP s p),.int .i64 (ftrE s p)]),st):=f22 h
theorem f10 {s:Sho}{p:Prm}(h:s.ok){st:St}:run Tryz.prog HH 10 [s.v,p.v] st=some (.ret (.tup [.int .i64 (ftrP s p).home,.bool (okP s p),.int .i64 (ftrE s p)]),st):=by
 have h22:=fun(st:St)=>f22' (p:=p) (st:=st) h
 push_cast[Sho.v,Prm.v,Ftr.v]at h22
 rw[run_shut F10 rfl rfl (by simp)]
 push_cast[Sho.v,Prm.v,Ftr.v,h22]
 all_goals first|with_reducible rfl|exact dn_eq (by omega) (by with_reducible rfl)|((repeat' split)<;>(try simp_all)<;>(try (with_reducible refine dn_eq ?_ ?_<;>first|trivial|omega|rfl))<;>(try omega))
theorem f12 {v:Int}{st:St}:run Tryz.prog HH 12 [.int .i64 v] st=some (.ret (.agg [.int .i64 v,.int .i64 0]),st):=by
 rw[run_shut F12 rfl rfl (by simp)]
 push_cast
 all_goals first|with_reducible rfl|exact dn_eq (by omega) (by with_reducible rfl)|((repeat' split)<;>(try simp_all)<;>(try (with_reducible refine dn_eq ?_ ?_<;>first|trivial|omega|rfl))<;>(try omega))
end Go.Proofs.YtpbiilllhjeibaaGreatDoor

namespace Go.Proofs.YtpbiilllhjeibaaGreatDoor
open Go.Sha
set_option maxRecDepth 10000
theorem F98:compF Tryz.prog 98=some ⟨12,[.tmp 4],(.g [.c 4 0] (.join [1] (.join [1,10] (.reg [.m 5 1,.v 6 .eql 5 0,.m 7 6,.my 8 0 7,.y 9 (.un .not (.t 8)) 7,.e 10 7 9]) (.i 10 (.g [.c 4 6] (.ret [4])) .skip)) (.g [.m 11 1,.m 4 11] (.ret [4]))))⟩:=by kernel_rfl
def B229_0:Cd:=(.g [.b 14 .lss 13 12] (.join [0,1,12,13] (.i 14 .skip (.exit [] 0)) (.join [0,1,12,13] (.block 1 (.g [.m 15 13,.m 5 15] (.q (.dreg 9 [.m 16 0,.m 17 5,.r 18 5 16 17,.d 19 5 18,.m 20 1,.m 21 5,.r 22 5 20 21,.d 23 5 22,.s 24 (.eqs true [.i,.i,.i,.i,.i] (.t 19) (.t 23))]) (.i 24 (.g [.k 4 false] (.ret [4])) .skip)))) (.reg [.v 25 .add 13 1,.m 13 25]))))
theorem F229:compF Tryz.prog 229=some ⟨26,[.tmp 4],(.g [.k 4 false] (.join [0,1] (.g [.m 6 0,.u 7 6,.m 8 1,.u 9 8,.b 10 .neq 7 9] (.i 10 (.g [.k 4 false] (.ret [4])) .skip)) (.join [] (.g [.m 11 0,.u 12 11,.c 13 0] (.block 0 (.loop [0,1,12,13] [] B229_0))) (.g [.k 4 true] (.ret [4])))))⟩:=by kernel_rfl
def B230_0:Cd:=(.g [.b 14 .lss 13 12] (.join [0,1,12,13] (.i 14 .skip (.exit [] 0)) (.join [0,1,12,13] (.block 1 (.g [.m 15 13,.m 5 15] (.q (.dreg 9 [.m 16 0,.m 17 5,.r 18 6 16 17,.d 19 6 18,.m 20 1,.m 21 5,.r 22 6 20 21,.d 23 6 22,.s 24 (.eqs true [.i,.i,.i,.i,.i,.i] (.t 19) (.t 23))]) (.i 24 (.g [.k 4 false] (.ret [4])) .skip)))) (.reg [.v 25 .add 13 1,.m 13 25]))))
theorem F230:compF Tryz.prog 230=some ⟨26,[.tmp 4],(.g [.k 4 false] (.join [0,1] (.g [.m 6 0,.u 7 6,.m 8 1,.u 9 8,.b 10 .neq 7 9] (.i 10 (.g [.k 4 false] (.ret [4])) .skip)) (.join [] (.g [.m 11 0,.u 12 11,.c 13 0] (.block 0 (.loop [0,1,12,13] [] B230_0))) (.g [.k 4 true] (.ret [4])))))⟩:=by kernel_rfl
def B46_0:Cd:=(.g [.b 16 .lss 15 14] (.join [1,13,14,15] (.i 16 .skip (.exit [] 0)) (.join [1,13,14,15] (.block 1 (.g [.r 17 2 13 15,.d 18 2 17,.s 4 (.alloc 161 [.nils,.nilf]),.w 2 4 18] (.z [4] (.join [1,13,14,15,31] (.reg [.a 19 0 4,.l 20 19,.a 21 0 1,.l 22 21,.g' 23 91 20 22,.z 24 23,.m 25 24,.ay 26 1 4 25,.ly 27 26 25,.y 28 (.load (some 35) (.t 1)) 25,.y 29 (.call (.t 27) [.t 28]) 25,.y 30 (.un .not (.t 29)) 25,.e 31 25 30]) (.i 31 (.g [.c 2 3] (.ret [2])) .skip))))) (.reg [.v 32 .add 15 1,.m 15 32]))))
theorem F46:compF Tryz.prog 46=some ⟨33,[.tmp 2],(.g [.q 1 61 0,.c 2 0] (.z [1] (.join [1] (.join [1,12] (.reg [.a 5 0 1,.l 6 5,.v 7 .lss 6 0,.m 8 7,.ax 9 0 1 8,.lx 10 9 8,.vx 11 .gtr 10 13 8,.o 12 8 11]) (.i 12 (.g [.c 2 1] (.ret [2])) .skip)) (.join [] (.g [.s 13 (.f 90 []),.u 14 13,.c 15 0] (.block 0 (.loop [1,13,14,15] [] B46_0))) (.g [.c 2 0] (.ret [2]))))))⟩:=by kernel_rfl
theorem F90:compF Tryz.prog 90=some ⟨43,[.tmp 0],(.g [.s 0 (.mv (.c .nils))] (.g [.s 1 (.mv (.c (.fn (.func 146) [] [])))] (.g [.m 2 1,.s 3 (.bslice 3 1 [.i 0,.i 1,.i 2,.i 4,.i 6,.i 8,.i 10,.i 12]),.s 4 (.call (.t 2) [.t 3]),.s 5 (.build [.nils,.nilf] [(0,1,(.t 4)),(1,1,(.c (.fn (.func 147) [] [])))]),.m 6 1,.s 7 (.bslice 3 1 [.i 12]),.s 8 (.call (.t 6) [.t 7]),.s 9 (.build [.nils,.nilf] [(0,1,(.t 8)),(1,1,(.c (.fn (.func 148) [] [])))]),.m 10 1,.s 11 (.bslice 3 1 [.i 2]),.s 12 (.call (.t 10) [.t 11]),.s 13 (.build [.nils,.nilf] [(0,1,(.t 12)),(1,1,(.c (.fn (.func 149) [] [])))]),.m 14 1,.s 15 (.bslice 3 1 [.i 1,.i 13]),.s 16 (.call (.t 14) [.t 15]),.s 17 (.build [.nils,.nilf] [(0,1,(.t 16)),(1,1,(.c (.fn (.func 150) [] [])))]),.m 18 1,.s 19 (.bslice 3 1 [.i 0]),.s 20 (.call (.t 18) [.t 19]),.s 21 (.build [.nils,.nilf] [(0,1,(.t 20)),(1,1,(.c (.fn (.func 151) [] [])))]),.m 22 1,.s 23 (.bslice 3 1 [.i 3]),.s 24 (.call (.t 22) [.t 23]),.s 25 (.build [.nils,.nilf] [(0,1,(.t 24)),(1,1,(.c (.fn (.func 153) [] [])))]),.m 26 1,.s 27 (.bslice 3 1 [.i 5]),.s 28 (.call (.t 26) [.t 27]),.s 29 (.build [.nils,.nilf] [(0,1,(.t 28)),(1,1,(.c (.fn (.func 154) [] [])))]),.m 30 1,.s 31 (.bslice 3 1 [.i 7]),.s 32 (.call (.t 30) [.t 31]),.s 33 (.build [.nils,.nilf] [(0,1,(.t 32)),(1,1,(.c (.fn (.func 155) [] [])))]),.m 34 1,.s 35 (.bslice 3 1 [.i 9]),.s 36 (.call (.t 34) [.t 35]),.s 37 (.build [.nils,.nilf] [(0,1,(.t 36)),(1,1,(.c (.fn (.func 156) [] [])))]),.m 38 1,.s 39 (.bslice 3 1 [.i 11]),.s 40 (.call (.t 38) [.t 39]),.s 41 (.build [.nils,.nilf] [(0,1,(.t 40)),(1,1,(.c (.fn (.func 157) [] [])))]),.s 42 (.bslice 161 2 [.t 5,.t 9,.t 13,.t 17,.t 21,.t 25,.t 29,.t 33,.t 37,.t 41]),.m 0 42] (.ret [0]))))⟩:=by kernel_rfl
theorem F21:compF Tryz.prog 21=some ⟨72,[.cell 4 (some 9),.tmp 5],(.g [.q 2 31 0,.q 3 61 1,.s 4 (.alloc 31 [(.str []),.nils,.nils,.nils,.nils,.nils,.nils,.nils,.nils]),.c 5 0] (.z [2,3] (.join [2,3,4] (.g [.d 11 35 3,.f 12 46 11,.m 6 12] (.g [.m 13 6,.v 14 .neq 13 0] (.i 14 (.g [.s 15 (.build [(.str []),.nils,.nils,.nils,.nils,.nils,.nils,.nils,.nils] []),.m 16 6,.w 9 4 15,.m 5 16] (.ret [4,5])) .skip))) (.g [.d 17 9 2,.d 18 35 3,.s 19 (.build [(.str []),.nils,.nils,.nils,.nils,.nils,.nils,.nils,.nils,.i 0,.i 0,.i 0,.i 0,(.str []),(.str []),(.str []),.nils,.nils,(.bool false),(.bool false),.i 0,(.str []),.i 0,.i 0,.nils,.i 0,.nils,.i 0,.i 0,(.bool false),.nils,.i 0,.i 0,.nils,.i 0,.i 0,.i 0,.i 0,.i 0,(.str []),.i 0,.i 0,.i 0,(.str [])] [(0,9,(.t 17)),(9,35,(.t 18))]),.q 20 126 19,.m 7 20] (.g [.m 21 7,.s 22 (.mkfn (.func 47) [.t 21] []),.m 23 7,.s 24 (.mkfn (.func 48) [.t 23] []),.m 25 7,.s 26 (.mkfn (.func 49) [.t 25] []),.m 27 7,.s 28 (.mkfn (.func 50) [.t 27] []),.m 29 7,.s 30 (.mkfn (.func 51) [.t 29] []),.m 31 7,.s 32 (.mkfn (.func 52) [.t 31] []),.m 33 7,.s 34 (.mkfn (.func 53) [.t 33] []),.m 35 7,.s 36 (.mkfn (.func 54) [.t 35] []),.m 37 7,.s 38 (.mkfn (.func 55) [.t 37] []),.m 39 7,.s 40 (.mkfn (.func 56) [.t 39] []),.m 41 7,.s 42 (.mkfn (.func 57) [.t 41] []),.m 43 7,.s 44 (.mkfn (.func 58) [.t 43] []),.m 45 7,.s 46 (.mkfn (.func 59) [.t 45] []),.m 47 7,.s 48 (.mkfn (.func 60) [.t 47] []),.s 49 (.build [.nilf,.nilf,.nilf,.nilf,.nilf,.nilf,.nilf,.nilf,.nilf,.nilf,.nilf,.nilf,.nilf,.nilf] [(0,1,(.t 22)),(1,1,(.t 24)),(2,1,(.t 26)),(3,1,(.t 28)),(4,1,(.t 30)),(5,1,(.t 32)),(6,1,(.t 34)),(7,1,(.t 36)),(8,1,(.t 38)),(9,1,(.t 40)),(10,1,(.t 42)),(11,1,(.t 44)),(12,1,(.t 46)),(13,1,(.t 48))]),.s 8 (.alloc 128 [.nilf,.nilf,.nilf,.nilf,.nilf,.nilf,.nilf,.nilf,.nilf,.nilf,.nilf,.nilf,.nilf,.nilf]),.w 14 8 49] (.z [8] (.join [4,7] (.g [.a 50 0 3,.l 51 50,.s 52 (.iadra 14 1 (.t 8) (.t 51)),.l 53 52,.s 54 (.call (.t 53) []),.m 9 54] (.g [.m 55 9,.v 56 .neq 55 0] (.i 56 (.g [.s 57 (.build [(.str []),.nils,.nils,.nils,.nils,.nils,.nils,.nils,.nils] []),.m 58 9,.w 9 4 57,.m 5 58] (.ret [4,5])) .skip))) (.join [4,7] (.g [.m 59 7,.s 60 (.k 59),.a 61 0 60,.d 62 9 61,.f 63 20 62,.m 10 63] (.g [.m 64 10,.v 65 .neq 64 0] (.i 65 (.g [.s 66 (.build [(.str []),.nils,.nils,.nils,.nils,.nils,.nils,.nils,.nils] []),.m 67 10,.w 9 4 66,.m 5 67] (.ret [4,5])) .skip))) (.g [.m 68 7,.s 69 (.k 68),.a 70 0 69,.d 71 9 70,.w 9 4 71,.c 5 0] (.ret [4,5]))))))))))⟩:=by kernel_rfl
theorem F50:compF Tryz.prog 50=some ⟨22,[.tmp 2],(.g [.c 2 0] (.join [2] (.greg [] [] [[],[],[],[],[],[],[],[],[],[],[],[],[],[],[],[],[],[],[false,false,false,true,false,false,false,false,false,false,false,false,false,false,false,false,false,false],[]] [.m 4 0,.m 5 0,.s 6 (.k 5),.a 7 0 6,.a 8 5 7,.l 9 8,.m 10 0,.s 11 (.k 10),.a 12 9 11,.a 13 14 12,.d 14 2 13,.g' 15 104 9 14,.m 3 15,.j 16 0 3,.j 17 1 3,.s 18 (.k 4),.a 19 0 18,.a 20 5 19,.w 1 20 16,.m 2 17]) (.g [.m 21 2,.m 2 21] (.ret [2]))))⟩:=by kernel_rfl
theorem F51:compF Tryz.prog 51=some ⟨29,[.tmp 2],(.g [.c 2 0] (.q (.dreg 18 [.m 7 0,.s 8 (.k 7),.a 9 0 8,.a 10 5 9,.l 11 10,.m 12 0,.s 13 (.k 12),.a 14 9 13,.a 15 1 14,.l 16 15,.g' 17 105 11 16,.m 6 17,.j 18 0 6,.j 19 1 6,.j 20 2 6,.m 3 18,.m 4 19,.m 5 20]) (.g [.m 21 0,.m 22 3,.s 23 (.k 21),.a 24 0 23,.a 25 5 24,.w 1 25 22] (.g [.m 26 4,.m 27 5,.g' 28 98 26 27,.m 2 28] (.ret [2])))))⟩:=by kernel_rfl
theorem F146:compF Tryz.prog 146=some ⟨4,[.tmp 2],(.g [.s 2 (.mv (.c .nils))] (.g [.m 3 0,.m 2 3] (.ret [2])))⟩:=by kernel_rfl
theorem F147:compF Tryz.prog 147=some ⟨6,[.tmp 2],(.g [.q 1 61 0,.k 2 false] (.z [1] (.g [.a 3 1 1,.l 4 3,.v 5 .eql 4 0,.m 2 5] (.ret [2]))))⟩:=by kernel_rfl
theorem F148:compF Tryz.prog 148=some ⟨6,[.tmp 2],(.g [.q 1 61 0,.k 2 false] (.z [1] (.g [.a 3 2 1,.l 4 3,.v 5 .eql 4 0,.m 2 5] (.ret [2]))))⟩:=by kernel_rfl
theorem F149:compF Tryz.prog 149=some ⟨6,[.tmp 2],(.g [.q 1 61 0,.k 2 false] (.z [1] (.g [.a 3 3 1,.l 4 3,.v 5 .eql 4 0,.m 2 5] (.ret [2]))))⟩:=by kernel_rfl
theorem F150:compF Tryz.prog 150=some ⟨6,[.tmp 2],(.g [.q 1 61 0,.k 2 false] (.z [1] (.g [.a 3 4 1,.l 4 3,.s 5 (.bin .eql (.t 4) (.w [])),.m 2 5] (.ret [2]))))⟩:=by kernel_rfl
theorem F151:compF Tryz.prog 151=some ⟨7,[.tmp 2],(.g [.q 1 61 0,.k 2 false] (.z [1] (.g [.a 3 5 1,.d 4 9 3,.s 5 (.build [(.str []),(.str []),.nils,.nils,(.bool false),(.bool false),.i 0,(.str []),.i 0] []),.g' 6 152 4 5,.m 2 6] (.ret [2]))))⟩:=by kernel_rfl
theorem F152:compF Tryz.prog 152=some ⟨66,[.tmp 4],(.g [.q 2 48 0,.q 3 48 1,.k 4 false] (.z [2,3] (.join [2,3] (.join [2,3,18] (.reg [.a 5 2 2,.l 6 5,.a 7 2 3,.l 8 7,.g' 9 229 6 8,.z 10 9,.m 11 10,.ax 12 3 2 11,.lx 13 12 11,.ax 14 3 3 11,.lx 15 14 11,.x 16 (.f 230 [.t 13,.t 15]) 11,.x 17 (.un .not (.t 16)) 11,.o 18 11 17]) (.i 18 (.g [.k 4 false] (.ret [4])) .skip)) (.join [4] (.reg [.a 19 0 2,.l 20 19,.a 21 0 3,.l 22 21,.b 23 .eql 20 22,.m 24 23,.ay 25 1 2 24,.ly 26 25 24,.ay 27 1 3 24,.ly 28 27 24,.by' 29 .eql 26 28 24,.e 30 24 29,.m 31 30,.ay 32 4 2 31,.ly 33 32 31,.ay 34 4 3 31,.ly 35 34 31,.y 36 (.eqb false (.t 33) (.t 35)) 31,.e 37 31 36,.m 38 37,.ay 39 5 2 38,.ly 40 39 38,.ay 41 5 3 38,.ly 42 41 38,.y 43 (.eqb false (.t 40) (.t 42)) 38,.e 44 38 43,.m 45 44,.ay 46 6 2 45,.ly 47 46 45,.ay 48 6 3 45,.ly 49 48 45,.by' 50 .eql 47 49 45,.e 51 45 50,.m 52 51,.ay 53 7 2 52,.ly 54 53 52,.ay 55 7 3 52,.ly 56 55 52,.by' 57 .eql 54 56 52,.e 58 52 57,.m 59 58,.ay 60 8 2 59,.ly 61 60 59,.ay 62 8 3 59,.ly 63 62 59,.by' 64 .eql 61 63 59,.e 65 59 64,.m 4 65]) (.ret [4])))))⟩:=by kernel_rfl
theorem F153:compF Tryz.prog 153=some ⟨14,[.tmp 2],(.g [.q 1 61 0,.k 2 false] (.z [1] (.join [2] (.reg [.a 3 14 1,.a 4 0 3,.l 5 4,.v 6 .eql 5 0,.m 7 6,.ay 8 14 1 7,.ay 9 1 8 7,.ly 10 9 7,.y 11 (.len (.t 10)) 7,.vy 12 .eql 11 0 7,.e 13 7 12,.m 2 13]) (.ret [2]))))⟩:=by kernel_rfl
theorem F154:compF Tryz.prog 154=some ⟨14,[.tmp 2],(.g [.q 1 61 0,.k 2 false] (.z [1] (.join [2] (.reg [.a 3 16 1,.a 4 0 3,.l 5 4,.v 6 .eql 5 0,.m 7 6,.ay 8 16 1 7,.ay 9 1 8 7,.ly 10 9 7,.y 11 (.len (.t 10)) 7,.vy 12 .eql 11 0 7,.e 13 7 12,.m 2 13]) (.ret [2]))))⟩:=by kernel_rfl
theorem F155:compF Tryz.prog 155=some ⟨25,[.tmp 2],(.g [.q 1 61 0,.k 2 false] (.z [1] (.g [.a 4 18 1,.d 5 4 4,.s 3 (.alloc 54 [.i 0,.i 0,(.bool false),.nils]),.w 4 3 5] (.z [3] (.join [2] (.reg [.a 6 0 3,.l 7 6,.v 8 .eql 7 0,.m 9 8,.ay 10 1 3 9,.ly 11 10 9,.vy 12 .eql 11 0 9,.e 13 9 12,.m 14 13,.ay 15 2 3 14,.ly 16 15 14,.y 17 (.un .not (.t 16)) 14,.e 18 14 17,.m 19 18,.ay 20 3 3 19,.ly 21 20 19,.y 22 (.len (.t 21)) 19,.vy 23 .eql 22 0 19,.e 24 19 23,.m 2 24]) (.ret [2]))))))⟩:=by kernel_rfl
theorem F156:compF Tryz.prog 156=some ⟨35,[.tmp 2],(.g [.q 1 61 0,.k 2 false] (.z [1] (.g [.a 4 22 1,.d 5 6 4,.s 3 (.alloc 57 [.i 0,.i 0,.nils,.i 0,.i 0,.i 0]),.w 6 3 5] (.z [3] (.join [2] (.reg [.a 6 0 3,.l 7 6,.v 8 .eql 7 0,.m 9 8,.ay 10 1 3 9,.ly 11 10 9,.vy 12 .eql 11 0 9,.e 13 9 12,.m 14 13,.ay 15 2 3 14,.ly 16 15 14,.y 17 (.len (.t 16)) 14,.vy 18 .eql 17 0 14,.e 19 14 18,.m 20 19,.ay 21 3 3 20,.ly 22 21 20,.vy 23 .eql 22 0 20,.e 24 20 23,.m 25 24,.ay 26 4 3 25,.ly 27 26 25,.vy 28 .eql 27 0 25,.e 29 25 28,.m 30 29,.ay 31 5 3 30,.ly 32 31 30,.vy 33 .eql 32 0 30,.e 34 30 33,.m 2 34]) (.ret [2]))))))⟩:=by kernel_rfl
theorem F157:compF Tryz.prog 157=some ⟨7,[.tmp 2],(.g [.q 1 61 0,.k 2 false] (.z [1] (.g [.a 3 28 1,.d 4 7 3,.s 5 (.build [.i 0,.i 0,(.str []),.i 0,.i 0,.i 0,(.str [])] []),.s 6 (.eqs false [.i,.i,.s,.i,.i,.i,.s] (.t 4) (.t 5)),.m 2 6] (.ret [2]))))⟩:=by kernel_rfl
end Go.Proofs.YtpbiilllhjeibaaGreatDoor

namespace Go.Proofs.YtpbiilllhjeibaaGreatDoor
open Go.Sha
set_option maxRecDepth 100000
variable {g:List (Nat×Obj)}{n:Nat}
theorem f229 {l:List Mov}(hl:l.length<140737488355328){st:St}:run Tryz.prog HH 229 [.sl (l.map Mov.v),.sl []] st=some (.ret (.bool (decide (l.length=0))),st):=by
 by_cases h:l.length=0
 ·have h0:l=[]:=List.length_eq_zero_iff.1 h
  subst h0
  rw[run_shut F229 rfl rfl (by simp)]
  push_cast[runL_of B229_0.eq_1]
 ·have h1:¬(l.length:Int)=0:=by omega
  rw[run_shut F229 rfl rfl (by simp)]
  push_cast[Mov.v,h,h1]
theorem f230 {l:List Tim}(hl:l.length<140737488355328){st:St}:run Tryz.prog HH 230 [.sl (l.map Tim.v),.sl []] st=some (.ret (.bool (decide (l.length=0))),st):=by
 by_cases h:l.length=0
 ·have h0:l=[]:=List.length_eq_zero_iff.1 h
  subst h0
  rw[run_shut F230 rfl rfl (by simp)]
  push_cast[runL_of B230_0.eq_1]
 ·have h1:¬(l.length:Int)=0:=by omega
  rw[run_shut F230 rfl rfl (by simp)]
  push_cast[Tim.v,h,h1]
def zCu (c:Cu):Bool:=decide (c.moves=[])&&decide (c.parts=[])&&(decide (c.num=[])&&(decide (c.label=[])&&(!c.block&&(!c.mark&&(decide (c.follow=0)&&(decide (c.link=[])&&c.loops == 0))))))
theorem f152 {c:Cu}(hl:c.moves.length<140737488355328)(hk:c.parts.length<140737488355328){st:St}:run Tryz.prog HH 152 [c.v,.agg [.str [],.str [],.sl [],.sl [],.bool false,.bool false,.int .i64 0,.str [],.int .i64 0]] st=some (.ret (.bool (zCu c)),st):=by
 have h168:=fun(st:St)=>f229 hl (st:=st)
 have h169:=fun(st:St)=>f230 hk (st:=st)
 rw[run_shut F152 rfl rfl (by simp)]
 push_cast[Cu.v,h168,h169,zCu]
 all_goals first|with_reducible rfl|exact dn_eq (by omega) (by with_reducible rfl)|((repeat' split)<;>(try simp_all)<;>(try (with_reducible refine dn_eq ?_ ?_<;>first|trivial|omega|rfl))<;>(try omega))
theorem f147 {e:Edi}{st:St}:run Tryz.prog HH 147 [e.v] st=some (.ret (.bool (e.num == 0)),st):=by
 rw[run_shut F147 rfl rfl (by simp)]
 push_cast[Edi.v]
 all_goals first|with_reducible rfl|exact dn_eq (by omega) (by with_reducible rfl)|((repeat' split)<;>(try simp_all)<;>(try (with_reducible refine dn_eq ?_ ?_<;>first|trivial|omega|rfl))<;>(try omega))
theorem f148 {e:Edi}{st:St}:run Tryz.prog HH 148 [e.v] st=some (.ret (.bool (e.chan == 0)),st):=by
 rw[run_shut F148 rfl rfl (by simp)]
 push_cast[Edi.v]
 all_goals first|with_reducible rfl|exact dn_eq (by omega) (by with_reducible rfl)|((repeat' split)<;>(try simp_all)<;>(try (with_reducible refine dn_eq ?_ ?_<;>first|trivial|omega|rfl))<;>(try omega))
theorem f149 {e:Edi}{st:St}:run Tryz.prog HH 149 [e.v] st=some (.ret (.bool (e.prio == 0)),st):=by
 rw[run_shut F149 rfl rfl (by simp)]
 push_cast[Edi.v]
 all_goals first|with_reducible rfl|exact dn_eq (by omega) (by with_reducible rfl)|((repeat' split)<;>(try simp_all)<;>(try (with_reducible refine dn_eq ?_ ?_<;>first|trivial|omega|rfl))<;>(try omega))
theorem f150 {e:Edi}{st:St}:run Tryz.prog HH 150 [e.v] st=some (.ret (.bool (e.key == [])),st):=by
 rw[run_shut F150 rfl rfl (by simp)]
 push_cast[Edi.v]
 all_goals first|with_reducible rfl|exact dn_eq (by omega) (by with_reducible rfl)|((repeat' split)<;>(try simp_all)<;>(try (with_reducible refine dn_eq ?_ ?_<;>first|trivial|omega|rfl))<;>(try omega))
theorem f151 {e:Edi}(hl:e.cue.moves.length<140737488355328)(hk:e.cue.parts.length<140737488355328){st:St}:run Tryz.prog HH 151 [e.v] st=some (.ret (.bool (zCu e.cue)),st):=by
 have h:=fun(st:St)=>f152 hl hk (st:=st)
 push_cast[Cu.v]at h
 rw[run_shut F151 rfl rfl (by simp)]
 push_cast[Edi.v,h]
 all_goals first|with_reducible rfl|exact dn_eq (by omega) (by with_reducible rfl)|((repeat' split)<;>(try simp_all)<;>(try (with_reducible refine dn_eq ?_ ?_<;>first|trivial|omega|rfl))<;>(try omega))
theorem f153 {e:Edi}{st:St}:run Tryz.prog HH 153 [e.v] st=some (.ret (.bool (decide (e.pal.num=0)&&(e.pal.hues.length:Int) == 0)),st):=by
 rw[run_shut F153 rfl rfl (by simp)]
 push_cast[Edi.v]
 all_goals first|with_reducible rfl|exact dn_eq (by omega) (by with_reducible rfl)|((repeat' split)<;>(try simp_all)<;>(try (with_reducible refine dn_eq ?_ ?_<;>first|trivial|omega|rfl))<;>(try omega))
theorem f154 {e:Edi}{st:St}:run Tryz.prog HH 154 [e.v] st=some (.ret (.bool (decide (e.grp.num=0)&&(e.grp.chans.length:Int) == 0)),st):=by
 rw[run_shut F154 rfl rfl (by simp)]
 push_cast[Edi.v]
 all_goals first|with_reducible rfl|exact dn_eq (by omega) (by with_reducible rfl)|((repeat' split)<;>(try simp_all)<;>(try (with_reducible refine dn_eq ?_ ?_<;>first|trivial|omega|rfl))<;>(try omega))
theorem f155 {e:Edi}{st:St}:run Tryz.prog HH 155 [e.v] st=some (.ret (.bool (decide (e.sub.num=0)&&(decide (e.sub.prio=0)&&(!e.sub.inh&&(e.sub.gains.length:Int) == 0)))),st):=by
 rw[run_shut F155 rfl rfl (by simp)]
 push_cast[Edi.v]
 all_goals first|with_reducible rfl|exact dn_eq (by omega) (by with_reducible rfl)|((repeat' split)<;>(try simp_all)<;>(try (with_reducible refine dn_eq ?_ ?_<;>first|trivial|omega|rfl))<;>(try omega))
theorem f156 {e:Edi}{st:St}:run Tryz.prog HH 156 [e.v] st=some (.ret (.bool (decide (e.eff.num=0)&&(decide (e.eff.attr=0)&&(decide (e.eff.wave=[])&&(decide (e.eff.period=0)&&(decide (e.eff.spread=0)&&e.eff.size == 0)))))),st):=by
 rw[run_shut F156 rfl rfl (by simp)]
 push_cast[Edi.v]
 all_goals first|with_reducible rfl|exact dn_eq (by omega) (by with_reducible rfl)|((repeat' split)<;>(try simp_all)<;>(try (with_reducible refine dn_eq ?_ ?_<;>first|trivial|omega|rfl))<;>(try omega))
theorem f157 {e:Edi}{st:St}:run Tryz.prog HH 157 [e.v] st=some (.ret (.bool (e.fix.chan == 0&&(e.fix.part == 0&&(e.fix.prof.isEmpty&&(e.fix.univ == 0&&(e.fix.addr == 0&&(e.fix.phase == 0&&e.fix.cable.isEmpty))))))),st):=by
 rw[run_shut F157 rfl rfl (by simp)]
 push_cast[Edi.v]
 all_goals first|with_reducible rfl|exact dn_eq (by omega) (by with_reducible rfl)|((repeat' split)<;>(try simp_all)<;>(try (with_reducible refine dn_eq ?_ ?_<;>first|trivial|omega|rfl))<;>(try omega))
structure Use where
 ks:List Int
 f:FuncId
 z:Edi→Bool
instance:Inhabited Use:=⟨⟨[],0,fun _=>true⟩⟩
@[reducible] def Use.v (u:Use):V:=.agg [.sl (u.ks.map (.int .i64)),.fn (.func u.f) [] []]
def uses:List Use:=[⟨[0,1,2,4,6,8,10,12],147,fun e=>e.num == 0⟩,⟨[12],148,fun e=>e.chan == 0⟩,⟨[2],149,fun e=>e.prio == 0⟩,⟨[1,13],150,fun e=>e.key == []⟩,⟨[0],151,fun e=>zCu e.cue⟩,
 ⟨[3],153,fun e=>decide (e.pal.num=0)&&(e.pal.hues.length:Int) == 0⟩,⟨[5],154,fun e=>decide (e.grp.num=0)&&(e.grp.chans.length:Int) == 0⟩,⟨[7],155,fun e=>decide (e.sub.num=0)&&(decide (e.sub.prio=0)&&(!e.sub.inh&&(e.sub.gains.length:Int) == 0))⟩,
 ⟨[9],156,fun e=>decide (e.eff.num=0)&&(decide (e.eff.attr=0)&&(decide (e.eff.wave=[])&&(decide (e.eff.period=0)&&(decide (e.eff.spread=0)&&e.eff.size == 0))))⟩,⟨[11],157,fun e=>e.fix.chan == 0&&(e.fix.part == 0&&(e.fix.prof.isEmpty&&(e.fix.univ == 0&&(e.fix.addr == 0&&(e.fix.phase == 0&&e.fix.cable.isEmpty)))))⟩]
theorem f90 {st:St}:run Tryz.prog HH 90 [] st=some (.ret (.sl (uses.map Use.v)),st):=by
 rw[run_shut F90 rfl rfl (by simp)]
 push_cast[uses,Use.v,List.map_cons,List.map_nil,(fun(a0:V) (st:St) (h:V.bdL 0 [a0]=true)=>run_shut (P:=Tryz.prog) (H:=HH) (args:=[a0]) (st:=st) F146 rfl rfl h)]
 all_goals first|with_reducible rfl|exact dn_eq (by omega) (by with_reducible rfl)|((repeat' split)<;>(try simp_all)<;>(try (with_reducible refine dn_eq ?_ ?_<;>first|trivial|omega|rfl))<;>(try omega))
def useR (e:Edi):List Use→Int
 |[]=>0
 |u::r=>if u.ks.any (e.kind == ·)||u.z e then useR e r else 3
theorem L46 {e:Edi}{us:List Use}(hl:us.length<140737488355328)(hk:∀u∈us,u.ks.length<140737488355328∧memL u.f HH.raw=false∧∀st:St,run Tryz.prog HH u.f [e.v] st=some (.ret (.bool (u.z e)),st)):∀r j,us.drop j=r→runL Tryz.prog HH [1,13,14,15] n B46_0 [(1,.ep e.v 0),(13,.sl (us.map Use.v)),(14,.int .i64 us.length),(15,.int .i64 j)] (stN g n)=lpE (stN g n) [] 2 (useR e r):=by
 refine drop_ind (fun j h=>?_) (fun q r j h hx hd ih=>?_)
 all_goals rw[runL_of B46_0.eq_1]
 ·have h1:¬(j:Int)<us.length:=by omega
  push_cast[h1,useR]
 ·have h1:(j:Int)<us.length:=by omega
  have hw:=iw1 (j:=j) (by omega)
  obtain⟨h2,h3,h4⟩:=hk q (List.mem_of_mem_drop (hd▸List.mem_cons_self ..))
  have h5:=fun(st:St)=>f91 (v:=e.kind) h2 (st:=st)
  rw[HH_raw]at h3
  push_cast[Edi.v]at h3 h4
  push_cast[h1,hw,hx,Edi.v,Use.v,h3,h4,h5]at ih ⊢
  rw[useR,ih]
  cases q.ks.any (e.kind == ·)<;>cases q.z e<;>simp[lpE]
def edtC (e:Edi):Int:=if e.kind<0∨13<e.kind then 1 else useR e uses
theorem f46 {e:Edi}(hl:e.cue.moves.length<140737488355328)(hk:e.cue.parts.length<140737488355328){st:St}:run Tryz.prog HH 46 [e.v] st=some (.ret (.int .i64 (edtC e)),st):=by
 have hL:=L46 (g:=st.x.gl) (n:=1) (e:=e) (us:=uses) (by decide) (by
  intro u hu
  simp only[uses,List.mem_cons,List.mem_nil_iff,or_false]at hu
  rcases hu with rfl|rfl|rfl|rfl|rfl|rfl|rfl|rfl|rfl|rfl
  ·exact⟨by decide,rfl,fun _=>f147⟩
  ·exact⟨by decide,rfl,fun _=>f148⟩
  ·exact⟨by decide,rfl,fun _=>f149⟩
  ·exact⟨by decide,rfl,fun _=>f150⟩
  ·exact⟨by decide,rfl,fun _=>f151 hl hk⟩
  ·exact⟨by decide,rfl,fun _=>f153⟩
  ·exact⟨by decide,rfl,fun _=>f154⟩
  ·exact⟨by decide,rfl,fun _=>f155⟩
  ·exact⟨by decide,rfl,fun _=>f156⟩
  ·exact⟨by decide,rfl,fun _=>f157⟩) uses 0 rfl
 rw[run_shut F46 rfl rfl (by simp)]
 have h42:=fun(st:St)=>f90 (st:=st)
 have hlen:(uses.length:Int)=10:=rfl
 push_cast[Edi.v,hlen]at hL
 by_cases h1:e.kind<0
 ·have e1:edtC e=1:=if_pos (.inl h1)
  push_cast[Edi.v,e1,h1]
 ·by_cases h2:13<e.kind
  ·have e1:edtC e=1:=if_pos (.inr h2)
   push_cast[Edi.v,e1,h1,h2]
  ·have e1:edtC e=useR e uses:=if_neg (by omega)
   rw[e1]
   generalize useR e uses=c at *
   push_cast[Edi.v,h1,h2,h42,hL,hlen,lpE]
end Go.Proofs.YtpbiilllhjeibaaGreatDoor

namespace Go.Proofs.YtpbiilllhjeibaaGreatDoor
open Go.Sha
set_option maxRecDepth 10000
end Go.Proofs.YtpbiilllhjeibaaGreatDoor

namespace Go.Proofs.YtpbiilllhjeibaaGreatDoor
open Go.Sha
set_option maxRecDepth 100000
variable {g:List (Nat×Obj)}{n:Nat}
end Go.Proofs.YtpbiilllhjeibaaGreatDoor

namespace Go.Proofs.YtpbiilllhjeibaaGreatDoor
open Go.Sha
set_option maxRecDepth 10000
end Go.Proofs.YtpbiilllhjeibaaGreatDoor

namespace Go.Proofs.YtpbiilllhjeibaaGreatDoor
open Go.Sha
set_option maxRecDepth 100000
variable {g:List (Nat×Obj)}{n:Nat}
def BsB (es : Nat) : Cd := (.join [0, 1, 2, 8, 9, 10] (.g [.m 15 9, .m 16 10, .b 17 .lss 15 16]
 (.i 17 .skip (.exit [0, 1, 2, 8, 9] 0)))
 (.block 1 (.g [.m 18 9, .m 19 10, .b 20 .add 18 19, .s 21 (.cvi .u64 (.t 20)), .s 22 (.bin .shr (.t 21) (.c (.int .u64 1))), .s 23 (.cvi .i64 (.t 22)), .m 11 23]
 (.g [.m 24 2, .m 25 0, .m 26 11, .r 27 es 25 26, .d 28 es 27, .m 29 1, .s 30 (.call (.t 24) [.t 28, .t 29]), .v 31 .lss 30 0]
 (.i 31 (.reg [.m 32 11, .v 33 .add 32 1, .m 9 33]) (.reg [.m 34 11, .m 10 34]))))))
def BsC (es : Nat) : Cd := (.g [.c 6 0, .k 7 false]
 (.g [.m 12 0, .u 13 12, .m 8 13]
 (.g [.m 14 8, .c 9 0, .m 10 14]
 (.join [0, 1, 2, 8, 9] (.block 0 (.loop [0, 1, 2, 8, 9, 10] [] (BsB es)))
 (.join [6, 7] (.reg [.m 35 9, .m 36 9, .m 37 8, .b 38 .lss 36 37, .m 39 38, .my 40 2 39, .my 41 0 39, .my 42 9 39, .ry 43 es 41 42 39, .y 44 (.load (some es) (.t 43)) 39, .my 45 1 39, .y 46 (.call (.t 40) [.t 44, .t 45]) 39, .vy 47 .eql 46 0 39, .e 48 39 47, .m 6 35, .m 7 48])
 (.ret [6, 7]))))))
section
variable {α:Type} [Inhabited α] {f:α→V}{es:Nat}{h k:FuncId}{caps:List V}{v:Int}{c:α→Int}{l:List α}
theorem BsL (he:∀x,(f x).cells.length=es)(hr:∀x,rd (some es) (f x).cells 0=some (f x))(hl:l.length<140737488355328){st:St}(hp:∀x,run Tryz.prog HH h (f x::.int .i64 v::caps) st=some (.ret (.int .i64 (c x)),st))
  (hs:∀x,(snapA st (f x)).getD (f x)=f x) (hc:caps.map (fun v=>(snapA st v).getD v)=caps) (hk0:memL h HH.raw=false):∀i j,i≤j→j≤l.length →
  runL Tryz.prog HH [0,1,2,8,9,10] st.nx (BsB es) [(0,.sl (l.map f)),(1,.int .i64 v),(2,.fn (.func h) [] caps),(8,.int .i64 l.length),(9,.int .i64 i),(10,.int .i64 j)] st
  = some (.exit 0,[(0,.sl (l.map f)),(1,.int .i64 v),(2,.fn (.func h) [] caps),(8,.int .i64 l.length),(9,.int .i64 (bsI (fun k=>c (l.getD k default)) i j))],st):=by
 intro i j
 rw[HH_raw]at hk0
 push_cast at hk0
 induction i,j using bsI.induct (fun k=>c (l.getD k default)) with
 |case1 i j h h2 ih =>
  intro hij hj
  have ih:=ih (by omega) hj
  rw[bsI,dif_pos h,if_pos h2,runL_of (BsB.eq_1 _)]
  have h1:(i:Int)<j:=by omega
  have h3:=halfI (i:=i) (j:=j) (by omega)
  have h4:(((i+j) / 2:Nat):Int)<l.length:=by omega
  have h5:IntKind.i64.wrap ((((i+j) / 2:Nat):Int)+1)=(((i+j) / 2+1:Nat):Int):=iwrap (by omega) (by omega)
  have h207:=hp (l.getD ((i+j) / 2) default)
  generalize hk:(i+j) / 2=k at *
  push_cast at ih h207
  push_cast[h1,h3,h4,h5,h207,h2,he,hr,hs,hc,hk0,loadV]
  exact ih
 |case2 i j h h2 ih =>
  intro hij hj
  have ih:=ih (by omega) (by omega)
  rw[bsI,dif_pos h,if_neg h2,runL_of (BsB.eq_1 _)]
  have h1:(i:Int)<j:=by omega
  have h3:=halfI (i:=i) (j:=j) (by omega)
  have h4:(((i+j) / 2:Nat):Int)<l.length:=by omega
  have h207:=hp (l.getD ((i+j) / 2) default)
  generalize hk:(i+j) / 2=k at *
  push_cast at ih h207
  push_cast[h1,h3,h4,h207,h2,he,hr,hs,hc,hk0,loadV]
  exact ih
 |case3 i j h =>
  intro hij hj
  rw[bsI,dif_neg h,runL_of (BsB.eq_1 _)]
  have h1:¬(i:Int)<j:=by omega
  push_cast[h1]
def bsR (c:α→Int)(l:List α):Nat:=bsI (fun k=>c (l.getD k default)) 0 l.length
def bsF (c:α→Int)(l:List α):Bool:=decide ((bsR c l:Int)<l.length)&&c (l.getD (bsR c l) default) == 0
theorem BsF (he:∀x,(f x).cells.length=es)(hr:∀x,rd (some es) (f x).cells 0=some (f x))(hF:compF Tryz.prog k=some ⟨49,[.tmp 6,.tmp 7],BsC es⟩){st:St}(hH:HH k [.sl (l.map f),.int .i64 v,.fn (.func h) [] caps] st=none)(hb:V.bdL 0 [.sl (l.map f),.int .i64 v,.fn (.func h) [] caps]=true)(hl:l.length<140737488355328)
  (hp:∀x st,run Tryz.prog HH h (f x::.int .i64 v::caps) st=some (.ret (.int .i64 (c x)),st)) (hs:∀st x,(snapA st (f x)).getD (f x)=f x) (hc:∀st,caps.map (fun v=>(snapA st v).getD v)=caps) (hk0:memL h HH.raw=false:=by rfl) :
  run Tryz.prog HH k [.sl (l.map f),.int .i64 v,.fn (.func h) [] caps] st=some (.ret (.tup [.int .i64 (bsR c l),.bool (bsF c l)]),st):=by
 rw[run_shut hF hH rfl hb]
 unfold BsC
 have h0:=fun g n=>BsL (st:=stN g n) (c:=c) he hr hl (fun x=>hp x _) (hs _) (hc _) hk0 0 l.length (by omega) (Nat.le_refl _)
 have h207:=fun st=>hp (l.getD (bsR c l) default) st
 rw[show bsI (fun k=>c (l.getD k default)) 0 l.length=bsR c l from rfl]at h0
 rw[HH_raw]at hk0
 push_cast at h0 h207 hk0
 push_cast[h0,h207,he,hr,hs,hc,hk0,loadV,bsF]
 exact dn_eq (fun h=>h) rfl
end
end Go.Proofs.YtpbiilllhjeibaaGreatDoor

namespace Go.Proofs.YtpbiilllhjeibaaGreatDoor
open Go.Sha
section
set_option linter.unusedSectionVars false
variable {α:Type} [Inhabited α] {key:α→Int}{l:List α}{x:α}{v:Int}{c:α→Int}
def insT (key:α→Int)(x:α)(l:List α):List α:=l.filter (fun y=>decide (key y<key x))++x::l.filter (fun y=>decide (key x<key y))
def delT (key:α→Int)(v:Int)(l:List α):List α:=l.filter (fun y=>decide (¬key y=v))
theorem filter_id {p:α→Bool}(h:∀x∈l,p x=true):l.filter p=l:=List.filter_eq_self.2 h
theorem filter_no {p:α→Bool}(h:∀x∈l,p x=false):l.filter p=[]:=List.filter_eq_nil_iff.2 fun x hx=>by rw[h x hx];simp
theorem bs_split (hs:l.Pairwise fun a b=>c b≤0→c a<0) :
  bsR c l≤l.length∧l.take (bsR c l)=l.filter (fun y=>decide (c y<0))∧(bsF c l=true→bsR c l<l.length∧l.drop (bsR c l+1)=l.filter (fun y=>decide (0<c y))∧l.any (fun y=>decide (c y=0))=true) ∧
   (bsF c l=false→l.drop (bsR c l)=l.filter (fun y=>decide (0<c y))∧l.any (fun y=>decide (c y=0))=false):=by
 have hg:∀k d,k<l.length→l.getD k d∈l∧l[k]?=some (l.getD k d):=fun k d hk=>by
  rw[List.getD_eq_getElem?_getD,List.getElem?_eq_getElem hk];exact⟨List.getElem_mem hk,rfl⟩
 have hp:∀a b,a<b→b<l.length→c (l.getD b default)≤0→c (l.getD a default)<0:=fun a b hab hb h=>by
  have h1:=(hg a default (by omega)).2
  have h2:=(hg b default hb).2
  rw[List.getElem?_eq_getElem (by omega)]at h1 h2
  have:=List.pairwise_iff_getElem.1 hs a b (by omega) hb hab
  rw[Option.some.inj h1,Option.some.inj h2]at this
  exact this h
 obtain⟨_,r1,r2,r3⟩:=bsI_ok (c:=fun k=>c (l.getD k default)) hp (i:=0) (j:=l.length) (by omega) (Nat.le_refl _) (fun k hk=>by omega) (fun k h1 h2=>by omega)
 rw[show bsI (fun k=>c (l.getD k default)) 0 l.length=bsR c l from rfl]at r1 r2 r3
 have gD:∀(k:Nat) y,l[k]?=some y→l.getD k default=y:=fun k y h=>by rw[List.getD_eq_getElem?_getD,h];rfl
 have t1:∀y∈l.take (bsR c l),c y<0:=fun y hy=>by
  obtain⟨k,hk⟩:=List.mem_iff_getElem?.1 hy
  have hkl:k<bsR c l:=by have:=(List.getElem?_eq_some_iff.1 hk).1;simp at this;omega
  rw[List.getElem?_take_of_lt hkl]at hk
  have:=r2 k hkl
  rwa [gD k y hk]at this
 have t2:∀y∈l.drop (bsR c l),0≤c y:=fun y hy=>by
  obtain⟨k,hk⟩:=List.mem_iff_getElem?.1 hy
  rw[List.getElem?_drop]at hk
  have:=r3 (bsR c l+k) (by omega) (List.getElem?_eq_some_iff.1 hk).1
  rwa [gD _ y hk]at this
 have hl:l=l.take (bsR c l)++l.drop (bsR c l):=(List.take_append_drop _ _).symm
 refine⟨r1,?_,fun hf=>?_,fun hf=>?_⟩
 ·rw[show l.filter (fun y=>decide (c y<0))=(l.take (bsR c l)++l.drop (bsR c l)).filter (fun y=>decide (c y<0)) by rw[←hl],List.filter_append,filter_id (fun y hy=>by simpa using t1 y hy),filter_no (fun y hy=>by have:=t2 y hy;simp;omega),List.append_nil]
 ·simp only[bsF,Bool.and_eq_true,decide_eq_true_eq,beq_iff_eq]at hf
  have hr:bsR c l<l.length:=by omega
  have hd:l.drop (bsR c l)=l.getD (bsR c l) default::l.drop (bsR c l+1):=by
   rw[List.drop_eq_getElem_cons hr,List.getD_eq_getElem?_getD,List.getElem?_eq_getElem hr];rfl
  have t3:∀y∈l.drop (bsR c l+1),0<c y:=fun y hy=>by
   obtain⟨k,hk⟩:=List.mem_iff_getElem?.1 hy
   rw[List.getElem?_drop]at hk
   apply Classical.byContradiction;intro h
   have:=hp (bsR c l) (bsR c l+1+k) (by omega) (List.getElem?_eq_some_iff.1 hk).1 (by rw[gD _ y hk];omega)
   omega
  refine⟨hr,?_,?_⟩
  ·rw[show l.filter (fun y=>decide (0<c y))=(l.take (bsR c l)++l.drop (bsR c l)).filter (fun y=>decide (0<c y)) by rw[←hl],List.filter_append,hd,List.filter_cons,filter_id (l:=l.drop (bsR c l+1)) (fun y hy=>by simpa using t3 y hy),filter_no (l:=l.take (bsR c l)) (fun y hy=>by have:=t1 y hy;simp;omega),hf.2]
   simp
  ·rw[List.any_eq_true];exact⟨_,(hg _ default hr).1,by simpa using hf.2⟩
 ·have t4:∀y∈l.drop (bsR c l),0<c y:=fun y hy=>by
   obtain⟨k,hk⟩:=List.mem_iff_getElem?.1 hy
   have h0:=t2 y hy
   rw[List.getElem?_drop]at hk
   have hkl:=(List.getElem?_eq_some_iff.1 hk).1
   apply Classical.byContradiction;intro h
   have hy0:c y=0:=by omega
   rcases Nat.eq_zero_or_pos k with e|e
   ·subst e
    simp only[bsF,Bool.and_eq_false_iff,decide_eq_false_iff_not,beq_eq_false_iff_ne]at hf
    rw[Nat.add_zero]at hk hkl
    rcases hf with hf|hf
    ·omega
    ·rw[gD _ y hk]at hf;exact hf hy0
   ·have:=hp (bsR c l) (bsR c l+k) (by omega) hkl (by rw[gD _ y hk];omega)
    have:=r3 (bsR c l) (Nat.le_refl _) (by omega)
    omega
  refine⟨?_,?_⟩
  ·rw[show l.filter (fun y=>decide (0<c y))=(l.take (bsR c l)++l.drop (bsR c l)).filter (fun y=>decide (0<c y)) by rw[←hl],List.filter_append,filter_no (l:=l.take (bsR c l)) (fun y hy=>by have:=t1 y hy;simp;omega),List.nil_append,filter_id fun y hy=>by simpa using t4 y hy]
  ·rw[List.any_eq_false]
   intro y hy
   rw[hl]at hy
   rcases List.mem_append.1 hy with hy|hy
   ·have:=t1 y hy;simp;omega
   ·have:=t4 y hy;simp;omega
def Asc (key:α→Int)(l:List α):Prop:=l.Pairwise fun a b=>key a<key b
def CmpK (key:α→Int)(v:Int)(c:α→Int)(l:List α):Prop:=∀y∈l,(c y<0↔key y<v)∧(c y=0↔key y=v)
theorem asc_cmp (ha:Asc key l)(hc:CmpK key v c l):l.Pairwise fun a b=>c b≤0→c a<0:=by
 refine List.Pairwise.imp_of_mem ?_ ha
 intro a b h1 h2 hab hb
 have ca:=hc a h1
 have cb:=hc b h2
 rw[ca.1]
 have:key b≤v:=by
  rcases Int.lt_or_eq_of_le hb with h|h
  ·have:=cb.1.1 h;omega
  ·have:=cb.2.1 h;omega
 omega
theorem fil_congr {p q:α→Bool}(h:∀y∈l,p y=q y):l.filter p=l.filter q:=List.filter_congr h
theorem bs_tab (ha:Asc key l)(hc:CmpK key v c l):bsR c l≤l.length∧l.take (bsR c l)=l.filter (fun y=>decide (key y<v))∧bsF c l=l.any (fun y=>decide (key y=v)) ∧
  (bsF c l=true→bsR c l<l.length∧l.drop (bsR c l+1)=l.filter (fun y=>decide (v<key y)))∧(bsF c l=false→l.drop (bsR c l)=l.filter (fun y=>decide (v<key y))):=by
 obtain⟨a1,a2,a3,a4⟩:=bs_split (asc_cmp ha hc)
 have e1:l.filter (fun y=>decide (c y<0))=l.filter (fun y=>decide (key y<v)):=fil_congr fun y hy=>by simp only[(hc y hy).1]
 have e2:l.filter (fun y=>decide (0<c y))=l.filter (fun y=>decide (v<key y)):=fil_congr fun y hy=>by
  have:=hc y hy
  rw[decide_eq_decide]
  constructor
  ·intro h
   have h1:¬key y<v:=fun e=>by have:=this.1.2 e;omega
   have h2:¬key y=v:=fun e=>by have:=this.2.2 e;omega
   omega
  ·intro h
   have h1:¬c y<0:=fun e=>by have:=this.1.1 e;omega
   have h2:¬c y=0:=fun e=>by have:=this.2.1 e;omega
   omega
 have e3:l.any (fun y=>decide (c y=0))=l.any (fun y=>decide (key y=v)):=by
  rw[Bool.eq_iff_iff];simp only[List.any_eq_true,decide_eq_true_eq]
  exact⟨fun⟨y,hy,h⟩=>⟨y,hy,(hc y hy).2.1 h⟩,fun⟨y,hy,h⟩=>⟨y,hy,(hc y hy).2.2 h⟩⟩
 refine⟨a1,a2.trans e1,?_,fun h=>⟨(a3 h).1,(a3 h).2.1.trans e2⟩,fun h=>(a4 h).1.trans e2⟩
 cases h:bsF c l with
 |true=>rw[←e3,(a3 h).2.2]
 |false=>rw[←e3,(a4 h).2]
theorem bs_wrap (hk:∀y∈l,1≤key y∧key y≤1048576)(ha:Asc key l)(hv:-9223372036854775808≤v∧v≤9223372036854775807):bsF (fun y=>IntKind.i64.wrap (key y-v)) l=l.any (fun y=>decide (key y=v)) ∧
  (1≤v∧v≤1048576→CmpK key v (fun y=>IntKind.i64.wrap (key y-v)) l):=by
 have h2:1≤v∧v≤1048576→CmpK key v (fun y=>IntKind.i64.wrap (key y-v)) l:=fun h y hy=>by
  have:=hk y hy
  show(IntKind.i64.wrap (key y-v)<0↔_)∧(IntKind.i64.wrap (key y-v)=0↔_)
  rw[iwrap (by omega) (by omega)]
  constructor<;>constructor<;>intro h<;>omega
 refine⟨?_,h2⟩
 by_cases h:1≤v∧v≤1048576
 ·exact(bs_tab ha (h2 h)).2.2.1
 ·have h3:∀y∈l,¬key y=v:=fun y hy e=>by have:=hk y hy;omega
  have h4:∀y∈l,¬IntKind.i64.wrap (key y-v)=0:=fun y hy e=>by
   have:=hk y hy
   rw[IntKind.wrap_i64]at e
   omega
  have e1:l.any (fun y=>decide (key y=v))=false:=by rw[List.any_eq_false];intro y hy;simpa using h3 y hy
  rw[e1]
  cases hf:bsF (fun y=>IntKind.i64.wrap (key y-v)) l with
  |false=>rfl
  |true =>
   simp only[bsF,Bool.and_eq_true,decide_eq_true_eq,beq_iff_eq]at hf
   have hr:bsR (fun y=>IntKind.i64.wrap (key y-v)) l<l.length:=by omega
   refine absurd hf.2 (h4 _ ?_)
   rw[List.getD_eq_getElem?_getD,List.getElem?_eq_getElem hr];exact List.getElem_mem hr
theorem put_hit (ha:Asc key l)(hc:CmpK key (key x) c l)(hf:bsF c l=true):l.set (bsR c l) x=insT key x l:=by
 obtain⟨a1,a2,_,a4,_⟩:=bs_tab ha hc
 obtain⟨b1,b2⟩:=a4 hf
 rw[insT,←a2,←b2,List.set_eq_take_append_cons_drop,if_pos b1]
theorem put_miss (ha:Asc key l)(hc:CmpK key (key x) c l)(hf:bsF c l=false):l.take (bsR c l)++[x]++l.drop (bsR c l)=insT key x l:=by
 obtain⟨a1,a2,_,_,a5⟩:=bs_tab ha hc
 rw[insT,←a2,←a5 hf];simp
theorem fil_split:∀{l:List α},Asc key l→l.filter (fun y=>decide (key y<v))++l.filter (fun y=>decide (v<key y))=delT key v l
 |[],_=>rfl
 |y::r,ha=>by
  have ha':=List.pairwise_cons.1 ha
  have ih:=fil_split (l:=r) ha'.2
  simp only[delT]at ih ⊢
  simp only[List.filter_cons]
  by_cases h1:key y<v
  ·simp only[h1,decide_true,if_true,show ¬v<key y by omega,decide_false,Bool.false_eq_true,if_false,show ¬key y=v by omega,not_false_eq_true,List.cons_append,ih]
  ·have e:r.filter (fun y=>decide (key y<v))=[]:=filter_no fun z hz=>by have:=ha'.1 z hz;simp;omega
   rw[e,List.nil_append]at ih
   simp only[h1,decide_false,Bool.false_eq_true,if_false,e,List.nil_append]
   by_cases h2:v<key y
   ·simp only[h2,decide_true,if_true,show ¬key y=v by omega,not_false_eq_true,ih]
   ·rw[decide_eq_false h2,if_neg (by simp),ih];simp[show key y=v by omega]
theorem fil_len:∀{l:List α},Asc key l→(l.filter (fun y=>decide (key y<v))).length+(l.filter (fun y=>decide (v<key y))).length+(if l.any (fun y=>decide (key y=v))=true then 1 else 0)=l.length
 |[],_=>rfl
 |y::r,ha=>by
  have ha':=List.pairwise_cons.1 ha
  have ih:=fil_len (l:=r) ha'.2
  simp only[List.filter_cons,List.any_cons,List.length_cons]
  by_cases h1:key y<v
  ·simp only[h1,show ¬v<key y by omega,show ¬key y=v by omega,decide_true,decide_false,Bool.false_or,if_true,Bool.false_eq_true,if_false,List.length_cons];omega
  ·by_cases h2:v<key y
   ·simp only[h1,h2,show ¬key y=v by omega,decide_true,decide_false,Bool.false_or,if_true,Bool.false_eq_true,if_false,List.length_cons];omega
   ·obtain rfl:v=key y:=by omega
    have e:r.any (fun z=>decide (key z=key y))=false:=by
     rw[List.any_eq_false];intro z hz;have:=ha'.1 z hz;simp;omega
    rw[e]at ih
    simp only[Int.lt_irrefl,decide_true,decide_false,Bool.true_or,if_true,Bool.false_eq_true,if_false]at ih ⊢
    omega
theorem insT_len (ha:Asc key l):(insT key x l).length=if l.any (fun y=>decide (key y=key x))=true then l.length else l.length+1:=by
 have:=fil_len (v:=key x) ha
 simp only[insT,List.length_append,List.length_cons]
 by_cases h:l.any (fun y=>decide (key y=key x))=true
 ·rw[if_pos h]at this ⊢;omega
 ·rw[if_neg h]at this ⊢;omega
end
end Go.Proofs.YtpbiilllhjeibaaGreatDoor

namespace Go.Proofs.YtpbiilllhjeibaaGreatDoor
open Go.Sha
set_option maxRecDepth 10000
theorem F104:compF Tryz.prog 104=some ⟨45,[.tmp 4,.tmp 5],(.g [.q 3 34 1,.s 4 (.mv (.c .nils)),.c 5 0] (.z [3] (.join [0,3] (.g [.m 11 0,.f 12 64 11,.m 6 12] (.g [.m 13 6,.v 14 .neq 13 0] (.i 14 (.g [.m 15 6,.s 4 (.mv (.c .nils)),.m 5 15] (.ret [4,5])) .skip))) (.join [0,3] (.g [.d 16 2 3,.s 17 (.bslice 34 2 [.t 16]),.f 18 64 17,.m 7 18] (.g [.m 19 7,.v 20 .neq 19 0] (.i 20 (.g [.m 21 7,.s 4 (.mv (.c .nils)),.m 5 21] (.ret [4,5])) .skip))) (.g [.m 23 0,.a 24 0 3,.l 25 24,.g' 26 123 23 25,.m 22 26,.j 27 0 22,.j 28 1 22,.m 8 27,.m 9 28] (.g [.m 29 0,.f 30 174 29,.m 10 30] (.join [0,3,8,10] (.g [.m 31 9] (.i 31 (.g [.m 32 10,.m 33 8,.d 34 2 3,.r 35 2 32 33,.w 2 35 34] (.g [.m 36 10,.m 4 36,.c 5 0] (.ret [4,5]))) .skip)) (.join [3,8,10] (.g [.m 37 0,.u 38 37,.v 39 .eql 38 32] (.i 39 (.g [.s 4 (.mv (.c .nils)),.c 5 5] (.ret [4,5])) .skip)) (.g [.m 40 10,.m 41 8,.d 42 2 3,.s 43 (.bslice 34 2 [.t 42]),.s 44 (.f 175 [.t 40,.t 41,.t 43]),.m 4 44,.c 5 0] (.ret [4,5]))))))))))⟩:=by kernel_rfl
theorem F105:compF Tryz.prog 105=some ⟨25,[.tmp 4,.tmp 5,.tmp 6],(.g [.q 3 3 1,.s 4 (.mv (.c .nils)),.k 5 false,.c 6 0] (.z [3] (.join [0,3] (.g [.m 10 0,.f 11 64 10,.m 7 11] (.g [.m 12 7,.v 13 .neq 12 0] (.i 13 (.g [.m 14 7,.s 4 (.mv (.c .nils)),.k 5 false,.m 6 14] (.ret [4,5,6])) .skip))) (.g [.m 16 0,.l 17 3,.g' 18 123 16 17,.m 15 18,.j 19 0 15,.j 20 1 15,.m 8 19,.m 9 20] (.g [.m 21 0,.s 22 (.mkfn (.func 177) [] [.t 3]),.g' 23 176 21 22,.m 24 9,.m 4 23,.m 5 24,.c 6 0] (.ret [4,5,6]))))))⟩:=by kernel_rfl
def B176_0:Cd:=(.g [.b 11 .lss 10 9] (.join [1,5,8,9,10] (.i 11 .skip (.exit [5] 0)) (.join [1,5,8,9,10] (.block 1 (.g [.r 12 2 8 10,.d 13 2 12,.s 7 (.alloc 34 [.i 0,.nils]),.w 2 7 13] (.z [7] (.g [.m 14 1,.d 15 2 7,.s 16 (.call (.t 14) [.t 15])] (.i 16 (.reg [.m 17 5,.d 18 2 7,.s 19 (.bslice 34 2 [.t 18]),.s 20 (.append 34 2 32 (.t 17) (.t 19)),.m 5 20]) .skip))))) (.reg [.v 21 .add 10 1,.m 10 21]))))
theorem F176:compF Tryz.prog 176=some ⟨23,[.tmp 4],(.g [.s 4 (.mv (.c .nils))] (.g [.s 5 (.mv (.c .nils))] (.join [5] (.g [.m 8 0,.u 9 8,.c 10 0] (.block 0 (.loop [1,5,8,9,10] [(5,(34,2))] B176_0))) (.g [.m 22 5,.m 4 22] (.ret [4])))))⟩:=by kernel_rfl
theorem F177:compF Tryz.prog 177=some ⟨8,[.tmp 3],(.g [.q 2 34 0,.k 3 false] (.z [2] (.g [.a 4 0 2,.l 5 4,.l 6 1,.b 7 .neq 5 6,.m 3 7] (.ret [3]))))⟩:=by kernel_rfl
end Go.Proofs.YtpbiilllhjeibaaGreatDoor

namespace Go.Proofs.YtpbiilllhjeibaaGreatDoor
open Go.Sha
set_option maxRecDepth 100000
variable {g:List (Nat×Obj)}{n:Nat}
theorem room_ok {n b:Nat}(hr:n<140737488355328 / (b+1))(hb:0<b):roomV n b=true:=by
 simp only[roomV,Bool.and_eq_true,decide_eq_true_eq]
 have h1:n*(b+1)≤140737488355328 / (b+1)*(b+1):=Nat.mul_le_mul_right _ (by omega)
 have h2:=Nat.div_mul_le_self 140737488355328 (b+1)
 rw[Nat.mul_add]at h1
 unfold maxLen
 omega
theorem r_cln {α:Type}{k e es b:Nat}{f:α→V}{l:List α}{st:St}(hH:∀args st,HH k args st=hCln e es b args st)(hf:∀x,fastA (f x)=true)(he:∀x,(f x).cells.length=es)(hr:l.length<140737488355328 / (b+1))(hb:0<b) :
  run Tryz.prog HH k [.sl (l.map f)] st=some (.ret (.osl st.nx l.length),⟨st.nx+1,st.mem,(st.nx,⟨e,es,l.map f,true,false⟩)::st.arr,st.x⟩):=by
 have c1:(l.map f).all fastA=true:=by rw[List.all_map,List.all_eq_true];exact fun x _=>hf x
 have c2:(l.map f).all (fun y=>y.cells.length == es)=true:=by rw[List.all_map,List.all_eq_true];intro x _;simpa using he x
 have c3:roomV (l.map f).length b=true:=by rw[List.length_map];exact room_ok hr hb
 refine run_H ((hH _ _).trans ?_)
 show(if(l.map f).all fastA=true∧(l.map f).all (fun y=>y.cells.length == es)=true∧roomV (l.map f).length b=true then _ else _)=_
 rw[if_pos ⟨c1,c2,c3⟩,List.length_map]
theorem r_ins {k e e' es b id n id' m i:Nat}{xs ys zs:List V}{wr':Bool}{st:St}(hH:∀args st,HH k args st=hIns e es b args st)(h1:Sha.look st.arr id=some ⟨e,es,xs,true,false⟩)(h2:Sha.look st.arr id'=some ⟨e',es,ys,wr',false⟩)(hn:xs.length=n)(hm:ys.length=m)(hne:id'≠id)(h0:0<m)(hi:i≤n)(hr:n+m<140737488355328 / (b+1))(hb:0<b)(hz:mapO (snapA st) ys=some zs) :
  run Tryz.prog HH k [.osl id n,.int .i64 i,.osl id' m] st=some (.ret (.osl id (n+m)),{ st with arr:=updA st.arr id ⟨e,es,xs.take i++zs++xs.drop i,true,false⟩ }):=by
 refine run_H ((hH _ _).trans ?_)
 have h6:roomV (n+m) b=true:=room_ok hr hb
 simp only[hIns,h1,h2,insH]
 rw[if_pos ⟨hn,trivial,trivial,trivial,trivial,hm,trivial,trivial,hne,h0,by omega,by omega,h6⟩,hz,Option.map_some,Int.toNat_natCast]
theorem f198' {l:List Pal}{v:Int}(hl:l.length<140737488355328){st:St}:run Tryz.prog HH 198 [.sl (l.map Pal.v),.int .i64 v,.fn (.func 199) [] []] st=some (.ret (.tup [.int .i64 (bsR (fun y:Pal=>IntKind.i64.wrap (y.num-v)) l),.bool (bsF (fun y:Pal=>IntKind.i64.wrap (y.num-v)) l)]),st) :=
 BsF (f:=Pal.v) (es:=2) (fun _=>rfl) (fun _=>rfl) F198 rfl (by simp) hl (fun x st=>f199) (fun _ _=>rfl) (fun _=>rfl)
theorem f123t {l:List Pal}{v:Int}(hl:l.length<140737488355328){st:St}:run Tryz.prog HH 123 [.sl (l.map Pal.v),.int .i64 v] st=some (.ret (.tup [.int .i64 (bsR (fun y:Pal=>IntKind.i64.wrap (y.num-v)) l),.bool (bsF (fun y:Pal=>IntKind.i64.wrap (y.num-v)) l)]),st):=by
 have h:=fun(st:St)=>f198' (v:=v) hl (st:=st)
 push_cast[Pal.v]at h
 rw[run_shut F123 rfl rfl (by simp)]
 push_cast[Pal.v,h]
 all_goals first|with_reducible rfl|exact dn_eq (by omega) (by with_reducible rfl)|((repeat' split)<;>(try simp_all)<;>(try (with_reducible refine dn_eq ?_ ?_<;>first|trivial|omega|rfl))<;>(try omega))
def putE (cl cx:Int)(m:Int)(len:Nat):Int:=if ¬cl=0 then cl else if ¬cx=0 then cx else if m<(len:Int) then 5 else 0
def palT (l:List Pal)(x:Pal):Int:=putE (palsCR l) (palsCR [x]) 32 (insT Pal.num x l).length
theorem asc_pal {l:List Pal}(h:palsCR l=0):Asc Pal.num l∧∀q∈l,1≤q.num∧q.num≤1048576:=by
 obtain⟨h1,h2⟩:=pals_ok h
 exact⟨h2,fun q hq=>⟨(h1 q hq).1,(h1 q hq).2.1⟩⟩
theorem f104 {l:List Pal}{x:Pal}(hl:l.length<1000000)(hb:∀q∈l,q.hues.length<140737488355328)(hx:x.hues.length<140737488355328){st:St}:run Tryz.prog HH 104 [.sl (l.map Pal.v),x.v] st=some (.ret (.tup [.sl ((if palT l x=0 then insT Pal.num x l else[]).map Pal.v),.int .i64 (palT l x)]),st):=by
 have h125:=fun(st:St)=>f64 (l:=l) (st:=st) (by omega) hb
 have h125x:=fun(st:St)=>f64 (l:=[x]) (st:=st) (by simp) (fun q hq=>by simp at hq;subst hq;exact hx)
 rw[palsC_eq]at h125 h125x
 have h209:=fun(st:St)=>f123t (l:=l) (v:=x.num) (st:=st) (by omega)
 have h210:=fun(st:St)=>r_cln (k:=174) (e:=34) (es:=2) (b:=32) (f:=Pal.v) (l:=l) (st:=st) (fun _ _=>rfl) (fun _=>rfl) (fun _=>rfl) (by omega) (by omega)
 push_cast[Pal.v,List.map_cons,List.map_nil]at h125 h125x h209 h210
 rw[run_shut F104 rfl rfl (by simp)]
 by_cases c1:palsCR l=0
 ·by_cases c2:palsCR [x]=0
  ·obtain⟨ha,hr⟩:=asc_pal c1
   have hr':=(asc_pal c2).2 x (by simp)
   have hc:=(bs_wrap hr ha (v:=x.num) (by omega)).2 hr'
   cases hf:bsF (fun y:Pal=>IntKind.i64.wrap (y.num-x.num)) l with
   |true =>
    have e1:=put_hit ha hc hf
    have e2:=((bs_tab ha hc).2.2.2.1 hf).1
    have e3:=insT_len (x:=x) ha
    rw[←(bs_tab ha hc).2.2.1,hf,if_pos rfl]at e3
    have e4:(l.length:Int)≤32:=by unfold palsCR at c1;split at c1;cases c1;omega
    generalize hr:bsR (fun y:Pal=>IntKind.i64.wrap (y.num-x.num)) l=r at *
    have e5:l[r]?=some l[r]:=List.getElem?_eq_getElem e2
    have e6:(l.map Pal.v).set r x.v=(insT Pal.num x l).map Pal.v:=by rw[←e1,List.map_set]
    rw[Pal.v]at e6
    have e7:palT l x=0:=by rw[palT,putE,c1,c2,e3];simp;omega
    push_cast[Pal.v,h125,h125x,h209,h210,c1,c2,hf,e5,stoB,V.cells,V.recell,e6,e3,e7,List.length_map]
    exact dn_eq e2 rfl
   |false =>
    have e1:=put_miss ha hc hf
    have e2:=(bs_tab ha hc).1
    have e3:=insT_len (x:=x) ha
    rw[←(bs_tab ha hc).2.2.1,hf,if_neg (by simp)]at e3
    have e4:(l.length:Int)≤32:=by unfold palsCR at c1;split at c1;cases c1;omega
    have e6:(l.map Pal.v).take (bsR (fun y:Pal=>IntKind.i64.wrap (y.num-x.num)) l)++[x.v]++(l.map Pal.v).drop (bsR (fun y:Pal=>IntKind.i64.wrap (y.num-x.num)) l)=(insT Pal.num x l).map Pal.v:=by rw[←e1];simp
    generalize hr:bsR (fun y:Pal=>IntKind.i64.wrap (y.num-x.num)) l=r at *
    by_cases e8:l.length=32
    ·have e7:palT l x=5:=by rw[palT,putE,c1,c2,e3];simp;omega
     have e9:(l.length:Int)=32:=by omega
     push_cast[Pal.v,h125,h125x,h209,h210,c1,c2,hf,e9,e7]
    ·have e7:palT l x=0:=by rw[palT,putE,c1,c2,e3];simp;omega
     have e9:¬(l.length:Int)=32:=by omega
     rw[Pal.v]at e6
     push_cast[Pal.v,h125,h125x,h209,h210,c1,c2,hf,e9]
     rw[r_ins (e:=34) (e':=34) (es:=2) (b:=32) (n:=l.length) (m:=1) (i:=r) (xs:=l.map Pal.v) (ys:=[V.agg [.int .i64 x.num,.sl (x.hues.map Hue.v)]]) (zs:=[V.agg [.int .i64 x.num,.sl (x.hues.map Hue.v)]]) (wr':=false) (fun _ _=>rfl) rfl rfl (by simp) rfl (by decide) (by decide) (by omega) (by omega) (by decide) rfl,e6]
     push_cast[e7,e3,updA]
  ·push_cast[Pal.v,h125,h125x,c1,c2,palT,putE]
 ·push_cast[Pal.v,h125,c1,palT,putE]
end Go.Proofs.YtpbiilllhjeibaaGreatDoor

namespace Go.Proofs.YtpbiilllhjeibaaGreatDoor
open Go.Sha
set_option maxRecDepth 100000
variable {g:List (Nat×Obj)}{n:Nat}
def edC (s:Sho)(e:Edi):List V:=s.v.cells++e.v.cells
theorem edC_eq {s:Sho}{e:Edi}:edC s e=[.str s.title,.sl (s.curves.map Pt.vs),.sl (s.profs.map Prof.v),.sl (s.fixts.map Fixt.v),.sl (s.grps.map Grp.v),.sl (s.pals.map Pal.v),.sl (s.lsts.map Lst.v),.sl (s.subs.map Sb.v),.sl (s.effs.map Eff.v),
 .int .i64 e.kind,.int .i64 e.num,.int .i64 e.chan,.int .i64 e.prio,.str e.key,.str e.cue.num,.str e.cue.label,.sl (e.cue.moves.map Mov.v),.sl (e.cue.parts.map Tim.v),.bool e.cue.block,.bool e.cue.mark,.int .i64 e.cue.follow,.str e.cue.link,.int .i64 e.cue.loops,.int .i64 e.pal.num,.sl (e.pal.hues.map Hue.v),.int .i64 e.grp.num,.sl (e.grp.chans.map (V.int .i64)),.int .i64 e.sub.num,.int .i64 e.sub.prio,.bool e.sub.inh,.sl (e.sub.gains.map Gan.v),.int .i64 e.eff.num,.int .i64 e.eff.attr,.sl (e.eff.wave.map Pt.v),.int .i64 e.eff.period,.int .i64 e.eff.spread,.int .i64 e.eff.size,.int .i64 e.fix.chan,.int .i64 e.fix.part,.str e.fix.prof,.int .i64 e.fix.univ,.int .i64 e.fix.addr,.int .i64 e.fix.phase,.str e.fix.cable]:=rfl
theorem f50 {s:Sho}{e:Edi}{id:Nat}{st:St}(h:Sha.look st.mem id=some (edC s e))(hl:s.pals.length<1000000)(hb:∀q∈s.pals,q.hues.length<140737488355328)(hx:e.pal.hues.length<140737488355328) :
  run Tryz.prog HH 50 [.ptr id 0] st=some (.ret (.int .i64 (palT s.pals e.pal)),⟨st.nx,updM st.mem id (edC { s with pals:=if palT s.pals e.pal=0 then insT Pal.num e.pal s.pals else[] } e),st.arr,st.x⟩):=by
 have h148:=fun(st:St)=>f104 hl hb hx (st:=st)
 rw[edC_eq]at h ⊢
 rw[run_open F50 rfl rfl (by simp)]
 push_cast[Pal.v]at h148
 push_cast[h,h148]
def S0:Sho:=⟨[],[],[],[],[],[],[],[],[]⟩
def appR (e:Edi)(s':Sho)(c:Int):Int:=if ¬edtC e=0 then edtC e else if ¬c=0 then c else shoC s'
theorem f21_3 {s s':Sho}{e:Edi}{c:Int}(hk:e.kind=3)(hm:e.cue.moves.length<140737488355328)(hp:e.cue.parts.length<140737488355328)
  (hM:∀(id:Nat) (st:St),Sha.look st.mem id=some (edC s e)→run Tryz.prog HH 50 [.ptr id 0] st=some (.ret (.int .i64 c),⟨st.nx,updM st.mem id (edC s' e),st.arr,st.x⟩)) (hok:c=0→s'.ok) {st:St} :
  run Tryz.prog HH 21 [s.v,e.v] st=some (.ret (.tup [(if appR e s' c=0 then s' else S0).v,.int .i64 (appR e s' c)]),st):=by
 have h14:=fun(st:St)=>f46 hm hp (st:=st)
 rw[run_shut F21 rfl rfl (by simp)]
 push_cast[Edi.v,Sho.v,hk]at h14
 by_cases c1:edtC e=0
 ·push_cast[Edi.v,Sho.v,hk,h14,c1]
  rw[hM 3 _ (by rw[edC_eq,hk];rfl),edC_eq]
  by_cases c2:c=0
  ·have h18:=fun(st:St)=>f20 (hok c2) (st:=st)
   have e1:appR e s' 0=shoC s':=by rw[appR,if_neg (by simp[c1]),if_neg (by simp)]
   push_cast[Sho.v]at h18
   by_cases c3:shoC s'=0
   ·push_cast[updM,c2,e1,c3,h18]
   ·push_cast[updM,c2,e1,c3,h18,S0,List.map_nil]
  ·have e1:appR e s' c=c:=by rw[appR,if_neg (by simp[c1]),if_pos c2]
   push_cast[updM,c2,e1,S0,List.map_nil]
 ·have e1:appR e s' c=edtC e:=if_pos c1
  push_cast[Edi.v,Sho.v,hk,h14,c1,e1,S0,List.map_nil]
theorem f21_4 {s s':Sho}{e:Edi}{c:Int}(hk:e.kind=4)(hm:e.cue.moves.length<140737488355328)(hp:e.cue.parts.length<140737488355328)
  (hM:∀(id:Nat) (st:St),Sha.look st.mem id=some (edC s e)→run Tryz.prog HH 51 [.ptr id 0] st=some (.ret (.int .i64 c),⟨st.nx,updM st.mem id (edC s' e),st.arr,st.x⟩)) (hok:c=0→s'.ok) {st:St} :
  run Tryz.prog HH 21 [s.v,e.v] st=some (.ret (.tup [(if appR e s' c=0 then s' else S0).v,.int .i64 (appR e s' c)]),st):=by
 have h14:=fun(st:St)=>f46 hm hp (st:=st)
 rw[run_shut F21 rfl rfl (by simp)]
 push_cast[Edi.v,Sho.v,hk]at h14
 by_cases c1:edtC e=0
 ·push_cast[Edi.v,Sho.v,hk,h14,c1]
  rw[hM 3 _ (by rw[edC_eq,hk];rfl),edC_eq]
  by_cases c2:c=0
  ·have h18:=fun(st:St)=>f20 (hok c2) (st:=st)
   have e1:appR e s' 0=shoC s':=by rw[appR,if_neg (by simp[c1]),if_neg (by simp)]
   push_cast[Sho.v]at h18
   by_cases c3:shoC s'=0
   ·push_cast[updM,c2,e1,c3,h18]
   ·push_cast[updM,c2,e1,c3,h18,S0,List.map_nil]
  ·have e1:appR e s' c=c:=by rw[appR,if_neg (by simp[c1]),if_pos c2]
   push_cast[updM,c2,e1,S0,List.map_nil]
 ·have e1:appR e s' c=edtC e:=if_pos c1
  push_cast[Edi.v,Sho.v,hk,h14,c1,e1,S0,List.map_nil]
end Go.Proofs.YtpbiilllhjeibaaGreatDoor

namespace Go.Proofs.YtpbiilllhjeibaaGreatDoor
open Go.Sha
set_option maxRecDepth 100000
variable {g:List (Nat×Obj)}{n:Nat}
def stQ (g:List (Nat×Obj))(n e es:Nat)(xs:List V):St:=⟨n+1,[],[(n,⟨e,es,xs,false,false⟩)],⟨[],g,[]⟩⟩
@[push_cast]theorem stQ_eq {e es:Nat}{xs:List V}:stQ g n e es xs=⟨n+1,[],[(n,⟨e,es,xs,false,false⟩)],⟨[],g,[]⟩⟩:=idq rfl
theorem f177 {x:Pal}{v:Int}{st:St}:run Tryz.prog HH 177 [x.v,.ep (.agg [.int .i64 v]) 0] st=some (.ret (.bool (decide (¬x.num=v))),st):=by
 have h:(x.num != v)=decide (¬x.num=v):=by by_cases e:x.num=v<;>simp[e]
 rw[run_shut F177 rfl rfl (by simp)]
 push_cast[Pal.v,h]
 all_goals first|with_reducible rfl|exact dn_eq (by omega) (by with_reducible rfl)|((repeat' split)<;>(try simp_all)<;>(try (with_reducible refine dn_eq ?_ ?_<;>first|trivial|omega|rfl))<;>(try omega))
theorem L176 {l:List Pal}{v:Int}(hl:l.length<1000000):∀r j,l.drop j=r→∀a,a.length+r.length≤1000000 →
  runL Tryz.prog HH [1,5,8,9,10] (n+1) B176_0 [(1,.fn (.func 177) [] [.ep (.agg [.int .i64 v]) 0]),(5,.osl n a.length),(8,.sl (l.map Pal.v)),(9,.int .i64 l.length),(10,.int .i64 j)] (stQ g n 34 2 (a.map Pal.v))
   = some (.exit 0,[(5,.osl n (a++delT Pal.num v r).length)],stQ g n 34 2 ((a++delT Pal.num v r).map Pal.v)):=by
 refine drop_ind (fun j h a ha=>?_) (fun q r j h hx hd ih a ha=>?_)
 all_goals rw[runL_of B176_0.eq_1]
 ·have h1:¬(j:Int)<l.length:=by omega
  push_cast[h1,delT,List.filter_nil,Pal.v]
 ·have h1:(j:Int)<l.length:=by omega
  have h5:=fun(st:St)=>f177 (x:=q) (v:=v) (st:=st)
  push_cast[Pal.v]at h5
  have hw:=iw1 (j:=j) (by omega)
  have h4:roomV (a.length+1) 32=true:=roomV_lit (by simp at ha;omega) (by simp at ha;omega)
  by_cases h2:q.num=v
  ·have ih:=ih a (by simp at ha ⊢;omega)
   have h3:=eq_true h2
   rw[show delT Pal.num v (q::r)=delT Pal.num v r by unfold delT;rw[List.filter_cons_of_neg (by simpa using h2)]]
   push_cast[h1,hw,hx,Pal.v,h3,h5]at ih ⊢
   exact ih
  ·have ih:=ih (a++[q]) (by simp at ha ⊢;omega)
   have h3:=eq_false h2
   rw[show delT Pal.num v (q::r)=q::delT Pal.num v r by unfold delT;rw[List.filter_cons_of_pos (by simpa using h2)]]
   push_cast[h1,hw,hx,Pal.v,h3,h4,List.map_append,h5]at ih ⊢
   exact ih
theorem f176 {l:List Pal}{v:Int}(hl:l.length<1000000){st:St}:run Tryz.prog HH 176 [.sl (l.map Pal.v),.fn (.func 177) [] [.ep (.agg [.int .i64 v]) 0]] st=some (.ret (.sl ((delT Pal.num v l).map Pal.v)),st):=by
 have h0:=L176 (g:=st.x.gl) (n:=0) (v:=v) hl l 0 rfl [] (by simp;omega)
 rw[run_shut F176 rfl rfl (by simp)]
 push_cast[Pal.v]at h0
 push_cast[Pal.v,h0]
theorem f105 {l:List Pal}{v:Int}(hl:l.length<1000000)(hb:∀q∈l,q.hues.length<140737488355328){st:St}:run Tryz.prog HH 105 [.sl (l.map Pal.v),.int .i64 v] st=some (.ret (.tup [.sl ((if palsCR l=0 then delT Pal.num v l else[]).map Pal.v),.bool (if palsCR l=0 then bsF (fun y:Pal=>IntKind.i64.wrap (y.num-v)) l else false),.int .i64 (palsCR l)]),st):=by
 have h125:=fun(st:St)=>f64 (l:=l) (st:=st) (by omega) hb
 rw[palsC_eq]at h125
 have h209:=fun(st:St)=>f123t (l:=l) (v:=v) (st:=st) (by omega)
 have h212:=fun(st:St)=>f176 (l:=l) (v:=v) (st:=st) hl
 push_cast[Pal.v]at h125 h209 h212
 rw[run_shut F105 rfl rfl (by simp)]
 by_cases c:palsCR l=0
 ·push_cast[Pal.v,h125,h209,h212,c]
 ·push_cast[Pal.v,h125,c]
end Go.Proofs.YtpbiilllhjeibaaGreatDoor

namespace Go.Proofs.YtpbiilllhjeibaaGreatDoor
open Go.Sha
set_option maxRecDepth 100000
variable {g:List (Nat×Obj)}{n:Nat}{s:Sho}{e:Edi}{id:Nat}{st:St}
def gonE (b:Bool)(c:Int):Int:=if c=0∧b=false then 6 else c
theorem f98 {b:Bool}{c:Int}:run Tryz.prog HH 98 [.bool b,.int .i64 c] st=some (.ret (.int .i64 (gonE b c)),st):=by
 rw[run_shut F98 rfl rfl (by simp)]
 push_cast[gonE]
 all_goals first|with_reducible rfl|exact dn_eq (by omega) (by with_reducible rfl)|((repeat' split)<;>(try simp_all)<;>(try (with_reducible refine dn_eq ?_ ?_<;>first|trivial|omega|rfl))<;>(try omega))
def palD (l:List Pal)(v:Int):Int:=gonE (if palsCR l=0 then bsF (fun y:Pal=>IntKind.i64.wrap (y.num-v)) l else false) (palsCR l)
theorem f51 (h:Sha.look st.mem id=some (edC s e))(hl:s.pals.length<1000000)(hb:∀q∈s.pals,q.hues.length<140737488355328) :
  run Tryz.prog HH 51 [.ptr id 0] st=some (.ret (.int .i64 (palD s.pals e.num)),⟨st.nx,updM st.mem id (edC { s with pals:=if palsCR s.pals=0 then delT Pal.num e.num s.pals else[] } e),st.arr,st.x⟩):=by
 have h149:=fun(st:St)=>f105 hl hb (v:=e.num) (st:=st)
 have h142:=fun(b:Bool) (c:Int) (st:St)=>f98 (b:=b) (c:=c) (st:=st)
 rw[edC_eq]at h ⊢
 rw[run_open F51 rfl rfl (by simp)]
 push_cast[Pal.v]at h149
 push_cast[h,h149,h142,palD]
end Go.Proofs.YtpbiilllhjeibaaGreatDoor

namespace Go.Proofs.YtpbiilllhjeibaaGreatDoor
open Go.Sha
set_option maxRecDepth 10000
def B118_0:Cd:=(.join [0,1,5] (.g [.m 6 5,.m 7 0,.u 8 7,.b 9 .lss 6 8] (.i 9 .skip (.exit [] 0))) (.join [0,1,5] (.block 1 (.g [.m 12 0,.m 13 5,.r 14 2 12 13,.a 15 0 14,.l 16 15,.m 17 1,.b 18 .eql 16 17] (.i 18 (.g [.m 19 5,.m 4 19] (.ret [4])) .skip))) (.reg [.m 10 5,.v 11 .add 10 1,.m 5 11])))
theorem F118:compF Tryz.prog 118=some ⟨20,[.tmp 4],(.g [.c 4 0] (.join [] (.g [.c 5 0] (.block 0 (.loop [0,1,5] [] B118_0))) (.g [.c 4 (-1)] (.ret [4]))))⟩:=by kernel_rfl
end Go.Proofs.YtpbiilllhjeibaaGreatDoor

namespace Go.Proofs.YtpbiilllhjeibaaGreatDoor
open Go.Sha
set_option maxRecDepth 100000
variable {g:List (Nat×Obj)}{n:Nat}
theorem L118 {l:List Pal}{v:Int}(hl:l.length<140737488355328):∀r j,l.drop j=r→runL Tryz.prog HH [0,1,5] n B118_0 [(0,.sl (l.map Pal.v)),(1,.int .i64 v),(5,.int .i64 j)] (stN g n)=lpI (stN g n) [] 4 (ix (fun x=>x.num == v) r j):=by
 refine drop_ind (fun j h=>?_) (fun q r j h hx hd ih=>?_)
 all_goals rw[runL_of B118_0.eq_1]
 ·have h1:¬(j:Int)<l.length:=by omega
  push_cast[h1,ix,Pal.v]
 ·have h1:(j:Int)<l.length:=by omega
  have hw:=iw1 (j:=j) (by omega)
  push_cast[h1,hw,hx,Pal.v]at ih ⊢
  simp only[ih,ix,lps,Int.reduceEq,not_false_eq_true]
  all_goals first|with_reducible rfl|exact dn_eq (by omega) (by with_reducible rfl)|((repeat' split)<;>(try simp_all)<;>(try (with_reducible refine dn_eq ?_ ?_<;>first|trivial|omega|rfl))<;>(try omega))
theorem f118 {l:List Pal}{v:Int}(hl:l.length<140737488355328){st:St}:run Tryz.prog HH 118 [.sl (l.map Pal.v),.int .i64 v] st=some (.ret (.int .i64 (ix (fun x=>x.num == v) l 0)),st):=by
 rw[run_shut F118 rfl rfl (by simp)]
 have hL0:=fun n=>L118 (g:=st.x.gl) (n:=n) (v:=v) hl l 0 rfl
 push_cast at hL0
 push_cast[hL0,lpE,lpX,lpI,lpB]
 all_goals first|with_reducible rfl|exact dn_eq (by omega) (by with_reducible rfl)|((repeat' split)<;>(try simp_all)<;>(try (with_reducible refine dn_eq ?_ ?_<;>first|trivial|omega|rfl))<;>(try omega))
theorem L119 {l:List Hue}{c a:Int}(hl:l.length<140737488355328):∀r j,l.drop j=r→runL Tryz.prog HH [0,1,2,8] n B119_0 [(0,.sl (l.map Hue.v)),(1,.int .i64 c),(2,.int .i64 a),(8,.int .i64 j)] (stN g n)
  = match hueF r c a with
   |none=>some (.exit 0,[],stN g n)
   |some y=>some (.ret,[(6,.int .i64 y.lev),(7,.bool true)],stN g n):=by
 refine drop_ind (fun j h=>?_) (fun q r j h hx hd ih=>?_)
 all_goals rw[runL_of B119_0.eq_1]
 ·have h1:¬(j:Int)<l.length:=by omega
  rw[show hueF [] c a=none from rfl]
  push_cast[h1,Hue.v]
 ·have h1:(j:Int)<l.length:=by omega
  have hw:=iw1 (j:=j) (by omega)
  by_cases h2:q.chan=c∧q.attr=a
  ·have h3:=eq_true h2
   rw[show hueF (q::r) c a=some q by simp[hueF,h2]]
   clear ih
   push_cast[h1,hw,hx,Hue.v,h3]
  ·have h3:=eq_false h2
   rw[show hueF (q::r) c a=hueF r c a by unfold hueF;rw[List.find?_cons_of_neg (by simpa using h2)]]
   push_cast[h1,hw,hx,Hue.v,h3]at ih ⊢
   exact ih
theorem f119 {l:List Hue}{c a:Int}(hl:l.length<140737488355328){st:St}:run Tryz.prog HH 119 [.sl (l.map Hue.v),.int .i64 c,.int .i64 a] st=some (.ret (.tup [.int .i64 ((hueF l c a).map Hue.lev |>.getD 0),.bool (hueF l c a).isSome]),st):=by
 have h0:=fun n=>L119 (g:=st.x.gl) (n:=n) (c:=c) (a:=a) hl l 0 rfl
 cases hy:hueF l c a with
 |none =>
  rw[hy]at h0
  push_cast at h0
  rw[run_shut F119 rfl rfl (by simp)]
  push_cast[h0,Option.isSome_none]
 |some y =>
  rw[hy]at h0
  push_cast at h0
  rw[run_shut F119 rfl rfl (by simp)]
  push_cast[h0,Option.isSome_some]
theorem f61 {l:List Pal}{v:Int}{p:Prm}(hl:l.length<140737488355328)(hb:∀q∈l,q.hues.length<140737488355328){st:St}:run Tryz.prog HH 61 [.sl (l.map Pal.v),.int .i64 v,p.v] st=some (.ret (.tup [.int .i64 ((hueV l v p).getD 0),.bool (hueV l v p).isSome]),st):=by
 have h208:=fun(st:St)=>f118 (v:=v) (st:=st) hl
 have e0:palF l v=l.find? fun x=>x.num == v:=rfl
 cases hx:palF l v with
 |none =>
  rw[(ix_find (j:=0)).1 (e0▸hx)]at h208
  rw[run_shut F61 rfl rfl (by simp)]
  push_cast[Prm.v,Pal.v,h208,hueV,hx,Option.bind_none,Option.isSome_none]
  all_goals first|with_reducible rfl|exact dn_eq (by omega) (by with_reducible rfl)|((repeat' split)<;>(try simp_all)<;>(try (with_reducible refine dn_eq ?_ ?_<;>first|trivial|omega|rfl))<;>(try omega))
 |some x =>
  obtain⟨k,k1,k2,k3⟩:=(ix_find (j:=0)).2 x (e0▸hx)
  rw[Nat.zero_add]at k1
  rw[k1]at h208
  have k4:(k:Int)<l.length:=by omega
  have k5:¬(k:Int)<0:=by omega
  have h209:=fun(st:St) (c:Int)=>f119 (c:=c) (a:=p.attr) (st:=st) (hb x (List.mem_of_find?_eq_some hx))
  have e:hueV l v p=((hueF x.hues p.chan p.attr).or (hueF x.hues 0 p.attr)).map Hue.lev:=by rw[hueV,hx];rfl
  rw[e]
  cases hy:hueF x.hues p.chan p.attr with
  |some y =>
   rw[run_shut F61 rfl rfl (by simp)]
   push_cast[Prm.v,Pal.v,Hue.v,h208,h209,k3,k4,k5,hy,Option.some_or,Option.isSome_some]
  |none =>
   rw[run_shut F61 rfl rfl (by simp)]
   push_cast[Prm.v,Pal.v,Hue.v,h208,h209,k3,k4,k5,hy,Option.none_or,Option.isSome_none]
   cases hueF x.hues 0 p.attr<;>rfl
theorem f25 {l:List Pal}{v:Val}{p:Prm}{home:Int}(hl:l.length<140737488355328)(hb:∀q∈l,q.hues.length<140737488355328){st:St}:run Tryz.prog HH 25 [.sl (l.map Pal.v),v.v,p.v,.int .i64 home] st=some (.ret (.int .i64 (lvV l v p home)),st):=by
 have h166:=fun(st:St)=>f61 (v:=v.pal) (p:=p) (st:=st) hl hb
 cases hx:hueV l v.pal p with
 |none =>
  rw[hx]at h166
  push_cast[Prm.v,Option.isSome_none]at h166
  rw[run_shut F25 rfl rfl (by simp)]
  push_cast[Prm.v,Pal.v,Val.v,h166,lvV,hx]
  all_goals first|with_reducible rfl|exact dn_eq (by omega) (by with_reducible rfl)|((repeat' split)<;>(try simp_all)<;>(try (with_reducible refine dn_eq ?_ ?_<;>first|trivial|omega|rfl))<;>(try omega))
 |some y =>
  rw[hx]at h166
  push_cast[Prm.v,Option.isSome_some]at h166
  rw[run_shut F25 rfl rfl (by simp)]
  push_cast[Prm.v,Pal.v,Val.v,h166,lvV,hx]
  all_goals first|with_reducible rfl|exact dn_eq (by omega) (by with_reducible rfl)|((repeat' split)<;>(try simp_all)<;>(try (with_reducible refine dn_eq ?_ ?_<;>first|trivial|omega|rfl))<;>(try omega))
end Go.Proofs.YtpbiilllhjeibaaGreatDoor

namespace Go.Proofs.YtpbiilllhjeibaaGreatDoor
open Go.Sha
theorem shoC_pals {s:Sho}{l:List Pal}(h:shoC s=0)(hl:palsCR l=0):shoC { s with pals:=l }=0:=by
 have p:=shoC_parts h
 have hu:uniC s.curves s.profs s.fixts=0:=by simp[uniC,p.2.1,p.2.2.1,p.2.2.2.1]
 simp[shoC,p.1,hu,p.2.2.2.2.1,hl,p.2.2.2.2.2.2.1,p.2.2.2.2.2.2.2.1,p.2.2.2.2.2.2.2.2]
theorem palsR_of {l:List Pal}(h1:∀q∈l,1≤q.num∧q.num≤1048576∧hueLR q.hues=0)(h2:Asc Pal.num l):∀(r:List Pal) (j:Nat),l.drop j=r→palsR l r j=0
 |[],_,_=>rfl
 |q::r,j,hd=>by
  have hq:=h1 q (List.mem_of_mem_drop (hd▸List.mem_cons_self ..))
  have hj:=drop_le hd
  rw[palsR,if_neg (by omega),if_neg ?_,if_pos hq.2.2,palsR_of h1 h2 r (j+1) (drop_succ hd)]
  rintro⟨h3,h4⟩
  have e1:l.getD (j-1) default=l[j-1]:=by rw[List.getD_eq_getElem?_getD,List.getElem?_eq_getElem (by omega)];rfl
  have e2:l[j]?=some q:=by rw[←List.head?_drop,hd];rfl
  have e3:l[j]=q:=by rw[List.getElem?_eq_getElem hj]at e2;exact Option.some.inj e2
  have:=List.pairwise_iff_getElem.1 h2 (j-1) j (by omega) hj (by omega)
  rw[e1]at h4;rw[e3]at this;omega
theorem palsCR_of {l:List Pal}(h0:l.length≤32)(h1:∀q∈l,1≤q.num∧q.num≤1048576∧hueLR q.hues=0)(h2:Asc Pal.num l):palsCR l=0:=by
 rw[palsCR,if_neg (by omega)];exact palsR_of h1 h2 l 0 rfl
section
variable {α:Type}{key:α→Int}{x:α}{l:List α}{v:Int}
theorem mem_insT {y:α}(h:y∈insT key x l):y=x∨y∈l:=by
 simp only[insT,List.mem_append,List.mem_cons,List.mem_filter]at h
 rcases h with h|h|h
 ·exact .inr h.1
 ·exact .inl h
 ·exact .inr h.1
theorem asc_insT (h:Asc key l):Asc key (insT key x l):=by
 unfold Asc insT at *
 refine List.pairwise_append.2 ⟨h.filter _,List.pairwise_cons.2 ⟨fun y hy=>?_,h.filter _⟩,fun y hy z hz=>?_⟩
 ·simpa using(List.mem_filter.1 hy).2
 ·have h1:key y<key x:=by simpa using(List.mem_filter.1 hy).2
  rcases List.mem_cons.1 hz with rfl|hz
  ·exact h1
  ·have h2:key x<key z:=by simpa using(List.mem_filter.1 hz).2
   omega
theorem asc_delT (h:Asc key l):Asc key (delT key v l):=h.filter _
theorem delT_mem {y:α}(h:y∈delT key v l):y∈l:=(List.mem_filter.1 h).1
theorem any_insT:(insT key x l).any (fun y=>decide (key y=key x))=true:=by simp[insT]
theorem find_insT_eq:(insT key x l).find? (fun y=>decide (key y=key x))=some x:=by
 rw[insT,List.find?_append,List.find?_eq_none.2,List.find?_cons_of_pos (by simp)]
 ·rfl
 ·intro y hy;have:=(List.mem_filter.1 hy).2;simp at this ⊢;omega
theorem find_delT (h:Asc key l){n:Int}(hn:¬n=v):(delT key v l).find? (fun y=>decide (key y=n))=l.find? (fun y=>decide (key y=n)):=by
 rw[delT,List.find?_filter]
 refine find_congr fun y _=>?_
 rw[decide_eq_decide];simp only[decide_eq_true_eq]
 exact⟨fun h=>h.2,fun h=>⟨fun e=>hn (h▸e),h⟩⟩
theorem find_delT_eq:(delT key v l).find? (fun y=>decide (key y=v))=none:=by
 refine List.find?_eq_none.2 fun y hy=>?_
 have:=(List.mem_filter.1 hy).2
 simpa using this
theorem find_insT [Inhabited α](h:Asc key l){n:Int}(hn:¬n=key x):(insT key x l).find? (fun y=>decide (key y=n))=l.find? (fun y=>decide (key y=n)):=by
 rw[←find_delT h hn,←fil_split h,insT,List.find?_append,List.find?_append,List.find?_cons_of_neg (by simpa using fun e=>hn e.symm)]
end
section
variable {l:List Pal}{x:Pal}
theorem pals_ins (h:palsCR l=0)(hx:palsCR [x]=0)(hn:¬(32:Int)<(insT Pal.num x l).length):palsCR (insT Pal.num x l)=0:=by
 obtain⟨h1,h2⟩:=pals_ok h
 obtain⟨h3,_⟩:=pals_ok hx
 refine palsCR_of (by omega) (fun q hq=>?_) (asc_insT h2)
 rcases mem_insT hq with rfl|hq
 ·exact h3 _ (List.mem_cons_self ..)
 ·exact h1 q hq
theorem pals_del {v:Int}(h:palsCR l=0):palsCR (delT Pal.num v l)=0:=by
 obtain⟨h1,h2⟩:=pals_ok h
 refine palsCR_of ?_ (fun q hq=>h1 q (delT_mem hq)) (asc_delT h2)
 exact Nat.le_trans (List.length_filter_le _ _) (pals_len h)
theorem palF_ins_eq:palF (insT Pal.num x l) x.num=some x:=find_insT_eq
theorem palF_ins (h:palsCR l=0){n:Int}(hn:¬n=x.num):palF (insT Pal.num x l) n=palF l n:=find_insT (pals_ok h).2 hn
theorem palF_del_eq {v:Int}:palF (delT Pal.num v l) v=none:=find_delT_eq
theorem palF_del (h:palsCR l=0){n v:Int}(hn:¬n=v):palF (delT Pal.num v l) n=palF l n:=find_delT (pals_ok h).2 hn
end
def telA (l:List Pal)(x:Pal)(p:Prm)(home i:Int):Prop :=
 (i=x.num→lvV (insT Pal.num x l) ⟨i,0⟩ p home=lvV [x] ⟨x.num,0⟩ p home∧lvV (delT Pal.num x.num (insT Pal.num x l)) ⟨i,0⟩ p home=home) ∧
 (¬i=x.num→lvV (insT Pal.num x l) ⟨i,0⟩ p home=lvV l ⟨i,0⟩ p home∧lvV (delT Pal.num x.num (insT Pal.num x l)) ⟨i,0⟩ p home=lvV l ⟨i,0⟩ p home)
theorem tel_ok {l:List Pal}{x:Pal}{p:Prm}{home i:Int}(h:palsCR l=0)(hx:palsCR [x]=0)(hn:¬(32:Int)<(insT Pal.num x l).length)(hi:1≤i):telA l x p home i:=by
 have h2:=pals_ins h hx hn
 have e0:palF [x] x.num=some x:=by simp[palF]
 refine⟨fun e=>?_,fun e=>?_⟩
 ·subst e
  simp only[lvV,if_neg (show ¬x.num=0 by omega),hueV,palF_ins_eq,palF_del_eq,e0,Option.bind_none,Option.getD_none,and_self]
 ·simp only[lvV,if_neg (show ¬i=0 by omega),hueV,palF_ins h e,palF_del h2 e,and_self]
end Go.Proofs.YtpbiilllhjeibaaGreatDoor

namespace Go.Proofs.YtpbiilllhjeibaaGreatDoor
open Go.Sha
set_option maxRecDepth 100000
variable {g:List (Nat×Obj)}{n:Nat}
theorem f9 {s s':Sho}{e:Edi}{c:Int}(hs:s.ok)(hA:∀st:St,run Tryz.prog HH 21 [s.v,e.v] st=some (.ret (.tup [s'.v,.int .i64 c]),st)){st:St} :
  run Tryz.prog HH 9 [s.v,e.v] st=some (.ret (.tup [(if shoC s=0 then s' else S0).v,.int .i64 (if shoC s=0 then c else shoC s)]),st):=by
 have h18:=fun(st:St)=>f20 hs (st:=st)
 rw[run_shut F9 rfl rfl (by simp)]
 push_cast[Edi.v,Sho.v]at hA h18
 by_cases h:shoC s=0
 ·push_cast[Edi.v,Sho.v,hA,h18,h]
 ·push_cast[Edi.v,Sho.v,h18,h,S0,List.map_nil]
end Go.Proofs.YtpbiilllhjeibaaGreatDoor

namespace Go.Proofs.YtpbiilllhjeibaaGreatDoor
open Go.Sha
set_option maxRecDepth 100000
theorem f11 {l:List Pal}{v:Val}{p:Prm}{home:Int}(hl:l.length<140737488355328)(hb:∀q∈l,q.hues.length<140737488355328)(hp:palsCR l=0)(hv:valC v=0)(hq:prmC 1 p=0)(hh:lvl home){st:St} :
  run Tryz.prog HH 11 [.sl (l.map Pal.v),v.v,p.v,.int .i64 home] st=some (.ret (.tup [.int .i64 (lvV l v p home),.int .i64 0]),st):=by
 have h7:=fun(st:St)=>f7 hl hb (st:=st)
 have h23:=fun(st:St)=>f23 (x:=v) (st:=st)
 have h8:=fun(st:St)=>f8 (x:=p) (st:=st)
 have h24:=fun(st:St)=>f24 (st:=st) (v:=home)
 have h25:=fun(st:St)=>f25 hl hb (v:=v) (p:=p) (home:=home) (st:=st)
 have h5:¬(home<0∨65535<home):=by unfold lvl at hh;omega
 push_cast[Pal.v,Val.v,Prm.v]at h7 h23 h8 h25
 rw[run_shut F11 rfl rfl (by simp)]
 push_cast[Pal.v,Val.v,Prm.v,h7,h23,h8,h24,h25,hp,hv,hq,h5]
 rw[if_neg (fun h=>h hh),if_neg (fun h=>h hh)]
end Go.Proofs.YtpbiilllhjeibaaGreatDoor

namespace Go.Proofs.YtpbiilllhjeibaaGreatDoor
open Go.Sha
set_option maxRecDepth 100000
theorem f5 {s:Sho}(h:s.ok){b:Bool}(hF:∀st:St,run Tryz.prog HH 17 [s.v] st=some (.ret (.bool b),st)){st:St}:run Tryz.prog HH 5 [s.v] st=some (.ret (.bool (b&&shoC s == 0)),st):=by
 have h18:=fun(st:St)=>f18 h (st:=st)
 rw[run_shut F5 rfl rfl (by simp)]
 push_cast[Sho.v]at hF h18
 cases b with
 |true=>push_cast[Sho.v,hF,h18]
 |false=>push_cast[Sho.v,hF]
end Go.Proofs.YtpbiilllhjeibaaGreatDoor

namespace Go.Proofs.YtpbiilllhjeibaaGreatDoor
open Go.Sha
set_option maxRecDepth 100000
theorem e4 (g:List (Nat×Obj)):evK Tryz.prog HH 100 30 4 [] (stG g)=some (.ret (.bool true),stG g):=by kernel_rfl
theorem at_gl {f:FuncId}{args:List V}{st:St}{r:VRes}(h:run Tryz.prog HH f args (stG st.x.gl)=some (r,stG st.x.gl))(hF:(compF Tryz.prog f).isSome=true)(hH:∀s:St,HH f args s=none)(hb:V.bdL 0 args=true):run Tryz.prog HH f args st=some (r,st):=by
 obtain⟨F,hF⟩:=Option.isSome_iff_exists.1 hF
 rw[run_eq (hH _) hF]at h ⊢
 unfold endF at h ⊢
 split at h
 ·rename_i hl
  rw[if_pos hl,if_pos hb]
  change shutR (stG st.x.gl) (rawE F.res (runC Tryz.prog HH F.c (argEnv 0 args) (stG st.x.gl)))=_ at h
  change shutR st (rawE F.res (runC Tryz.prog HH F.c (argEnv 0 args) (stG st.x.gl)))=_
  generalize rawE F.res (runC Tryz.prog HH F.c (argEnv 0 args) (stG st.x.gl))=X at h ⊢
  match X,h with
  |some (.ret v,s),h =>
   simp only[shutR]at h ⊢
   cases hg:(shutV s v).bd 0 with
   |true=>rw[hg]at h;simp only[guardT]at h ⊢;cases h;rfl
   |false=>rw[hg]at h;cases h
  |some (.pan v,s),h =>
   simp only[shutR]at h ⊢
   cases hg:(shutV s v).bd 0 with
   |true=>rw[hg]at h;simp only[guardT]at h ⊢;cases h;rfl
   |false=>rw[hg]at h;cases h
 ·cases h
theorem f4 {st:St}:run Tryz.prog HH 4 [] st=some (.ret (.bool true),st) :=
 at_gl (evK_run (e4 st.x.gl)) (by rw[F4];rfl) (fun _=>rfl) rfl
end Go.Proofs.YtpbiilllhjeibaaGreatDoor

namespace Go.Proofs.YtpbiilllhjeibaaGreatDoor
open Go.Sha
set_option maxRecDepth 100000
variable {g:List (Nat×Obj)}{n:Nat}
theorem L3 {mem:List (Nat×List V)}{arr:List (Nat×Arr)}{ex:Ex}{s a b:Sho}{x:Pal}{p:Prm}{home told:Int}(hs:s.ok)(ha:a.ok)(hb:b.ok)(cs:shoC s=0)(ca:shoC a=0)(cb:shoC b=0)(cp:prmC 1 p=0)
  (hT:∀i:Int,1≤i→i≤6→(i=x.num→levV a p ⟨i,0⟩=told∧levV b p ⟨i,0⟩=home)∧(¬i=x.num→levV a p ⟨i,0⟩=levV s p ⟨i,0⟩∧levV b p ⟨i,0⟩=levV s p ⟨i,0⟩)):∀(k:Nat) (i:Int),i+k=7→1≤i →
  runL Tryz.prog HH [3,4,5,7,9,11,14,16] n B3_0 [(3,.ep s.v 0),(4,.ep x.v 0),(5,.ep p.v 0),(7,.ep a.v 0),(9,.ep b.v 0),(11,.int .i64 home),(14,.int .i64 told),(16,.int .i64 i)] ⟨n,mem,arr,ex⟩=some (.exit 0,[],⟨n,mem,arr,ex⟩):=by
 intro k
 induction k with
 |zero =>
  intro i h1 h2
  rw[runL_of B3_0.eq_1]
  have h3:¬i≤6:=by omega
  push_cast[h3]
 |succ k ih =>
  intro i h1 h2
  have h3:i≤6:=by omega
  have ih:=ih (i+1) (by omega) (by omega)
  have hw:IntKind.i64.wrap (i+1)=i+1:=iwrap (by omega) (by omega)
  have hv:valC ⟨i,0⟩=0:=if_pos (.inr ⟨by simp only;omega,by simp only;omega,by simp only;omega,rfl⟩)
  have g1:=fun(st:St)=>f13 (p:=p) (v:=⟨i,0⟩) (st:=st) hs
  have g2:=fun(st:St)=>f13 (p:=p) (v:=⟨i,0⟩) (st:=st) ha
  have g3:=fun(st:St)=>f13 (p:=p) (v:=⟨i,0⟩) (st:=st) hb
  have e1:levE s p ⟨i,0⟩=0:=by simp[levE,cs,hv,cp]
  have e2:levE a p ⟨i,0⟩=0:=by simp[levE,ca,hv,cp]
  have e3:levE b p ⟨i,0⟩=0:=by simp[levE,cb,hv,cp]
  rw[e1]at g1;rw[e2]at g2;rw[e3]at g3
  obtain⟨t1,t2⟩:=hT i h2 h3
  push_cast[Sho.v,Pal.v,Prm.v,Val.v]at g1 g2 g3 ih
  rw[runL_of B3_0.eq_1]
  by_cases h4:i=x.num
  ·obtain⟨u1,u2⟩:=t1 h4
   rw[u1]at g2;rw[u2]at g3
   push_cast[Sho.v,Pal.v,Prm.v,Val.v,h3,g1,g2,g3,hw,ih,eq_true h4]
  ·obtain⟨u1,u2⟩:=t2 h4
   rw[u1]at g2;rw[u2]at g3
   push_cast[Sho.v,Pal.v,Prm.v,Val.v,h3,g1,g2,g3,hw,ih,h4]
def edP (k v:Int)(x:Pal):Edi:=⟨k,v,0,0,[],⟨[],[],[],[],false,false,0,[],0⟩,x,⟨0,[]⟩,⟨0,0,false,[]⟩,⟨0,0,[],0,0,0⟩,⟨0,0,[],0,0,0,[]⟩⟩
theorem edP_pal {k v:Int}{x:Pal}:(edP k v x).pal=x:=rfl
theorem edP_num {k v:Int}{x:Pal}:(edP k v x).num=v:=rfl
theorem edP3 {x:Pal}:edtC (edP 3 0 x)=0:=by
 simp[edtC,edP,useR,uses,zCu]
theorem edP4 {v:Int}:edtC (edP 4 v ⟨0,[]⟩)=0:=by
 simp[edtC,edP,useR,uses,zCu]
theorem l3 {s:Sho}{x:Pal}{p:Prm}(h:s.ok)(hx:x.hues.length<140737488355328){st:St}:run Tryz.prog HH 3 [s.v,x.v,p.v] st=some (.ret (.bool true),st):=by
 obtain⟨b,h17⟩:=f17 h
 have h5:=fun(st:St)=>f5 h h17 (st:=st)
 obtain⟨b6,h6⟩:=f6 (l:=[x]) (by simp)
 have h7:=fun(st:St)=>f7 (l:=[x]) (by simp) (fun q hq=>by simp at hq;subst hq;exact hx) (st:=st)
 have h8:=fun(st:St)=>f8 (x:=p) (st:=st)
 have h4:=fun(st:St)=>f4 (st:=st)
 rw[run_shut F3 rfl rfl (by simp)]
 by_cases c1:¬(b=true∧shoC s=0)
 ·have e1:(b&&shoC s == 0)=false:=by rw[Bool.eq_false_iff];intro e;simp at e;exact c1 e
  rw[e1]at h5
  push_cast[Sho.v]at h5
  push_cast[Sho.v,h4,h5]
 obtain⟨rfl,d1⟩:=Classical.not_not.1 c1
 have e1:(true&&shoC s == 0)=true:=by simp[d1]
 rw[e1]at h5
 by_cases c2:¬(b6=true∧palsCR [x]=0)
 ·push_cast[Sho.v,Pal.v,List.map_cons,List.map_nil]at h5 h6 h7
  cases b6 with
  |false=>push_cast[Sho.v,Pal.v,h4,h5,h6]
  |true =>
   have c2':¬palsCR [x]=0:=fun e=>c2 ⟨rfl,e⟩
   push_cast[Sho.v,Pal.v,h4,h5,h6,h7,c2']
 obtain⟨rfl,d2⟩:=Classical.not_not.1 c2
 by_cases c3:¬prmC 1 p=0
 ·push_cast[Sho.v,Pal.v,Prm.v,List.map_cons,List.map_nil]at h5 h6 h7 h8
  push_cast[Sho.v,Pal.v,Prm.v,h4,h5,h6,h7,h8,d2,c3]
 have d3:=Classical.not_not.1 c3
 have hp:=(shoC_parts d1).2.2.2.2.2.1
 have hl:=pals_len hp
 have hxk:=(pals_ok d2).1 x (List.mem_cons_self ..)
 have okP':∀l:List Pal,l.length≤33→(∀q∈l,q=x∨q∈s.pals)→({ s with pals:=l }:Sho).ok:=fun l h1 h2=>⟨h.t,h.c,h.p,h.f,h.g,⟨by show l.length<_;omega,fun q hq=>by
  rcases h2 q hq with rfl|e
  ·exact hx
  ·exact h.l.2 q e⟩,h.k,h.s,h.e⟩
 have hlen:(insT Pal.num x s.pals).length≤33:=by
  have:=insT_len (x:=x) (pals_ok hp).2
  split at this<;>omega
 have okA:({ s with pals:=insT Pal.num x s.pals }:Sho).ok:=okP' _ hlen fun q hq=>mem_insT hq
 have h9:∀st:St,run Tryz.prog HH 9 [s.v,(edP 3 0 x).v] st=some (.ret (.tup [(if palT s.pals x=0 then({ s with pals:=insT Pal.num x s.pals }:Sho) else S0).v,.int .i64 (palT s.pals x)]),st):=fun st=>by
  by_cases c4:palT s.pals x=0
  ·have k1:=f9 (e:=edP 3 0 x) (st:=st) h (fun st=>f21_3 (s:=s) (e:=edP 3 0 x) (st:=st) rfl (by simp[edP]) (by simp[edP]) (fun id st hid=>f50 hid (by omega) h.l.2 hx) (fun e=>by simpa [edP,c4] using okA))
   have k2:shoC ({ s with pals:=insT Pal.num x s.pals }:Sho)=0:=shoC_pals d1 (pals_ins hp d2 fun e=>by simp[palT,putE,hp,d2,e]at c4)
   rw[if_pos d1,if_pos d1]at k1
   simpa [appR,edP3,edP_pal,c4,k2] using k1
  ·have k1:=f9 (e:=edP 3 0 x) (st:=st) h (fun st=>f21_3 (s:=s) (e:=edP 3 0 x) (st:=st) rfl (by simp[edP]) (by simp[edP]) (fun id st hid=>f50 hid (by omega) h.l.2 hx) (fun e=>absurd e (by simpa [edP] using c4)))
   rw[if_pos d1,if_pos d1]at k1
   have c4':¬palT s.pals (edP 3 0 x).pal=0:=c4
   simpa [appR,edP3,edP_pal,c4',c4] using k1
 by_cases c4:¬palT s.pals x=0
 ·have e4:palT s.pals x=5:=by
   simp only[palT,putE,hp,d2,not_true_eq_false,if_false]at c4 ⊢
   split at c4
   ·rename_i e;rw[if_pos e]
   ·exact absurd rfl c4
  rw[e4]at h9
  push_cast[Sho.v,Pal.v,Prm.v,Edi.v,edP,S0,Cu.v,List.map_cons,List.map_nil]at h5 h6 h7 h8 h9
  push_cast[Sho.v,Pal.v,Prm.v,h4,h5,h6,h7,h8,h9,d2,d3]
 have d4:=Classical.not_not.1 c4
 have c5:¬(32:Int)<(insT Pal.num x s.pals).length:=fun e=>by simp[palT,putE,hp,d2,e]at d4
 have pA:=pals_ins hp d2 c5
 have cA:shoC ({ s with pals:=insT Pal.num x s.pals }:Sho)=0:=shoC_pals d1 pA
 have pB:=pals_del (v:=x.num) pA
 have cB:shoC ({ s with pals:=delT Pal.num x.num (insT Pal.num x s.pals) }:Sho)=0:=shoC_pals d1 pB
 have okB:({ s with pals:=delT Pal.num x.num (insT Pal.num x s.pals) }:Sho).ok:=okP' _ (Nat.le_trans (List.length_filter_le _ _) hlen) fun q hq=>mem_insT (delT_mem hq)
 have hD:palD (insT Pal.num x s.pals) x.num=0:=by
  obtain⟨ha,hr⟩:=asc_pal pA
  have hc:=(bs_wrap hr ha (v:=x.num) (by omega)).2 (by omega)
  have e:bsF (fun y:Pal=>IntKind.i64.wrap (y.num-x.num)) (insT Pal.num x s.pals)=true:=by rw[(bs_tab ha hc).2.2.1];exact any_insT
  simp[palD,pA,e,gonE]
 have h9':∀st:St,run Tryz.prog HH 9 [({ s with pals:=insT Pal.num x s.pals }:Sho).v,(edP 4 x.num ⟨0,[]⟩).v] st=some (.ret (.tup [({ s with pals:=delT Pal.num x.num (insT Pal.num x s.pals) }:Sho).v,.int .i64 0]),st):=fun st=>by
  have k1:=f9 (e:=edP 4 x.num ⟨0,[]⟩) (st:=st) okA (fun st=>f21_4 (s:={ s with pals:=insT Pal.num x s.pals }) (e:=edP 4 x.num ⟨0,[]⟩) (st:=st) rfl (by simp[edP]) (by simp[edP]) (fun id st hid=>f51 hid (by show(insT Pal.num x s.pals).length<_;omega) okA.l.2) (fun e=>by simpa [edP,pA] using okB))
  rw[if_pos cA,if_pos cA]at k1
  simpa [appR,edP4,edP_num,hD,pA,cB] using k1
 have eh:(ftrP s p).home=((ownR s p).getD F0).home:=by rw[ftrP,if_pos (by simp[ftrE,d1,d3]),(own_eq d1).1]
 have e10:ftrE s p=0:=by simp[ftrE,d1,d3]
 have hh:=own_home (p:=p) d1
 have h10:=fun(st:St)=>f10 (p:=p) (st:=st) h
 rw[e10,eh]at h10
 have hv:valC ⟨x.num,0⟩=0:=if_pos (.inr ⟨by simp only;omega,by simp only;omega,by simp only;omega,rfl⟩)
 have h12:=fun(st:St)=>f12 (v:=x.num) (st:=st)
 have h11:=fun(st:St)=>f11 (l:=[x]) (v:=⟨x.num,0⟩) (p:=p) (home:=((ownR s p).getD F0).home) (st:=st) (by simp) (fun q hq=>by simp at hq;subst hq;exact hx) d2 hv d3 hh
 generalize ehm:((ownR s p).getD F0).home=home at *
 have hL:=fun(mem:List (Nat×List V)) (arr:List (Nat×Arr)) (ex:Ex) (n:Nat)=>L3 (mem:=mem) (arr:=arr) (ex:=ex) (n:=n) (x:=x) (p:=p) (home:=home) (told:=lvV [x] ⟨x.num,0⟩ p home) h okA okB d1 cA cB d3 (fun i h1 h2=>by
  have ht:=tel_ok (p:=p) (home:=home) (i:=i) hp d2 c5 h1
  have hw:valC ⟨i,0⟩=0:=if_pos (.inr ⟨by simp only;omega,by simp only;omega,by simp only;omega,rfl⟩)
  have k1:levV s p ⟨i,0⟩=lvV s.pals ⟨i,0⟩ p home:=by simp only[levV,levE,d1,hw,d3,not_true_eq_false,if_false,if_true,ehm]
  have k2:levV { s with pals:=insT Pal.num x s.pals } p ⟨i,0⟩=lvV (insT Pal.num x s.pals) ⟨i,0⟩ p home:=by
   simp only[levV,levE,cA,hw,d3,not_true_eq_false,if_false,if_true];exact congrArg (lvV _ _ _) ehm
  have k3:levV { s with pals:=delT Pal.num x.num (insT Pal.num x s.pals) } p ⟨i,0⟩=lvV (delT Pal.num x.num (insT Pal.num x s.pals)) ⟨i,0⟩ p home:=by
   simp only[levV,levE,cB,hw,d3,not_true_eq_false,if_false,if_true];exact congrArg (lvV _ _ _) ehm
  rw[k1,k2,k3];exact ht) 6 1 rfl (by decide)
 rw[d4,if_pos rfl]at h9
 generalize lvV [x] ⟨x.num,0⟩ p home=told at *
 push_cast[Sho.v,Pal.v,Prm.v,Val.v,Edi.v,edP,Cu.v,List.map_cons,List.map_nil]at h5 h6 h7 h8 h9 h9' h10 h11 h12 hL
 push_cast[Sho.v,Pal.v,Prm.v,Val.v,h4,h5,h6,h7,h8,h9,h9',h10,h11,h12,hL,d2,d3]
end Go.Proofs.YtpbiilllhjeibaaGreatDoor

namespace Go.Proofs.YtpbiilllhjeibaaGreatDoor
open Go.Sha
def Pt.sh:List CSh:=[.int .i64,.int .i64]
structure Pt.Dk (z:Pt):Prop where
 x:-9223372036854775808≤z.x∧z.x≤9223372036854775807
 y:-9223372036854775808≤z.y∧z.y≤9223372036854775807
theorem Pt.rd {vs:List V}(h:OkCs Pt.sh vs):∃x:Pt,V.agg vs=x.v∧x.Dk:=by
 obtain⟨v0,r0,rfl,h0,t0⟩:=h.cons_inv
 obtain⟨v1,r1,rfl,h1,t1⟩:=t0.cons_inv
 obtain rfl:=t1.nil_inv
 obtain⟨y0,rfl,b0⟩:=h0.i64_inv
 obtain⟨y1,rfl,b1⟩:=h1.i64_inv
 exact⟨⟨y0,y1⟩,rfl,⟨b0,b1⟩⟩
def Slt.sh:List CSh:=[.str,.int .i64,.int .i64]
structure Slt.Dk (z:Slt):Prop where
 name:z.name.length≤140737488351232
 fr:-9223372036854775808≤z.fr∧z.fr≤9223372036854775807
 to_:-9223372036854775808≤z.to_∧z.to_≤9223372036854775807
theorem Slt.rd {vs:List V}(h:OkCs Slt.sh vs):∃x:Slt,V.agg vs=x.v∧x.Dk:=by
 obtain⟨v0,r0,rfl,h0,t0⟩:=h.cons_inv
 obtain⟨v1,r1,rfl,h1,t1⟩:=t0.cons_inv
 obtain⟨v2,r2,rfl,h2,t2⟩:=t1.cons_inv
 obtain rfl:=t2.nil_inv
 obtain⟨y0,rfl,b0⟩:=h0.str_inv
 obtain⟨y1,rfl,b1⟩:=h1.i64_inv
 obtain⟨y2,rfl,b2⟩:=h2.i64_inv
 exact⟨⟨y0,y1,y2⟩,rfl,⟨b0,b1,b2⟩⟩
def Ftr.sh:List CSh:=[.int .i64,.int .i64,.int .i64,.int .i64,.int .i64,.int .i64,.int .i64,.int .i64,.bool,.sl true 32 Slt.sh]
structure Ftr.Dk (z:Ftr):Prop where
 attr:-9223372036854775808≤z.attr∧z.attr≤9223372036854775807
 bits:-9223372036854775808≤z.bits∧z.bits≤9223372036854775807
 coarse:-9223372036854775808≤z.coarse∧z.coarse≤9223372036854775807
 fine:-9223372036854775808≤z.fine∧z.fine≤9223372036854775807
 curve:-9223372036854775808≤z.curve∧z.curve≤9223372036854775807
 home:-9223372036854775808≤z.home∧z.home≤9223372036854775807
 low:-9223372036854775808≤z.low∧z.low≤9223372036854775807
 high:-9223372036854775808≤z.high∧z.high≤9223372036854775807
 snap:True
 wheel:z.wheel.length≤140737488351232∧∀q∈z.wheel,q.Dk
theorem Ftr.rd {vs:List V}(h:OkCs Ftr.sh vs):∃x:Ftr,V.agg vs=x.v∧x.Dk:=by
 obtain⟨v0,r0,rfl,h0,t0⟩:=h.cons_inv
 obtain⟨v1,r1,rfl,h1,t1⟩:=t0.cons_inv
 obtain⟨v2,r2,rfl,h2,t2⟩:=t1.cons_inv
 obtain⟨v3,r3,rfl,h3,t3⟩:=t2.cons_inv
 obtain⟨v4,r4,rfl,h4,t4⟩:=t3.cons_inv
 obtain⟨v5,r5,rfl,h5,t5⟩:=t4.cons_inv
 obtain⟨v6,r6,rfl,h6,t6⟩:=t5.cons_inv
 obtain⟨v7,r7,rfl,h7,t7⟩:=t6.cons_inv
 obtain⟨v8,r8,rfl,h8,t8⟩:=t7.cons_inv
 obtain⟨v9,r9,rfl,h9,t9⟩:=t8.cons_inv
 obtain rfl:=t9.nil_inv
 obtain⟨y0,rfl,b0⟩:=h0.i64_inv
 obtain⟨y1,rfl,b1⟩:=h1.i64_inv
 obtain⟨y2,rfl,b2⟩:=h2.i64_inv
 obtain⟨y3,rfl,b3⟩:=h3.i64_inv
 obtain⟨y4,rfl,b4⟩:=h4.i64_inv
 obtain⟨y5,rfl,b5⟩:=h5.i64_inv
 obtain⟨y6,rfl,b6⟩:=h6.i64_inv
 obtain⟨y7,rfl,b7⟩:=h7.i64_inv
 obtain⟨y8,rfl⟩:=h8.bool_inv
 have b8:=trivial
 obtain⟨y9,rfl,b9⟩:=h9.agg_inv (f:=Slt.v) (by decide) (fun _=>Slt.rd)
 exact⟨⟨y0,y1,y2,y3,y4,y5,y6,y7,y8,y9⟩,rfl,⟨b0,b1,b2,b3,b4,b5,b6,b7,b8,b9⟩⟩
def Prof.sh:List CSh:=[.str,.int .i64,.int .i64,.sl true 96 Ftr.sh]
structure Prof.Dk (z:Prof):Prop where
 name:z.name.length≤140737488351232
 foot:-9223372036854775808≤z.foot∧z.foot≤9223372036854775807
 watts:-9223372036854775808≤z.watts∧z.watts≤9223372036854775807
 feats:z.feats.length≤140737488351232∧∀q∈z.feats,q.Dk
theorem Prof.rd {vs:List V}(h:OkCs Prof.sh vs):∃x:Prof,V.agg vs=x.v∧x.Dk:=by
 obtain⟨v0,r0,rfl,h0,t0⟩:=h.cons_inv
 obtain⟨v1,r1,rfl,h1,t1⟩:=t0.cons_inv
 obtain⟨v2,r2,rfl,h2,t2⟩:=t1.cons_inv
 obtain⟨v3,r3,rfl,h3,t3⟩:=t2.cons_inv
 obtain rfl:=t3.nil_inv
 obtain⟨y0,rfl,b0⟩:=h0.str_inv
 obtain⟨y1,rfl,b1⟩:=h1.i64_inv
 obtain⟨y2,rfl,b2⟩:=h2.i64_inv
 obtain⟨y3,rfl,b3⟩:=h3.agg_inv (f:=Ftr.v) (by decide) (fun _=>Ftr.rd)
 exact⟨⟨y0,y1,y2,y3⟩,rfl,⟨b0,b1,b2,b3⟩⟩
def Fixt.sh:List CSh:=[.int .i64,.int .i64,.str,.int .i64,.int .i64,.int .i64,.str]
structure Fixt.Dk (z:Fixt):Prop where
 chan:-9223372036854775808≤z.chan∧z.chan≤9223372036854775807
 part:-9223372036854775808≤z.part∧z.part≤9223372036854775807
 prof:z.prof.length≤140737488351232
 univ:-9223372036854775808≤z.univ∧z.univ≤9223372036854775807
 addr:-9223372036854775808≤z.addr∧z.addr≤9223372036854775807
 phase:-9223372036854775808≤z.phase∧z.phase≤9223372036854775807
 cable:z.cable.length≤140737488351232
theorem Fixt.rd {vs:List V}(h:OkCs Fixt.sh vs):∃x:Fixt,V.agg vs=x.v∧x.Dk:=by
 obtain⟨v0,r0,rfl,h0,t0⟩:=h.cons_inv
 obtain⟨v1,r1,rfl,h1,t1⟩:=t0.cons_inv
 obtain⟨v2,r2,rfl,h2,t2⟩:=t1.cons_inv
 obtain⟨v3,r3,rfl,h3,t3⟩:=t2.cons_inv
 obtain⟨v4,r4,rfl,h4,t4⟩:=t3.cons_inv
 obtain⟨v5,r5,rfl,h5,t5⟩:=t4.cons_inv
 obtain⟨v6,r6,rfl,h6,t6⟩:=t5.cons_inv
 obtain rfl:=t6.nil_inv
 obtain⟨y0,rfl,b0⟩:=h0.i64_inv
 obtain⟨y1,rfl,b1⟩:=h1.i64_inv
 obtain⟨y2,rfl,b2⟩:=h2.str_inv
 obtain⟨y3,rfl,b3⟩:=h3.i64_inv
 obtain⟨y4,rfl,b4⟩:=h4.i64_inv
 obtain⟨y5,rfl,b5⟩:=h5.i64_inv
 obtain⟨y6,rfl,b6⟩:=h6.str_inv
 exact⟨⟨y0,y1,y2,y3,y4,y5,y6⟩,rfl,⟨b0,b1,b2,b3,b4,b5,b6⟩⟩
def Prm.sh:List CSh:=[.int .i64,.int .i64]
structure Prm.Dk (z:Prm):Prop where
 chan:-9223372036854775808≤z.chan∧z.chan≤9223372036854775807
 attr:-9223372036854775808≤z.attr∧z.attr≤9223372036854775807
theorem Prm.rd {vs:List V}(h:OkCs Prm.sh vs):∃x:Prm,V.agg vs=x.v∧x.Dk:=by
 obtain⟨v0,r0,rfl,h0,t0⟩:=h.cons_inv
 obtain⟨v1,r1,rfl,h1,t1⟩:=t0.cons_inv
 obtain rfl:=t1.nil_inv
 obtain⟨y0,rfl,b0⟩:=h0.i64_inv
 obtain⟨y1,rfl,b1⟩:=h1.i64_inv
 exact⟨⟨y0,y1⟩,rfl,⟨b0,b1⟩⟩
def Val.sh:List CSh:=[.int .i64,.int .i64]
structure Val.Dk (z:Val):Prop where
 pal:-9223372036854775808≤z.pal∧z.pal≤9223372036854775807
 lev:-9223372036854775808≤z.lev∧z.lev≤9223372036854775807
theorem Val.rd {vs:List V}(h:OkCs Val.sh vs):∃x:Val,V.agg vs=x.v∧x.Dk:=by
 obtain⟨v0,r0,rfl,h0,t0⟩:=h.cons_inv
 obtain⟨v1,r1,rfl,h1,t1⟩:=t0.cons_inv
 obtain rfl:=t1.nil_inv
 obtain⟨y0,rfl,b0⟩:=h0.i64_inv
 obtain⟨y1,rfl,b1⟩:=h1.i64_inv
 exact⟨⟨y0,y1⟩,rfl,⟨b0,b1⟩⟩
def Grp.sh:List CSh:=[.int .i64,.sl false 8 [.int .i64]]
structure Grp.Dk (z:Grp):Prop where
 num:-9223372036854775808≤z.num∧z.num≤9223372036854775807
 chans:z.chans.length≤140737488351232∧∀q∈z.chans,-9223372036854775808≤q∧q≤9223372036854775807
theorem Grp.rd {vs:List V}(h:OkCs Grp.sh vs):∃x:Grp,V.agg vs=x.v∧x.Dk:=by
 obtain⟨v0,r0,rfl,h0,t0⟩:=h.cons_inv
 obtain⟨v1,r1,rfl,h1,t1⟩:=t0.cons_inv
 obtain rfl:=t1.nil_inv
 obtain⟨y0,rfl,b0⟩:=h0.i64_inv
 obtain⟨y1,rfl,b1⟩:=h1.one_inv (f:=V.int .i64) (by decide) (fun v h=>h.i64_inv)
 exact⟨⟨y0,y1⟩,rfl,⟨b0,b1⟩⟩
def Hue.sh:List CSh:=[.int .i64,.int .i64,.int .i64]
structure Hue.Dk (z:Hue):Prop where
 chan:-9223372036854775808≤z.chan∧z.chan≤9223372036854775807
 attr:-9223372036854775808≤z.attr∧z.attr≤9223372036854775807
 lev:-9223372036854775808≤z.lev∧z.lev≤9223372036854775807
theorem Hue.rd {vs:List V}(h:OkCs Hue.sh vs):∃x:Hue,V.agg vs=x.v∧x.Dk:=by
 obtain⟨v0,r0,rfl,h0,t0⟩:=h.cons_inv
 obtain⟨v1,r1,rfl,h1,t1⟩:=t0.cons_inv
 obtain⟨v2,r2,rfl,h2,t2⟩:=t1.cons_inv
 obtain rfl:=t2.nil_inv
 obtain⟨y0,rfl,b0⟩:=h0.i64_inv
 obtain⟨y1,rfl,b1⟩:=h1.i64_inv
 obtain⟨y2,rfl,b2⟩:=h2.i64_inv
 exact⟨⟨y0,y1,y2⟩,rfl,⟨b0,b1,b2⟩⟩
def Pal.sh:List CSh:=[.int .i64,.sl true 24 Hue.sh]
structure Pal.Dk (z:Pal):Prop where
 num:-9223372036854775808≤z.num∧z.num≤9223372036854775807
 hues:z.hues.length≤140737488351232∧∀q∈z.hues,q.Dk
theorem Pal.rd {vs:List V}(h:OkCs Pal.sh vs):∃x:Pal,V.agg vs=x.v∧x.Dk:=by
 obtain⟨v0,r0,rfl,h0,t0⟩:=h.cons_inv
 obtain⟨v1,r1,rfl,h1,t1⟩:=t0.cons_inv
 obtain rfl:=t1.nil_inv
 obtain⟨y0,rfl,b0⟩:=h0.i64_inv
 obtain⟨y1,rfl,b1⟩:=h1.agg_inv (f:=Hue.v) (by decide) (fun _=>Hue.rd)
 exact⟨⟨y0,y1⟩,rfl,⟨b0,b1⟩⟩
def Tim.sh:List CSh:=[.int .i64,.int .i64,.int .i64,.int .i64,.int .i64,.int .i64]
structure Tim.Dk (z:Tim):Prop where
 up:-9223372036854775808≤z.up∧z.up≤9223372036854775807
 down:-9223372036854775808≤z.down∧z.down≤9223372036854775807
 posi:-9223372036854775808≤z.posi∧z.posi≤9223372036854775807
 colour:-9223372036854775808≤z.colour∧z.colour≤9223372036854775807
 beam:-9223372036854775808≤z.beam∧z.beam≤9223372036854775807
 delay:-9223372036854775808≤z.delay∧z.delay≤9223372036854775807
theorem Tim.rd {vs:List V}(h:OkCs Tim.sh vs):∃x:Tim,V.agg vs=x.v∧x.Dk:=by
 obtain⟨v0,r0,rfl,h0,t0⟩:=h.cons_inv
 obtain⟨v1,r1,rfl,h1,t1⟩:=t0.cons_inv
 obtain⟨v2,r2,rfl,h2,t2⟩:=t1.cons_inv
 obtain⟨v3,r3,rfl,h3,t3⟩:=t2.cons_inv
 obtain⟨v4,r4,rfl,h4,t4⟩:=t3.cons_inv
 obtain⟨v5,r5,rfl,h5,t5⟩:=t4.cons_inv
 obtain rfl:=t5.nil_inv
 obtain⟨y0,rfl,b0⟩:=h0.i64_inv
 obtain⟨y1,rfl,b1⟩:=h1.i64_inv
 obtain⟨y2,rfl,b2⟩:=h2.i64_inv
 obtain⟨y3,rfl,b3⟩:=h3.i64_inv
 obtain⟨y4,rfl,b4⟩:=h4.i64_inv
 obtain⟨y5,rfl,b5⟩:=h5.i64_inv
 exact⟨⟨y0,y1,y2,y3,y4,y5⟩,rfl,⟨b0,b1,b2,b3,b4,b5⟩⟩
def Mov.sh:List CSh:=[.int .i64,.int .i64,.int .i64,.int .i64,.int .i64]
structure Mov.Dk (z:Mov):Prop where
 prm:z.prm.Dk
 val:z.val.Dk
 part:-9223372036854775808≤z.part∧z.part≤9223372036854775807
theorem Mov.rd {vs:List V}(h:OkCs Mov.sh vs):∃x:Mov,V.agg vs=x.v∧x.Dk:=by
 obtain⟨v0,r0,rfl,h0,t0⟩:=h.cons_inv
 obtain⟨v1,r1,rfl,h1,t1⟩:=t0.cons_inv
 obtain⟨v2,r2,rfl,h2,t2⟩:=t1.cons_inv
 obtain⟨v3,r3,rfl,h3,t3⟩:=t2.cons_inv
 obtain⟨v4,r4,rfl,h4,t4⟩:=t3.cons_inv
 obtain rfl:=t4.nil_inv
 obtain⟨y0,rfl,b0⟩:=h0.i64_inv
 obtain⟨y1,rfl,b1⟩:=h1.i64_inv
 obtain⟨y2,rfl,b2⟩:=h2.i64_inv
 obtain⟨y3,rfl,b3⟩:=h3.i64_inv
 obtain⟨y4,rfl,b4⟩:=h4.i64_inv
 exact⟨⟨⟨y0,y1⟩,⟨y2,y3⟩,y4⟩,rfl,⟨⟨b0,b1⟩,⟨b2,b3⟩,b4⟩⟩
def Cu.sh:List CSh:=[.str,.str,.sl true 40 Mov.sh,.sl true 48 Tim.sh,.bool,.bool,.int .i64,.str,.int .i64]
structure Cu.Dk (z:Cu):Prop where
 num:z.num.length≤140737488351232
 label:z.label.length≤140737488351232
 moves:z.moves.length≤140737488351232∧∀q∈z.moves,q.Dk
 parts:z.parts.length≤140737488351232∧∀q∈z.parts,q.Dk
 block:True
 mark:True
 follow:-9223372036854775808≤z.follow∧z.follow≤9223372036854775807
 link:z.link.length≤140737488351232
 loops:-9223372036854775808≤z.loops∧z.loops≤9223372036854775807
theorem Cu.rd {vs:List V}(h:OkCs Cu.sh vs):∃x:Cu,V.agg vs=x.v∧x.Dk:=by
 obtain⟨v0,r0,rfl,h0,t0⟩:=h.cons_inv
 obtain⟨v1,r1,rfl,h1,t1⟩:=t0.cons_inv
 obtain⟨v2,r2,rfl,h2,t2⟩:=t1.cons_inv
 obtain⟨v3,r3,rfl,h3,t3⟩:=t2.cons_inv
 obtain⟨v4,r4,rfl,h4,t4⟩:=t3.cons_inv
 obtain⟨v5,r5,rfl,h5,t5⟩:=t4.cons_inv
 obtain⟨v6,r6,rfl,h6,t6⟩:=t5.cons_inv
 obtain⟨v7,r7,rfl,h7,t7⟩:=t6.cons_inv
 obtain⟨v8,r8,rfl,h8,t8⟩:=t7.cons_inv
 obtain rfl:=t8.nil_inv
 obtain⟨y0,rfl,b0⟩:=h0.str_inv
 obtain⟨y1,rfl,b1⟩:=h1.str_inv
 obtain⟨y2,rfl,b2⟩:=h2.agg_inv (f:=Mov.v) (by decide) (fun _=>Mov.rd)
 obtain⟨y3,rfl,b3⟩:=h3.agg_inv (f:=Tim.v) (by decide) (fun _=>Tim.rd)
 obtain⟨y4,rfl⟩:=h4.bool_inv
 have b4:=trivial
 obtain⟨y5,rfl⟩:=h5.bool_inv
 have b5:=trivial
 obtain⟨y6,rfl,b6⟩:=h6.i64_inv
 obtain⟨y7,rfl,b7⟩:=h7.str_inv
 obtain⟨y8,rfl,b8⟩:=h8.i64_inv
 exact⟨⟨y0,y1,y2,y3,y4,y5,y6,y7,y8⟩,rfl,⟨b0,b1,b2,b3,b4,b5,b6,b7,b8⟩⟩
def Lst.sh:List CSh:=[.int .i64,.int .i64,.sl true 120 Cu.sh]
structure Lst.Dk (z:Lst):Prop where
 num:-9223372036854775808≤z.num∧z.num≤9223372036854775807
 prio:-9223372036854775808≤z.prio∧z.prio≤9223372036854775807
 cues:z.cues.length≤140737488351232∧∀q∈z.cues,q.Dk
theorem Lst.rd {vs:List V}(h:OkCs Lst.sh vs):∃x:Lst,V.agg vs=x.v∧x.Dk:=by
 obtain⟨v0,r0,rfl,h0,t0⟩:=h.cons_inv
 obtain⟨v1,r1,rfl,h1,t1⟩:=t0.cons_inv
 obtain⟨v2,r2,rfl,h2,t2⟩:=t1.cons_inv
 obtain rfl:=t2.nil_inv
 obtain⟨y0,rfl,b0⟩:=h0.i64_inv
 obtain⟨y1,rfl,b1⟩:=h1.i64_inv
 obtain⟨y2,rfl,b2⟩:=h2.agg_inv (f:=Cu.v) (by decide) (fun _=>Cu.rd)
 exact⟨⟨y0,y1,y2⟩,rfl,⟨b0,b1,b2⟩⟩
def Gan.sh:List CSh:=[.int .i64,.int .i64,.int .i64]
structure Gan.Dk (z:Gan):Prop where
 prm:z.prm.Dk
 lev:-9223372036854775808≤z.lev∧z.lev≤9223372036854775807
theorem Gan.rd {vs:List V}(h:OkCs Gan.sh vs):∃x:Gan,V.agg vs=x.v∧x.Dk:=by
 obtain⟨v0,r0,rfl,h0,t0⟩:=h.cons_inv
 obtain⟨v1,r1,rfl,h1,t1⟩:=t0.cons_inv
 obtain⟨v2,r2,rfl,h2,t2⟩:=t1.cons_inv
 obtain rfl:=t2.nil_inv
 obtain⟨y0,rfl,b0⟩:=h0.i64_inv
 obtain⟨y1,rfl,b1⟩:=h1.i64_inv
 obtain⟨y2,rfl,b2⟩:=h2.i64_inv
 exact⟨⟨⟨y0,y1⟩,y2⟩,rfl,⟨⟨b0,b1⟩,b2⟩⟩
def Sb.sh:List CSh:=[.int .i64,.int .i64,.bool,.sl true 24 Gan.sh]
structure Sb.Dk (z:Sb):Prop where
 num:-9223372036854775808≤z.num∧z.num≤9223372036854775807
 prio:-9223372036854775808≤z.prio∧z.prio≤9223372036854775807
 inh:True
 gains:z.gains.length≤140737488351232∧∀q∈z.gains,q.Dk
theorem Sb.rd {vs:List V}(h:OkCs Sb.sh vs):∃x:Sb,V.agg vs=x.v∧x.Dk:=by
 obtain⟨v0,r0,rfl,h0,t0⟩:=h.cons_inv
 obtain⟨v1,r1,rfl,h1,t1⟩:=t0.cons_inv
 obtain⟨v2,r2,rfl,h2,t2⟩:=t1.cons_inv
 obtain⟨v3,r3,rfl,h3,t3⟩:=t2.cons_inv
 obtain rfl:=t3.nil_inv
 obtain⟨y0,rfl,b0⟩:=h0.i64_inv
 obtain⟨y1,rfl,b1⟩:=h1.i64_inv
 obtain⟨y2,rfl⟩:=h2.bool_inv
 have b2:=trivial
 obtain⟨y3,rfl,b3⟩:=h3.agg_inv (f:=Gan.v) (by decide) (fun _=>Gan.rd)
 exact⟨⟨y0,y1,y2,y3⟩,rfl,⟨b0,b1,b2,b3⟩⟩
def Eff.sh:List CSh:=[.int .i64,.int .i64,.sl true 16 Pt.sh,.int .i64,.int .i64,.int .i64]
structure Eff.Dk (z:Eff):Prop where
 num:-9223372036854775808≤z.num∧z.num≤9223372036854775807
 attr:-9223372036854775808≤z.attr∧z.attr≤9223372036854775807
 wave:z.wave.length≤140737488351232∧∀q∈z.wave,q.Dk
 period:-9223372036854775808≤z.period∧z.period≤9223372036854775807
 spread:-9223372036854775808≤z.spread∧z.spread≤9223372036854775807
 size:-9223372036854775808≤z.size∧z.size≤9223372036854775807
theorem Eff.rd {vs:List V}(h:OkCs Eff.sh vs):∃x:Eff,V.agg vs=x.v∧x.Dk:=by
 obtain⟨v0,r0,rfl,h0,t0⟩:=h.cons_inv
 obtain⟨v1,r1,rfl,h1,t1⟩:=t0.cons_inv
 obtain⟨v2,r2,rfl,h2,t2⟩:=t1.cons_inv
 obtain⟨v3,r3,rfl,h3,t3⟩:=t2.cons_inv
 obtain⟨v4,r4,rfl,h4,t4⟩:=t3.cons_inv
 obtain⟨v5,r5,rfl,h5,t5⟩:=t4.cons_inv
 obtain rfl:=t5.nil_inv
 obtain⟨y0,rfl,b0⟩:=h0.i64_inv
 obtain⟨y1,rfl,b1⟩:=h1.i64_inv
 obtain⟨y2,rfl,b2⟩:=h2.agg_inv (f:=Pt.v) (by decide) (fun _=>Pt.rd)
 obtain⟨y3,rfl,b3⟩:=h3.i64_inv
 obtain⟨y4,rfl,b4⟩:=h4.i64_inv
 obtain⟨y5,rfl,b5⟩:=h5.i64_inv
 exact⟨⟨y0,y1,y2,y3,y4,y5⟩,rfl,⟨b0,b1,b2,b3,b4,b5⟩⟩
def Sho.sh:List CSh:=[.str,.sl false 24 [.sl true 16 Pt.sh],.sl true 56 Prof.sh,.sl true 72 Fixt.sh,.sl true 32 Grp.sh,.sl true 32 Pal.sh,.sl true 40 Lst.sh,.sl true 48 Sb.sh,.sl true 64 Eff.sh]
structure Sho.Dk (z:Sho):Prop where
 title:z.title.length≤140737488351232
 curves:z.curves.length≤140737488351232∧∀l∈z.curves,l.length≤140737488351232∧∀q∈l,q.Dk
 profs:z.profs.length≤140737488351232∧∀q∈z.profs,q.Dk
 fixts:z.fixts.length≤140737488351232∧∀q∈z.fixts,q.Dk
 grps:z.grps.length≤140737488351232∧∀q∈z.grps,q.Dk
 pals:z.pals.length≤140737488351232∧∀q∈z.pals,q.Dk
 lsts:z.lsts.length≤140737488351232∧∀q∈z.lsts,q.Dk
 subs:z.subs.length≤140737488351232∧∀q∈z.subs,q.Dk
 effs:z.effs.length≤140737488351232∧∀q∈z.effs,q.Dk
theorem Sho.rd {vs:List V}(h:OkCs Sho.sh vs):∃x:Sho,V.agg vs=x.v∧x.Dk:=by
 obtain⟨v0,r0,rfl,h0,t0⟩:=h.cons_inv
 obtain⟨v1,r1,rfl,h1,t1⟩:=t0.cons_inv
 obtain⟨v2,r2,rfl,h2,t2⟩:=t1.cons_inv
 obtain⟨v3,r3,rfl,h3,t3⟩:=t2.cons_inv
 obtain⟨v4,r4,rfl,h4,t4⟩:=t3.cons_inv
 obtain⟨v5,r5,rfl,h5,t5⟩:=t4.cons_inv
 obtain⟨v6,r6,rfl,h6,t6⟩:=t5.cons_inv
 obtain⟨v7,r7,rfl,h7,t7⟩:=t6.cons_inv
 obtain⟨v8,r8,rfl,h8,t8⟩:=t7.cons_inv
 obtain rfl:=t8.nil_inv
 obtain⟨y0,rfl,b0⟩:=h0.str_inv
 obtain⟨y1,rfl,b1⟩:=h1.one_inv (f:=Pt.vs) (by decide) (fun v h=>h.agg_inv (f:=Pt.v) (by decide) (fun _=>Pt.rd))
 obtain⟨y2,rfl,b2⟩:=h2.agg_inv (f:=Prof.v) (by decide) (fun _=>Prof.rd)
 obtain⟨y3,rfl,b3⟩:=h3.agg_inv (f:=Fixt.v) (by decide) (fun _=>Fixt.rd)
 obtain⟨y4,rfl,b4⟩:=h4.agg_inv (f:=Grp.v) (by decide) (fun _=>Grp.rd)
 obtain⟨y5,rfl,b5⟩:=h5.agg_inv (f:=Pal.v) (by decide) (fun _=>Pal.rd)
 obtain⟨y6,rfl,b6⟩:=h6.agg_inv (f:=Lst.v) (by decide) (fun _=>Lst.rd)
 obtain⟨y7,rfl,b7⟩:=h7.agg_inv (f:=Sb.v) (by decide) (fun _=>Sb.rd)
 obtain⟨y8,rfl,b8⟩:=h8.agg_inv (f:=Eff.v) (by decide) (fun _=>Eff.rd)
 exact⟨⟨y0,y1,y2,y3,y4,y5,y6,y7,y8⟩,rfl,⟨b0,b1,b2,b3,b4,b5,b6,b7,b8⟩⟩
def Edi.sh:List CSh:=[.int .i64,.int .i64,.int .i64,.int .i64,.str,.str,.str,.sl true 40 Mov.sh,.sl true 48 Tim.sh,.bool,.bool,.int .i64,.str,.int .i64,.int .i64,.sl true 24 Hue.sh,.int .i64,.sl false 8 [.int .i64],.int .i64,.int .i64,.bool,.sl true 24 Gan.sh,.int .i64,.int .i64,.sl true 16 Pt.sh,.int .i64,.int .i64,.int .i64,.int .i64,.int .i64,.str,.int .i64,.int .i64,.int .i64,.str]
structure Edi.Dk (z:Edi):Prop where
 kind:-9223372036854775808≤z.kind∧z.kind≤9223372036854775807
 num:-9223372036854775808≤z.num∧z.num≤9223372036854775807
 chan:-9223372036854775808≤z.chan∧z.chan≤9223372036854775807
 prio:-9223372036854775808≤z.prio∧z.prio≤9223372036854775807
 key:z.key.length≤140737488351232
 cue:z.cue.Dk
 pal:z.pal.Dk
 grp:z.grp.Dk
 sub:z.sub.Dk
 eff:z.eff.Dk
 fix:z.fix.Dk
theorem Edi.rd {vs:List V}(h:OkCs Edi.sh vs):∃x:Edi,V.agg vs=x.v∧x.Dk:=by
 obtain⟨v0,r0,rfl,h0,t0⟩:=h.cons_inv
 obtain⟨v1,r1,rfl,h1,t1⟩:=t0.cons_inv
 obtain⟨v2,r2,rfl,h2,t2⟩:=t1.cons_inv
 obtain⟨v3,r3,rfl,h3,t3⟩:=t2.cons_inv
 obtain⟨v4,r4,rfl,h4,t4⟩:=t3.cons_inv
 obtain⟨v5,r5,rfl,h5,t5⟩:=t4.cons_inv
 obtain⟨v6,r6,rfl,h6,t6⟩:=t5.cons_inv
 obtain⟨v7,r7,rfl,h7,t7⟩:=t6.cons_inv
 obtain⟨v8,r8,rfl,h8,t8⟩:=t7.cons_inv
 obtain⟨v9,r9,rfl,h9,t9⟩:=t8.cons_inv
 obtain⟨v10,r10,rfl,h10,t10⟩:=t9.cons_inv
 obtain⟨v11,r11,rfl,h11,t11⟩:=t10.cons_inv
 obtain⟨v12,r12,rfl,h12,t12⟩:=t11.cons_inv
 obtain⟨v13,r13,rfl,h13,t13⟩:=t12.cons_inv
 obtain⟨v14,r14,rfl,h14,t14⟩:=t13.cons_inv
 obtain⟨v15,r15,rfl,h15,t15⟩:=t14.cons_inv
 obtain⟨v16,r16,rfl,h16,t16⟩:=t15.cons_inv
 obtain⟨v17,r17,rfl,h17,t17⟩:=t16.cons_inv
 obtain⟨v18,r18,rfl,h18,t18⟩:=t17.cons_inv
 obtain⟨v19,r19,rfl,h19,t19⟩:=t18.cons_inv
 obtain⟨v20,r20,rfl,h20,t20⟩:=t19.cons_inv
 obtain⟨v21,r21,rfl,h21,t21⟩:=t20.cons_inv
 obtain⟨v22,r22,rfl,h22,t22⟩:=t21.cons_inv
 obtain⟨v23,r23,rfl,h23,t23⟩:=t22.cons_inv
 obtain⟨v24,r24,rfl,h24,t24⟩:=t23.cons_inv
 obtain⟨v25,r25,rfl,h25,t25⟩:=t24.cons_inv
 obtain⟨v26,r26,rfl,h26,t26⟩:=t25.cons_inv
 obtain⟨v27,r27,rfl,h27,t27⟩:=t26.cons_inv
 obtain⟨v28,r28,rfl,h28,t28⟩:=t27.cons_inv
 obtain⟨v29,r29,rfl,h29,t29⟩:=t28.cons_inv
 obtain⟨v30,r30,rfl,h30,t30⟩:=t29.cons_inv
 obtain⟨v31,r31,rfl,h31,t31⟩:=t30.cons_inv
 obtain⟨v32,r32,rfl,h32,t32⟩:=t31.cons_inv
 obtain⟨v33,r33,rfl,h33,t33⟩:=t32.cons_inv
 obtain⟨v34,r34,rfl,h34,t34⟩:=t33.cons_inv
 obtain rfl:=t34.nil_inv
 obtain⟨y0,rfl,b0⟩:=h0.i64_inv
 obtain⟨y1,rfl,b1⟩:=h1.i64_inv
 obtain⟨y2,rfl,b2⟩:=h2.i64_inv
 obtain⟨y3,rfl,b3⟩:=h3.i64_inv
 obtain⟨y4,rfl,b4⟩:=h4.str_inv
 obtain⟨y5,rfl,b5⟩:=h5.str_inv
 obtain⟨y6,rfl,b6⟩:=h6.str_inv
 obtain⟨y7,rfl,b7⟩:=h7.agg_inv (f:=Mov.v) (by decide) (fun _=>Mov.rd)
 obtain⟨y8,rfl,b8⟩:=h8.agg_inv (f:=Tim.v) (by decide) (fun _=>Tim.rd)
 obtain⟨y9,rfl⟩:=h9.bool_inv
 have b9:=trivial
 obtain⟨y10,rfl⟩:=h10.bool_inv
 have b10:=trivial
 obtain⟨y11,rfl,b11⟩:=h11.i64_inv
 obtain⟨y12,rfl,b12⟩:=h12.str_inv
 obtain⟨y13,rfl,b13⟩:=h13.i64_inv
 obtain⟨y14,rfl,b14⟩:=h14.i64_inv
 obtain⟨y15,rfl,b15⟩:=h15.agg_inv (f:=Hue.v) (by decide) (fun _=>Hue.rd)
 obtain⟨y16,rfl,b16⟩:=h16.i64_inv
 obtain⟨y17,rfl,b17⟩:=h17.one_inv (f:=V.int .i64) (by decide) (fun v h=>h.i64_inv)
 obtain⟨y18,rfl,b18⟩:=h18.i64_inv
 obtain⟨y19,rfl,b19⟩:=h19.i64_inv
 obtain⟨y20,rfl⟩:=h20.bool_inv
 have b20:=trivial
 obtain⟨y21,rfl,b21⟩:=h21.agg_inv (f:=Gan.v) (by decide) (fun _=>Gan.rd)
 obtain⟨y22,rfl,b22⟩:=h22.i64_inv
 obtain⟨y23,rfl,b23⟩:=h23.i64_inv
 obtain⟨y24,rfl,b24⟩:=h24.agg_inv (f:=Pt.v) (by decide) (fun _=>Pt.rd)
 obtain⟨y25,rfl,b25⟩:=h25.i64_inv
 obtain⟨y26,rfl,b26⟩:=h26.i64_inv
 obtain⟨y27,rfl,b27⟩:=h27.i64_inv
 obtain⟨y28,rfl,b28⟩:=h28.i64_inv
 obtain⟨y29,rfl,b29⟩:=h29.i64_inv
 obtain⟨y30,rfl,b30⟩:=h30.str_inv
 obtain⟨y31,rfl,b31⟩:=h31.i64_inv
 obtain⟨y32,rfl,b32⟩:=h32.i64_inv
 obtain⟨y33,rfl,b33⟩:=h33.i64_inv
 obtain⟨y34,rfl,b34⟩:=h34.str_inv
 exact⟨⟨y0,y1,y2,y3,y4,⟨y5,y6,y7,y8,y9,y10,y11,y12,y13⟩,⟨y14,y15⟩,⟨y16,y17⟩,⟨y18,y19,y20,y21⟩,⟨y22,y23,y24,y25,y26,y27⟩,⟨y28,y29,y30,y31,y32,y33,y34⟩⟩,rfl,⟨b0,b1,b2,b3,b4,⟨b5,b6,b7,b8,b9,b10,b11,b12,b13⟩,⟨b14,b15⟩,⟨b16,b17⟩,⟨b18,b19,b20,b21⟩,⟨b22,b23,b24,b25,b26,b27⟩,⟨b28,b29,b30,b31,b32,b33,b34⟩⟩⟩
def His.sh:List CSh:=[.sl true 208 Sho.sh,.str,.sl false 24 [.sl true 16 Pt.sh],.sl true 56 Prof.sh,.sl true 72 Fixt.sh,.sl true 32 Grp.sh,.sl true 32 Pal.sh,.sl true 40 Lst.sh,.sl true 48 Sb.sh,.sl true 64 Eff.sh,.sl true 208 Sho.sh]
structure His.Dk (z:His):Prop where
 past:z.past.length≤140737488351232∧∀q∈z.past,q.Dk
 shw:z.shw.Dk
 fut:z.fut.length≤140737488351232∧∀q∈z.fut,q.Dk
theorem His.rd {vs:List V}(h:OkCs His.sh vs):∃x:His,V.agg vs=x.v∧x.Dk:=by
 obtain⟨v0,r0,rfl,h0,t0⟩:=h.cons_inv
 obtain⟨v1,r1,rfl,h1,t1⟩:=t0.cons_inv
 obtain⟨v2,r2,rfl,h2,t2⟩:=t1.cons_inv
 obtain⟨v3,r3,rfl,h3,t3⟩:=t2.cons_inv
 obtain⟨v4,r4,rfl,h4,t4⟩:=t3.cons_inv
 obtain⟨v5,r5,rfl,h5,t5⟩:=t4.cons_inv
 obtain⟨v6,r6,rfl,h6,t6⟩:=t5.cons_inv
 obtain⟨v7,r7,rfl,h7,t7⟩:=t6.cons_inv
 obtain⟨v8,r8,rfl,h8,t8⟩:=t7.cons_inv
 obtain⟨v9,r9,rfl,h9,t9⟩:=t8.cons_inv
 obtain⟨v10,r10,rfl,h10,t10⟩:=t9.cons_inv
 obtain rfl:=t10.nil_inv
 obtain⟨y0,rfl,b0⟩:=h0.agg_inv (f:=Sho.v) (by decide) (fun _=>Sho.rd)
 obtain⟨y1,rfl,b1⟩:=h1.str_inv
 obtain⟨y2,rfl,b2⟩:=h2.one_inv (f:=Pt.vs) (by decide) (fun v h=>h.agg_inv (f:=Pt.v) (by decide) (fun _=>Pt.rd))
 obtain⟨y3,rfl,b3⟩:=h3.agg_inv (f:=Prof.v) (by decide) (fun _=>Prof.rd)
 obtain⟨y4,rfl,b4⟩:=h4.agg_inv (f:=Fixt.v) (by decide) (fun _=>Fixt.rd)
 obtain⟨y5,rfl,b5⟩:=h5.agg_inv (f:=Grp.v) (by decide) (fun _=>Grp.rd)
 obtain⟨y6,rfl,b6⟩:=h6.agg_inv (f:=Pal.v) (by decide) (fun _=>Pal.rd)
 obtain⟨y7,rfl,b7⟩:=h7.agg_inv (f:=Lst.v) (by decide) (fun _=>Lst.rd)
 obtain⟨y8,rfl,b8⟩:=h8.agg_inv (f:=Sb.v) (by decide) (fun _=>Sb.rd)
 obtain⟨y9,rfl,b9⟩:=h9.agg_inv (f:=Eff.v) (by decide) (fun _=>Eff.rd)
 obtain⟨y10,rfl,b10⟩:=h10.agg_inv (f:=Sho.v) (by decide) (fun _=>Sho.rd)
 exact⟨⟨y0,⟨y1,y2,y3,y4,y5,y6,y7,y8,y9⟩,y10⟩,rfl,⟨b0,⟨b1,b2,b3,b4,b5,b6,b7,b8,b9⟩,b10⟩⟩
theorem Pt.inj {x y:Pt}(h:x.v=y.v):x=y:=by
 obtain⟨x0,x1⟩:=x;obtain⟨y0,y1⟩:=y
 simp only[Pt.v,V.agg.injEq,List.cons.injEq,V.int.injEq,V.str.injEq,V.bool.injEq,V.sl.injEq,true_and,and_true]at h
 obtain⟨h0,h1⟩:=h
 cases h0
 cases h1
 rfl
theorem Slt.inj {x y:Slt}(h:x.v=y.v):x=y:=by
 obtain⟨x0,x1,x2⟩:=x;obtain⟨y0,y1,y2⟩:=y
 simp only[Slt.v,V.agg.injEq,List.cons.injEq,V.int.injEq,V.str.injEq,V.bool.injEq,V.sl.injEq,true_and,and_true]at h
 obtain⟨h0,h1,h2⟩:=h
 cases h0
 cases h1
 cases h2
 rfl
theorem Ftr.inj {x y:Ftr}(h:x.v=y.v):x=y:=by
 obtain⟨x0,x1,x2,x3,x4,x5,x6,x7,x8,x9⟩:=x;obtain⟨y0,y1,y2,y3,y4,y5,y6,y7,y8,y9⟩:=y
 simp only[Ftr.v,V.agg.injEq,List.cons.injEq,V.int.injEq,V.str.injEq,V.bool.injEq,V.sl.injEq,true_and,and_true]at h
 obtain⟨h0,h1,h2,h3,h4,h5,h6,h7,h8,h9⟩:=h
 cases h0
 cases h1
 cases h2
 cases h3
 cases h4
 cases h5
 cases h6
 cases h7
 cases h8
 cases map_inj Slt.inj h9
 rfl
theorem Prof.inj {x y:Prof}(h:x.v=y.v):x=y:=by
 obtain⟨x0,x1,x2,x3⟩:=x;obtain⟨y0,y1,y2,y3⟩:=y
 simp only[Prof.v,V.agg.injEq,List.cons.injEq,V.int.injEq,V.str.injEq,V.bool.injEq,V.sl.injEq,true_and,and_true]at h
 obtain⟨h0,h1,h2,h3⟩:=h
 cases h0
 cases h1
 cases h2
 cases map_inj Ftr.inj h3
 rfl
theorem Fixt.inj {x y:Fixt}(h:x.v=y.v):x=y:=by
 obtain⟨x0,x1,x2,x3,x4,x5,x6⟩:=x;obtain⟨y0,y1,y2,y3,y4,y5,y6⟩:=y
 simp only[Fixt.v,V.agg.injEq,List.cons.injEq,V.int.injEq,V.str.injEq,V.bool.injEq,V.sl.injEq,true_and,and_true]at h
 obtain⟨h0,h1,h2,h3,h4,h5,h6⟩:=h
 cases h0
 cases h1
 cases h2
 cases h3
 cases h4
 cases h5
 cases h6
 rfl
theorem Prm.inj {x y:Prm}(h:x.v=y.v):x=y:=by
 obtain⟨x0,x1⟩:=x;obtain⟨y0,y1⟩:=y
 simp only[Prm.v,V.agg.injEq,List.cons.injEq,V.int.injEq,V.str.injEq,V.bool.injEq,V.sl.injEq,true_and,and_true]at h
 obtain⟨h0,h1⟩:=h
 cases h0
 cases h1
 rfl
theorem Val.inj {x y:Val}(h:x.v=y.v):x=y:=by
 obtain⟨x0,x1⟩:=x;obtain⟨y0,y1⟩:=y
 simp only[Val.v,V.agg.injEq,List.cons.injEq,V.int.injEq,V.str.injEq,V.bool.injEq,V.sl.injEq,true_and,and_true]at h
 obtain⟨h0,h1⟩:=h
 cases h0
 cases h1
 rfl
theorem Grp.inj {x y:Grp}(h:x.v=y.v):x=y:=by
 obtain⟨x0,x1⟩:=x;obtain⟨y0,y1⟩:=y
 simp only[Grp.v,V.agg.injEq,List.cons.injEq,V.int.injEq,V.str.injEq,V.bool.injEq,V.sl.injEq,true_and,and_true]at h
 obtain⟨h0,h1⟩:=h
 cases h0
 cases map_inj (f:=V.int .i64) (fun h=>(V.int.inj h).2) h1
 rfl
theorem Hue.inj {x y:Hue}(h:x.v=y.v):x=y:=by
 obtain⟨x0,x1,x2⟩:=x;obtain⟨y0,y1,y2⟩:=y
 simp only[Hue.v,V.agg.injEq,List.cons.injEq,V.int.injEq,V.str.injEq,V.bool.injEq,V.sl.injEq,true_and,and_true]at h
 obtain⟨h0,h1,h2⟩:=h
 cases h0
 cases h1
 cases h2
 rfl
theorem Pal.inj {x y:Pal}(h:x.v=y.v):x=y:=by
 obtain⟨x0,x1⟩:=x;obtain⟨y0,y1⟩:=y
 simp only[Pal.v,V.agg.injEq,List.cons.injEq,V.int.injEq,V.str.injEq,V.bool.injEq,V.sl.injEq,true_and,and_true]at h
 obtain⟨h0,h1⟩:=h
 cases h0
 cases map_inj Hue.inj h1
 rfl
theorem Tim.inj {x y:Tim}(h:x.v=y.v):x=y:=by
 obtain⟨x0,x1,x2,x3,x4,x5⟩:=x;obtain⟨y0,y1,y2,y3,y4,y5⟩:=y
 simp only[Tim.v,V.agg.injEq,List.cons.injEq,V.int.injEq,V.str.injEq,V.bool.injEq,V.sl.injEq,true_and,and_true]at h
 obtain⟨h0,h1,h2,h3,h4,h5⟩:=h
 cases h0
 cases h1
 cases h2
 cases h3
 cases h4
 cases h5
 rfl
theorem Mov.inj {x y:Mov}(h:x.v=y.v):x=y:=by
 obtain⟨⟨x0,x1⟩,⟨x2,x3⟩,x4⟩:=x;obtain⟨⟨y0,y1⟩,⟨y2,y3⟩,y4⟩:=y
 simp only[Mov.v,V.agg.injEq,List.cons.injEq,V.int.injEq,V.str.injEq,V.bool.injEq,V.sl.injEq,true_and,and_true]at h
 obtain⟨h0,h1,h2,h3,h4⟩:=h
 cases h0
 cases h1
 cases h2
 cases h3
 cases h4
 rfl
theorem Cu.inj {x y:Cu}(h:x.v=y.v):x=y:=by
 obtain⟨x0,x1,x2,x3,x4,x5,x6,x7,x8⟩:=x;obtain⟨y0,y1,y2,y3,y4,y5,y6,y7,y8⟩:=y
 simp only[Cu.v,V.agg.injEq,List.cons.injEq,V.int.injEq,V.str.injEq,V.bool.injEq,V.sl.injEq,true_and,and_true]at h
 obtain⟨h0,h1,h2,h3,h4,h5,h6,h7,h8⟩:=h
 cases h0
 cases h1
 cases map_inj Mov.inj h2
 cases map_inj Tim.inj h3
 cases h4
 cases h5
 cases h6
 cases h7
 cases h8
 rfl
theorem Lst.inj {x y:Lst}(h:x.v=y.v):x=y:=by
 obtain⟨x0,x1,x2⟩:=x;obtain⟨y0,y1,y2⟩:=y
 simp only[Lst.v,V.agg.injEq,List.cons.injEq,V.int.injEq,V.str.injEq,V.bool.injEq,V.sl.injEq,true_and,and_true]at h
 obtain⟨h0,h1,h2⟩:=h
 cases h0
 cases h1
 cases map_inj Cu.inj h2
 rfl
theorem Gan.inj {x y:Gan}(h:x.v=y.v):x=y:=by
 obtain⟨⟨x0,x1⟩,x2⟩:=x;obtain⟨⟨y0,y1⟩,y2⟩:=y
 simp only[Gan.v,V.agg.injEq,List.cons.injEq,V.int.injEq,V.str.injEq,V.bool.injEq,V.sl.injEq,true_and,and_true]at h
 obtain⟨h0,h1,h2⟩:=h
 cases h0
 cases h1
 cases h2
 rfl
theorem Sb.inj {x y:Sb}(h:x.v=y.v):x=y:=by
 obtain⟨x0,x1,x2,x3⟩:=x;obtain⟨y0,y1,y2,y3⟩:=y
 simp only[Sb.v,V.agg.injEq,List.cons.injEq,V.int.injEq,V.str.injEq,V.bool.injEq,V.sl.injEq,true_and,and_true]at h
 obtain⟨h0,h1,h2,h3⟩:=h
 cases h0
 cases h1
 cases h2
 cases map_inj Gan.inj h3
 rfl
theorem Eff.inj {x y:Eff}(h:x.v=y.v):x=y:=by
 obtain⟨x0,x1,x2,x3,x4,x5⟩:=x;obtain⟨y0,y1,y2,y3,y4,y5⟩:=y
 simp only[Eff.v,V.agg.injEq,List.cons.injEq,V.int.injEq,V.str.injEq,V.bool.injEq,V.sl.injEq,true_and,and_true]at h
 obtain⟨h0,h1,h2,h3,h4,h5⟩:=h
 cases h0
 cases h1
 cases map_inj Pt.inj h2
 cases h3
 cases h4
 cases h5
 rfl
theorem Sho.inj {x y:Sho}(h:x.v=y.v):x=y:=by
 obtain⟨x0,x1,x2,x3,x4,x5,x6,x7,x8⟩:=x;obtain⟨y0,y1,y2,y3,y4,y5,y6,y7,y8⟩:=y
 simp only[Sho.v,V.agg.injEq,List.cons.injEq,V.int.injEq,V.str.injEq,V.bool.injEq,V.sl.injEq,true_and,and_true]at h
 obtain⟨h0,h1,h2,h3,h4,h5,h6,h7,h8⟩:=h
 cases h0
 cases map_inj (f:=Pt.vs) (fun h=>map_inj Pt.inj (V.sl.inj h)) h1
 cases map_inj Prof.inj h2
 cases map_inj Fixt.inj h3
 cases map_inj Grp.inj h4
 cases map_inj Pal.inj h5
 cases map_inj Lst.inj h6
 cases map_inj Sb.inj h7
 cases map_inj Eff.inj h8
 rfl
theorem Edi.inj {x y:Edi}(h:x.v=y.v):x=y:=by
 obtain⟨x0,x1,x2,x3,x4,⟨x5,x6,x7,x8,x9,x10,x11,x12,x13⟩,⟨x14,x15⟩,⟨x16,x17⟩,⟨x18,x19,x20,x21⟩,⟨x22,x23,x24,x25,x26,x27⟩,⟨x28,x29,x30,x31,x32,x33,x34⟩⟩:=x;obtain⟨y0,y1,y2,y3,y4,⟨y5,y6,y7,y8,y9,y10,y11,y12,y13⟩,⟨y14,y15⟩,⟨y16,y17⟩,⟨y18,y19,y20,y21⟩,⟨y22,y23,y24,y25,y26,y27⟩,⟨y28,y29,y30,y31,y32,y33,y34⟩⟩:=y
 simp only[Edi.v,V.agg.injEq,List.cons.injEq,V.int.injEq,V.str.injEq,V.bool.injEq,V.sl.injEq,true_and,and_true]at h
 obtain⟨h0,h1,h2,h3,h4,h5,h6,h7,h8,h9,h10,h11,h12,h13,h14,h15,h16,h17,h18,h19,h20,h21,h22,h23,h24,h25,h26,h27,h28,h29,h30,h31,h32,h33,h34⟩:=h
 cases h0
 cases h1
 cases h2
 cases h3
 cases h4
 cases h5
 cases h6
 cases map_inj Mov.inj h7
 cases map_inj Tim.inj h8
 cases h9
 cases h10
 cases h11
 cases h12
 cases h13
 cases h14
 cases map_inj Hue.inj h15
 cases h16
 cases map_inj (f:=V.int .i64) (fun h=>(V.int.inj h).2) h17
 cases h18
 cases h19
 cases h20
 cases map_inj Gan.inj h21
 cases h22
 cases h23
 cases map_inj Pt.inj h24
 cases h25
 cases h26
 cases h27
 cases h28
 cases h29
 cases h30
 cases h31
 cases h32
 cases h33
 cases h34
 rfl
theorem His.inj {x y:His}(h:x.v=y.v):x=y:=by
 obtain⟨x0,⟨x1,x2,x3,x4,x5,x6,x7,x8,x9⟩,x10⟩:=x;obtain⟨y0,⟨y1,y2,y3,y4,y5,y6,y7,y8,y9⟩,y10⟩:=y
 simp only[His.v,V.agg.injEq,List.cons.injEq,V.int.injEq,V.str.injEq,V.bool.injEq,V.sl.injEq,true_and,and_true]at h
 obtain⟨h0,h1,h2,h3,h4,h5,h6,h7,h8,h9,h10⟩:=h
 cases map_inj Sho.inj h0
 cases h1
 cases map_inj (f:=Pt.vs) (fun h=>map_inj Pt.inj (V.sl.inj h)) h2
 cases map_inj Prof.inj h3
 cases map_inj Fixt.inj h4
 cases map_inj Grp.inj h5
 cases map_inj Pal.inj h6
 cases map_inj Lst.inj h7
 cases map_inj Sb.inj h8
 cases map_inj Eff.inj h9
 cases map_inj Sho.inj h10
 rfl
end Go.Proofs.YtpbiilllhjeibaaGreatDoor

namespace Go.Proofs.YtpbiilllhjeibaaGreatDoor
open Go.Sha
theorem Cu.Dk.ok {x:Cu}(h:x.Dk):x.ok:=⟨by have:=h.num;omega,by have:=h.label;omega,by have:=h.moves.1;omega,by have:=h.parts.1;omega,by have:=h.link;omega⟩
theorem Lst.Dk.ok {x:Lst}(h:x.Dk):x.ok:=⟨by have:=h.cues.1;omega,fun q hq=>(h.cues.2 q hq).ok⟩
theorem Prof.Dk.ok {x:Prof}(h:x.Dk):x.ok∧x.okR:=⟨⟨by have:=h.feats.1;omega,fun q hq=>by have:=(h.feats.2 q hq).wheel.1;omega,by have:=h.name;omega⟩,
 by have:=h.feats.1;omega,fun q hq=>⟨by have:=(h.feats.2 q hq).wheel.1;omega,fun z hz=>by have:=((h.feats.2 q hq).wheel.2 z hz).name;omega⟩,by have:=h.name;omega⟩
theorem Sho.Dk.ok {x : Sho}(h : x.Dk) : x.ok :=
  ⟨by have := h.title; omega, ⟨by have := h.curves.1; omega, fun q hq => by have := (h.curves.2 q hq).1; omega⟩, ⟨by have := h.profs.1; omega, fun q hq => (h.profs.2 q hq).ok.1, fun q hq => (h.profs.2 q hq).ok.2⟩,
   ⟨by have := h.fixts.1; omega, fun q hq => by have := (h.fixts.2 q hq).cable; omega⟩, ⟨by have := h.grps.1; omega, fun q hq => by have := (h.grps.2 q hq).chans.1; omega⟩, ⟨by have := h.pals.1; omega, fun q hq => by have := (h.pals.2 q hq).hues.1; omega⟩,
   ⟨by have := h.lsts.1; omega, fun q hq => (h.lsts.2 q hq).ok⟩, ⟨by have := h.subs.1; omega, fun q hq => by have := (h.subs.2 q hq).gains.1; omega⟩, ⟨by have := h.effs.1; omega, fun q hq => by have := (h.effs.2 q hq).wave.1; omega⟩⟩
end Go.Proofs.YtpbiilllhjeibaaGreatDoor

namespace Go.Proofs.YtpbiilllhjeibaaGreatDoor
open Go.Sha Go.Shelf Go.RowKit
set_option maxRecDepth 100000
theorem basT:BasT Tryz.prog:=⟨by kernel_rfl,Tryz.underlying0,Tryz.isAgg0,Tryz.sizeOf0,Tryz.zeroValue0,Tryz.underlying3,Tryz.isAgg3,Tryz.sizeOf3,Tryz.zeroValue3,Tryz.underlying4,Tryz.isAgg4,Tryz.sizeOf4,Tryz.zeroValue4,Tryz.underlying9,Tryz.isAgg9,Tryz.sizeOf9,Tryz.zeroValue9,Tryz.underlying20,Tryz.isAgg20,Tryz.sizeOf20,Tryz.zeroValue20⟩
def rnP:Ren:=⟨fun x=>if x=29 then 251 else 252,fun x=>if x=24 then 26 else if x=9 then 34 else x,fun x=>x⟩
theorem slP:SlB Tryz.prog 24 9 2 32 rnP:=slT basT rfl rfl rfl Tryz.underlying26 Tryz.isAgg26 Tryz.sizeOf26 Tryz.zeroValue26 Tryz.isAgg34 Tryz.sizeOf34 Tryz.zeroValue34 (by kernel_rfl) (by kernel_rfl) (by kernel_rfl)
theorem bearsI:Bears Tryz.prog 175 (Body2.n22 rnP):=⟨"slices.Insert[[]luminaire/api.Palette,luminaire/api.Palette]",by decide,by kernel_rfl⟩
theorem ovP:OvL Tryz.prog 251 26 4:=fun args w=>by
 rw[run_callFunc_extern Tryz.func251 (by kernel_rfl) (by kernel_rfl) (by kernel_rfl) (e:=Extern.SlicesOverlaps.overlaps #[26,26] #[4]) (by kernel_rfl)]
end Go.Proofs.YtpbiilllhjeibaaGreatDoor

namespace Go.Proofs.YtpbiilllhjeibaaGreatDoor
open Go.Sha
set_option maxRecDepth 10000
theorem F163:compF Tryz.prog 163=some ⟨13,[.tmp 4,.tmp 5,.tmp 6],(.g [.s 4 (.mv (.w [])),.s 5 (.mv (.w [])),.k 6 false] (.g [.m 7 0,.m 8 1,.g' 9 244 7 8,.j 10 0 9,.j 11 1 9,.j 12 2 9,.m 4 10,.m 5 11,.m 6 12] (.ret [4,5,6])))⟩:=by kernel_rfl
theorem F167:compF Tryz.prog 167=some ⟨8,[.tmp 4],(.g [.k 4 false] (.g [.m 5 0,.m 6 1,.g' 7 247 5 6,.m 4 7] (.ret [4])))⟩:=by kernel_rfl
theorem F245:compF Tryz.prog 245=some ⟨9,[.tmp 4],(.g [.k 4 false] (.g [.m 5 0,.m 6 1,.g' 7 303 5 6,.v 8 .geq 7 0,.m 4 8] (.ret [4])))⟩:=by kernel_rfl
theorem F244:compF Tryz.prog 244=some ⟨23,[.tmp 4,.tmp 5,.tmp 6],(.g [.s 4 (.mv (.w [])),.s 5 (.mv (.w [])),.k 6 false] (.join [0] (.g [.m 8 0,.m 9 1,.g' 10 302 8 9,.m 7 10] (.g [.m 11 7,.v 12 .geq 11 0] (.i 12 (.q (.dreg 12 [.m 13 0,.m 14 7,.s 15 (.slices (.t 13) none (some (.t 14))),.m 16 0,.m 17 7,.m 18 1,.s 19 (.lens (.t 18)),.b 20 .add 17 19,.s 21 (.slices (.t 16) (some (.t 20)) none),.m 4 15,.m 5 21,.k 6 true]) (.ret [4,5,6])) .skip))) (.g [.m 22 0,.m 4 22,.s 5 (.mv (.w [])),.k 6 false] (.ret [4,5,6]))))⟩:=by kernel_rfl
theorem F247:compF Tryz.prog 247=some ⟨21,[.tmp 4],(.g [.k 4 false] (.join [4] (.reg [.m 5 0,.s 6 (.lens (.t 5)),.m 7 1,.s 8 (.lens (.t 7)),.b 9 .geq 6 8,.m 10 9,.my 11 0 10,.my 12 0 10,.y 13 (.lens (.t 12)) 10,.my 14 1 10,.y 15 (.lens (.t 14)) 10,.by' 16 .sub 13 15 10,.y 17 (.slices (.t 11) (some (.t 16)) none) 10,.my 18 1 10,.by' 19 .eql 17 18 10,.e 20 10 19,.m 4 20]) (.ret [4])))⟩:=by kernel_rfl
theorem F303:compF Tryz.prog 303=some ⟨8,[.tmp 4],(.g [.c 4 0] (.g [.m 5 0,.m 6 1,.s 7 (.f 340 [.t 5,.t 6,(.c (.bool true))]),.m 4 7] (.ret [4])))⟩:=by kernel_rfl
theorem F274:compF Tryz.prog 274=some ⟨43,[.tmp 4],(.g [.s 4 (.mv (.w []))] (.join [0,1] (.join [0,1,12] (.reg [.m 7 0,.s 8 (.bin .eql (.t 7) (.w [])),.m 9 8,.mx 10 1 9,.x 11 (.bin .eql (.t 10) (.w [])) 9,.o 12 9 11]) (.i 12 (.g [.m 13 0,.m 4 13] (.ret [4])) .skip)) (.join [0,1] (.join [0,1,21] (.reg [.m 14 1,.s 15 (.lens (.t 14)),.v 16 .eql 15 1,.m 17 16,.my 18 1 17,.y 19 (.ichr (.t 18) (.i 0)) 17,.y 20 (.bin .lss (.t 19) (.c (.int .u8 128))) 17,.e 21 17 20]) (.i 21 (.q (.dreg 8 [.m 22 0,.m 23 1,.s 24 (.ichr (.t 23) (.i 0)),.g' 25 313 22 24,.m 26 1,.s 27 (.ichr (.t 26) (.i 0)),.g' 28 312 25 27,.m 4 28]) (.ret [4])) .skip)) (.join [0,1] (.g [.m 30 1,.f 31 314 30,.m 29 31,.j 32 0 29,.j 33 1 29,.s 5 (.alloc 351 (List.replicate 256 (.bool false))),.w 256 5 32,.m 6 33] (.z [5] (.g [.m 34 6] (.i 34 (.g [.m 35 0,.g' 36 316 35 5,.g' 37 315 36 5,.m 4 37] (.ret [4])) .skip)))) (.g [.m 38 0,.m 39 1,.g' 40 318 38 39,.m 41 1,.g' 42 317 40 41,.m 4 42] (.ret [4]))))))⟩:=by kernel_rfl
def B315_0:Cd:=(.join [0,1] (.g [.m 5 0,.s 6 (.lens (.t 5)),.v 7 .gtr 6 0] (.i 7 .skip (.exit [0] 0))) (.block 1 (.join [0,1] (.g [.m 8 1,.m 9 0,.s 10 (.ichr (.t 9) (.i 0)),.g' 11 346 8 10,.z 12 11] (.i 12 (.exit [0] 0) .skip)) (.reg [.m 13 0,.s 14 (.slices (.t 13) (some (.i 1)) none),.m 0 14]))))
theorem F315:compF Tryz.prog 315=some ⟨16,[.tmp 4],(.g [.s 4 (.mv (.w []))] (.join [0] (.block 0 (.loop [0,1] [] B315_0)) (.g [.m 15 0,.m 4 15] (.ret [4]))))⟩:=by kernel_rfl
def B316_0:Cd:=(.join [0,1] (.g [.m 5 0,.s 6 (.lens (.t 5)),.v 7 .gtr 6 0] (.i 7 .skip (.exit [0] 0))) (.block 1 (.join [0,1] (.g [.m 8 1,.m 9 0,.m 10 0,.s 11 (.lens (.t 10)),.v 12 .sub 11 1,.s 13 (.ichr (.t 9) (.t 12)),.g' 14 346 8 13,.z 15 14] (.i 15 (.exit [0] 0) .skip)) (.reg [.m 16 0,.m 17 0,.s 18 (.lens (.t 17)),.v 19 .sub 18 1,.s 20 (.slices (.t 16) none (some (.t 19))),.m 0 20]))))
theorem F316:compF Tryz.prog 316=some ⟨22,[.tmp 4],(.g [.s 4 (.mv (.w []))] (.join [0] (.block 0 (.loop [0,1] [] B316_0)) (.g [.m 21 0,.m 4 21] (.ret [4]))))⟩:=by kernel_rfl
theorem F346:compF Tryz.prog 346=some ⟨10,[.tmp 4],(.g [.k 4 false] (.g [.m 5 0,.m 6 1,.s 7 (.k 5),.s 8 (.iadra 256 1 (.t 7) (.t 6)),.l 9 8,.m 4 9] (.ret [4])))⟩:=by kernel_rfl
end Go.Proofs.YtpbiilllhjeibaaGreatDoor

namespace Go.Proofs
open Go.Shelf
def Tryz.laysC172_ren:Go.Shelf.Ren:=⟨fun|172=>376|244=>377|245=>378|247=>379|279=>380|280=>381|281=>382|282=>383|287=>384|316=>385|171=>387|205=>386|321=>388|322=>389|243=>390|246=>391|283=>392|284=>393|285=>394|286=>395|129=>335|317=>396|318=>397|319=>398|320=>399|337=>400|338=>401|n=>n,fun|9=>9|3=>3|75=>407|76=>408|4=>4|5=>5|167=>411|37=>215|0=>0|85=>412|2=>2|168=>414|53=>372|175=>417|46=>244|210=>421|127=>425|145=>428|143=>426|21=>21|171=>430|173=>432|212=>435|51=>370|20=>20|213=>436|232=>437|233=>438|80=>439|n=>n,fun|15=>3|16=>4|17=>5|18=>6|19=>7|n=>n⟩
theorem Tryz.laysC172:Go.Proofs.LaysC.n172 Tryz.prog Tryz.laysC172_ren:={
 mixed:=by kernel_rfl
 f129:=Tryz.func335.trans (congrArg some (by kernel_rfl))
 f171:=Tryz.func387.trans (congrArg some (by kernel_rfl))
 f172:=Tryz.func376.trans (congrArg some (by kernel_rfl))
 f205:=Tryz.func386.trans (congrArg some (by kernel_rfl))
 f243:=Tryz.func390.trans (congrArg some (by kernel_rfl))
 f244:=Tryz.func377.trans (congrArg some (by kernel_rfl))
 f245:=Tryz.func378.trans (congrArg some (by kernel_rfl))
 f246:=Tryz.func391.trans (congrArg some (by kernel_rfl))
 f247:=Tryz.func379.trans (congrArg some (by kernel_rfl))
 f279:=Tryz.func380.trans (congrArg some (by kernel_rfl))
 f280:=Tryz.func381.trans (congrArg some (by kernel_rfl))
 f281:=Tryz.func382.trans (congrArg some (by kernel_rfl))
 f282:=Tryz.func383.trans (congrArg some (by kernel_rfl))
 f283:=Tryz.func392.trans (congrArg some (by kernel_rfl))
 f284:=Tryz.func393.trans (congrArg some (by kernel_rfl))
 f285:=Tryz.func394.trans (congrArg some (by kernel_rfl))
 f286:=Tryz.func395.trans (congrArg some (by kernel_rfl))
 f287:=Tryz.func384.trans (congrArg some (by kernel_rfl))
 f316:=Tryz.func385.trans (congrArg some (by kernel_rfl))
 f317:=Tryz.func396.trans (congrArg some (by kernel_rfl))
 f318:=Tryz.func397.trans (congrArg some (by kernel_rfl))
 f319:=Tryz.func398.trans (congrArg some (by kernel_rfl))
 f320:=Tryz.func399.trans (congrArg some (by kernel_rfl))
 f321:=Tryz.func388.trans (congrArg some (by kernel_rfl))
 f322:=Tryz.func389.trans (congrArg some (by kernel_rfl))
 f337:=Tryz.func400.trans (congrArg some (by kernel_rfl))
 f338:=Tryz.func401.trans (congrArg some (by kernel_rfl))
 t0:=Tryz.underlying0
 a0:=Tryz.isAgg0
 z0:=Tryz.sizeOf0
 v0:=Tryz.zeroValue0
 t2:=Tryz.underlying2
 a2:=Tryz.isAgg2
 z2:=Tryz.sizeOf2
 v2:=Tryz.zeroValue2
 t3:=Tryz.underlying3
 a3:=Tryz.isAgg3
 z3:=Tryz.sizeOf3
 v3:=Tryz.zeroValue3
 t4:=Tryz.underlying4
 a4:=Tryz.isAgg4
 z4:=Tryz.sizeOf4
 v4:=Tryz.zeroValue4
 t5:=Tryz.underlying5
 a5:=Tryz.isAgg5
 z5:=Tryz.sizeOf5
 v5:=Tryz.zeroValue5
 t9:=Tryz.underlying9
 a9:=Tryz.isAgg9
 z9:=Tryz.sizeOf9
 v9:=Tryz.zeroValue9
 t20:=Tryz.underlying20
 a20:=Tryz.isAgg20
 z20:=Tryz.sizeOf20
 v20:=Tryz.zeroValue20
 t21:=Tryz.underlying21
 a21:=Tryz.isAgg21
 z21:=Tryz.sizeOf21
 v21:=Tryz.zeroValue21
 t37:=Tryz.underlying215
 a37:=Tryz.isAgg215
 z37:=Tryz.sizeOf215
 v37:=Tryz.zeroValue215
 t46:=Tryz.underlying244
 a46:=Tryz.isAgg244
 z46:=Tryz.sizeOf244
 v46:=Tryz.zeroValue244
 t51:=Tryz.underlying370
 a51:=Tryz.isAgg370
 z51:=Tryz.sizeOf370
 v51:=Tryz.zeroValue370
 t53:=Tryz.underlying372
 a53:=Tryz.isAgg372
 z53:=Tryz.sizeOf372
 v53:=Tryz.zeroValue372
 t75:=Tryz.underlying407
 a75:=Tryz.isAgg407
 z75:=Tryz.sizeOf407
 v75:=Tryz.zeroValue407
 t76:=Tryz.underlying408
 a76:=Tryz.isAgg408
 z76:=Tryz.sizeOf408
 v76:=Tryz.zeroValue408
 t85:=Tryz.underlying412
 a85:=Tryz.isAgg412
 z85:=Tryz.sizeOf412
 v85:=Tryz.zeroValue412
 t127:=Tryz.underlying425
 a127:=Tryz.isAgg425
 z127:=Tryz.sizeOf425
 v127:=Tryz.zeroValue425
 t143:=Tryz.underlying426
 a143:=Tryz.isAgg426
 z143:=Tryz.sizeOf426
 v143:=Tryz.zeroValue426
 t145:=Tryz.underlying428
 a145:=Tryz.isAgg428
 z145:=Tryz.sizeOf428
 v145:=Tryz.zeroValue428
 t167:=Tryz.underlying411
 a167:=Tryz.isAgg411
 z167:=Tryz.sizeOf411
 v167:=Tryz.zeroValue411
 t168:=Tryz.underlying414
 a168:=Tryz.isAgg414
 z168:=Tryz.sizeOf414
 v168:=Tryz.zeroValue414
 t171:=Tryz.underlying430
 a171:=Tryz.isAgg430
 z171:=Tryz.sizeOf430
 v171:=Tryz.zeroValue430
 t173:=Tryz.underlying432
 a173:=Tryz.isAgg432
 z173:=Tryz.sizeOf432
 v173:=Tryz.zeroValue432
 t175:=Tryz.underlying417
 a175:=Tryz.isAgg417
 z175:=Tryz.sizeOf417
 v175:=Tryz.zeroValue417
 t210:=Tryz.underlying421
 a210:=Tryz.isAgg421
 z210:=Tryz.sizeOf421
 v210:=Tryz.zeroValue421
 t212:=Tryz.underlying435
 a212:=Tryz.isAgg435
 z212:=Tryz.sizeOf435
 v212:=Tryz.zeroValue435
 t213:=Tryz.underlying436
 a213:=Tryz.isAgg436
 z213:=Tryz.sizeOf436
 t232:=Tryz.underlying437
 a232:=Tryz.isAgg437
 z232:=Tryz.sizeOf437
 v232:=Tryz.zeroValue437
 t233:=Tryz.underlying438
 a233:=Tryz.isAgg438
 z233:=Tryz.sizeOf438
 v233:=Tryz.zeroValue438
 g15:=by kernel_rfl
 g16:=by kernel_rfl
 g17:=by kernel_rfl
 g18:=by kernel_rfl
 g19:=by kernel_rfl
 t80:=Tryz.underlying439
 a80:=Tryz.isAgg439
 z80:=Tryz.sizeOf439
 v80:=Tryz.zeroValue439
 i0:=by kernel_rfl
 i2:=by kernel_rfl
 i3:=by kernel_rfl
 i4:=by kernel_rfl
 i5:=by kernel_rfl
 i9:=by kernel_rfl
 i20:=by kernel_rfl
 i21:=by kernel_rfl
 i37:=by kernel_rfl
 i46:=by kernel_rfl
 i51:=by kernel_rfl
 i53:=by kernel_rfl
 i75:=by kernel_rfl
 i76:=by kernel_rfl
 i80:=by kernel_rfl
 i85:=by kernel_rfl
 i127:=by kernel_rfl
 i143:=by kernel_rfl
 i145:=by kernel_rfl
 i167:=by kernel_rfl
 i168:=by kernel_rfl
 i171:=by kernel_rfl
 i173:=by kernel_rfl
 i175:=by kernel_rfl
 i210:=by kernel_rfl
 i212:=by kernel_rfl
 i232:=by kernel_rfl
 i233:=by kernel_rfl
 m15:=by kernel_rfl
 m16:=by kernel_rfl
 m17:=by kernel_rfl
 m18:=by kernel_rfl
 m19:=by kernel_rfl
 c0:=by kernel_rfl
 c2:=by kernel_rfl
 c3:=by kernel_rfl
 c4:=by kernel_rfl
 c5:=by kernel_rfl
 c9:=by kernel_rfl
 c20:=by kernel_rfl
 c21:=by kernel_rfl
 c37:=by kernel_rfl
 c46:=by kernel_rfl
 c51:=by kernel_rfl
 c53:=by kernel_rfl
 c75:=by kernel_rfl
 c76:=by kernel_rfl
 c80:=by kernel_rfl
 c85:=by kernel_rfl
 c127:=by kernel_rfl
 c143:=by kernel_rfl
 c145:=by kernel_rfl
 c167:=by kernel_rfl
 c168:=by kernel_rfl
 c171:=by kernel_rfl
 c173:=by kernel_rfl
 c175:=by kernel_rfl
 c210:=by kernel_rfl
 c212:=by kernel_rfl
 c213:=by kernel_rfl
 c232:=by kernel_rfl
 c233:=by kernel_rfl }
open Go.RowKit in
theorem Tryz.strconv_Atoi_ok (s:ByteArray)(hmax:s.size≤9223372036854775806)(v:Int)(h:Lib.atoiAll s.data.toList=.ok v)(w:World) :
  Calls Tryz.prog 376 #[.string s] w fun e w'=>e=.returned (.tuple #[.int .i64 v,.nilIface])∧(w'=w∨∃t,w'=Lib.bytesWorld w 5 t):=Any.strconv_Atoi_ok Tryz.laysC172 s hmax v h w
def Tryz.lays219_ren:Go.Shelf.Ren:=⟨fun|219=>302|217=>336|225=>337|224=>338|267=>339|266=>360|314=>361|n=>n,fun|9=>9|3=>3|4=>4|5=>5|46=>244|146=>392|51=>370|n=>n,fun|1=>0|n=>n⟩
theorem Tryz.lays219:Go.Proofs.Lays.n219 Tryz.prog Tryz.lays219_ren:={
 mixed:=by kernel_rfl
 f217:=Tryz.func336.trans (congrArg some (by kernel_rfl))
 f219:=Tryz.func302.trans (congrArg some (by kernel_rfl))
 f224:=Tryz.func338.trans (congrArg some (by kernel_rfl))
 f225:=Tryz.func337.trans (congrArg some (by kernel_rfl))
 f266:=Tryz.func360.trans (congrArg some (by kernel_rfl))
 f267:=Tryz.func339.trans (congrArg some (by kernel_rfl))
 f314:=Tryz.func361.trans (congrArg some (by kernel_rfl))
 t3:=Tryz.underlying3
 a3:=Tryz.isAgg3
 z3:=Tryz.sizeOf3
 v3:=Tryz.zeroValue3
 t4:=Tryz.underlying4
 a4:=Tryz.isAgg4
 z4:=Tryz.sizeOf4
 v4:=Tryz.zeroValue4
 t5:=Tryz.underlying5
 a5:=Tryz.isAgg5
 z5:=Tryz.sizeOf5
 v5:=Tryz.zeroValue5
 t9:=Tryz.underlying9
 a9:=Tryz.isAgg9
 z9:=Tryz.sizeOf9
 v9:=Tryz.zeroValue9
 t46:=Tryz.underlying244
 a46:=Tryz.isAgg244
 z46:=Tryz.sizeOf244
 v46:=Tryz.zeroValue244
 t51:=Tryz.underlying370
 a51:=Tryz.isAgg370
 z51:=Tryz.sizeOf370
 v51:=Tryz.zeroValue370
 t146:=Tryz.underlying392
 a146:=Tryz.isAgg392
 z146:=Tryz.sizeOf392
 v146:=Tryz.zeroValue392
 g1:=by kernel_rfl }
open Go.RowKit Go.Lib in
theorem Tryz.stringslite_Index_one (s:ByteArray)(c:UInt8)(w:World) :
  Calls Tryz.prog 302 #[.string s,.string ⟨#[c]⟩] w fun e w'=>e=.returned (.int .i64 (Lib.indexByte s.data.toList c))∧w'=w:=Any.stringslite_Index_one Tryz.lays219 s c w
def Tryz.lays315_ren:Go.Shelf.Ren:=⟨fun|315=>340|n=>n,fun|9=>9|40=>303|4=>4|3=>3|0=>0|21=>21|n=>n,fun|n=>n⟩
theorem Tryz.lays315:Go.Proofs.Lays.n315 Tryz.prog Tryz.lays315_ren:={
 mixed:=by kernel_rfl
 f315:=Tryz.func340.trans (congrArg some (by kernel_rfl))
 t0:=Tryz.underlying0
 a0:=Tryz.isAgg0
 z0:=Tryz.sizeOf0
 v0:=Tryz.zeroValue0
 t3:=Tryz.underlying3
 a3:=Tryz.isAgg3
 z3:=Tryz.sizeOf3
 v3:=Tryz.zeroValue3
 t4:=Tryz.underlying4
 a4:=Tryz.isAgg4
 z4:=Tryz.sizeOf4
 v4:=Tryz.zeroValue4
 t9:=Tryz.underlying9
 a9:=Tryz.isAgg9
 z9:=Tryz.sizeOf9
 v9:=Tryz.zeroValue9
 t21:=Tryz.underlying21
 a21:=Tryz.isAgg21
 z21:=Tryz.sizeOf21
 v21:=Tryz.zeroValue21
 t40:=Tryz.underlying303
 a40:=Tryz.isAgg303
 z40:=Tryz.sizeOf303
 v40:=Tryz.zeroValue303 }
open Go.RowKit Go.Lib in
theorem Tryz.strings_indexFunc (g:Nat)(lb:Array Value)(eg:∀args w,(callFunc g args).run Tryz.prog w=.ok (.enter g args) w)(p:Nat→Bool)(truth:Bool)(s:ByteArray)(w:World)(hp:PredAt Tryz.prog g lb encR p w) :
  Calls Tryz.prog 340 #[.string s,.func (.func g) #[] lb,.bool truth] w fun e w'=>e=.returned (.int .i64 (Lib.idxFunc p truth s))∧Below w.heap.size w w':=Any.strings_indexFunc Tryz.lays315 g lb eg p truth s w hp
def Tryz.lays227_ren:Go.Shelf.Ren:=⟨fun|227=>314|n=>n,fun|9=>9|116=>351|4=>4|0=>0|3=>3|5=>5|n=>n,fun|n=>n⟩
theorem Tryz.lays227:Go.Proofs.Lays.n227 Tryz.prog Tryz.lays227_ren:={
 mixed:=by kernel_rfl
 f227:=Tryz.func314.trans (congrArg some (by kernel_rfl))
 t0:=Tryz.underlying0
 a0:=Tryz.isAgg0
 z0:=Tryz.sizeOf0
 v0:=Tryz.zeroValue0
 t3:=Tryz.underlying3
 a3:=Tryz.isAgg3
 z3:=Tryz.sizeOf3
 v3:=Tryz.zeroValue3
 t4:=Tryz.underlying4
 a4:=Tryz.isAgg4
 z4:=Tryz.sizeOf4
 v4:=Tryz.zeroValue4
 t5:=Tryz.underlying5
 a5:=Tryz.isAgg5
 z5:=Tryz.sizeOf5
 v5:=Tryz.zeroValue5
 t9:=Tryz.underlying9
 a9:=Tryz.isAgg9
 z9:=Tryz.sizeOf9
 v9:=Tryz.zeroValue9
 t116:=Tryz.underlying351
 a116:=Tryz.isAgg351
 z116:=Tryz.sizeOf351 }
open Go.RowKit Go.Lib in
theorem Tryz.strings_makeASCIISet (hv116:∀w,(zeroValue 351).run Tryz.prog w=.ok (.agg (Array.replicate 256 (.bool false))) w)(chars:ByteArray)(w:World)(hs:chars.size<4294967281)(hascii:∀(j:Nat) b,chars.data.toList[j]?=some b→b.toNat<128) :
  Calls Tryz.prog 314 #[.string chars] w fun e w'=>e=.returned (.tuple #[.agg (Lib.setCells chars.data.toList),.bool true])∧w'=w.alloc (.cells (Lib.setCells chars.data.toList) 351):=Any.strings_makeASCIISet Tryz.lays227 hv116 (by kernel_rfl) chars w hs hascii
end Go.Proofs

