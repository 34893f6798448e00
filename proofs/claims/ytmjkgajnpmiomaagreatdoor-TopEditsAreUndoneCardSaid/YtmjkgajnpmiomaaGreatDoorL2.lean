/- The compiled code of functions of this seat, printed by a program, and that it is the translation's: checked by the kernel. The patch: the program's answer is the reference's. Profiles: the program's  .. -/
import Derived.Test.YtmjkgajnpmiomaaGreatDoorLShbYB
import Derived.Test.YtmjkgajnpmiomaaGreatDoorProg
import Derived.KernelRfl
import Derived.Test.YtmjkgajnpmiomaaGreatDoorL1
import Derived.Test.YtmjkgajnpmiomaaGreatDoorLShbXT
import Derived.Test.YtmjkgajnpmiomaaGreatDoorLShbEK
set_option linter.unusedSimpArgs false
set_option linter.unusedVariables false
namespace Go.Proofs.YtmjkgajnpmiomaaGreatDoor
open Go.Sha
set_option maxRecDepth 10000
def B135_0:Cd:=(.g [.b 22 .lss 21 20] (.join [5,20,21] (.i 22 .skip (.exit [] 0)) (.join [5,20,21] (.block 1 (.g [.m 23 21,.m 6 23] (.g [.d 24 2 5,.m 25 6,.g' 26 218 24 25,.m 7 26] (.g [.m 27 7,.v 28 .neq 27 0] (.i 28 (.g [.m 29 7,.m 4 29] (.ret [4])) .skip))))) (.reg [.v 30 .add 21 1,.m 21 30]))))
theorem F135:compF Tryz.prog 135=some ⟨31,[.tmp 4],(.g [.c 4 0] (.join [0,1] (.join [0,1,15] (.reg [.m 8 1,.u 9 8,.v 10 .gtr 9 32,.m 11 10,.mx 12 0 11,.x 13 (.len (.t 12)) 11,.vx 14 .gtr 13 64 11,.o 15 11 14]) (.i 15 (.g [.c 4 5] (.ret [4])) .skip)) (.g [.m 16 0,.m 17 1,.g' 18 217 16 17,.s 5 (.alloc 257 [.nils,.nilm]),.w 2 5 18] (.z [5] (.join [] (.g [.m 19 0,.u 20 19,.c 21 0] (.block 0 (.loop [5,20,21] [] B135_0))) (.g [.c 4 0] (.ret [4])))))))⟩:=by kernel_rfl
def B21_0:Cd:=(.g [.b 9 .lss 8 7] (.join [1,6,7,8] (.i 9 .skip (.exit [] 0)) (.join [1,6,7,8] (.block 1 (.g [.r 10 1 6 8,.d 11 1 10,.s 4 (.alloc 114 [.nilf]),.w 1 4 11] (.z [4] (.g [.a 12 0 4,.l 13 12,.d 14 9 1,.s 15 (.call (.t 13) [.t 14]),.m 5 15] (.g [.m 16 5,.v 17 .neq 16 0] (.i 17 (.g [.m 18 5,.m 2 18] (.ret [2])) .skip)))))) (.reg [.v 19 .add 8 1,.m 8 19]))))
theorem F21:compF Tryz.prog 21=some ⟨20,[.tmp 2],(.g [.q 1 31 0,.c 2 0] (.z [1] (.join [] (.g [.s 6 (.f 44 []),.u 7 6,.c 8 0] (.block 0 (.loop [1,6,7,8] [] B21_0))) (.g [.c 2 0] (.ret [2])))))⟩:=by kernel_rfl
theorem F44:compF Tryz.prog 44=some ⟨9,[.tmp 0],(.g [.s 0 (.mv (.c .nils))] (.g [.s 1 (.build [.nilf] [(0,1,(.c (.fn (.func 77) [] [])))]),.s 2 (.build [.nilf] [(0,1,(.c (.fn (.func 78) [] [])))]),.s 3 (.build [.nilf] [(0,1,(.c (.fn (.func 81) [] [])))]),.s 4 (.build [.nilf] [(0,1,(.c (.fn (.func 83) [] [])))]),.s 5 (.build [.nilf] [(0,1,(.c (.fn (.func 85) [] [])))]),.s 6 (.build [.nilf] [(0,1,(.c (.fn (.func 86) [] [])))]),.s 7 (.build [.nilf] [(0,1,(.c (.fn (.func 88) [] [])))]),.s 8 (.bslice 114 1 [.t 1,.t 2,.t 3,.t 4,.t 5,.t 6,.t 7]),.m 0 8] (.ret [0])))⟩:=by kernel_rfl
def B77_0:Cd:=(.g [.b 14 .lss 13 12] (.join [11,12,13] (.i 14 .skip (.exit [] 0)) (.join [11,12,13] (.block 1 (.g [.r 15 1 11 13,.l 16 15,.m 4 16] (.join [11,12,13,26] (.reg [.m 17 4,.s 18 (.bin .lss (.t 17) (.c (.int .u8 32))),.m 19 18,.mx 20 4 19,.x 21 (.bin .gtr (.t 20) (.c (.int .u8 126))) 19,.o 22 19 21,.m 23 22,.mx 24 4 23,.x 25 (.bin .eql (.t 24) (.c (.int .u8 34))) 23,.o 26 23 25]) (.i 26 (.g [.c 2 3] (.ret [2])) .skip)))) (.reg [.v 27 .add 13 1,.m 13 27]))))
theorem F77:compF Tryz.prog 77=some ⟨28,[.tmp 2],(.g [.q 1 31 0,.c 2 0] (.z [1] (.join [1] (.g [.a 5 0 1,.l 6 5,.s 7 (.lens (.t 6)),.v 8 .gtr 7 24] (.i 8 (.g [.c 2 13] (.ret [2])) .skip)) (.join [] (.g [.a 9 0 1,.l 10 9,.s 11 (.cvsb 5 (.t 10)),.u 12 11,.c 13 0] (.block 0 (.loop [11,12,13] [] B77_0))) (.g [.c 2 0] (.ret [2]))))))⟩:=by kernel_rfl
theorem F78:compF Tryz.prog 78=some ⟨6,[.tmp 2],(.g [.q 1 31 0,.c 2 0] (.z [1] (.g [.d 3 9 1,.f 4 80 3,.f 5 79 4,.m 2 5] (.ret [2]))))⟩:=by kernel_rfl
theorem F81:compF Tryz.prog 81=some ⟨6,[.tmp 2],(.g [.q 1 31 0,.c 2 0] (.z [1] (.g [.a 3 4 1,.l 4 3,.f 5 82 4,.m 2 5] (.ret [2]))))⟩:=by kernel_rfl
theorem F83:compF Tryz.prog 83=some ⟨6,[.tmp 2],(.g [.q 1 31 0,.c 2 0] (.z [1] (.g [.a 3 5 1,.l 4 3,.f 5 84 4,.m 2 5] (.ret [2]))))⟩:=by kernel_rfl
def B85_0:Cd:=(.g [.b 14 .lss 13 12] (.join [1,11,12,13] (.i 14 .skip (.exit [] 0)) (.join [1,11,12,13] (.block 1 (.g [.m 15 13,.r 16 3 11 13,.d 17 3 16,.s 4 (.alloc 98 [.i 0,.i 0,.nils]),.m 3 15,.w 3 4 17] (.z [4] (.join [1,3,4,11,12,13] (.g [.d 18 3 4,.f 19 138 18,.m 5 19] (.g [.m 20 5,.v 21 .neq 20 0] (.i 21 (.g [.m 22 5,.m 2 22] (.ret [2])) .skip))) (.join [1,11,12,13,36] (.dreg 14 [.m 23 3,.v 24 .gtr 23 0,.m 25 24,.ay 26 0 4 25,.ly 27 26 25,.ay 28 6 1 25,.ly 29 28 25,.my 30 3 25,.vy 31 .sub 30 1 25,.ry 32 3 29 31 25,.ay 33 0 32 25,.ly 34 33 25,.by' 35 .leq 27 34 25,.e 36 25 35]) (.i 36 (.g [.c 2 9] (.ret [2])) .skip)))))) (.reg [.v 37 .add 13 1,.m 13 37]))))
theorem F85:compF Tryz.prog 85=some ⟨38,[.tmp 2],(.g [.q 1 31 0,.c 2 0] (.z [1] (.join [1] (.g [.a 6 6 1,.l 7 6,.u 8 7,.v 9 .gtr 8 8] (.i 9 (.g [.c 2 5] (.ret [2])) .skip)) (.join [] (.g [.a 10 6 1,.l 11 10,.u 12 11,.c 13 0] (.block 0 (.loop [1,11,12,13] [] B85_0))) (.g [.c 2 0] (.ret [2]))))))⟩:=by kernel_rfl
theorem F86:compF Tryz.prog 86=some ⟨6,[.tmp 2],(.g [.q 1 31 0,.c 2 0] (.z [1] (.g [.a 3 7 1,.l 4 3,.f 5 87 4,.m 2 5] (.ret [2]))))⟩:=by kernel_rfl
theorem F88:compF Tryz.prog 88=some ⟨6,[.tmp 2],(.g [.q 1 31 0,.c 2 0] (.z [1] (.g [.a 3 8 1,.l 4 3,.f 5 89 4,.m 2 5] (.ret [2]))))⟩:=by kernel_rfl
theorem F13:compF Tryz.prog 13=some ⟨40,[.tmp 2],(.g [.q 1 31 0,.c 2 0] (.z [1] (.join [1] (.g [.d 8 9 1,.f 9 36 8,.m 3 9] (.g [.m 10 3,.v 11 .neq 10 0] (.i 11 (.g [.m 12 3,.m 2 12] (.ret [2])) .skip))) (.join [1] (.g [.a 13 4 1,.l 14 13,.f 15 37 14,.m 4 15] (.g [.m 16 4,.v 17 .neq 16 0] (.i 17 (.g [.m 18 4,.m 2 18] (.ret [2])) .skip))) (.join [1] (.g [.a 19 5 1,.l 20 19,.f 21 38 20,.m 5 21] (.g [.m 22 5,.v 23 .neq 22 0] (.i 23 (.g [.m 24 5,.m 2 24] (.ret [2])) .skip))) (.join [1] (.g [.a 25 6 1,.l 26 25,.f 27 39 26,.m 6 27] (.g [.m 28 6,.v 29 .neq 28 0] (.i 29 (.g [.m 30 6,.m 2 30] (.ret [2])) .skip))) (.join [1] (.g [.a 31 7 1,.l 32 31,.f 33 40 32,.m 7 33] (.g [.m 34 7,.v 35 .neq 34 0] (.i 35 (.g [.m 36 7,.m 2 36] (.ret [2])) .skip))) (.g [.a 37 8 1,.l 38 37,.f 39 41 38,.m 2 39] (.ret [2])))))))))⟩:=by kernel_rfl
theorem F36:compF Tryz.prog 36=some ⟨31,[.tmp 2],(.g [.q 1 31 0,.c 2 0] (.z [1] (.join [1] (.g [.a 6 0 1,.l 7 6,.f 8 69 7,.m 3 8] (.g [.m 9 3,.v 10 .neq 9 0] (.i 10 (.g [.m 11 3,.m 2 11] (.ret [2])) .skip))) (.join [1] (.g [.a 12 1 1,.l 13 12,.f 14 70 13,.m 4 14] (.g [.m 15 4,.v 16 .neq 15 0] (.i 16 (.g [.m 17 4,.m 2 17] (.ret [2])) .skip))) (.join [1] (.g [.a 18 2 1,.l 19 18,.a 20 1 1,.l 21 20,.g' 22 71 19 21,.m 5 22] (.g [.m 23 5,.v 24 .neq 23 0] (.i 24 (.g [.m 25 5,.m 2 25] (.ret [2])) .skip))) (.g [.a 26 3 1,.l 27 26,.a 28 2 1,.l 29 28,.g' 30 72 27 29,.m 2 30] (.ret [2])))))))⟩:=by kernel_rfl
def B39_0:Cd:=(.join [0,3] (.g [.m 8 3,.m 9 0,.u 10 9,.b 11 .lss 8 10] (.i 11 .skip (.exit [] 0))) (.join [0,3] (.block 1 (.join [0,3] (.g [.m 14 0,.m 15 3,.r 16 3 14 15,.d 17 3 16,.f 18 68 17,.m 4 18] (.g [.m 19 4,.v 20 .neq 19 0] (.i 20 (.g [.m 21 4,.m 2 21] (.ret [2])) .skip))) (.join [0,3,37] (.dreg 16 [.m 22 3,.v 23 .gtr 22 0,.m 24 23,.my 25 0 24,.my 26 3 24,.ry 27 3 25 26 24,.ay 28 0 27 24,.ly 29 28 24,.my 30 0 24,.my 31 3 24,.vy 32 .sub 31 1 24,.ry 33 3 30 32 24,.ay 34 0 33 24,.ly 35 34 24,.by' 36 .leq 29 35 24,.e 37 24 36]) (.i 37 (.g [.c 2 9] (.ret [2])) .skip)))) (.reg [.m 12 3,.v 13 .add 12 1,.m 3 13])))
theorem F39:compF Tryz.prog 39=some ⟨38,[.tmp 2],(.g [.c 2 0] (.join [0] (.g [.m 5 0,.u 6 5,.v 7 .gtr 6 8] (.i 7 (.g [.c 2 5] (.ret [2])) .skip)) (.join [] (.g [.c 3 0] (.block 0 (.loop [0,3] [] B39_0))) (.g [.c 2 0] (.ret [2])))))⟩:=by kernel_rfl
def B69_0:Cd:=(.join [0,3] (.g [.m 7 3,.m 8 0,.s 9 (.lens (.t 8)),.b 10 .lss 7 9] (.i 10 .skip (.exit [] 0))) (.join [0,3] (.block 1 (.join [0,3,28] (.reg [.m 13 0,.m 14 3,.s 15 (.ichr (.t 13) (.t 14)),.s 16 (.bin .lss (.t 15) (.c (.int .u8 32))),.m 17 16,.mx 18 0 17,.mx 19 3 17,.x 20 (.ichr (.t 18) (.t 19)) 17,.x 21 (.bin .gtr (.t 20) (.c (.int .u8 126))) 17,.o 22 17 21,.m 23 22,.mx 24 0 23,.mx 25 3 23,.x 26 (.ichr (.t 24) (.t 25)) 23,.x 27 (.bin .eql (.t 26) (.c (.int .u8 34))) 23,.o 28 23 27]) (.i 28 (.g [.c 2 3] (.ret [2])) .skip))) (.reg [.m 11 3,.v 12 .add 11 1,.m 3 12])))
theorem F69:compF Tryz.prog 69=some ⟨29,[.tmp 2],(.g [.c 2 0] (.join [0] (.g [.m 4 0,.s 5 (.lens (.t 4)),.v 6 .gtr 5 24] (.i 6 (.g [.c 2 13] (.ret [2])) .skip)) (.join [] (.g [.c 3 0] (.block 0 (.loop [0,3] [] B69_0))) (.g [.c 2 0] (.ret [2])))))⟩:=by kernel_rfl
end Go.Proofs.YtmjkgajnpmiomaaGreatDoor

namespace Go.Proofs.YtmjkgajnpmiomaaGreatDoor
open Go.Sha
set_option maxRecDepth 100000
variable {g:List (Nat×Obj)}{n:Nat}
theorem foot_ded {ps:List Prof}{x:Fixt}:footS (dedP ps) x=footS ps x:=by simp only[footS,pfx_ded]
theorem useU_ded {ps:List Prof}{u:Int}:∀{l:List Fixt}{j:Nat}{a:List Int},useU (dedP ps) u l j a=useU ps u l j a
 |[],_,_=>rfl
 |x::r,j,a=>by rw[useU,useU,foot_ded,useU_ded]
theorem setL_get {a:List Int}{o k:Nat}{v:Int}(h:o<a.length):(setL a o v).getD k 0=if k=o then v else a.getD k 0:=by
 have h1:(a.take o).length=o:=len_take (by omega)
 rw[setL,List.getD_eq_getElem?_getD,List.getElem?_append]
 rw[h1]
 by_cases h2:k<o
 ·rw[if_pos h2,if_neg (by omega),List.getElem?_take,if_pos h2,List.getD_eq_getElem?_getD]
 ·rw[if_neg h2]
  by_cases h3:k=o
  ·subst h3;simp
  ·rw[if_neg h3,show k-o=(k-o-1)+1 by omega,List.getElem?_cons_succ,List.getElem?_drop,show o+1+(k-o-1)=k by omega,List.getD_eq_getElem?_getD]
theorem fillA_get {v:Int}{k:Nat}:∀{m:Nat}{a:List Int}{o:Nat},o+m≤a.length→(fillA a o v m).getD k 0=if o≤k∧k<o+m then v else a.getD k 0
 |0,a,o,h=>by rw[fillA,if_neg (by omega)]
 |m+1,a,o,h=>by
  have h1:=setL_len (a:=a) (o:=o) (v:=v) (by omega)
  rw[fillA,fillA_get (by omega),setL_get (by omega)]
  by_cases h2:k=o
  ·rw[if_neg (by omega),if_pos h2,if_pos (by omega)]
  ·rw[if_neg h2]
   by_cases h3:o+1≤k∧k<o+1+m
   ·rw[if_pos h3,if_pos (by omega)]
   ·rw[if_neg h3,if_neg (by omega)]
def usesK (ps:List Prof)(u:Int)(k:Nat)(y:Fixt):Prop:=y.univ=u∧y.addr≤k∧(k:Int)<y.addr+footS ps y
theorem useU_get {ps:List Prof}{u:Int}{k:Nat}:∀{l:List Fixt}{j:Nat}{a:List Int},(∀x∈l,inU ps x)→a.length=513→(0<(useU ps u l j a).getD k 0↔(∃y∈l,usesK ps u k y)∨0<a.getD k 0)
 |[],j,a,_,_=>by simp[useU]
 |x::r,j,a,hb,h=>by
  obtain⟨b1,b2,b3⟩:=hb x (List.mem_cons_self ..)
  have hl:(if x.univ=u then fillA a x.addr.toNat (j+1) (footS ps x).toNat else a).length=513:=by
   split
   ·rw[fillA_len (by omega)];exact h
   ·exact h
  rw[useU,useU_get (fun y hy=>hb y (List.mem_cons_of_mem _ hy)) hl]
  have e:0<(if x.univ=u then fillA a x.addr.toNat (j+1) (footS ps x).toNat else a).getD k 0↔usesK ps u k x∨0<a.getD k 0:=by
   by_cases hu:x.univ=u
   ·rw[if_pos hu,fillA_get (by omega)]
    unfold usesK
    by_cases h2:x.addr.toNat≤k∧k<x.addr.toNat+(footS ps x).toNat
    ·rw[if_pos h2];exact⟨fun _=>.inl ⟨hu,by omega,by omega⟩,fun _=>by omega⟩
    ·rw[if_neg h2];exact⟨.inr,fun e=>e.resolve_left fun e=>h2 (by omega)⟩
   ·rw[if_neg hu];exact⟨.inr,fun e=>e.resolve_left fun e=>hu e.1⟩
  rw[e]
  simp only[List.mem_cons,exists_eq_or_imp]
  exact⟨fun h=>h.elim (fun h=>.inl (.inr h)) fun h=>h.elim (fun h=>.inl (.inl h)) .inr,fun h=>h.elim (fun h=>h.elim (fun h=>.inr (.inl h)) .inl) fun h=>.inr (.inr h)⟩
theorem any_part {l:List Int}{m n:Nat}{p:Int→Bool}:(((l.take n).drop m).any p=true)↔∃k,m≤k∧k<n∧k<l.length∧p (l.getD k 0)=true:=by
 rw[List.any_eq_true]
 constructor
 ·rintro⟨x,hx,hp⟩
  obtain⟨i,hi⟩:=List.mem_iff_getElem?.1 hx
  rw[List.getElem?_drop,List.getElem?_take]at hi
  split at hi
  ·rename_i h
   have h2:=(List.getElem?_eq_some_iff.1 hi).1
   exact⟨m+i,by omega,h,h2,by rw[List.getD_eq_getElem?_getD,hi];exact hp⟩
  ·cases hi
 ·rintro⟨k,h1,h2,h3,h4⟩
  refine⟨l.getD k 0,List.mem_iff_getElem?.2 ⟨k-m,?_⟩,h4⟩
  rw[List.getElem?_drop,List.getElem?_take,show m+(k-m)=k by omega,if_pos h2,List.getD_eq_getElem?_getD,List.getElem?_eq_getElem h3];rfl
theorem aloC_ok {ps:List Prof}{x:Fixt}(h:aloC ps x=0):rngC x=0∧∃p,pfx ps x.prof=some p∧1≤p.foot∧x.addr+p.foot≤513:=by
 unfold aloC at h
 split at h
 ·rename_i h1;exact absurd h h1
 ·rename_i h1
  have h1:=Classical.not_not.1 h1
  split at h
  ·cases h
  ·split at h
   ·cases h
   ·rename_i p hp
    split at h
    ·cases h
    ·rename_i h3
     have:=rng_ok h1
     rw[wr1_ok (by omega)]at h3
     exact⟨h1,p,hp,by omega,by omega⟩
theorem aloC_in {ps:List Prof}{x:Fixt}(h:aloC ps x=0):inU ps x∧1≤footS ps x:=by
 obtain⟨h1,p,hp,h2,h3⟩:=aloC_ok h
 have:=rng_ok h1
 have e:footS ps x=p.foot:=by rw[footS,hp];rfl
 unfold inU
 rw[e]
 omega
theorem zI_get {k:Nat}:zI.getD k 0=0:=by
 rw[zI,List.getD_eq_getElem?_getD,List.getElem?_replicate];split<;>rfl
theorem fixF_eq {ps:List Prof}{b:List Fixt}{x:Fixt}(hb:∀y∈b,aloC ps y=0) :
  fixF (dedP ps) b x=if ¬aloC ps x=0 then aloC ps x else if b.any (fun p=>decide (p.chan=x.chan∧p.part=x.part))=true then 7 else if b.any (fun p=>ovl ps p x)=true then 10 else 0:=by
 unfold fixF
 rw[pfx_ded,useU_ded]
 by_cases h1:rngC x=0
 ·rw[if_neg (by simp[h1])]
  unfold aloC
  rw[if_neg (by simp[h1]:¬¬rngC x=0)]
  by_cases h2:¬x.cable=[]∧nameS x.cable=false
  ·rw[if_pos h2,if_pos h2];rfl
  ·rw[if_neg h2,if_neg h2]
   cases hp:pfx ps x.prof with
   |none=>rfl
   |some p =>
    dsimp only
    by_cases h3:p.foot<1∨wr1 x<p.foot
    ·simp[h3]
    ·simp only[if_neg h3,not_true_eq_false,if_false]
     have r:=rng_ok h1
     rw[wr1_ok (by omega)]at h3
     have e1:(b.any fun y=>decide (y.chan=x.chan)&&y.part == x.part)=b.any fun p=>decide (p.chan=x.chan∧p.part=x.part):=by
      congr 1;funext y;simp only[Bool.decide_and];rfl
     rw[e1]
     congr 1
     have ef:footS ps x=p.foot:=by rw[footS,hp];rfl
     have e2:((((useU ps x.univ b 0 zI).take (x.addr+p.foot).toNat).drop x.addr.toNat).any fun v=>decide (0<v))=b.any fun p=>ovl ps p x:=by
      rw[Bool.eq_iff_iff,any_part,List.any_eq_true,useU_len (fun y hy=>(aloC_in (hb y hy)).1) zI_len]
      simp only[decide_eq_true_eq,useU_get (fun y hy=>(aloC_in (hb y hy)).1) zI_len,zI_get,Int.lt_irrefl,or_false]
      constructor
      ·rintro⟨k,k1,k2,k3,y,hy,u1,u2,u3⟩
       obtain⟨⟨b1,b2,b3⟩,b4⟩:=aloC_in (hb y hy)
       have w1:IntKind.i64.wrap (x.addr+p.foot)=x.addr+p.foot:=iwrap (by omega) (by omega)
       have w2:IntKind.i64.wrap (y.addr+footS ps y)=y.addr+footS ps y:=iwrap (by omega) (by omega)
       exact⟨y,hy,by simp only[ovl,decide_eq_true_eq,w1,w2,ef];omega⟩
      ·rintro⟨y,hy,ho⟩
       obtain⟨⟨b1,b2,b3⟩,b4⟩:=aloC_in (hb y hy)
       have w1:IntKind.i64.wrap (x.addr+p.foot)=x.addr+p.foot:=iwrap (by omega) (by omega)
       have w2:IntKind.i64.wrap (y.addr+footS ps y)=y.addr+footS ps y:=iwrap (by omega) (by omega)
       simp only[ovl,decide_eq_true_eq,w1,w2,ef]at ho
       refine⟨(max x.addr y.addr).toNat,?_,?_,?_,y,hy,ho.1,?_,?_⟩<;>omega
     rw[e2]
 ·rw[if_pos h1]
  have:aloC ps x=2:=by
   unfold aloC
   rw[if_pos h1]
   unfold rngC at h1 ⊢
   split
   ·rfl
   ·split
    ·rfl
    ·rename_i a b;simp[a,b]at h1
  rw[this];rfl
theorem L135 {l:List Fixt}{ps:List Prof}(hl:l.length<140737488355328)(hb:∀x∈l,x.cable.length<140737488355328):∀r j,l.drop j=r→(∀x∈l.take j,aloC ps x=0)→runL Tryz.prog HH [5,20,21] 1 B135_0 [(5,.ep (rigV l (dedP ps)) 0),(20,.int .i64 l.length),(21,.int .i64 j)] (stN g 1)=lpE (stN g 1) [] 4 (fixR ps l r j):=by
 refine drop_ind (fun j h h8=>?_) (fun q r j h hx hd ih h8=>?_)
 all_goals rw[runL_of B135_0.eq_1]
 ·have h1:¬(j:Int)<l.length:=by omega
  push_cast[h1,fixR]
 ·have h1:(j:Int)<l.length:=by omega
  have hw:=iw1 (j:=j) (by omega)
  have h190:=fun(st:St)=>f218 (ps:=dedP ps) (st:=st) hl h hx (fun y hy=>by have:=(aloC_in (h8 y hy)).1;unfold inU at this ⊢;rw[foot_ded];exact this) (hb q (mem_at hd))
  rw[fixF_eq h8]at h190
  push_cast[rigV]at h190
  by_cases h2:aloC ps q=0
  ·have ih:=ih (by rw[take_snoc hd];intro x hx;rcases List.mem_append.1 hx with hx|hx;exact h8 x hx;rw[List.mem_singleton.1 hx];exact h2)
   push_cast[h1,hw,hx,rigV,h190,h2]at ih ⊢
   simp only[ih,fixR,h2]
   all_goals ((repeat' split)<;>simp_all)
  ·clear ih
   push_cast[h1,hw,hx,rigV,h190,h2]
   simp[fixR,h2]
theorem f135 {l:List Fixt}{ps:List Prof}(hl:l.length<140737488355328)(hb:∀x∈l,x.cable.length<140737488355328)(hp:ps.length<140737488355328){st:St}:run Tryz.prog HH 135 [.sl (l.map Fixt.v),.sl (ps.map Prof.v)] st=some (.ret (.int .i64 (fixCR l ps)),st):=by
 have h189:=fun(st:St)=>f217 (l:=l) (ps:=ps) (st:=st) hp
 have hL:=L135 (g:=st.x.gl) (ps:=ps) hl hb _ 0 rfl (by simp)
 push_cast[rigV]at hL h189
 rw[run_shut F135 rfl rfl (by simp)]
 push_cast[h189,hL,fixCR,lpE]
end Go.Proofs.YtmjkgajnpmiomaaGreatDoor

namespace Go.Proofs.YtmjkgajnpmiomaaGreatDoor
open Go.Sha
set_option maxRecDepth 100000
variable {g:List (Nat×Obj)}{n:Nat}
theorem insI_c {l:List Int}{a b:Int}:(insI l a).contains b=(l.contains b||b == a):=by
 unfold insI
 split
 ·rename_i h
  by_cases e:b=a
  ·subst e;simp only[h];simp
  ·simp[e]
 ·rw[List.contains_eq_any_beq,List.any_append,←List.contains_eq_any_beq];simp[BEq.comm]
theorem foldI_c {b:Int}:∀{os l:List Int},(os.foldl insI l).contains b=(l.contains b||os.contains b)
 |[],l=>by simp
 |a::r,l=>by rw[List.foldl_cons,foldI_c,insI_c,List.contains_cons,Bool.or_assoc]
theorem offs_c {q:Ftr}{v:Int}:(offs q).contains v=useQ v q:=by
 unfold offs useQ
 rw[Bool.eq_iff_iff]
 by_cases h:q.bits=16
 ·simp only[h,if_true,true_and,List.contains_cons,List.contains_nil,Bool.or_false,Bool.or_eq_true,beq_iff_eq,decide_eq_true_eq]
  exact⟨fun e=>e.elim (fun e=>.inl e.symm) (fun e=>.inr e.symm),fun e=>e.elim (fun e=>.inl e.symm) (fun e=>.inr e.symm)⟩
 ·simp only[h,if_false,false_and,or_false,List.contains_cons,List.contains_nil,Bool.or_false,beq_iff_eq,decide_eq_true_eq]
  exact⟨Eq.symm,Eq.symm⟩
def SetOk (b:List Ftr)(ts us:List Int):Prop:=(∀a,ts.contains a=b.any fun z=>z.attr == a)∧∀v,us.contains v=b.any (useQ v)
theorem SetOk.snoc {b:List Ftr}{ts us:List Int}(h:SetOk b ts us)(q:Ftr):SetOk (b++[q]) (insI ts q.attr) ((offs q).foldl insI us) :=
 ⟨fun a=>by rw[insI_c,h.1,List.any_append];simp[BEq.comm],fun v=>by rw[foldI_c,h.2,List.any_append,offs_c];simp⟩
theorem insC_eq {q:Ftr}(h:q.bits=8∨q.bits=16):insC q=insR q:=by
 have e:topV q.bits=if q.bits=8 then 255 else 65535:=by rcases h with h|h<;>rw[h]<;>decide
 unfold insC insR
 rw[e]
 by_cases h1:lvl q.home<;>by_cases h2:q.low<0∨q.high<q.low∨(if q.bits=8 then 255 else 65535)<q.high<;>simp[h1,h2]
theorem innC_eq {q:Ftr}{c:Int}(h:q.bits=8∨q.bits=16):innC c q=innR c q:=by unfold innC innR;rw[insC_eq h]
theorem featF_eq {foot c:Int}{q:Ftr}{b:List Ftr}{ts us:List Int}(h:SetOk b ts us):featR foot c q b=if ¬featF foot q ts us=0 then featF foot q ts us else innC c q:=by
 have e1:((offs q).any fun v=>decide (v<0∨foot≤v))=true↔q.coarse<0∨foot≤q.coarse∨q.bits=16∧(q.fine<0∨foot≤q.fine):=by
  unfold offs;by_cases hb:q.bits=16<;>simp[hb,or_assoc]
 have e2:(offs q).any us.contains=true↔b.any (useQ q.coarse)=true∨q.bits=16∧b.any (useQ q.fine)=true:=by
  rw[←h.2,←h.2];unfold offs;by_cases hb:q.bits=16<;>simp only[hb,if_true,if_false,List.any_cons,List.any_nil,Bool.or_false,Bool.or_eq_true,true_and,false_and,or_false]
 unfold featR featF
 rw[h.1]
 by_cases c1:q.attr<0∨15≤q.attr
 ·simp[c1]
 ·by_cases c2:(b.any fun z=>z.attr == q.attr)=true
  ·simp[c1,c2]
  ·by_cases c3:¬q.bits=8∧¬q.bits=16
   ·simp[c1,c2,c3]
   ·have hb:q.bits=8∨q.bits=16:=by omega
    rw[innC_eq hb]
    by_cases c4:q.coarse<0∨foot≤q.coarse∨q.bits=16∧(q.fine<0∨foot≤q.fine)
    ·simp only[if_neg c1,if_neg c2,if_neg c3,if_pos c4,if_pos (e1.2 c4)];rfl
    ·simp only[if_neg c1,if_neg c2,if_neg c3,if_neg c4,if_neg (fun e=>c4 (e1.1 e))]
     by_cases c5:q.bits=8∧¬q.fine=0
     ·simp only[if_pos c5];rfl
     ·simp only[if_neg c5]
      by_cases c6:(offs q).any us.contains=true
      ·simp only[if_pos c6]
       rw[if_pos ((e2.1 c6).elim .inl fun e=>.inr ⟨e.1,.inl e.2⟩)];rfl
      ·simp only[if_neg c6]
       by_cases c7:q.bits=16∧q.fine=q.coarse
       ·simp only[if_pos c7];rw[if_pos (.inr ⟨c7.1,.inr c7.2⟩)];rfl
       ·simp only[if_neg c7]
        rw[if_neg (fun e=>e.elim (fun e=>c6 (e2.2 (.inl e))) fun e=>e.2.elim (fun x=>c6 (e2.2 (.inr ⟨e.1,x⟩))) fun x=>c7 ⟨e.1,x⟩)];rfl
theorem featsP_eq {foot c:Int}{l:List Ftr}:∀{r:List Ftr}{j:Nat}{ts us:List Int},l.drop j=r→SetOk (l.take j) ts us→(featsP foot c r ts us).1=featsR foot c l r j
 |[],_,_,_,_,_=>rfl
 |q::r,j,ts,us,hd,h=>by
  rw[featsP,featsR,featF_eq h]
  by_cases h1:featF foot q ts us=0
  ·by_cases h2:innC c q=0
   ·have:=featsP_eq (foot:=foot) (c:=c) (l:=l) (r:=r) (j:=j+1) (by rw[←List.drop_drop,hd];rfl) (by rw[take_snoc hd];exact h.snoc q)
    simp only[h1,h2,not_true_eq_false,if_false,if_true];exact this
   ·simp[h1,h2]
  ·simp[h1]
theorem profP_eq {p:Prof}{l:List (List Pt)}:profP p l=profR p l:=by
 unfold profP profR profF
 rw[featsP_eq (l:=p.feats) (r:=p.feats) (j:=0) rfl ⟨fun _=>rfl,fun _=>rfl⟩]
 by_cases h1:cursC l=0
 ·by_cases h2:nameS p.name=false
  ·simp[h1,h2]
  ·by_cases h3:p.foot<1∨512<p.foot
   ·have h3':p.foot<1∨512<p.foot∨p.watts<0∨1048576<p.watts:=by omega
    simp[h1,h2,h3,h3']
   ·by_cases h4:p.watts<0∨1048576<p.watts
    ·have h3':p.foot<1∨512<p.foot∨p.watts<0∨1048576<p.watts:=by omega
     simp[h1,h2,h3,h4,h3']
    ·have h3':¬(p.foot<1∨512<p.foot∨p.watts<0∨1048576<p.watts):=by omega
     by_cases h5:16<(p.feats.length:Int)<;>simp[h1,h2,h3,h4,h3',h5]
 ·simp[h1]
def rigE (c:List (List Pt))(ps:List Prof)(fx:List Fixt):V:=.agg [.sl (c.map Pt.vs),.sl (ps.map Prof.v),.sl (fx.map Fixt.v)]
def strE (l:List (List UInt8)):List (V×V):=l.map fun x=>(.str x,.bool true)
theorem find_strE {a:List UInt8}:∀{l:List (List UInt8)}{i:Nat},(l.contains a=true→∃j,findV (.str a) (strE l) i=some (some (j,.bool true)))∧(l.contains a=false→findV (.str a) (strE l) i=some none)
 |[],i=>⟨fun h=>by simp at h,fun _=>rfl⟩
 |x::r,i=>by
  obtain⟨i1,i2⟩:=find_strE (a:=a) (l:=r) (i:=i+1)
  simp only[strE,List.map_cons,findV,sameV]at i1 i2 ⊢
  by_cases h:a=x
  ·subst h;exact⟨fun _=>⟨i,by simp⟩,fun e=>by simp at e⟩
  ·have h':(a == x)=false:=by simp[h]
   simp only[h',List.contains_cons,Bool.false_or]
   exact⟨i1,i2⟩
@[push_cast]theorem look_strE {st:St}{a:List UInt8}{l:List (List UInt8)}:lookB st (.bool false) false (findV (.str a) (strE l) 0)=some (.bool (l.contains a),st):=by
 cases h:l.contains a with
 |true=>obtain⟨j,e⟩:=(find_strE (i:=0)).1 h;rw[e];rfl
 |false=>rw[(find_strE (i:=0)).2 h];rfl
theorem mset_strE {st:St}{i:Nat}{a:List UInt8}{l:List (List UInt8)}(h:l.contains a=false):msetB st i (strE l) (.str a) (.bool true) (findV (.str a) (strE l) 0)=some (.und,⟨st.nx,st.mem,st.arr,⟨updO st.x.obj i (.map (strE (l++[a]))),st.x.gl,st.x.ty⟩⟩):=by
 rw[(find_strE (i:=0)).2 h];simp[msetB,putM,strE]
@[push_cast]theorem strE_all {l:List (List UInt8)}:((strE l).all fun p=>p.1.bd n&&p.2.bd n)=true:=by simp[strE,V.bd]
def stS (g:List (Nat×Obj))(a:List (List UInt8)):St:=⟨2,[],[],⟨[(1,.map (strE a))],g,[]⟩⟩
@[push_cast]theorem stS_eq {a:List (List UInt8)}:stS g a=⟨2,[],[],⟨[(1,.map (strE a))],g,[]⟩⟩:=idq rfl
theorem L79_0 {l:List (List Pt)}{x:V}(hl:Cok l):∀r j,l.drop j=r→runL Tryz.prog HH [1,15,16,17] 1 B79_0 [(1,.ep x 0),(15,.sl (l.map Pt.vs)),(16,.int .i64 l.length),(17,.int .i64 j)] (stN g 1)=lpX 0 (stN g 1) [(1,.ep x 0)] 2 (cursL r):=by
 have hb:=hl.1
 refine drop_ind (fun j h=>?_) (fun q r j h hx hd ih=>?_)
 all_goals rw[runL_of B79_0.eq_1]
 ·have h1:¬(j:Int)<l.length:=by omega
  push_cast[h1,cursL]
 ·have h1:(j:Int)<l.length:=by omega
  have hw:=iw1 (j:=j) (by omega)
  have hq:q.length<140737488355328:=hl.2 q (mem_at hd)
  push_cast[h1,hw,hx,f133 hq]at ih ⊢
  simp only[ih,cursL,lps,Int.reduceEq,not_false_eq_true]
  all_goals ((repeat' split)<;>simp_all)
theorem L79_1 {l:List Prof}{c:List (List Pt)}{fx:List Fixt}(hl:l.length<140737488355328)(hb:∀q∈l,q.ok)(hc:Cok c):∀r j,l.drop j=r→∀ns,(∀s,ns.contains s=(l.take j).any fun p=>p.name == s)→∃ns',
  runL Tryz.prog HH [1,6,33,34,35] 2 B79_1 [(1,.ep (rigE c l fx) 0),(6,.mp 1),(33,.sl (l.map Prof.v)),(34,.int .i64 l.length),(35,.int .i64 j)] (stS g ns)=lpX 2 (stS g ns') [(1,.ep (rigE c l fx) 0)] 2 (profsR l c r j):=by
 refine drop_ind (fun j h ns hn=>?_) (fun q r j h hx hd ih ns hn=>?_)
 all_goals rw[runL_of B79_1.eq_1]
 ·have h1:¬(j:Int)<l.length:=by omega
  refine⟨ns,?_⟩
  push_cast[h1,profsR,Prof.v,rigE]
 ·have h1:(j:Int)<l.length:=by omega
  have hw:=iw1 (j:=j) (by omega)
  have h145:=fun(st:St)=>f134 (st:=st) (hb q (mem_at hd)) hc
  rw[profP_eq]at h145
  rw[profsR,←hn]
  cases h2:ns.contains q.name with
  |true =>
   refine⟨ns,?_⟩
   clear ih
   push_cast[Prof.v]at h145
   push_cast[h1,hw,hx,rigE,Prof.v,h145,h2]
   all_goals ((repeat' split)<;>simp_all)
  |false =>
   obtain⟨ns',ih⟩:=ih (ns++[q.name]) (fun s=>by rw[take_snoc hd,List.any_append,←hn,List.contains_eq_any_beq,List.any_append,←List.contains_eq_any_beq];simp[BEq.comm])
   have h3:=fun(st:St) (i:Nat)=>mset_strE (st:=st) (i:=i) h2
   by_cases h4:profR q c=0
   ·refine⟨ns',?_⟩
    push_cast[Prof.v]at h145
    push_cast[h1,hw,hx,rigE,Prof.v,h145,h2,h3,h4]at ih ⊢
    simp only[ih]
   ·refine⟨ns,?_⟩
    clear ih
    push_cast[Prof.v]at h145
    push_cast[h1,hw,hx,rigE,Prof.v,h145,h2,h4]
def Pok (l:List Prof):Prop:=l.length<140737488355328∧(∀q∈l,q.ok)∧∀q∈l,q.okR
def Xok (l:List Fixt):Prop:=l.length<140737488355328∧∀x∈l,x.cable.length<140737488355328
def uniC (c:List (List Pt))(ps:List Prof)(fx:List Fixt):Int:=if ¬cursC c=0 then cursC c else if ¬profsCR ps c=0 then profsCR ps c else fixCR fx ps
theorem rigE_bd {c:List (List Pt)}{ps:List Prof}{fx:List Fixt}:V.bd 0 (rigE c ps fx)=true:=by simp[rigE,V.bd,V.bdL,bdL_map']
theorem f79 {c:List (List Pt)}{ps:List Prof}{fx:List Fixt}(hc:Cok c)(hp:Pok ps)(hx:Xok fx){st:St}:run Tryz.prog HH 79 [rigE c ps fx] st=some (.ret (.int .i64 (uniC c ps fx)),st):=by
 have h0:=L79_0 (g:=st.x.gl) (x:=rigE c ps fx) hc _ 0 rfl
 obtain⟨ns,h1⟩:=L79_1 (g:=st.x.gl) (fx:=fx) hp.1 hp.2.1 hc _ 0 rfl [] (fun _=>rfl)
 have h146:=fun(st:St)=>f135 (st:=st) hx.1 hx.2 hp.1
 have e:strE []=[]:=rfl
 rw[run_shut F79 rfl rfl (by simp[V.bdL,rigE_bd])]
 push_cast[rigE,e]at h0 h1
 push_cast[rigE,h0,h1,h146,lpX]
 unfold uniC cursC profsCR
 by_cases a1:16<(c.length:Int)<;>by_cases a2:cursL c=0<;>by_cases a3:32<(ps.length:Int)<;>by_cases a4:profsR ps c ps 0=0<;>simp[a1,a2,a3,a4]
theorem f80 {x:Sho}{st:St}:run Tryz.prog HH 80 [x.v] st=some (.ret (rigE x.curves x.profs x.fixts),st):=by
 rw[run_shut F80 rfl rfl (by simp)]
 push_cast[Sho.v,rigE]
theorem f78 {x:Sho}(hc:Cok x.curves)(hp:Pok x.profs)(hx:Xok x.fixts){st:St}:run Tryz.prog HH 78 [x.v] st=some (.ret (.int .i64 (uniC x.curves x.profs x.fixts)),st):=by
 have h:=fun(st:St)=>f80 (x:=x) (st:=st)
 have h2:=fun(st:St)=>f79 (st:=st) hc hp hx
 push_cast[Sho.v,rigE]at h h2
 rw[run_shut F78 rfl rfl (by simp)]
 push_cast[Sho.v,h,h2]
end Go.Proofs.YtmjkgajnpmiomaaGreatDoor

namespace Go.Proofs.YtmjkgajnpmiomaaGreatDoor
open Go.Sha
set_option maxRecDepth 100000
theorem prmC_ok {c:Int}{x:Prm}(h:prmC c x=0):c≤x.chan∧x.chan≤999∧0≤x.attr∧x.attr≤14:=by
 unfold prmC at h;split at h<;>omega
theorem cmp_bef {x y:Prm}{c d:Int}(hc:0≤c)(hd:0≤d)(hx:prmC c x=0)(hy:prmC d y=0):(0≤cmpP x y)=(befP x y=false):=by
 have a:=prmC_ok hx;have b:=prmC_ok hy
 have w1:IntKind.i64.wrap (x.chan-y.chan)=x.chan-y.chan:=iwrap (by omega) (by omega)
 have w2:IntKind.i64.wrap (x.attr-y.attr)=x.attr-y.attr:=iwrap (by omega) (by omega)
 unfold cmpP befP
 rw[w1,w2,eq_iff_iff]
 simp only[Bool.or_eq_false_iff,Bool.and_eq_false_iff,decide_eq_false_iff_not]
 split<;>omega
theorem mem_prev {α:Type}[Inhabited α]{l:List α}{j:Nat}(h0:0<j)(h:j≤l.length):l.getD (j-1) default∈l.take j:=by
 rw[List.getD_eq_getElem?_getD,List.getElem?_eq_getElem (by omega)]
 exact List.mem_iff_getElem?.2 ⟨j-1,by rw[List.getElem?_take,if_pos (by omega),List.getElem?_eq_getElem (by omega)];rfl⟩
theorem drop_le {α:Type}{l r:List α}{q:α}{j:Nat}(hd:l.drop j=q::r):j<l.length:=by
 have:=congrArg List.length hd;simp at this;omega
theorem all_snoc {α:Type}{l r:List α}{q:α}{j:Nat}{P:α→Prop}(hd:l.drop j=q::r)(h:∀z∈l.take j,P z)(hq:P q):∀z∈l.take (j+1),P z:=by
 rw[take_snoc hd];intro z hz
 rcases List.mem_append.1 hz with hz|hz
 ·exact h z hz
 ·rw[List.mem_singleton.1 hz];exact hq
theorem drop_succ {α:Type}{l r:List α}{q:α}{j:Nat}(hd:l.drop j=q::r):l.drop (j+1)=r:=by rw[←List.drop_drop,hd];rfl
theorem hueC_ok {q:Hue}(h:hueC q=0):lvl q.lev∧prmC 0 q.p=0:=by
 unfold hueC at h
 split at h
 ·rename_i a;exact⟨a,h⟩
 ·omega
theorem huesP_eq {l:List Hue}:∀{r:List Hue}{j:Nat},l.drop j=r→(∀z∈l.take j,hueC z=0)→huesP l r j=huesR l r j
 |[],_,_,_=>rfl
 |q::r,j,hd,h=>by
  rw[huesP,huesR]
  by_cases h1:hueC q=0
  ·obtain⟨a,b⟩:=hueC_ok h1
   have b':=prmC_ok b
   have n:¬(q.chan<0∨999<q.chan∨q.attr<0∨15≤q.attr∨¬lvl q.lev):=by
    simp only[Hue.p]at b';omega
   rw[if_pos h1,if_neg n,huesP_eq (drop_succ hd) (all_snoc hd h h1)]
   have e:(0<j∧0≤cmpP (l.getD (j-1) default).p q.p)=(0<j∧befP (l.getD (j-1) default).p q.p=false):=by
    rw[eq_iff_iff]
    refine and_congr_right fun h0=>?_
    rw[cmp_bef (Int.le_refl 0) (Int.le_refl 0) (hueC_ok (h _ (mem_prev h0 (Nat.le_of_lt (drop_le hd))))).2 b]
   simp only[e]
  ·rw[if_neg h1]
   have n:q.chan<0∨999<q.chan∨q.attr<0∨15≤q.attr∨¬lvl q.lev:=by
    by_cases a:lvl q.lev
    ·simp only[hueC,a,if_true,prmC,Hue.p]at h1
     split at h1<;>omega
    ·exact .inr (.inr (.inr (.inr a)))
   rw[if_pos n]
   unfold hueC prmC at h1 ⊢
   split
   ·rename_i a
    rw[if_pos a]at h1
    split
    ·rfl
    ·rename_i b;rw[if_neg b]at h1;exact absurd rfl h1
   ·rfl
theorem hueL_eq {l:List Hue}:hueLP l=hueLR l:=by unfold hueLP hueLR;rw[huesP_eq (l:=l) (r:=l) (j:=0) rfl (by simp)]
theorem palsP_eq {l:List Pal}:∀{r:List Pal}{j:Nat},palsP l r j=palsR l r j
 |[],_=>rfl
 |q::r,j=>by rw[palsP,palsR,hueL_eq,palsP_eq]
theorem palsC_eq {l:List Pal}:palsCP l=palsCR l:=by unfold palsCP palsCR;rw[palsP_eq]
theorem gansP_eq {h:Bool}{l:List Gan}:∀{r:List Gan}{j:Nat},l.drop j=r→(∀z∈l.take j,prmC 1 z.prm=0)→gansP h l r j=gansR h l r j
 |[],_,_,_=>rfl
 |q::r,j,hd,hz=>by
  rw[gansP,gansR]
  by_cases h1:prmC 1 q.prm=0
  ·rw[gansP_eq (drop_succ hd) (all_snoc (P:=fun z=>prmC 1 z.prm=0) hd hz h1)]
   have e:(0<j∧0≤cmpP (l.getD (j-1) default).prm q.prm)=(0<j∧befP (l.getD (j-1) default).prm q.prm=false):=by
    rw[eq_iff_iff]
    refine and_congr_right fun h0=>?_
    rw[cmp_bef (by omega) (by omega) (hz _ (mem_prev h0 (Nat.le_of_lt (drop_le hd)))) h1]
   have e2:(q.lev<0∨65535<q.lev)=¬lvl q.lev:=propext (by unfold lvl;omega)
   simp only[e,e2]
  ·rw[if_neg h1,if_neg h1]
theorem sb_eq {x:Sb}:sbP x=sbR x:=by unfold sbP sbR;rw[gansP_eq (l:=x.gains) (r:=x.gains) (j:=0) rfl (by simp)]
theorem subsP_eq {l:List Sb}:∀{r:List Sb}{j:Nat}{n:Int},l.drop j=r→n=(if j=0 then 0 else(l.getD (j-1) default).num)→subsP r n=subsR l r j
 |[],_,_,_,_=>rfl
 |q::r,j,n,hd,hn=>by
  rw[subsP,subsR,sb_eq,subsP_eq (n:=q.num) (drop_succ hd) (by
   rw[if_neg (by omega),Nat.add_sub_cancel,List.getD_eq_getElem?_getD]
   have:=congrArg (·[0]?) hd
   simp at this;rw[this];rfl)]
  by_cases h1:sbR q=0
  ·rw[if_pos h1,if_pos h1]
   have e:(q.num≤n)=(0<j∧q.num≤(l.getD (j-1) default).num):=by
    rw[hn]
    by_cases h0:j=0
    ·rw[if_pos h0]
     have:¬sbOk q:=by intro h;unfold sbR at h1;rw[if_pos h]at h1;omega
     simp only[eq_iff_iff];unfold sbOk at this;omega
    ·rw[if_neg h0];simp only[eq_iff_iff];omega
   simp only[e]
  ·rw[if_neg h1,if_neg h1]
theorem subsC_eq {l:List Sb}:subsCP l=subsCR l:=by unfold subsCP subsCR;rw[subsP_eq (l:=l) (r:=l) (j:=0) (n:=0) rfl rfl]
theorem movsP_eq {l:List Mov}:∀{r:List Mov}{j:Nat},l.drop j=r→(∀z∈l.take j,prmC 1 z.prm=0)→movsP l r j=movsR l r j
 |[],_,_,_=>rfl
 |q::r,j,hd,hz=>by
  rw[movsP,movsR]
  unfold movX
  by_cases h1:prmC 1 q.prm=0
  ·rw[movsP_eq (drop_succ hd) (all_snoc (P:=fun z=>prmC 1 z.prm=0) hd hz h1)]
   have e:(0<(j:Int)∧0≤cmpP (l.getD (j-1) default).prm q.prm)=(0<j∧befP (l.getD (j-1) default).prm q.prm=false):=by
    rw[eq_iff_iff,show(0<(j:Int))=(0<j) by simp]
    refine and_congr_right fun h0=>?_
    rw[cmp_bef (by omega) (by omega) (hz _ (mem_prev h0 (Nat.le_of_lt (drop_le hd)))) h1]
   simp only[h1,e]
   by_cases h2:valC q.val=0
   ·by_cases h3:q.part<1∨4<q.part
    ·simp[h2,h3]
    ·by_cases h4:0<j∧befP (l.getD (j-1) default).prm q.prm=false
     ·simp only[h2,if_neg h3,if_pos h4];rfl
     ·simp only[h2,if_neg h3,if_neg h4];rfl
   ·simp[h2]
  ·simp[h1]
theorem movC_eq {l:List Mov}:movCP l=movCR l:=by unfold movCP movCR;rw[movsP_eq (l:=l) (r:=l) (j:=0) rfl (by simp)]
theorem cue_eq {x:Cu}:cueP x=cueR x:=by
 unfold cueP cueR
 rw[movC_eq,mpL_eq]
 unfold parC timC
 by_cases a1:numC x.num=0<;>by_cases a2:labC x.label=0<;>by_cases a3:movCR x.moves=0<;>simp only[a1,a2,a3,not_true_eq_false,not_false_eq_true,if_true,if_false]
 by_cases a4:(x.parts.length:Int)=0
 ·simp only[if_pos a4];rfl
 ·by_cases a5:4<(x.parts.length:Int)
  ·simp only[if_neg a4,if_pos a5];rfl
  ·by_cases a6:timL x.parts=0
   ·by_cases a7:(x.moves.any fun q=>decide ((x.parts.length:Int)<q.part))=true
    ·simp only[a4,a5,a6,a7,if_true,if_false,not_true_eq_false];rfl
    ·simp only[a4,a5,a6,a7,if_true,if_false,not_true_eq_false];rfl
   ·simp only[if_neg a4,if_neg a5,if_neg a6,if_pos a6,not_false_eq_true,if_true]
end Go.Proofs.YtmjkgajnpmiomaaGreatDoor

namespace Go.Proofs.YtmjkgajnpmiomaaGreatDoor
open Go.Sha
set_option maxRecDepth 100000
variable {g:List (Nat×Obj)}{n:Nat}
theorem isD_val {b:UInt8}(h:isD b=true):IntKind.u8.wrap ((b.toNat:Int)-48)=((b.toNat-48:Nat):Int)∧b.toNat-48≤9:=by
 simp only[isD,Bool.and_eq_true,decide_eq_true_eq]at h
 refine⟨?_,by omega⟩
 unfold IntKind.wrap
 simp[IntKind.bits,IntKind.signed]
 omega
theorem step_nat {m k:Nat}(hm:m≤100000000000000)(hk:k≤9):IntKind.i64.wrap (IntKind.i64.wrap (10*(m:Int))+IntKind.i64.wrap (k:Int))=((10*m+k:Nat):Int):=by
 have w1:IntKind.i64.wrap (10*(m:Int))=10*(m:Int):=iwrap (by omega) (by omega)
 have w2:IntKind.i64.wrap (k:Int)=(k:Int):=iwrap (by omega) (by omega)
 rw[w1,w2]
 have w3:IntKind.i64.wrap (10*(m:Int)+k)=10*(m:Int)+k:=iwrap (by omega) (by omega)
 rw[w3];omega
theorem vwL_nat:∀{w:List UInt8}{m B:Nat},(∀b∈w,isD b=true)→w.length≤B→m<10 ^ (10-B)→B≤10→vwL w m=((w.foldl (fun n b=>10*n+(b.toNat-48)) m:Nat):Int)∧w.foldl (fun n b=>10*n+(b.toNat-48)) m<10 ^ (10-B+w.length)
 |[],m,B,_,_,h,_=>⟨rfl,by simpa using h⟩
 |b::r,m,B,hw,hl,h,hB=>by
  simp at hl
  obtain⟨e,hk⟩:=isD_val (hw b (List.mem_cons_self ..))
  have hp:10 ^ (10-B)≤10 ^ 10:=Nat.pow_le_pow_right (by omega) (by omega)
  have h2:10*m+(b.toNat-48)<10 ^ (10-(B-1)):=by
   rw[show 10-(B-1)=(10-B)+1 by omega,Nat.pow_succ];omega
  have ih:=vwL_nat (w:=r) (m:=10*m+(b.toNat-48)) (B:=B-1) (fun x hx=>hw x (List.mem_cons_of_mem _ hx)) (by omega) h2 (by omega)
  rw[vwL,e,step_nat (by omega) hk,List.foldl_cons]
  refine⟨ih.1,?_⟩
  have:=ih.2
  rwa [show 10-(B-1)+r.length=10-B+(b::r).length by simp;omega]at this
def pdB (r:List UInt8)(k:Nat):UInt8:=if k<r.length then r.getD k 0 else 48
theorem pad_3 {r:List UInt8}:(r++[48,48,48]).take 3=[pdB r 0,pdB r 1,pdB r 2]:=by
 match r with
 |[]=>rfl
 |[a]=>simp[pdB]
 |[a,b]=>simp[pdB]
 |a::b::c::r=>simp[pdB]
theorem nxV_nat {r:List UInt8}{k m:Nat}(hr:∀b∈r,isD b=true)(hm:m≤100000000000000):nxV r k m=((10*m+((pdB r k).toNat-48):Nat):Int):=by
 unfold nxV pdB
 by_cases h:k<r.length
 ·rw[if_pos (by omega),if_pos h]
  obtain⟨e,hk⟩:=isD_val (hr (r.getD k 0) (by rw[List.getD_eq_getElem?_getD,List.getElem?_eq_getElem h];exact List.getElem_mem h))
  rw[e,step_nat hm hk]
 ·rw[if_neg (by omega),if_neg h]
  have w1:IntKind.i64.wrap (10*(m:Int))=10*(m:Int):=iwrap (by omega) (by omega)
  rw[w1]
  have:(48:UInt8).toNat=48:=rfl
  omega
theorem pd_le {r:List UInt8}{k:Nat}(hr:∀b∈r,isD b=true):(pdB r k).toNat-48≤9:=by
 unfold pdB
 split
 ·rename_i h
  exact(isD_val (hr (r.getD k 0) (by rw[List.getD_eq_getElem?_getD,List.getElem?_eq_getElem h];exact List.getElem_mem h))).2
 ·decide
theorem numC_parts {s:List UInt8}(h:numC s=0):(∀b∈nW s,isD b=true)∧(∀b∈nR s,isD b=true)∧(nW s).length≤4∧(nR s).length≤3:=by
 unfold numC at h
 split at h
 ·cases h
 ·rename_i h1
  split at h
  ·cases h
  ·rename_i h2
   split at h
   ·cases h
   ·split at h
    ·cases h
    ·rename_i h3 h4
     refine⟨digB_all (by simpa using h1),?_,by omega,by omega⟩
     cases hc:s.contains 46 with
     |false=>rw[(n_none hc).2];simp
     |true=>rw[hc]at h2;simp at h2;exact digB_all h2.1
theorem val_eq {s:List UInt8}(h:numC s=0):valN s=refV s:=by
 obtain⟨a1,a2,a3,a4⟩:=numC_parts h
 obtain⟨e1,e2⟩:=vwL_nat (w:=nW s) (m:=0) (B:=10) a1 (by omega) (by simp) (Nat.le_refl _)
 have hp:10 ^ (10-10+(nW s).length)≤10 ^ 4:=Nat.pow_le_pow_right (by omega) (by omega)
 generalize hN:(nW s).foldl (fun n b=>10*n+(b.toNat-48)) 0=N at e1 e2
 have p0:=pd_le (k:=0) a2;have p1:=pd_le (k:=1) a2;have p2:=pd_le (k:=2) a2
 unfold valN refV
 rw[if_pos h,show(0:Int)=((0:Nat):Int) from rfl,e1,nxV_nat a2 (by omega),nxV_nat a2 (by omega),nxV_nat a2 (by omega),natOf,numS,pad_3,List.foldl_append,hN]
 rfl
theorem cueP_num {x:Cu}(h:cueR x=0):numC x.num=0:=by
 unfold cueR at h
 split at h
 ·rename_i a;exact absurd h a
 ·rename_i a;exact Classical.not_not.1 a
theorem cuesP_eq {l:List Cu}:∀{r:List Cu}{j:Nat},l.drop j=r→(∀z∈l.take j,cueR z=0)→cuesP l r j=cuesR l r j
 |[],_,_,_=>rfl
 |q::r,j,hd,hz=>by
  rw[cuesP,cuesR,cue_eq]
  by_cases h1:cueR q=0
  ·rw[cuesP_eq (drop_succ hd) (all_snoc (P:=fun z=>cueR z=0) hd hz h1)]
   have e:(0<j∧0≤cmpN (l.getD (j-1) default).num q.num)=(0<j∧0≤ordR (l.getD (j-1) default).num q.num):=by
    rw[eq_iff_iff]
    refine and_congr_right fun h0=>?_
    have a:=cueP_num (hz _ (mem_prev h0 (Nat.le_of_lt (drop_le hd))))
    have b:=cueP_num h1
    unfold cmpN ordR
    rw[if_neg (by rw[a,b];simp),val_eq a,val_eq b]
   simp only[e]
  ·rw[if_pos h1,if_pos h1]
theorem lst_eq {x:Lst}:lstP x=lstR x:=by unfold lstP lstR;rw[cuesP_eq (l:=x.cues) (r:=x.cues) (j:=0) rfl (by simp)]
def grpsC (l:List Grp):Int:=if 32<(l.length:Int) then 5 else grpsL l l 0
theorem f82 {l:List Grp}(hl:l.length<140737488355328)(hb:∀x∈l,x.chans.length<140737488355328){st:St}:run Tryz.prog HH 82 [.sl (l.map Grp.v)] st=some (.ret (.int .i64 (grpsC l)),st):=by
 rw[run_shut F82 rfl rfl (by simp)]
 have hL0:=fun n=>L82 (g:=st.x.gl) (n:=n) hl hb _ 0 rfl
 push_cast[grpsC]at hL0
 push_cast[grpsC,hL0,lpE,lpX,lpI,lpB]
theorem L37 {l:List Grp}(hl:l.length<140737488355328)(hb:∀x∈l,x.chans.length<140737488355328):∀r j,l.drop j=r→runL Tryz.prog HH [0,3] n B37_0 [(0,.sl (l.map Grp.v)),(3,.int .i64 j)] (stN g n)=lpE (stN g n) [] 2 (grpsL l r j):=by
 refine drop_ind (fun j h=>?_) (fun q r j h hx hd ih=>?_)
 all_goals rw[runL_of B37_0.eq_1]
 ·have h1:¬(j:Int)<l.length:=by omega
  push_cast[h1,grpsL,Grp.v]
 ·have h1:(j:Int)<l.length:=by omega
  have hw:=iw1 (j:=j) (by omega)
  have hq:q.chans.length<140737488355328:=hb q (mem_at hd)
  push_cast[h1,hw,hx,Grp.v,f73 hq,iwrap_pred (j:=j) (by omega)]at ih ⊢
  simp only[ih,grpsL,lps,Int.reduceEq,not_false_eq_true]
  all_goals ((repeat' split)<;>(try simp_all)<;>(try (with_reducible refine dn_eq ?_ ?_<;>first|trivial|omega|rfl))<;>(try omega))
theorem f37 {l:List Grp}(hl:l.length<140737488355328)(hb:∀x∈l,x.chans.length<140737488355328){st:St}:run Tryz.prog HH 37 [.sl (l.map Grp.v)] st=some (.ret (.int .i64 (grpsC l)),st):=by
 rw[run_shut F37 rfl rfl (by simp)]
 have hL0:=fun n=>L37 (g:=st.x.gl) (n:=n) hl hb _ 0 rfl
 push_cast[grpsC]at hL0
 push_cast[grpsC,hL0,lpE,lpX,lpI,lpB]
def lstsL (l:List Lst):List Lst→Nat→Int
 |[],_=>0
 |q::r,j=>if ¬lstR q=0 then lstR q else if 0<j∧q.num≤(l.getD (j-1) default).num then 9 else lstsL l r (j+1)
def Lok (l:List Lst):Prop:=l.length<140737488355328∧∀q∈l,q.ok
theorem f138' {x:Lst}(h:x.ok){st:St}:run Tryz.prog HH 138 [x.v] st=some (.ret (.int .i64 (lstR x)),st):=by rw[f138 h,lst_eq]
theorem L85 {x:Sho}(hl:Lok x.lsts):∀r j,x.lsts.drop j=r→runL Tryz.prog HH [1,11,12,13] n B85_0 [(1,.ep x.v 0),(11,.sl (x.lsts.map Lst.v)),(12,.int .i64 x.lsts.length),(13,.int .i64 j)] (stN g n)=lpE (stN g n) [] 2 (lstsL x.lsts r j):=by
 have hb:=hl.1
 refine drop_ind (fun j h=>?_) (fun q r j h hx hd ih=>?_)
 all_goals rw[runL_of B85_0.eq_1]
 ·have h1:¬(j:Int)<x.lsts.length:=by omega
  push_cast[h1,lstsL,Sho.v,Lst.v]
 ·have h1:(j:Int)<x.lsts.length:=by omega
  have hw:=iw1 (j:=j) (by omega)
  have hq:q.ok:=hl.2 q (mem_at hd)
  push_cast[h1,hw,hx,Sho.v,Lst.v,f138' hq,iwrap_pred (j:=j) (by omega)]at ih ⊢
  simp only[ih,lstsL,lps,Int.reduceEq,not_false_eq_true]
  all_goals ((repeat' split)<;>(try simp_all)<;>(try (with_reducible refine dn_eq ?_ ?_<;>first|trivial|omega|rfl))<;>(try omega))
def lstsC (l:List Lst):Int:=if 8<(l.length:Int) then 5 else lstsL l l 0
theorem f85 {x:Sho}(hl:Lok x.lsts){st:St}:run Tryz.prog HH 85 [x.v] st=some (.ret (.int .i64 (lstsC x.lsts)),st):=by
 rw[run_shut F85 rfl rfl (by simp)]
 have hL0:=fun n=>L85 (g:=st.x.gl) (n:=n) hl _ 0 rfl
 push_cast[Sho.v,lstsC]at hL0
 push_cast[Sho.v,lstsC,hL0,lpE,lpX,lpI,lpB]
theorem L39 {l:List Lst}(hl:Lok l):∀r j,l.drop j=r→runL Tryz.prog HH [0,3] n B39_0 [(0,.sl (l.map Lst.v)),(3,.int .i64 j)] (stN g n)=lpE (stN g n) [] 2 (lstsL l r j):=by
 have hb:=hl.1
 refine drop_ind (fun j h=>?_) (fun q r j h hx hd ih=>?_)
 all_goals rw[runL_of B39_0.eq_1]
 ·have h1:¬(j:Int)<l.length:=by omega
  push_cast[h1,lstsL,Lst.v]
 ·have h1:(j:Int)<l.length:=by omega
  have hw:=iw1 (j:=j) (by omega)
  have hq:q.ok:=hl.2 q (mem_at hd)
  push_cast[h1,hw,hx,Lst.v,f68 hq,iwrap_pred (j:=j) (by omega)]at ih ⊢
  simp only[ih,lstsL,lps,Int.reduceEq,not_false_eq_true]
  all_goals ((repeat' split)<;>(try simp_all)<;>(try (with_reducible refine dn_eq ?_ ?_<;>first|trivial|omega|rfl))<;>(try omega))
theorem f39 {l:List Lst}(hl:Lok l){st:St}:run Tryz.prog HH 39 [.sl (l.map Lst.v)] st=some (.ret (.int .i64 (lstsC l)),st):=by
 rw[run_shut F39 rfl rfl (by simp)]
 have hL0:=fun n=>L39 (g:=st.x.gl) (n:=n) hl _ 0 rfl
 push_cast[lstsC]at hL0
 push_cast[lstsC,hL0,lpE,lpX,lpI,lpB]
end Go.Proofs.YtmjkgajnpmiomaaGreatDoor

namespace Go.Proofs.YtmjkgajnpmiomaaGreatDoor
open Go.Sha
set_option maxRecDepth 100000
variable {g:List (Nat×Obj)}{n:Nat}
def stP (g:List (Nat×Obj))(xs:List V):St:=⟨2,[],[(1,⟨5,1,xs,true,true⟩)],⟨[],g,[]⟩⟩
@[push_cast]theorem stP_eq {xs:List V}:stP g xs=⟨2,[],[(1,⟨5,1,xs,true,true⟩)],⟨[],g,[]⟩⟩:=idq rfl
theorem L77 {s:List UInt8}(hl:s.length<140737488355328):∀r j,s.drop j=r→runL Tryz.prog HH [11,12,13] 2 B77_0 [(11,.osl 1 s.length),(12,.int .i64 s.length),(13,.int .i64 j)] (stP g (s.map bV))=lpE (stP g (s.map bV)) [] 2 (labL r):=by
 refine drop_ind (fun j h=>?_) (fun q r j h hx hd ih=>?_)
 all_goals rw[runL_of B77_0.eq_1]
 ·have h1:¬(j:Int)<s.length:=by omega
  push_cast[h1,labL]
 ·have h1:(j:Int)<s.length:=by omega
  have hw:=iw1 (j:=j) (by omega)
  have hk:∀d,(s.map bV).getD j d=bV q:=getD_drop hd
  push_cast[h1,hw,hx,bV,hk]at ih ⊢
  simp only[ih,labL,lps,Int.reduceEq,not_false_eq_true]
  all_goals exact dn_eq (by omega) (by with_reducible rfl)
theorem f77 {x:Sho}(hl:x.title.length<140737488355328){st:St}:run Tryz.prog HH 77 [x.v] st=some (.ret (.int .i64 (labC x.title)),st):=by
 rw[run_shut F77 rfl rfl (by simp)]
 have hL0:=L77 (g:=st.x.gl) hl _ 0 rfl
 push_cast at hL0
 push_cast[Sho.v,hL0,lpE,labC]
 exact dn_eq (by simp[maxLen];omega) rfl
theorem L69 {s:List UInt8}(hl:s.length<140737488355328):∀r j,s.drop j=r→runL Tryz.prog HH [0,3] n B69_0 [(0,.str s),(3,.int .i64 j)] (stN g n)=lpE (stN g n) [] 2 (labL r):=by
 refine drop_ind (fun j h=>?_) (fun q r j h hx hd ih=>?_)
 all_goals rw[runL_of B69_0.eq_1]
 ·have h1:¬(j:Int)<s.length:=by omega
  push_cast[h1,labL]
 ·have h1:(j:Int)<s.length:=by omega
  have hw:=iw1 (j:=j) (by omega)
  push_cast[h1,hw,hx]at ih ⊢
  simp only[ih,labL,lps,Int.reduceEq,not_false_eq_true]
theorem f69 {s:List UInt8}(hl:s.length<140737488355328){st:St}:run Tryz.prog HH 69 [.str s] st=some (.ret (.int .i64 (labC s)),st):=by
 rw[run_shut F69 rfl rfl (by simp)]
 have hL0:=fun n=>L69 (g:=st.x.gl) (n:=n) hl _ 0 rfl
 push_cast[labC]at hL0
 push_cast[labC,hL0,lpE,lpX,lpI,lpB]
structure Sho.ok (x:Sho):Prop where
 t:x.title.length<140737488355328
 c:Cok x.curves
 p:Pok x.profs
 f:Xok x.fixts
 g:x.grps.length<140737488355328∧∀q∈x.grps,q.chans.length<140737488355328
 l:x.pals.length<140737488355328∧∀q∈x.pals,q.hues.length<140737488355328
 k:Lok x.lsts
 s:x.subs.length<140737488355328∧∀q∈x.subs,q.gains.length<140737488355328
 e:x.effs.length<140737488355328∧∀q∈x.effs,q.wave.length<140737488355328
theorem f81 {x:Sho}(h:x.ok){st:St}:run Tryz.prog HH 81 [x.v] st=some (.ret (.int .i64 (grpsC x.grps)),st):=by
 rw[run_shut F81 rfl rfl (by simp)]
 push_cast[Sho.v,f82 h.g.1 h.g.2]
theorem f83 {x:Sho}(h:x.ok){st:St}:run Tryz.prog HH 83 [x.v] st=some (.ret (.int .i64 (palsCR x.pals)),st):=by
 rw[run_shut F83 rfl rfl (by simp)]
 push_cast[Sho.v,f84 h.l.1 h.l.2,palsC_eq]
theorem f86 {x:Sho}(h:x.ok){st:St}:run Tryz.prog HH 86 [x.v] st=some (.ret (.int .i64 (subsCR x.subs)),st):=by
 rw[run_shut F86 rfl rfl (by simp)]
 push_cast[Sho.v,f87 h.s.1 h.s.2,subsC_eq]
theorem f88 {x:Sho}(h:x.ok){st:St}:run Tryz.prog HH 88 [x.v] st=some (.ret (.int .i64 (effsC x.effs)),st):=by
 rw[run_shut F88 rfl rfl (by simp)]
 push_cast[Sho.v,f89 h.e.1 h.e.2]
def shoC (x:Sho):Int:=if ¬labC x.title=0 then labC x.title else if ¬uniC x.curves x.profs x.fixts=0 then uniC x.curves x.profs x.fixts else if ¬grpsC x.grps=0 then grpsC x.grps else if ¬palsCR x.pals=0 then palsCR x.pals
 else if ¬lstsC x.lsts=0 then lstsC x.lsts else if ¬subsCR x.subs=0 then subsCR x.subs else effsC x.effs
theorem f21 {x:Sho}(h:x.ok){st:St}:run Tryz.prog HH 21 [x.v] st=some (.ret (.int .i64 (shoC x)),st):=by
 have h1:=fun(st:St)=>f77 (st:=st) h.t
 have h2:=fun(st:St)=>f78 (st:=st) h.c h.p h.f
 have h3:=fun(st:St)=>f81 (st:=st) h
 have h4:=fun(st:St)=>f83 (st:=st) h
 have h5:=fun(st:St)=>f85 (st:=st) h.k
 have h6:=fun(st:St)=>f86 (st:=st) h
 have h7:=fun(st:St)=>f88 (st:=st) h
 push_cast[Sho.v]at h1 h2 h3 h4 h5 h6 h7
 rw[run_shut F21 rfl rfl (by simp)]
 push_cast[Sho.v,h1,h2,h3,h4,h5,h6,h7,(fun(st:St)=>run_shut (P:=Tryz.prog) (H:=HH) (args:=[]) (st:=st) F44 rfl rfl rfl),runL_of B21_0.eq_1,shoC,ite0']
theorem f36 {x:Sho}(h:x.ok){st:St}:run Tryz.prog HH 36 [x.v] st=some (.ret (.int .i64 (if ¬labC x.title=0 then labC x.title else uniC x.curves x.profs x.fixts)),st):=by
 have hr:∀q∈x.profs,q.okR:=h.p.2.2
 rw[run_shut F36 rfl rfl (by simp)]
 push_cast[Sho.v,f69 h.t,f70 h.c.1 h.c.2,f71 h.p.1 hr h.c,f72 h.f.1 h.f.2 h.p.1,uniC]
theorem f13 {x:Sho}(h:x.ok){st:St}:run Tryz.prog HH 13 [x.v] st=some (.ret (.int .i64 (shoC x)),st):=by
 have h1:=fun(st:St)=>f36 (st:=st) h
 push_cast[Sho.v]at h1
 rw[run_shut F13 rfl rfl (by simp)]
 push_cast[Sho.v,h1,f37 h.g.1 h.g.2,f38 h.l.1 h.l.2,f39 h.k,f40 h.s.1 h.s.2,f41 h.e.1 h.e.2]
 unfold shoC
 by_cases a1:labC x.title=0<;>by_cases a2:uniC x.curves x.profs x.fixts=0<;>simp[a1,a2]
end Go.Proofs.YtmjkgajnpmiomaaGreatDoor

namespace Go.Proofs.YtmjkgajnpmiomaaGreatDoor
open Go.Sha
set_option maxRecDepth 10000
theorem F171:compF Tryz.prog 171=some ⟨11,[.tmp 4,.tmp 5],(.g [.c 4 0,.k 5 false] (.g [.m 6 0,.m 7 1,.s 8 (.f 252 [.t 6,.t 7,(.c (.fn (.func 253) [] []))]),.j 9 0 8,.j 10 1 8,.m 4 9,.m 5 10] (.ret [4,5])))⟩:=by kernel_rfl
def B252_0:Cd:=(.join [0,1,2,8,9,10] (.g [.m 15 9,.m 16 10,.b 17 .lss 15 16] (.i 17 .skip (.exit [0,1,2,8,9] 0))) (.block 1 (.g [.m 18 9,.m 19 10,.b 20 .add 18 19,.s 21 (.cvi .u64 (.t 20)),.s 22 (.bin .shr (.t 21) (.c (.int .u64 1))),.s 23 (.cvi .i64 (.t 22)),.m 11 23] (.g [.m 24 2,.m 25 0,.m 26 11,.r 27 2 25 26,.d 28 2 27,.m 29 1,.s 30 (.call (.t 24) [.t 28,.t 29]),.v 31 .lss 30 0] (.i 31 (.reg [.m 32 11,.v 33 .add 32 1,.m 9 33]) (.reg [.m 34 11,.m 10 34]))))))
theorem F252:compF Tryz.prog 252=some ⟨49,[.tmp 6,.tmp 7],(.g [.c 6 0,.k 7 false] (.g [.m 12 0,.u 13 12,.m 8 13] (.g [.m 14 8,.c 9 0,.m 10 14] (.join [0,1,2,8,9] (.block 0 (.loop [0,1,2,8,9,10] [] B252_0)) (.join [6,7] (.reg [.m 35 9,.m 36 9,.m 37 8,.b 38 .lss 36 37,.m 39 38,.my 40 2 39,.my 41 0 39,.my 42 9 39,.ry 43 2 41 42 39,.y 44 (.load (some 2) (.t 43)) 39,.my 45 1 39,.y 46 (.call (.t 40) [.t 44,.t 45]) 39,.vy 47 .eql 46 0 39,.e 48 39 47,.m 6 35,.m 7 48]) (.ret [6,7]))))))⟩:=by kernel_rfl
theorem F253:compF Tryz.prog 253=some ⟨9,[.tmp 4],(.g [.q 2 44 0,.c 4 0] (.z [2] (.g [.a 5 0 2,.l 6 5,.m 7 1,.b 8 .sub 6 7,.m 4 8] (.ret [4]))))⟩:=by kernel_rfl
end Go.Proofs.YtmjkgajnpmiomaaGreatDoor

namespace Go.Proofs.YtmjkgajnpmiomaaGreatDoor
open Go.Sha
set_option maxRecDepth 100000
variable {g:List (Nat×Obj)}{n:Nat}
def bsI (c:Nat→Int)(i j:Nat):Nat:=if h:i<j then if c ((i+j) / 2)<0 then bsI c ((i+j) / 2+1) j else bsI c i ((i+j) / 2) else i
termination_by j-i
theorem bsI_ok {c:Nat→Int}{N:Nat}(hm:∀a b,a<b→b<N→c b≤0→c a<0):∀{i j:Nat},i≤j→j≤N→(∀k<i,c k<0)→(∀k,j≤k→k<N→0≤c k)→i≤bsI c i j∧bsI c i j≤j∧(∀k<bsI c i j,c k<0)∧∀k,bsI c i j≤k→k<N→0≤c k:=by
 intro i j
 induction i,j using bsI.induct c with
 |case1 i j h h2 ih =>
  intro hij hj h3 h4
  rw[bsI,dif_pos h,if_pos h2]
  have:=ih (by omega) hj (fun k hk=>by
   rcases Nat.lt_or_ge k ((i+j) / 2) with e|e
   ·exact hm k ((i+j) / 2) e (by omega) (by omega)
   ·rw[show k=(i+j) / 2 by omega];exact h2) h4
  exact⟨by omega,this.2.1,this.2.2.1,this.2.2.2⟩
 |case2 i j h h2 ih =>
  intro hij hj h3 h4
  rw[bsI,dif_pos h,if_neg h2]
  have:=ih (by omega) (by omega) h3 (fun k hk hk2=>by
   rcases Nat.lt_or_ge ((i+j) / 2) k with e|e
   ·apply Classical.byContradiction;intro e2
    exact h2 (hm ((i+j) / 2) k e hk2 (by omega))
   ·rw[show k=(i+j) / 2 by omega];omega)
  exact⟨this.1,by omega,this.2.2.1,this.2.2.2⟩
 |case3 i j h =>
  intro hij hj h3 h4
  rw[bsI,dif_neg h]
  exact⟨Nat.le_refl _,hij,h3,fun k hk hk2=>h4 k (by omega) hk2⟩
theorem f253 {x:Pal}{v:Int}{st:St}:run Tryz.prog HH 253 [x.v,.int .i64 v] st=some (.ret (.int .i64 (IntKind.i64.wrap (x.num-v))),st):=by
 rw[run_shut F253 rfl rfl (by simp)]
 push_cast[Pal.v]
theorem halfI {i j:Nat}(h:i+j<4611686018427387904):IntKind.i64.wrap ((IntKind.u64.wrap (IntKind.i64.wrap ((i:Int)+j))).fdiv (2 ^ min 1 IntKind.u64.bits))=(((i+j) / 2:Nat):Int):=by
 have w1:IntKind.i64.wrap ((i:Int)+j)=((i+j:Nat):Int):=by rw[←Int.natCast_add];exact iwrap (by omega) (by omega)
 have w2:IntKind.u64.wrap ((i+j:Nat):Int)=((i+j:Nat):Int):=by
  unfold IntKind.wrap;simp[IntKind.bits,IntKind.signed];omega
 rw[w1,w2,show(2 ^ min 1 IntKind.u64.bits:Int)=2 from rfl,Int.fdiv_eq_ediv_of_nonneg _ (by omega),show(((i+j:Nat):Int) / 2)=(((i+j) / 2:Nat):Int) by simp]
 exact iwrap (by omega) (by omega)
theorem palsR_all {l:List Pal}:∀{r:List Pal}{j:Nat},l.drop j=r→palsR l r j=0→(∀q∈r,1≤q.num∧q.num≤1048576∧hueLR q.hues=0)∧((l.take j).Pairwise (fun a b=>a.num<b.num)→l.Pairwise fun a b=>a.num<b.num)
 |[],j,hd,_=>by
  have:l.length≤j:=List.drop_eq_nil_iff.1 hd
  rw[List.take_of_length_le this];exact⟨by simp,fun h=>h⟩
 |q::r,j,hd,h=>by
  rw[palsR]at h
  split at h
  ·cases h
  ·rename_i h1
   split at h
   ·cases h
   ·rename_i h2
    split at h
    ·rename_i h3
     obtain⟨a,b⟩:=palsR_all (drop_succ hd) h
     refine⟨fun x hx=>?_,fun hp=>b ?_⟩
     ·rcases List.mem_cons.1 hx with rfl|hx
      ·exact⟨by omega,by omega,h3⟩
      ·exact a x hx
     ·rw[take_snoc hd]
      refine List.pairwise_append.2 ⟨hp,List.pairwise_singleton ..,fun y hy z hz=>?_⟩
      rw[List.mem_singleton.1 hz]
      obtain⟨k,hk⟩:=List.mem_iff_getElem?.1 hy
      have hj:=drop_le hd
      rw[List.getElem?_take]at hk
      split at hk
      ·rename_i hkj
       have e:l.getD (j-1) default=l[j-1]:=by rw[List.getD_eq_getElem?_getD,List.getElem?_eq_getElem (by omega)];rfl
       rw[e]at h2
       rcases Nat.lt_or_ge k (j-1) with hk2|hk2
       ·have hm:=List.pairwise_iff_getElem.1 hp k (j-1) (by simp;omega) (by simp;omega) hk2
        rw[List.getElem_take,List.getElem_take]at hm
        rw[List.getElem?_eq_getElem (by omega)]at hk
        rw[←Option.some.inj hk];omega
       ·have:k=j-1:=by omega
        subst this
        rw[List.getElem?_eq_getElem (by omega)]at hk
        rw[←Option.some.inj hk];omega
      ·cases hk
    ·rename_i h3;exact absurd h h3
theorem pals_ok {l:List Pal}(h:palsCR l=0):(∀q∈l,1≤q.num∧q.num≤1048576∧hueLR q.hues=0)∧l.Pairwise fun a b=>a.num<b.num:=by
 unfold palsCR at h
 split at h
 ·cases h
 ·obtain⟨a,b⟩:=palsR_all (j:=0) rfl h
  exact⟨a,b List.Pairwise.nil⟩
end Go.Proofs.YtmjkgajnpmiomaaGreatDoor

namespace Go.Proofs.YtmjkgajnpmiomaaGreatDoor
open Go.Sha
set_option maxRecDepth 10000
theorem F156:compF Tryz.prog 156=some ⟨13,[.tmp 4,.tmp 5],(.g [.q 2 31 0,.c 4 0,.c 5 0] (.z [2] (.g [.d 6 9 2,.a 7 6 2,.l 8 7,.m 9 1,.s 10 (.f 232 [.t 6,.t 8,.t 9,(.c (.fn (.func 233) [] []))]),.j 11 0 10,.j 12 1 10,.m 4 11,.m 5 12] (.ret [4,5]))))⟩:=by kernel_rfl
theorem F232:compF Tryz.prog 232=some ⟨23,[.tmp 8,.tmp 9],(.g [.q 4 31 0,.q 6 3 2,.q 7 133 3,.c 8 0,.c 9 0] (.z [4,6,7] (.join [1,6,7] (.g [.d 12 9 4,.f 13 21 12,.m 10 13] (.g [.m 14 10,.v 15 .neq 14 0] (.i 15 (.g [.m 16 10,.c 8 0,.m 9 16] (.ret [8,9])) .skip))) (.g [.m 17 1,.s 18 (.mkfn (.func 299) [] [.t 7,.t 6]),.g' 19 298 17 18,.m 11 19] (.join [11] (.g [.m 20 11,.v 21 .lss 20 0] (.i 21 (.g [.c 8 0,.c 9 6] (.ret [8,9])) .skip)) (.g [.m 22 11,.m 8 22,.c 9 0] (.ret [8,9])))))))⟩:=by kernel_rfl
theorem F233:compF Tryz.prog 233=some ⟨5,[.tmp 2],(.g [.q 1 98 0,.c 2 0] (.z [1] (.g [.a 3 0 1,.l 4 3,.m 2 4] (.ret [2]))))⟩:=by kernel_rfl
def B298_0:Cd:=(.g [.b 9 .lss 8 7] (.join [0,1,7,8] (.i 9 .skip (.exit [] 0)) (.join [0,1,7,8] (.block 1 (.g [.m 10 8,.m 5 10] (.g [.m 11 1,.m 12 0,.m 13 5,.r 14 3 12 13,.d 15 3 14,.s 16 (.call (.t 11) [.t 15])] (.i 16 (.g [.m 17 5,.m 4 17] (.ret [4])) .skip)))) (.reg [.v 18 .add 8 1,.m 8 18]))))
theorem F298:compF Tryz.prog 298=some ⟨19,[.tmp 4],(.g [.c 4 0] (.join [] (.g [.m 6 0,.u 7 6,.c 8 0] (.block 0 (.loop [0,1,7,8] [] B298_0))) (.g [.c 4 (-1)] (.ret [4]))))⟩:=by kernel_rfl
theorem F299:compF Tryz.prog 299=some ⟨10,[.tmp 4],(.g [.q 3 98 0,.k 4 false] (.z [3] (.q (.dreg 6 [.l 5 1,.d 6 3 3,.s 7 (.call (.t 5) [.t 6]),.l 8 2,.b 9 .eql 7 8,.m 4 9]) (.ret [4]))))⟩:=by kernel_rfl
end Go.Proofs.YtmjkgajnpmiomaaGreatDoor

namespace Go.Proofs.YtmjkgajnpmiomaaGreatDoor
open Go.Sha
set_option maxRecDepth 100000
variable {g:List (Nat×Obj)}{n:Nat}
theorem f233 {x:Lst}{st:St}:run Tryz.prog HH 233 [x.v] st=some (.ret (.int .i64 x.num),st):=by
 rw[run_shut F233 rfl rfl (by simp)]
 push_cast[Lst.v]
theorem f299 {x:Lst}{v:Int}{st:St}:run Tryz.prog HH 299 [x.v,.ep (.agg [.fn (.func 233) [] []]) 0,.ep (.agg [.int .i64 v]) 0] st=some (.ret (.bool (x.num == v)),st):=by
 have h:=fun(st:St)=>f233 (x:=x) (st:=st)
 push_cast[Lst.v]at h
 rw[run_shut F299 rfl rfl (by simp)]
 push_cast[Lst.v,h]
theorem f298 {l:List Lst}{v:Int}(hl:l.length<140737488355328){st:St}:run Tryz.prog HH 298 [.sl (l.map Lst.v),.fn (.func 299) [] [.ep (.agg [.fn (.func 233) [] []]) 0,.ep (.agg [.int .i64 v]) 0]] st=some (.ret (.int .i64 (ix (fun x=>x.num == v) l 0)),st) :=
 IxF (f:=Lst.v) (n:=some 3) (fun _=>rfl) (fun _=>rfl) F298 rfl (by simp) hl (fun q _ _=>f299) (fun _ _=>rfl) (fun _=>rfl)
end Go.Proofs.YtmjkgajnpmiomaaGreatDoor

namespace Go.Proofs.YtmjkgajnpmiomaaGreatDoor
open Go.Sha
set_option maxRecDepth 10000
def B99_0:Cd:=(.join [0,1,2,8,9,10] (.g [.m 15 9,.m 16 10,.b 17 .lss 15 16] (.i 17 .skip (.exit [0,1,2,8,9] 0))) (.block 1 (.g [.m 18 9,.m 19 10,.b 20 .add 18 19,.s 21 (.cvi .u64 (.t 20)),.s 22 (.bin .shr (.t 21) (.c (.int .u64 1))),.s 23 (.cvi .i64 (.t 22)),.m 11 23] (.g [.m 24 2,.m 25 0,.m 26 11,.r 27 3 25 26,.d 28 3 27,.m 29 1,.s 30 (.call (.t 24) [.t 28,.t 29]),.v 31 .lss 30 0] (.i 31 (.reg [.m 32 11,.v 33 .add 32 1,.m 9 33]) (.reg [.m 34 11,.m 10 34]))))))
theorem F99:compF Tryz.prog 99=some ⟨49,[.tmp 6,.tmp 7],(.g [.c 6 0,.k 7 false] (.g [.m 12 0,.u 13 12,.m 8 13] (.g [.m 14 8,.c 9 0,.m 10 14] (.join [0,1,2,8,9] (.block 0 (.loop [0,1,2,8,9,10] [] B99_0)) (.join [6,7] (.reg [.m 35 9,.m 36 9,.m 37 8,.b 38 .lss 36 37,.m 39 38,.my 40 2 39,.my 41 0 39,.my 42 9 39,.ry 43 3 41 42 39,.y 44 (.load (some 3) (.t 43)) 39,.my 45 1 39,.y 46 (.call (.t 40) [.t 44,.t 45]) 39,.vy 47 .eql 46 0 39,.e 48 39 47,.m 6 35,.m 7 48]) (.ret [6,7]))))))⟩:=by kernel_rfl
theorem F100:compF Tryz.prog 100=some ⟨9,[.tmp 4],(.g [.q 2 98 0,.c 4 0] (.z [2] (.g [.a 5 0 2,.l 6 5,.m 7 1,.g' 8 101 6 7,.m 4 8] (.ret [4]))))⟩:=by kernel_rfl
theorem F101:compF Tryz.prog 101=some ⟨13,[.tmp 4],(.g [.c 4 0] (.join [] (.block 0 (.g [.m 6 0,.m 7 1,.b 8 .lss 6 7,.m 5 8] (.i 5 (.g [.c 4 (-1)] (.ret [4])) (.g [.m 10 0,.m 11 1,.b 12 .gtr 10 11,.m 9 12] (.i 9 (.g [.c 4 1] (.ret [4])) .skip))))) (.g [.c 4 0] (.ret [4]))))⟩:=by kernel_rfl
def B110_0:Cd:=(.join [0,1,2,8,9,10] (.g [.m 15 9,.m 16 10,.b 17 .lss 15 16] (.i 17 .skip (.exit [0,1,2,8,9] 0))) (.block 1 (.g [.m 18 9,.m 19 10,.b 20 .add 18 19,.s 21 (.cvi .u64 (.t 20)),.s 22 (.bin .shr (.t 21) (.c (.int .u64 1))),.s 23 (.cvi .i64 (.t 22)),.m 11 23] (.g [.m 24 2,.m 25 0,.m 26 11,.r 27 6 25 26,.d 28 6 27,.m 29 1,.s 30 (.call (.t 24) [.t 28,.t 29]),.v 31 .lss 30 0] (.i 31 (.reg [.m 32 11,.v 33 .add 32 1,.m 9 33]) (.reg [.m 34 11,.m 10 34]))))))
theorem F110:compF Tryz.prog 110=some ⟨49,[.tmp 6,.tmp 7],(.g [.c 6 0,.k 7 false] (.g [.m 12 0,.u 13 12,.m 8 13] (.g [.m 14 8,.c 9 0,.m 10 14] (.join [0,1,2,8,9] (.block 0 (.loop [0,1,2,8,9,10] [] B110_0)) (.join [6,7] (.reg [.m 35 9,.m 36 9,.m 37 8,.b 38 .lss 36 37,.m 39 38,.my 40 2 39,.my 41 0 39,.my 42 9 39,.ry 43 6 41 42 39,.y 44 (.load (some 6) (.t 43)) 39,.my 45 1 39,.y 46 (.call (.t 40) [.t 44,.t 45]) 39,.vy 47 .eql 46 0 39,.e 48 39 47,.m 6 35,.m 7 48]) (.ret [6,7]))))))⟩:=by kernel_rfl
theorem F111:compF Tryz.prog 111=some ⟨9,[.tmp 4],(.g [.q 2 53 0,.c 4 0] (.z [2] (.g [.a 5 0 2,.l 6 5,.m 7 1,.g' 8 101 6 7,.m 4 8] (.ret [4]))))⟩:=by kernel_rfl
theorem F187:compF Tryz.prog 187=some ⟨14,[.tmp 6,.tmp 7],(.g [.q 5 141 2,.c 6 0,.k 7 false] (.z [5] (.g [.m 8 0,.m 9 1,.s 10 (.mkfn (.func 267) [] [.t 5]),.s 11 (.f 110 [.t 8,.t 9,.t 10]),.j 12 0 11,.j 13 1 11,.m 6 12,.m 7 13] (.ret [6,7]))))⟩:=by kernel_rfl
theorem F267:compF Tryz.prog 267=some ⟨11,[.tmp 5],(.g [.q 3 53 0,.c 5 0] (.z [3] (.g [.l 6 2,.d 7 6 3,.s 8 (.call (.t 6) [.t 7]),.m 9 1,.b 10 .sub 8 9,.m 5 10] (.ret [5]))))⟩:=by kernel_rfl
def B256_0:Cd:=(.join [0,1,2,8,9,10] (.g [.m 15 9,.m 16 10,.b 17 .lss 15 16] (.i 17 .skip (.exit [0,1,2,8,9] 0))) (.block 1 (.g [.m 18 9,.m 19 10,.b 20 .add 18 19,.s 21 (.cvi .u64 (.t 20)),.s 22 (.bin .shr (.t 21) (.c (.int .u64 1))),.s 23 (.cvi .i64 (.t 22)),.m 11 23] (.g [.m 24 2,.m 25 0,.m 26 11,.r 27 2 25 26,.d 28 2 27,.m 29 1,.s 30 (.call (.t 24) [.t 28,.t 29]),.v 31 .lss 30 0] (.i 31 (.reg [.m 32 11,.v 33 .add 32 1,.m 9 33]) (.reg [.m 34 11,.m 10 34]))))))
theorem F256:compF Tryz.prog 256=some ⟨49,[.tmp 6,.tmp 7],(.g [.c 6 0,.k 7 false] (.g [.m 12 0,.u 13 12,.m 8 13] (.g [.m 14 8,.c 9 0,.m 10 14] (.join [0,1,2,8,9] (.block 0 (.loop [0,1,2,8,9,10] [] B256_0)) (.join [6,7] (.reg [.m 35 9,.m 36 9,.m 37 8,.b 38 .lss 36 37,.m 39 38,.my 40 2 39,.my 41 0 39,.my 42 9 39,.ry 43 2 41 42 39,.y 44 (.load (some 2) (.t 43)) 39,.my 45 1 39,.y 46 (.call (.t 40) [.t 44,.t 45]) 39,.vy 47 .eql 46 0 39,.e 48 39 47,.m 6 35,.m 7 48]) (.ret [6,7]))))))⟩:=by kernel_rfl
theorem F257:compF Tryz.prog 257=some ⟨11,[.tmp 5],(.g [.q 3 47 0,.c 5 0] (.z [3] (.g [.l 6 2,.d 7 2 3,.s 8 (.call (.t 6) [.t 7]),.m 9 1,.g' 10 258 8 9,.m 5 10] (.ret [5]))))⟩:=by kernel_rfl
theorem F258:compF Tryz.prog 258=some ⟨20,[.tmp 4],(.g [.c 4 0] (.g [.m 7 0,.f 8 311 7,.m 5 8] (.g [.m 9 1,.f 10 311 9,.m 6 10] (.join [0,1,6] (.g [.m 11 5] (.i 11 (.join [] (.g [.m 12 6] (.i 12 (.g [.c 4 0] (.ret [4])) .skip)) (.g [.c 4 (-1)] (.ret [4]))) .skip)) (.join [0,1] (.g [.m 13 6] (.i 13 (.g [.c 4 1] (.ret [4])) .skip)) (.join [0,1] (.g [.m 14 0,.m 15 1,.b 16 .lss 14 15] (.i 16 (.g [.c 4 (-1)] (.ret [4])) .skip)) (.join [] (.g [.m 17 0,.m 18 1,.b 19 .gtr 17 18] (.i 19 (.g [.c 4 1] (.ret [4])) .skip)) (.g [.c 4 0] (.ret [4])))))))))⟩:=by kernel_rfl
theorem F311:compF Tryz.prog 311=some ⟨6,[.tmp 2],(.g [.k 2 false] (.g [.m 3 0,.m 4 0,.b 5 .neq 3 4,.m 2 5] (.ret [2])))⟩:=by kernel_rfl
theorem F177:compF Tryz.prog 177=some ⟨14,[.tmp 6,.tmp 7],(.g [.q 4 138 1,.c 6 0,.k 7 false] (.z [4] (.g [.m 8 0,.m 9 2,.s 10 (.mkfn (.func 257) [] [.t 4]),.s 11 (.f 256 [.t 8,.t 9,.t 10]),.j 12 0 11,.j 13 1 11,.m 6 12,.m 7 13] (.ret [6,7]))))⟩:=by kernel_rfl
def B261_0:Cd:=(.join [0,1,2,8,9,10] (.g [.m 15 9,.m 16 10,.b 17 .lss 15 16] (.i 17 .skip (.exit [0,1,2,8,9] 0))) (.block 1 (.g [.m 18 9,.m 19 10,.b 20 .add 18 19,.s 21 (.cvi .u64 (.t 20)),.s 22 (.bin .shr (.t 21) (.c (.int .u64 1))),.s 23 (.cvi .i64 (.t 22)),.m 11 23] (.g [.m 24 2,.m 25 0,.m 26 11,.r 27 4 25 26,.d 28 4 27,.m 29 1,.s 30 (.call (.t 24) [.t 28,.t 29]),.v 31 .lss 30 0] (.i 31 (.reg [.m 32 11,.v 33 .add 32 1,.m 9 33]) (.reg [.m 34 11,.m 10 34]))))))
theorem F261:compF Tryz.prog 261=some ⟨49,[.tmp 6,.tmp 7],(.g [.c 6 0,.k 7 false] (.g [.m 12 0,.u 13 12,.m 8 13] (.g [.m 14 8,.c 9 0,.m 10 14] (.join [0,1,2,8,9] (.block 0 (.loop [0,1,2,8,9,10] [] B261_0)) (.join [6,7] (.reg [.m 35 9,.m 36 9,.m 37 8,.b 38 .lss 36 37,.m 39 38,.my 40 2 39,.my 41 0 39,.my 42 9 39,.ry 43 4 41 42 39,.y 44 (.load (some 4) (.t 43)) 39,.my 45 1 39,.y 46 (.call (.t 40) [.t 44,.t 45]) 39,.vy 47 .eql 46 0 39,.e 48 39 47,.m 6 35,.m 7 48]) (.ret [6,7]))))))⟩:=by kernel_rfl
theorem F262:compF Tryz.prog 262=some ⟨9,[.tmp 4],(.g [.q 2 50 0,.c 4 0] (.z [2] (.g [.a 5 0 2,.l 6 5,.m 7 1,.b 8 .sub 6 7,.m 4 8] (.ret [4]))))⟩:=by kernel_rfl
theorem F182:compF Tryz.prog 182=some ⟨11,[.tmp 4,.tmp 5],(.g [.c 4 0,.k 5 false] (.g [.m 6 0,.m 7 1,.s 8 (.f 261 [.t 6,.t 7,(.c (.fn (.func 262) [] []))]),.j 9 0 8,.j 10 1 8,.m 4 9,.m 5 10] (.ret [4,5])))⟩:=by kernel_rfl
theorem F178:compF Tryz.prog 178=some ⟨5,[.tmp 2],(.g [.q 1 47 0,.c 2 0] (.z [1] (.g [.a 3 0 1,.l 4 3,.m 2 4] (.ret [2]))))⟩:=by kernel_rfl
end Go.Proofs.YtmjkgajnpmiomaaGreatDoor

namespace Go.Proofs.YtmjkgajnpmiomaaGreatDoor
open Go.Sha
set_option maxRecDepth 100000
variable {g:List (Nat×Obj)}{n:Nat}
def BsB (es : Nat) : Cd := (.join [0, 1, 2, 8, 9, 10] (.g [.m 15 9, .m 16 10, .b 17 .lss 15 16]
 (.i 17 .skip (.exit [0, 1, 2, 8, 9] 0)))
 (.block 1 (.g [.m 18 9, .m 19 10, .b 20 .add 18 19, .s 21 (.cvi .u64 (.t 20)), .s 22 (.bin .shr (.t 21) (.c (.int .u64 1))), .s 23 (.cvi .i64 (.t 22)), .m 11 23]
 (.g [.m 24 2, .m 25 0, .m 26 11, .r 27 es 25 26, .d 28 es 27, .m 29 1, .s 30 (.call (.t 24) [.t 28, .t 29]), .v 31 .lss 30 0]
 (.i 31 (.reg [.m 32 11, .v 33 .add 32 1, .m 9 33]) (.reg [.m 34 11, .m 10 34]))))))
def BsC (es : Nat) : Cd := (.g [.c 6 0, .k 7 false]
 (.g [.m 12 0, .u 13 12, .m 8 13]
 (.g [.m 14 8, .c 9 0, .m 10 14]
 (.join [0, 1, 2, 8, 9] (.block 0 (.loop [0, 1, 2, 8, 9, 10] [] (BsB es)))
 (.join [6, 7] (.reg [.m 35 9, .m 36 9, .m 37 8, .b 38 .lss 36 37, .m 39 38, .my 40 2 39, .my 41 0 39, .my 42 9 39, .ry 43 es 41 42 39, .y 44 (.load (some es) (.t 43)) 39, .my 45 1 39, .y 46 (.call (.t 40) [.t 44, .t 45]) 39, .vy 47 .eql 46 0 39, .e 48 39 47, .m 6 35, .m 7 48])
 (.ret [6, 7]))))))
section
variable {α:Type} [Inhabited α] {f:α→V}{es:Nat}{h k:FuncId}{caps:List V}{v:Int}{c:α→Int}{l:List α}
theorem BsL (he:∀x,(f x).cells.length=es)(hr:∀x,rd (some es) (f x).cells 0=some (f x))(hl:l.length<140737488355328){st:St}(hp:∀x,run Tryz.prog HH h (f x::.int .i64 v::caps) st=some (.ret (.int .i64 (c x)),st))
  (hs:∀x,(snapA st (f x)).getD (f x)=f x) (hc:caps.map (fun v=>(snapA st v).getD v)=caps) (hk0:memL h HH.raw=false):∀i j,i≤j→j≤l.length →
  runL Tryz.prog HH [0,1,2,8,9,10] st.nx (BsB es) [(0,.sl (l.map f)),(1,.int .i64 v),(2,.fn (.func h) [] caps),(8,.int .i64 l.length),(9,.int .i64 i),(10,.int .i64 j)] st
  = some (.exit 0,[(0,.sl (l.map f)),(1,.int .i64 v),(2,.fn (.func h) [] caps),(8,.int .i64 l.length),(9,.int .i64 (bsI (fun k=>c (l.getD k default)) i j))],st):=by
 intro i j
 rw[HH_raw]at hk0
 push_cast at hk0
 induction i,j using bsI.induct (fun k=>c (l.getD k default)) with
 |case1 i j h h2 ih =>
  intro hij hj
  have ih:=ih (by omega) hj
  rw[bsI,dif_pos h,if_pos h2,runL_of (BsB.eq_1 _)]
  have h1:(i:Int)<j:=by omega
  have h3:=halfI (i:=i) (j:=j) (by omega)
  have h4:(((i+j) / 2:Nat):Int)<l.length:=by omega
  have h5:IntKind.i64.wrap ((((i+j) / 2:Nat):Int)+1)=(((i+j) / 2+1:Nat):Int):=iwrap (by omega) (by omega)
  have h207:=hp (l.getD ((i+j) / 2) default)
  generalize hk:(i+j) / 2=k at *
  push_cast at ih h207
  push_cast[h1,h3,h4,h5,h207,h2,he,hr,hs,hc,hk0,loadV]
  exact ih
 |case2 i j h h2 ih =>
  intro hij hj
  have ih:=ih (by omega) (by omega)
  rw[bsI,dif_pos h,if_neg h2,runL_of (BsB.eq_1 _)]
  have h1:(i:Int)<j:=by omega
  have h3:=halfI (i:=i) (j:=j) (by omega)
  have h4:(((i+j) / 2:Nat):Int)<l.length:=by omega
  have h207:=hp (l.getD ((i+j) / 2) default)
  generalize hk:(i+j) / 2=k at *
  push_cast at ih h207
  push_cast[h1,h3,h4,h207,h2,he,hr,hs,hc,hk0,loadV]
  exact ih
 |case3 i j h =>
  intro hij hj
  rw[bsI,dif_neg h,runL_of (BsB.eq_1 _)]
  have h1:¬(i:Int)<j:=by omega
  push_cast[h1]
def bsR (c:α→Int)(l:List α):Nat:=bsI (fun k=>c (l.getD k default)) 0 l.length
def bsF (c:α→Int)(l:List α):Bool:=decide ((bsR c l:Int)<l.length)&&c (l.getD (bsR c l) default) == 0
theorem BsF (he:∀x,(f x).cells.length=es)(hr:∀x,rd (some es) (f x).cells 0=some (f x))(hF:compF Tryz.prog k=some ⟨49,[.tmp 6,.tmp 7],BsC es⟩){st:St}(hH:HH k [.sl (l.map f),.int .i64 v,.fn (.func h) [] caps] st=none)(hb:V.bdL 0 [.sl (l.map f),.int .i64 v,.fn (.func h) [] caps]=true)(hl:l.length<140737488355328)
  (hp:∀x st,run Tryz.prog HH h (f x::.int .i64 v::caps) st=some (.ret (.int .i64 (c x)),st)) (hs:∀st x,(snapA st (f x)).getD (f x)=f x) (hc:∀st,caps.map (fun v=>(snapA st v).getD v)=caps) (hk0:memL h HH.raw=false:=by rfl) :
  run Tryz.prog HH k [.sl (l.map f),.int .i64 v,.fn (.func h) [] caps] st=some (.ret (.tup [.int .i64 (bsR c l),.bool (bsF c l)]),st):=by
 rw[run_shut hF hH rfl hb]
 unfold BsC
 have h0:=fun g n=>BsL (st:=stN g n) (c:=c) he hr hl (fun x=>hp x _) (hs _) (hc _) hk0 0 l.length (by omega) (Nat.le_refl _)
 have h207:=fun st=>hp (l.getD (bsR c l) default) st
 rw[show bsI (fun k=>c (l.getD k default)) 0 l.length=bsR c l from rfl]at h0
 rw[HH_raw]at hk0
 push_cast at h0 h207 hk0
 push_cast[h0,h207,he,hr,hs,hc,hk0,loadV,bsF]
 exact dn_eq (fun h=>h) rfl
end
end Go.Proofs.YtmjkgajnpmiomaaGreatDoor

namespace Go.Proofs.YtmjkgajnpmiomaaGreatDoor
open Go.Sha
section
set_option linter.unusedSectionVars false
variable {α:Type} [Inhabited α] {key:α→Int}{l:List α}{x:α}{v:Int}{c:α→Int}
def insT (key:α→Int)(x:α)(l:List α):List α:=l.filter (fun y=>decide (key y<key x))++x::l.filter (fun y=>decide (key x<key y))
def delT (key:α→Int)(v:Int)(l:List α):List α:=l.filter (fun y=>decide (¬key y=v))
theorem filter_id {p:α→Bool}(h:∀x∈l,p x=true):l.filter p=l:=List.filter_eq_self.2 h
theorem filter_no {p:α→Bool}(h:∀x∈l,p x=false):l.filter p=[]:=List.filter_eq_nil_iff.2 fun x hx=>by rw[h x hx];simp
theorem bs_split (hs:l.Pairwise fun a b=>c b≤0→c a<0) :
  bsR c l≤l.length∧l.take (bsR c l)=l.filter (fun y=>decide (c y<0))∧(bsF c l=true→bsR c l<l.length∧l.drop (bsR c l+1)=l.filter (fun y=>decide (0<c y))∧l.any (fun y=>decide (c y=0))=true) ∧
   (bsF c l=false→l.drop (bsR c l)=l.filter (fun y=>decide (0<c y))∧l.any (fun y=>decide (c y=0))=false):=by
 have hg:∀k d,k<l.length→l.getD k d∈l∧l[k]?=some (l.getD k d):=fun k d hk=>by
  rw[List.getD_eq_getElem?_getD,List.getElem?_eq_getElem hk];exact⟨List.getElem_mem hk,rfl⟩
 have hp:∀a b,a<b→b<l.length→c (l.getD b default)≤0→c (l.getD a default)<0:=fun a b hab hb h=>by
  have h1:=(hg a default (by omega)).2
  have h2:=(hg b default hb).2
  rw[List.getElem?_eq_getElem (by omega)]at h1 h2
  have:=List.pairwise_iff_getElem.1 hs a b (by omega) hb hab
  rw[Option.some.inj h1,Option.some.inj h2]at this
  exact this h
 obtain⟨_,r1,r2,r3⟩:=bsI_ok (c:=fun k=>c (l.getD k default)) hp (i:=0) (j:=l.length) (by omega) (Nat.le_refl _) (fun k hk=>by omega) (fun k h1 h2=>by omega)
 rw[show bsI (fun k=>c (l.getD k default)) 0 l.length=bsR c l from rfl]at r1 r2 r3
 have gD:∀(k:Nat) y,l[k]?=some y→l.getD k default=y:=fun k y h=>by rw[List.getD_eq_getElem?_getD,h];rfl
 have t1:∀y∈l.take (bsR c l),c y<0:=fun y hy=>by
  obtain⟨k,hk⟩:=List.mem_iff_getElem?.1 hy
  have hkl:k<bsR c l:=by have:=(List.getElem?_eq_some_iff.1 hk).1;simp at this;omega
  rw[List.getElem?_take_of_lt hkl]at hk
  have:=r2 k hkl
  rwa [gD k y hk]at this
 have t2:∀y∈l.drop (bsR c l),0≤c y:=fun y hy=>by
  obtain⟨k,hk⟩:=List.mem_iff_getElem?.1 hy
  rw[List.getElem?_drop]at hk
  have:=r3 (bsR c l+k) (by omega) (List.getElem?_eq_some_iff.1 hk).1
  rwa [gD _ y hk]at this
 have hl:l=l.take (bsR c l)++l.drop (bsR c l):=(List.take_append_drop _ _).symm
 refine⟨r1,?_,fun hf=>?_,fun hf=>?_⟩
 ·rw[show l.filter (fun y=>decide (c y<0))=(l.take (bsR c l)++l.drop (bsR c l)).filter (fun y=>decide (c y<0)) by rw[←hl],List.filter_append,filter_id (fun y hy=>by simpa using t1 y hy),filter_no (fun y hy=>by have:=t2 y hy;simp;omega),List.append_nil]
 ·simp only[bsF,Bool.and_eq_true,decide_eq_true_eq,beq_iff_eq]at hf
  have hr:bsR c l<l.length:=by omega
  have hd:l.drop (bsR c l)=l.getD (bsR c l) default::l.drop (bsR c l+1):=by
   rw[List.drop_eq_getElem_cons hr,List.getD_eq_getElem?_getD,List.getElem?_eq_getElem hr];rfl
  have t3:∀y∈l.drop (bsR c l+1),0<c y:=fun y hy=>by
   obtain⟨k,hk⟩:=List.mem_iff_getElem?.1 hy
   rw[List.getElem?_drop]at hk
   apply Classical.byContradiction;intro h
   have:=hp (bsR c l) (bsR c l+1+k) (by omega) (List.getElem?_eq_some_iff.1 hk).1 (by rw[gD _ y hk];omega)
   omega
  refine⟨hr,?_,?_⟩
  ·rw[show l.filter (fun y=>decide (0<c y))=(l.take (bsR c l)++l.drop (bsR c l)).filter (fun y=>decide (0<c y)) by rw[←hl],List.filter_append,hd,List.filter_cons,filter_id (l:=l.drop (bsR c l+1)) (fun y hy=>by simpa using t3 y hy),filter_no (l:=l.take (bsR c l)) (fun y hy=>by have:=t1 y hy;simp;omega),hf.2]
   simp
  ·rw[List.any_eq_true];exact⟨_,(hg _ default hr).1,by simpa using hf.2⟩
 ·have t4:∀y∈l.drop (bsR c l),0<c y:=fun y hy=>by
   obtain⟨k,hk⟩:=List.mem_iff_getElem?.1 hy
   have h0:=t2 y hy
   rw[List.getElem?_drop]at hk
   have hkl:=(List.getElem?_eq_some_iff.1 hk).1
   apply Classical.byContradiction;intro h
   have hy0:c y=0:=by omega
   rcases Nat.eq_zero_or_pos k with e|e
   ·subst e
    simp only[bsF,Bool.and_eq_false_iff,decide_eq_false_iff_not,beq_eq_false_iff_ne]at hf
    rw[Nat.add_zero]at hk hkl
    rcases hf with hf|hf
    ·omega
    ·rw[gD _ y hk]at hf;exact hf hy0
   ·have:=hp (bsR c l) (bsR c l+k) (by omega) hkl (by rw[gD _ y hk];omega)
    have:=r3 (bsR c l) (Nat.le_refl _) (by omega)
    omega
  refine⟨?_,?_⟩
  ·rw[show l.filter (fun y=>decide (0<c y))=(l.take (bsR c l)++l.drop (bsR c l)).filter (fun y=>decide (0<c y)) by rw[←hl],List.filter_append,filter_no (l:=l.take (bsR c l)) (fun y hy=>by have:=t1 y hy;simp;omega),List.nil_append,filter_id fun y hy=>by simpa using t4 y hy]
  ·rw[List.any_eq_false]
   intro y hy
   rw[hl]at hy
   rcases List.mem_append.1 hy with hy|hy
   ·have:=t1 y hy;simp;omega
   ·have:=t4 y hy;simp;omega
def Asc (key:α→Int)(l:List α):Prop:=l.Pairwise fun a b=>key a<key b
def CmpK (key:α→Int)(v:Int)(c:α→Int)(l:List α):Prop:=∀y∈l,(c y<0↔key y<v)∧(c y=0↔key y=v)
theorem asc_cmp (ha:Asc key l)(hc:CmpK key v c l):l.Pairwise fun a b=>c b≤0→c a<0:=by
 refine List.Pairwise.imp_of_mem ?_ ha
 intro a b h1 h2 hab hb
 have ca:=hc a h1
 have cb:=hc b h2
 rw[ca.1]
 have:key b≤v:=by
  rcases Int.lt_or_eq_of_le hb with h|h
  ·have:=cb.1.1 h;omega
  ·have:=cb.2.1 h;omega
 omega
theorem fil_congr {p q:α→Bool}(h:∀y∈l,p y=q y):l.filter p=l.filter q:=List.filter_congr h
theorem bs_tab (ha:Asc key l)(hc:CmpK key v c l):bsR c l≤l.length∧l.take (bsR c l)=l.filter (fun y=>decide (key y<v))∧bsF c l=l.any (fun y=>decide (key y=v)) ∧
  (bsF c l=true→bsR c l<l.length∧l.drop (bsR c l+1)=l.filter (fun y=>decide (v<key y)))∧(bsF c l=false→l.drop (bsR c l)=l.filter (fun y=>decide (v<key y))):=by
 obtain⟨a1,a2,a3,a4⟩:=bs_split (asc_cmp ha hc)
 have e1:l.filter (fun y=>decide (c y<0))=l.filter (fun y=>decide (key y<v)):=fil_congr fun y hy=>by simp only[(hc y hy).1]
 have e2:l.filter (fun y=>decide (0<c y))=l.filter (fun y=>decide (v<key y)):=fil_congr fun y hy=>by
  have:=hc y hy
  rw[decide_eq_decide]
  constructor
  ·intro h
   have h1:¬key y<v:=fun e=>by have:=this.1.2 e;omega
   have h2:¬key y=v:=fun e=>by have:=this.2.2 e;omega
   omega
  ·intro h
   have h1:¬c y<0:=fun e=>by have:=this.1.1 e;omega
   have h2:¬c y=0:=fun e=>by have:=this.2.1 e;omega
   omega
 have e3:l.any (fun y=>decide (c y=0))=l.any (fun y=>decide (key y=v)):=by
  rw[Bool.eq_iff_iff];simp only[List.any_eq_true,decide_eq_true_eq]
  exact⟨fun⟨y,hy,h⟩=>⟨y,hy,(hc y hy).2.1 h⟩,fun⟨y,hy,h⟩=>⟨y,hy,(hc y hy).2.2 h⟩⟩
 refine⟨a1,a2.trans e1,?_,fun h=>⟨(a3 h).1,(a3 h).2.1.trans e2⟩,fun h=>(a4 h).1.trans e2⟩
 cases h:bsF c l with
 |true=>rw[←e3,(a3 h).2.2]
 |false=>rw[←e3,(a4 h).2]
theorem bs_wrap (hk:∀y∈l,1≤key y∧key y≤1048576)(ha:Asc key l)(hv:-9223372036854775808≤v∧v≤9223372036854775807):bsF (fun y=>IntKind.i64.wrap (key y-v)) l=l.any (fun y=>decide (key y=v)) ∧
  (1≤v∧v≤1048576→CmpK key v (fun y=>IntKind.i64.wrap (key y-v)) l):=by
 have h2:1≤v∧v≤1048576→CmpK key v (fun y=>IntKind.i64.wrap (key y-v)) l:=fun h y hy=>by
  have:=hk y hy
  show(IntKind.i64.wrap (key y-v)<0↔_)∧(IntKind.i64.wrap (key y-v)=0↔_)
  rw[iwrap (by omega) (by omega)]
  constructor<;>constructor<;>intro h<;>omega
 refine⟨?_,h2⟩
 by_cases h:1≤v∧v≤1048576
 ·exact(bs_tab ha (h2 h)).2.2.1
 ·have h3:∀y∈l,¬key y=v:=fun y hy e=>by have:=hk y hy;omega
  have h4:∀y∈l,¬IntKind.i64.wrap (key y-v)=0:=fun y hy e=>by
   have:=hk y hy
   rw[IntKind.wrap_i64]at e
   omega
  have e1:l.any (fun y=>decide (key y=v))=false:=by rw[List.any_eq_false];intro y hy;simpa using h3 y hy
  rw[e1]
  cases hf:bsF (fun y=>IntKind.i64.wrap (key y-v)) l with
  |false=>rfl
  |true =>
   simp only[bsF,Bool.and_eq_true,decide_eq_true_eq,beq_iff_eq]at hf
   have hr:bsR (fun y=>IntKind.i64.wrap (key y-v)) l<l.length:=by omega
   refine absurd hf.2 (h4 _ ?_)
   rw[List.getD_eq_getElem?_getD,List.getElem?_eq_getElem hr];exact List.getElem_mem hr
theorem put_hit (ha:Asc key l)(hc:CmpK key (key x) c l)(hf:bsF c l=true):l.set (bsR c l) x=insT key x l:=by
 obtain⟨a1,a2,_,a4,_⟩:=bs_tab ha hc
 obtain⟨b1,b2⟩:=a4 hf
 rw[insT,←a2,←b2,List.set_eq_take_append_cons_drop,if_pos b1]
theorem put_miss (ha:Asc key l)(hc:CmpK key (key x) c l)(hf:bsF c l=false):l.take (bsR c l)++[x]++l.drop (bsR c l)=insT key x l:=by
 obtain⟨a1,a2,_,_,a5⟩:=bs_tab ha hc
 rw[insT,←a2,←a5 hf];simp
theorem fil_split:∀{l:List α},Asc key l→l.filter (fun y=>decide (key y<v))++l.filter (fun y=>decide (v<key y))=delT key v l
 |[],_=>rfl
 |y::r,ha=>by
  have ha':=List.pairwise_cons.1 ha
  have ih:=fil_split (l:=r) ha'.2
  simp only[delT]at ih ⊢
  simp only[List.filter_cons]
  by_cases h1:key y<v
  ·simp only[h1,decide_true,if_true,show ¬v<key y by omega,decide_false,Bool.false_eq_true,if_false,show ¬key y=v by omega,not_false_eq_true,List.cons_append,ih]
  ·have e:r.filter (fun y=>decide (key y<v))=[]:=filter_no fun z hz=>by have:=ha'.1 z hz;simp;omega
   rw[e,List.nil_append]at ih
   simp only[h1,decide_false,Bool.false_eq_true,if_false,e,List.nil_append]
   by_cases h2:v<key y
   ·simp only[h2,decide_true,if_true,show ¬key y=v by omega,not_false_eq_true,ih]
   ·rw[decide_eq_false h2,if_neg (by simp),ih];simp[show key y=v by omega]
theorem del_hit (ha:Asc key l)(hc:CmpK key v c l)(hf:bsF c l=true):l.take (bsR c l)++l.drop (bsR c l+1)=delT key v l:=by
 obtain⟨a1,a2,_,a4,_⟩:=bs_tab ha hc
 obtain⟨b1,b2⟩:=a4 hf
 rw[a2,b2,fil_split ha]
theorem fil_len:∀{l:List α},Asc key l→(l.filter (fun y=>decide (key y<v))).length+(l.filter (fun y=>decide (v<key y))).length+(if l.any (fun y=>decide (key y=v))=true then 1 else 0)=l.length
 |[],_=>rfl
 |y::r,ha=>by
  have ha':=List.pairwise_cons.1 ha
  have ih:=fil_len (l:=r) ha'.2
  simp only[List.filter_cons,List.any_cons,List.length_cons]
  by_cases h1:key y<v
  ·simp only[h1,show ¬v<key y by omega,show ¬key y=v by omega,decide_true,decide_false,Bool.false_or,if_true,Bool.false_eq_true,if_false,List.length_cons];omega
  ·by_cases h2:v<key y
   ·simp only[h1,h2,show ¬key y=v by omega,decide_true,decide_false,Bool.false_or,if_true,Bool.false_eq_true,if_false,List.length_cons];omega
   ·obtain rfl:v=key y:=by omega
    have e:r.any (fun z=>decide (key z=key y))=false:=by
     rw[List.any_eq_false];intro z hz;have:=ha'.1 z hz;simp;omega
    rw[e]at ih
    simp only[Int.lt_irrefl,decide_true,decide_false,Bool.true_or,if_true,Bool.false_eq_true,if_false]at ih ⊢
    omega
theorem insT_len (ha:Asc key l):(insT key x l).length=if l.any (fun y=>decide (key y=key x))=true then l.length else l.length+1:=by
 have:=fil_len (v:=key x) ha
 simp only[insT,List.length_append,List.length_cons]
 by_cases h:l.any (fun y=>decide (key y=key x))=true
 ·rw[if_pos h]at this ⊢;omega
 ·rw[if_neg h]at this ⊢;omega
end
end Go.Proofs.YtmjkgajnpmiomaaGreatDoor

namespace Go.Proofs.YtmjkgajnpmiomaaGreatDoor
open Go.Sha
set_option maxRecDepth 10000
theorem F104:compF Tryz.prog 104=some ⟨45,[.tmp 4,.tmp 5],(.g [.q 3 44 1,.s 4 (.mv (.c .nils)),.c 5 0] (.z [3] (.join [0,3] (.g [.m 11 0,.f 12 84 11,.m 6 12] (.g [.m 13 6,.v 14 .neq 13 0] (.i 14 (.g [.m 15 6,.s 4 (.mv (.c .nils)),.m 5 15] (.ret [4,5])) .skip))) (.join [0,3] (.g [.d 16 2 3,.s 17 (.bslice 44 2 [.t 16]),.f 18 84 17,.m 7 18] (.g [.m 19 7,.v 20 .neq 19 0] (.i 20 (.g [.m 21 7,.s 4 (.mv (.c .nils)),.m 5 21] (.ret [4,5])) .skip))) (.g [.m 23 0,.a 24 0 3,.l 25 24,.g' 26 171 23 25,.m 22 26,.j 27 0 22,.j 28 1 22,.m 8 27,.m 9 28] (.g [.m 29 0,.f 30 172 29,.m 10 30] (.join [0,3,8,10] (.g [.m 31 9] (.i 31 (.g [.m 32 10,.m 33 8,.d 34 2 3,.r 35 2 32 33,.w 2 35 34] (.g [.m 36 10,.m 4 36,.c 5 0] (.ret [4,5]))) .skip)) (.join [3,8,10] (.g [.m 37 0,.u 38 37,.v 39 .eql 38 32] (.i 39 (.g [.s 4 (.mv (.c .nils)),.c 5 5] (.ret [4,5])) .skip)) (.g [.m 40 10,.m 41 8,.d 42 2 3,.s 43 (.bslice 44 2 [.t 42]),.s 44 (.f 173 [.t 40,.t 41,.t 43]),.m 4 44,.c 5 0] (.ret [4,5]))))))))))⟩:=by kernel_rfl
theorem F105:compF Tryz.prog 105=some ⟨25,[.tmp 4,.tmp 5,.tmp 6],(.g [.q 3 3 1,.s 4 (.mv (.c .nils)),.k 5 false,.c 6 0] (.z [3] (.join [0,3] (.g [.m 10 0,.f 11 84 10,.m 7 11] (.g [.m 12 7,.v 13 .neq 12 0] (.i 13 (.g [.m 14 7,.s 4 (.mv (.c .nils)),.k 5 false,.m 6 14] (.ret [4,5,6])) .skip))) (.g [.m 16 0,.l 17 3,.g' 18 171 16 17,.m 15 18,.j 19 0 15,.j 20 1 15,.m 8 19,.m 9 20] (.g [.m 21 0,.s 22 (.mkfn (.func 175) [] [.t 3]),.g' 23 174 21 22,.m 24 9,.m 4 23,.m 5 24,.c 6 0] (.ret [4,5,6]))))))⟩:=by kernel_rfl
theorem F106:compF Tryz.prog 106=some ⟨44,[.tmp 4,.tmp 5],(.g [.q 3 47 1,.s 4 (.mv (.c .nils)),.c 5 0] (.z [3] (.join [0,3] (.g [.m 11 0,.f 12 82 11,.m 6 12] (.g [.m 13 6,.v 14 .neq 13 0] (.i 14 (.g [.m 15 6,.s 4 (.mv (.c .nils)),.m 5 15] (.ret [4,5])) .skip))) (.join [0,3] (.g [.d 16 2 3,.f 17 136 16,.m 7 17] (.g [.m 18 7,.v 19 .neq 18 0] (.i 19 (.g [.m 20 7,.s 4 (.mv (.c .nils)),.m 5 20] (.ret [4,5])) .skip))) (.g [.m 21 0,.f 22 176 21,.m 8 22] (.join [8] (.g [.m 24 0,.a 25 0 3,.l 26 25,.s 27 (.f 177 [.t 24,(.c (.fn (.func 178) [] [])),.t 26]),.m 23 27,.j 28 0 23,.j 29 1 23,.m 9 28,.m 10 29] (.g [.m 30 10] (.i 30 (.reg [.m 31 8,.m 32 9,.d 33 2 3,.r 34 2 31 32,.w 2 34 33]) (.reg [.m 35 8,.m 36 9,.d 37 2 3,.s 38 (.bslice 47 2 [.t 37]),.s 39 (.f 179 [.t 35,.t 36,.t 38]),.m 8 39])))) (.join [8] (.g [.m 40 8,.u 41 40,.v 42 .gtr 41 32] (.i 42 (.g [.s 4 (.mv (.c .nils)),.c 5 5] (.ret [4,5])) .skip)) (.g [.m 43 8,.m 4 43,.c 5 0] (.ret [4,5])))))))))⟩:=by kernel_rfl
theorem F107:compF Tryz.prog 107=some ⟨28,[.tmp 4,.tmp 5],(.g [.s 4 (.mv (.c .nils)),.c 5 0] (.join [0,1] (.g [.m 9 0,.f 10 82 9,.m 6 10] (.g [.m 11 6,.v 12 .neq 11 0] (.i 12 (.g [.m 13 6,.s 4 (.mv (.c .nils)),.m 5 13] (.ret [4,5])) .skip))) (.g [.m 15 0,.m 16 1,.s 17 (.f 177 [.t 15,(.c (.fn (.func 178) [] [])),.t 16]),.m 14 17,.j 18 0 14,.j 19 1 14,.m 7 18,.m 8 19] (.join [0,7] (.g [.m 20 8,.z 21 20] (.i 21 (.g [.s 4 (.mv (.c .nils)),.c 5 6] (.ret [4,5])) .skip)) (.g [.m 22 0,.f 23 176 22,.m 24 7,.m 25 7,.v 26 .add 25 1,.s 27 (.f 180 [.t 23,.t 24,.t 26]),.m 4 27,.c 5 0] (.ret [4,5]))))))⟩:=by kernel_rfl
theorem F108:compF Tryz.prog 108=some ⟨44,[.tmp 4,.tmp 5],(.g [.q 3 50 1,.s 4 (.mv (.c .nils)),.c 5 0] (.z [3] (.join [0,3] (.g [.m 11 0,.f 12 87 11,.m 6 12] (.g [.m 13 6,.v 14 .neq 13 0] (.i 14 (.g [.m 15 6,.s 4 (.mv (.c .nils)),.m 5 15] (.ret [4,5])) .skip))) (.join [0,3] (.g [.d 16 4 3,.f 17 139 16,.m 7 17] (.g [.m 18 7,.v 19 .neq 18 0] (.i 19 (.g [.m 20 7,.s 4 (.mv (.c .nils)),.m 5 20] (.ret [4,5])) .skip))) (.g [.m 21 0,.f 22 181 21,.m 8 22] (.g [.m 24 8,.a 25 0 3,.l 26 25,.g' 27 182 24 26,.m 23 27,.j 28 0 23,.j 29 1 23,.m 9 28,.m 10 29] (.join [3,8,9] (.g [.m 30 10] (.i 30 (.g [.m 31 8,.m 32 9,.d 33 4 3,.r 34 4 31 32,.w 4 34 33] (.g [.m 35 8,.m 4 35,.c 5 0] (.ret [4,5]))) .skip)) (.join [3,8,9] (.g [.m 36 8,.u 37 36,.v 38 .eql 37 16] (.i 38 (.g [.s 4 (.mv (.c .nils)),.c 5 5] (.ret [4,5])) .skip)) (.g [.m 39 8,.m 40 9,.d 41 4 3,.s 42 (.bslice 50 4 [.t 41]),.s 43 (.f 183 [.t 39,.t 40,.t 42]),.m 4 43,.c 5 0] (.ret [4,5]))))))))))⟩:=by kernel_rfl
theorem F109:compF Tryz.prog 109=some ⟨31,[.tmp 4,.tmp 5],(.g [.s 4 (.mv (.c .nils)),.c 5 0] (.join [0,1] (.g [.m 9 0,.f 10 87 9,.m 6 10] (.g [.m 11 6,.v 12 .neq 11 0] (.i 12 (.g [.m 13 6,.s 4 (.mv (.c .nils)),.m 5 13] (.ret [4,5])) .skip))) (.g [.m 15 0,.m 16 1,.g' 17 182 15 16,.m 14 17,.j 18 0 14,.j 19 1 14,.m 7 18,.m 8 19] (.join [0,7] (.g [.m 20 8,.z 21 20] (.i 21 (.g [.s 4 (.mv (.c .nils)),.c 5 6] (.ret [4,5])) .skip)) (.join [4,5] (.greg [] [] [[],[],[],[],[],[],[],[false,false,false,false,false,false,false],[],[],[]] [.m 22 0,.m 23 7,.s 24 (.slice 4 (.t 22) none (some (.t 23)) none),.m 25 0,.m 26 7,.v 27 .add 26 1,.s 28 (.slice 4 (.t 25) (some (.t 27)) none none),.s 29 (.bslice 28 1 [.t 24,.t 28]),.f 30 184 29,.m 4 30,.c 5 0]) (.ret [4,5]))))))⟩:=by kernel_rfl
def B174_0:Cd:=(.g [.b 11 .lss 10 9] (.join [1,5,8,9,10] (.i 11 .skip (.exit [5] 0)) (.join [1,5,8,9,10] (.block 1 (.g [.r 12 2 8 10,.d 13 2 12,.s 7 (.alloc 44 [.i 0,.nils]),.w 2 7 13] (.z [7] (.g [.m 14 1,.d 15 2 7,.s 16 (.call (.t 14) [.t 15])] (.i 16 (.reg [.m 17 5,.d 18 2 7,.s 19 (.bslice 44 2 [.t 18]),.s 20 (.append 44 2 32 (.t 17) (.t 19)),.m 5 20]) .skip))))) (.reg [.v 21 .add 10 1,.m 10 21]))))
theorem F174:compF Tryz.prog 174=some ⟨23,[.tmp 4],(.g [.s 4 (.mv (.c .nils))] (.g [.s 5 (.mv (.c .nils))] (.join [5] (.g [.m 8 0,.u 9 8,.c 10 0] (.block 0 (.loop [1,5,8,9,10] [(5,(44,2))] B174_0))) (.g [.m 22 5,.m 4 22] (.ret [4])))))⟩:=by kernel_rfl
theorem F175:compF Tryz.prog 175=some ⟨8,[.tmp 3],(.g [.q 2 44 0,.k 3 false] (.z [2] (.g [.a 4 0 2,.l 5 4,.l 6 1,.b 7 .neq 5 6,.m 3 7] (.ret [3]))))⟩:=by kernel_rfl
theorem F114:compF Tryz.prog 114=some ⟨25,[.tmp 4,.tmp 5,.tmp 6],(.g [.c 4 0,.k 5 false,.c 6 0] (.join [0,1] (.g [.m 10 0,.f 11 89 10,.m 7 11] (.g [.m 12 7,.v 13 .neq 12 0] (.i 13 (.g [.m 14 7,.c 4 0,.k 5 false,.m 6 14] (.ret [4,5,6])) .skip))) (.g [.m 16 0,.m 17 1,.s 18 (.f 187 [.t 16,.t 17,(.c (.fn (.func 142) [] []))]),.m 15 18,.j 19 0 15,.j 20 1 15,.m 8 19,.m 9 20] (.join [8,9] (.g [.m 21 9,.z 22 21] (.i 22 (.reg [.c 8 0]) .skip)) (.g [.m 23 8,.m 24 9,.m 4 23,.m 5 24,.c 6 0] (.ret [4,5,6]))))))⟩:=by kernel_rfl
def B184_0:Cd:=(.g [.b 12 .lss 11 10] (.join [0,3,9,10,11] (.i 12 .skip (.exit [0,3] 0)) (.join [0,3,9,10,11] (.block 1 (.g [.r 13 1 9 11,.l 14 13,.m 5 14] (.g [.m 15 3,.m 16 5,.u 17 16,.b 18 .add 15 17,.m 3 18] (.g [.m 19 3,.v 20 .lss 19 0] (.i 20 (.reg [.s 21 (.mkif 9 (.w [108,101,110,32,111,117,116,32,111,102,32,114,97,110,103,101])),.n (.panic (.t 21))]) .skip))))) (.reg [.v 22 .add 11 1,.m 11 22]))))
def B184_1:Cd:=(.g [.b 28 .lss 27 26] (.join [6,25,26,27] (.i 28 .skip (.exit [6] 2)) (.join [6,25,26,27] (.block 3 (.g [.r 29 1 25 27,.l 30 29,.m 8 30] (.reg [.m 31 6,.m 32 8,.s 33 (.append 50 4 48 (.t 31) (.t 32)),.m 6 33]))) (.reg [.v 34 .add 27 1,.m 27 34]))))
theorem F184:compF Tryz.prog 184=some ⟨36,[.tmp 2],(.g [.s 2 (.mv (.c .nils))] (.g [.c 3 0] (.join [0,3] (.g [.m 9 0,.u 10 9,.c 11 0] (.block 0 (.loop [0,3,9,10,11] [] B184_0))) (.g [.m 23 3,.s 24 (.f 265 [(.c .nils),.t 23]),.m 6 24] (.join [6] (.g [.m 25 0,.u 26 25,.c 27 0] (.block 2 (.loop [6,25,26,27] [(6,(50,4))] B184_1))) (.g [.m 35 6,.m 2 35] (.ret [2])))))))⟩:=by kernel_rfl
end Go.Proofs.YtmjkgajnpmiomaaGreatDoor

namespace Go.Proofs.YtmjkgajnpmiomaaGreatDoor
open Go.Sha
set_option maxRecDepth 100000
variable {g:List (Nat×Obj)}{n:Nat}
theorem room_ok {n b:Nat}(hr:n<140737488355328 / (b+1))(hb:0<b):roomV n b=true:=by
 simp only[roomV,Bool.and_eq_true,decide_eq_true_eq]
 have h1:n*(b+1)≤140737488355328 / (b+1)*(b+1):=Nat.mul_le_mul_right _ (by omega)
 have h2:=Nat.div_mul_le_self 140737488355328 (b+1)
 rw[Nat.mul_add]at h1
 unfold maxLen
 omega
theorem r_cln {α:Type}{k e es b:Nat}{f:α→V}{l:List α}{st:St}(hH:∀args st,HH k args st=hCln e es b args st)(hf:∀x,fastA (f x)=true)(he:∀x,(f x).cells.length=es)(hr:l.length<140737488355328 / (b+1))(hb:0<b) :
  run Tryz.prog HH k [.sl (l.map f)] st=some (.ret (.osl st.nx l.length),⟨st.nx+1,st.mem,(st.nx,⟨e,es,l.map f,true,false⟩)::st.arr,st.x⟩):=by
 have c1:(l.map f).all fastA=true:=by rw[List.all_map,List.all_eq_true];exact fun x _=>hf x
 have c2:(l.map f).all (fun y=>y.cells.length == es)=true:=by rw[List.all_map,List.all_eq_true];intro x _;simpa using he x
 have c3:roomV (l.map f).length b=true:=by rw[List.length_map];exact room_ok hr hb
 refine run_H ((hH _ _).trans ?_)
 show(if(l.map f).all fastA=true∧(l.map f).all (fun y=>y.cells.length == es)=true∧roomV (l.map f).length b=true then _ else _)=_
 rw[if_pos ⟨c1,c2,c3⟩,List.length_map]
theorem r_ins {k e e' es b id n id' m i:Nat}{xs ys zs:List V}{wr':Bool}{st:St}(hH:∀args st,HH k args st=hIns e es b args st)(h1:Sha.look st.arr id=some ⟨e,es,xs,true,false⟩)(h2:Sha.look st.arr id'=some ⟨e',es,ys,wr',false⟩)(hn:xs.length=n)(hm:ys.length=m)(hne:id'≠id)(h0:0<m)(hi:i≤n)(hr:n+m<140737488355328 / (b+1))(hb:0<b)(hz:mapO (snapA st) ys=some zs) :
  run Tryz.prog HH k [.osl id n,.int .i64 i,.osl id' m] st=some (.ret (.osl id (n+m)),{ st with arr:=updA st.arr id ⟨e,es,xs.take i++zs++xs.drop i,true,false⟩ }):=by
 refine run_H ((hH _ _).trans ?_)
 have h6:roomV (n+m) b=true:=room_ok hr hb
 simp only[hIns,h1,h2,insH]
 rw[if_pos ⟨hn,trivial,trivial,trivial,trivial,hm,trivial,trivial,hne,h0,by omega,by omega,h6⟩,hz,Option.map_some,Int.toNat_natCast]
theorem f252' {l:List Pal}{v:Int}(hl:l.length<140737488355328){st:St}:run Tryz.prog HH 252 [.sl (l.map Pal.v),.int .i64 v,.fn (.func 253) [] []] st=some (.ret (.tup [.int .i64 (bsR (fun y:Pal=>IntKind.i64.wrap (y.num-v)) l),.bool (bsF (fun y:Pal=>IntKind.i64.wrap (y.num-v)) l)]),st) :=
 BsF (f:=Pal.v) (es:=2) (fun _=>rfl) (fun _=>rfl) F252 rfl (by simp) hl (fun x st=>f253) (fun _ _=>rfl) (fun _=>rfl)
theorem f171 {l:List Pal}{v:Int}(hl:l.length<140737488355328){st:St}:run Tryz.prog HH 171 [.sl (l.map Pal.v),.int .i64 v] st=some (.ret (.tup [.int .i64 (bsR (fun y:Pal=>IntKind.i64.wrap (y.num-v)) l),.bool (bsF (fun y:Pal=>IntKind.i64.wrap (y.num-v)) l)]),st):=by
 have h:=fun(st:St)=>f252' (v:=v) hl (st:=st)
 push_cast[Pal.v]at h
 rw[run_shut F171 rfl rfl (by simp)]
 push_cast[Pal.v,h]
def putE (cl cx:Int)(m:Int)(len:Nat):Int:=if ¬cl=0 then cl else if ¬cx=0 then cx else if m<(len:Int) then 5 else 0
def palT (l:List Pal)(x:Pal):Int:=putE (palsCR l) (palsCR [x]) 32 (insT Pal.num x l).length
theorem asc_pal {l:List Pal}(h:palsCR l=0):Asc Pal.num l∧∀q∈l,1≤q.num∧q.num≤1048576:=by
 obtain⟨h1,h2⟩:=pals_ok h
 exact⟨h2,fun q hq=>⟨(h1 q hq).1,(h1 q hq).2.1⟩⟩
theorem f104 {l:List Pal}{x:Pal}(hl:l.length<1000000)(hb:∀q∈l,q.hues.length<140737488355328)(hx:x.hues.length<140737488355328){st:St}:run Tryz.prog HH 104 [.sl (l.map Pal.v),x.v] st=some (.ret (.tup [.sl ((if palT l x=0 then insT Pal.num x l else[]).map Pal.v),.int .i64 (palT l x)]),st):=by
 have h125:=fun(st:St)=>f84 (l:=l) (st:=st) (by omega) hb
 have h125x:=fun(st:St)=>f84 (l:=[x]) (st:=st) (by simp) (fun q hq=>by simp at hq;subst hq;exact hx)
 rw[palsC_eq]at h125 h125x
 have h209:=fun(st:St)=>f171 (l:=l) (v:=x.num) (st:=st) (by omega)
 have h210:=fun(st:St)=>r_cln (k:=172) (e:=44) (es:=2) (b:=32) (f:=Pal.v) (l:=l) (st:=st) (fun _ _=>rfl) (fun _=>rfl) (fun _=>rfl) (by omega) (by omega)
 push_cast[Pal.v,List.map_cons,List.map_nil]at h125 h125x h209 h210
 rw[run_shut F104 rfl rfl (by simp)]
 by_cases c1:palsCR l=0
 ·by_cases c2:palsCR [x]=0
  ·obtain⟨ha,hr⟩:=asc_pal c1
   have hr':=(asc_pal c2).2 x (by simp)
   have hc:=(bs_wrap hr ha (v:=x.num) (by omega)).2 hr'
   cases hf:bsF (fun y:Pal=>IntKind.i64.wrap (y.num-x.num)) l with
   |true =>
    have e1:=put_hit ha hc hf
    have e2:=((bs_tab ha hc).2.2.2.1 hf).1
    have e3:=insT_len (x:=x) ha
    rw[←(bs_tab ha hc).2.2.1,hf,if_pos rfl]at e3
    have e4:(l.length:Int)≤32:=by unfold palsCR at c1;split at c1;cases c1;omega
    generalize hr:bsR (fun y:Pal=>IntKind.i64.wrap (y.num-x.num)) l=r at *
    have e5:l[r]?=some l[r]:=List.getElem?_eq_getElem e2
    have e6:(l.map Pal.v).set r x.v=(insT Pal.num x l).map Pal.v:=by rw[←e1,List.map_set]
    rw[Pal.v]at e6
    have e7:palT l x=0:=by rw[palT,putE,c1,c2,e3];simp;omega
    push_cast[Pal.v,h125,h125x,h209,h210,c1,c2,hf,e5,stoB,V.cells,V.recell,e6,e3,e7,List.length_map]
    exact dn_eq e2 rfl
   |false =>
    have e1:=put_miss ha hc hf
    have e2:=(bs_tab ha hc).1
    have e3:=insT_len (x:=x) ha
    rw[←(bs_tab ha hc).2.2.1,hf,if_neg (by simp)]at e3
    have e4:(l.length:Int)≤32:=by unfold palsCR at c1;split at c1;cases c1;omega
    have e6:(l.map Pal.v).take (bsR (fun y:Pal=>IntKind.i64.wrap (y.num-x.num)) l)++[x.v]++(l.map Pal.v).drop (bsR (fun y:Pal=>IntKind.i64.wrap (y.num-x.num)) l)=(insT Pal.num x l).map Pal.v:=by rw[←e1];simp
    generalize hr:bsR (fun y:Pal=>IntKind.i64.wrap (y.num-x.num)) l=r at *
    by_cases e8:l.length=32
    ·have e7:palT l x=5:=by rw[palT,putE,c1,c2,e3];simp;omega
     have e9:(l.length:Int)=32:=by omega
     push_cast[Pal.v,h125,h125x,h209,h210,c1,c2,hf,e9,e7]
    ·have e7:palT l x=0:=by rw[palT,putE,c1,c2,e3];simp;omega
     have e9:¬(l.length:Int)=32:=by omega
     rw[Pal.v]at e6
     push_cast[Pal.v,h125,h125x,h209,h210,c1,c2,hf,e9]
     rw[r_ins (e:=44) (e':=44) (es:=2) (b:=32) (n:=l.length) (m:=1) (i:=r) (xs:=l.map Pal.v) (ys:=[V.agg [.int .i64 x.num,.sl (x.hues.map Hue.v)]]) (zs:=[V.agg [.int .i64 x.num,.sl (x.hues.map Hue.v)]]) (wr':=false) (fun _ _=>rfl) rfl rfl (by simp) rfl (by decide) (by decide) (by omega) (by omega) (by decide) rfl,e6]
     push_cast[e7,e3,updA]
  ·push_cast[Pal.v,h125,h125x,c1,c2,palT,putE]
 ·push_cast[Pal.v,h125,c1,palT,putE]
end Go.Proofs.YtmjkgajnpmiomaaGreatDoor

namespace Go.Proofs.YtmjkgajnpmiomaaGreatDoor
open Go.Sha
set_option maxRecDepth 100000
variable {g:List (Nat×Obj)}{n:Nat}
def stQ (g:List (Nat×Obj))(n e es:Nat)(xs:List V):St:=⟨n+1,[],[(n,⟨e,es,xs,false,false⟩)],⟨[],g,[]⟩⟩
@[push_cast]theorem stQ_eq {e es:Nat}{xs:List V}:stQ g n e es xs=⟨n+1,[],[(n,⟨e,es,xs,false,false⟩)],⟨[],g,[]⟩⟩:=idq rfl
theorem f175 {x:Pal}{v:Int}{st:St}:run Tryz.prog HH 175 [x.v,.ep (.agg [.int .i64 v]) 0] st=some (.ret (.bool (decide (¬x.num=v))),st):=by
 have h:(x.num != v)=decide (¬x.num=v):=by by_cases e:x.num=v<;>simp[e]
 rw[run_shut F175 rfl rfl (by simp)]
 push_cast[Pal.v,h]
theorem L174 {l:List Pal}{v:Int}(hl:l.length<1000000):∀r j,l.drop j=r→∀a,a.length+r.length≤1000000 →
  runL Tryz.prog HH [1,5,8,9,10] (n+1) B174_0 [(1,.fn (.func 175) [] [.ep (.agg [.int .i64 v]) 0]),(5,.osl n a.length),(8,.sl (l.map Pal.v)),(9,.int .i64 l.length),(10,.int .i64 j)] (stQ g n 44 2 (a.map Pal.v))
   = some (.exit 0,[(5,.osl n (a++delT Pal.num v r).length)],stQ g n 44 2 ((a++delT Pal.num v r).map Pal.v)):=by
 refine drop_ind (fun j h a ha=>?_) (fun q r j h hx hd ih a ha=>?_)
 all_goals rw[runL_of B174_0.eq_1]
 ·have h1:¬(j:Int)<l.length:=by omega
  push_cast[h1,delT,List.filter_nil,Pal.v]
 ·have h1:(j:Int)<l.length:=by omega
  have h5:=fun(st:St)=>f175 (x:=q) (v:=v) (st:=st)
  push_cast[Pal.v]at h5
  have hw:=iw1 (j:=j) (by omega)
  have h4:roomV (a.length+1) 32=true:=roomV_lit (by simp at ha;omega) (by simp at ha;omega)
  by_cases h2:q.num=v
  ·have ih:=ih a (by simp at ha ⊢;omega)
   have h3:=eq_true h2
   rw[show delT Pal.num v (q::r)=delT Pal.num v r by unfold delT;rw[List.filter_cons_of_neg (by simpa using h2)]]
   push_cast[h1,hw,hx,Pal.v,h3,h5]at ih ⊢
   exact ih
  ·have ih:=ih (a++[q]) (by simp at ha ⊢;omega)
   have h3:=eq_false h2
   rw[show delT Pal.num v (q::r)=q::delT Pal.num v r by unfold delT;rw[List.filter_cons_of_pos (by simpa using h2)]]
   push_cast[h1,hw,hx,Pal.v,h3,h4,List.map_append,h5]at ih ⊢
   exact ih
theorem f174 {l:List Pal}{v:Int}(hl:l.length<1000000){st:St}:run Tryz.prog HH 174 [.sl (l.map Pal.v),.fn (.func 175) [] [.ep (.agg [.int .i64 v]) 0]] st=some (.ret (.sl ((delT Pal.num v l).map Pal.v)),st):=by
 have h0:=L174 (g:=st.x.gl) (n:=0) (v:=v) hl l 0 rfl [] (by simp;omega)
 rw[run_shut F174 rfl rfl (by simp)]
 push_cast[Pal.v]at h0
 push_cast[Pal.v,h0]
theorem f105 {l:List Pal}{v:Int}(hl:l.length<1000000)(hb:∀q∈l,q.hues.length<140737488355328){st:St}:run Tryz.prog HH 105 [.sl (l.map Pal.v),.int .i64 v] st=some (.ret (.tup [.sl ((if palsCR l=0 then delT Pal.num v l else[]).map Pal.v),.bool (if palsCR l=0 then bsF (fun y:Pal=>IntKind.i64.wrap (y.num-v)) l else false),.int .i64 (palsCR l)]),st):=by
 have h125:=fun(st:St)=>f84 (l:=l) (st:=st) (by omega) hb
 rw[palsC_eq]at h125
 have h209:=fun(st:St)=>f171 (l:=l) (v:=v) (st:=st) (by omega)
 have h212:=fun(st:St)=>f174 (l:=l) (v:=v) (st:=st) hl
 push_cast[Pal.v]at h125 h209 h212
 rw[run_shut F105 rfl rfl (by simp)]
 by_cases c:palsCR l=0
 ·push_cast[Pal.v,h125,h209,h212,c]
 ·push_cast[Pal.v,h125,c]
theorem tab_all {α:Type}[Inhabited α]{chk num:α→Int}{l:List α}{T:List α→Nat→Int}(h0:∀j,T [] j=0)(h1:∀q r j,T (q::r) j=if chk q=0 then if 0<j∧num q≤num (l.getD (j-1) default) then 9 else T r (j+1) else chk q) :
  ∀{r:List α}{j:Nat},l.drop j=r→T r j=0→(∀q∈r,chk q=0)∧(Asc num (l.take j)→Asc num l)
 |[],j,hd,_=>by
  have:l.length≤j:=List.drop_eq_nil_iff.1 hd
  rw[List.take_of_length_le this];exact⟨by simp,fun h=>h⟩
 |q::r,j,hd,h=>by
  rw[h1]at h
  split at h
  ·rename_i h3
   split at h
   ·cases h
   ·rename_i h2
    obtain⟨a,b⟩:=tab_all h0 h1 (drop_succ hd) h
    refine⟨fun x hx=>?_,fun hp=>b ?_⟩
    ·rcases List.mem_cons.1 hx with rfl|hx
     ·exact h3
     ·exact a x hx
    ·rw[take_snoc hd]
     refine List.pairwise_append.2 ⟨hp,List.pairwise_singleton ..,fun y hy z hz=>?_⟩
     rw[List.mem_singleton.1 hz]
     obtain⟨k,hk⟩:=List.mem_iff_getElem?.1 hy
     have hj:=drop_le hd
     rw[List.getElem?_take]at hk
     split at hk
     ·rename_i hkj
      have e:l.getD (j-1) default=l[j-1]:=by rw[List.getD_eq_getElem?_getD,List.getElem?_eq_getElem (by omega)];rfl
      rw[e]at h2
      rcases Nat.lt_or_ge k (j-1) with hk2|hk2
      ·have hm:=List.pairwise_iff_getElem.1 hp k (j-1) (by simp;omega) (by simp;omega) hk2
       rw[List.getElem_take,List.getElem_take]at hm
       rw[List.getElem?_eq_getElem (by omega)]at hk
       rw[←Option.some.inj hk];omega
      ·have:k=j-1:=by omega
       subst this
       rw[List.getElem?_eq_getElem (by omega)]at hk
       rw[←Option.some.inj hk];omega
     ·cases hk
  ·rename_i h3;exact absurd h h3
theorem grps_ok {l:List Grp}(h:grpsC l=0):(l.length:Int)≤32∧(∀q∈l,grpC q=0)∧Asc Grp.num l:=by
 unfold grpsC at h
 split at h
 ·cases h
 ·obtain⟨a,b⟩:=tab_all (chk:=grpC) (num:=Grp.num) (l:=l) (T:=grpsL l) (fun _=>rfl) (fun _ _ _=>rfl) (j:=0) (r:=l) rfl h
  exact⟨by omega,a,b List.Pairwise.nil⟩
theorem subs_ok {l:List Sb}(h:subsCR l=0):(l.length:Int)≤16∧(∀q∈l,sbR q=0)∧Asc Sb.num l:=by
 unfold subsCR at h
 split at h
 ·cases h
 ·obtain⟨a,b⟩:=tab_all (chk:=sbR) (num:=Sb.num) (l:=l) (T:=subsR l) (fun _=>rfl) (fun _ _ _=>rfl) (j:=0) (r:=l) rfl h
  exact⟨by omega,a,b List.Pairwise.nil⟩
theorem effs_ok {l:List Eff}(h:effsC l=0):(l.length:Int)≤16∧(∀q∈l,effC q=0)∧Asc Eff.num l:=by
 unfold effsC at h
 split at h
 ·cases h
 ·obtain⟨a,b⟩:=tab_all (chk:=effC) (num:=Eff.num) (l:=l) (T:=effsL l) (fun _=>rfl) (fun _ _ _=>rfl) (j:=0) (r:=l) rfl h
  exact⟨by omega,a,b List.Pairwise.nil⟩
def cmpI (a b:Int):Int:=if a<b then -1 else if b<a then 1 else 0
theorem cmpI_ok {α:Type}{key:α→Int}{v:Int}{l:List α}:CmpK key v (fun y=>cmpI (key y) v) l:=fun y _=>by
 show(cmpI (key y) v<0↔_)∧(cmpI (key y) v=0↔_)
 unfold cmpI
 split
 ·omega
 ·split<;>omega
theorem f311 {v:Int}{st:St}:run Tryz.prog HH 311 [.int .i64 v] st=some (.ret (.bool false),st):=by
 rw[run_shut F311 rfl rfl (by simp)]
 push_cast
 all_goals ((repeat' split)<;>simp_all)
theorem f258 {a b:Int}{st:St}:run Tryz.prog HH 258 [.int .i64 a,.int .i64 b] st=some (.ret (.int .i64 (cmpI a b)),st):=by
 rw[run_shut F258 rfl rfl (by simp)]
 push_cast[f311,cmpI]
theorem f178 {x:Grp}{st:St}:run Tryz.prog HH 178 [x.v] st=some (.ret (.int .i64 x.num),st):=by
 rw[run_shut F178 rfl rfl (by simp)]
 push_cast[Grp.v]
theorem f257 {x:Grp}{v:Int}{st:St}:run Tryz.prog HH 257 [x.v,.int .i64 v,.ep (.agg [.fn (.func 178) [] []]) 0] st=some (.ret (.int .i64 (cmpI x.num v)),st):=by
 have h:=fun(st:St)=>f178 (x:=x) (st:=st)
 push_cast[Grp.v]at h
 rw[run_shut F257 rfl rfl (by simp)]
 push_cast[Grp.v,h,f258]
def grpB (v:Int):Grp→Int:=fun y=>cmpI y.num v
theorem f256 {l:List Grp}{v:Int}(hl:l.length<140737488355328){st:St}:run Tryz.prog HH 256 [.sl (l.map Grp.v),.int .i64 v,.fn (.func 257) [] [.ep (.agg [.fn (.func 178) [] []]) 0]] st=some (.ret (.tup [.int .i64 (bsR (grpB v) l),.bool (bsF (grpB v) l)]),st) :=
 BsF (f:=Grp.v) (es:=2) (fun _=>rfl) (fun _=>rfl) F256 rfl (by simp) hl (fun x st=>f257) (fun _ _=>rfl) (fun _=>rfl)
theorem f177 {l:List Grp}{v:Int}(hl:l.length<140737488355328){st:St}:run Tryz.prog HH 177 [.sl (l.map Grp.v),.fn (.func 178) [] [],.int .i64 v] st=some (.ret (.tup [.int .i64 (bsR (grpB v) l),.bool (bsF (grpB v) l)]),st):=by
 have h:=fun(st:St)=>f256 (v:=v) hl (st:=st)
 push_cast[Grp.v]at h
 rw[run_shut F177 rfl rfl (by simp)]
 push_cast[Grp.v,h]
def grpT (l:List Grp)(x:Grp):Int:=putE (grpsC l) (grpC x) 32 (insT Grp.num x l).length
theorem f106 {l:List Grp}{x:Grp}(hl:l.length<1000000)(hb:∀q∈l,q.chans.length<140737488355328)(hx:x.chans.length<140737488355328){st:St}:run Tryz.prog HH 106 [.sl (l.map Grp.v),x.v] st=some (.ret (.tup [.sl ((if grpT l x=0 then insT Grp.num x l else[]).map Grp.v),.int .i64 (grpT l x)]),st):=by
 have h123:=fun(st:St)=>f82 (l:=l) (st:=st) (by omega) hb
 have h187:=fun(st:St)=>f136 (x:=x) (st:=st) hx
 have h215:=fun(st:St)=>f177 (l:=l) (v:=x.num) (st:=st) (by omega)
 have h214:=fun(st:St)=>r_cln (k:=176) (e:=47) (es:=2) (b:=32) (f:=Grp.v) (l:=l) (st:=st) (fun _ _=>rfl) (fun _=>rfl) (fun _=>rfl) (by omega) (by omega)
 push_cast[Grp.v]at h123 h187 h215 h214
 rw[run_shut F106 rfl rfl (by simp)]
 by_cases c1:grpsC l=0
 ·by_cases c2:grpC x=0
  ·obtain⟨e4,-,ha⟩:=grps_ok c1
   have hc:CmpK Grp.num x.num (grpB x.num) l:=cmpI_ok
   cases hf:bsF (grpB x.num) l with
   |true =>
    have e1:=put_hit ha hc hf
    have e2:=((bs_tab ha hc).2.2.2.1 hf).1
    have e3:=insT_len (x:=x) ha
    rw[←(bs_tab ha hc).2.2.1,hf,if_pos rfl]at e3
    generalize hr:bsR (grpB x.num) l=r at *
    have e5:l[r]?=some l[r]:=List.getElem?_eq_getElem e2
    have e6:(l.map Grp.v).set r x.v=(insT Grp.num x l).map Grp.v:=by rw[←e1,List.map_set]
    rw[Grp.v]at e6
    have e7:grpT l x=0:=by rw[grpT,putE,c1,c2,e3];simp;omega
    have e8:¬(32:Int)<l.length:=by omega
    push_cast[Grp.v,h123,h187,h214,h215,c1,c2,hf,e5,stoB,V.cells,V.recell,e6,e3,e7,e8,List.length_map]
    exact dn_eq e2 rfl
   |false =>
    have e1:=put_miss ha hc hf
    have e2:=(bs_tab ha hc).1
    have e3:=insT_len (x:=x) ha
    rw[←(bs_tab ha hc).2.2.1,hf,if_neg (by simp)]at e3
    have e6:(l.map Grp.v).take (bsR (grpB x.num) l)++[x.v]++(l.map Grp.v).drop (bsR (grpB x.num) l)=(insT Grp.num x l).map Grp.v:=by rw[←e1];simp
    generalize hr:bsR (grpB x.num) l=r at *
    rw[Grp.v]at e6
    push_cast[Grp.v,h123,h187,h214,h215,c1,c2,hf]
    rw[r_ins (e:=47) (e':=47) (es:=2) (b:=32) (n:=l.length) (m:=1) (i:=r) (xs:=l.map Grp.v) (ys:=[V.agg [.int .i64 x.num,.sl (x.chans.map (.int .i64))]]) (zs:=[V.agg [.int .i64 x.num,.sl (x.chans.map (.int .i64))]]) (wr':=false) (fun _ _=>rfl) rfl rfl (by simp) rfl (by decide) (by decide) (by omega) (by omega) (by decide) rfl,e6]
    by_cases e8:l.length=32
    ·have e7:grpT l x=5:=by rw[grpT,putE,c1,c2,e3];simp;omega
     have e9:(32:Int)<l.length+1:=by omega
     push_cast[e7,e3,e9,updA]
    ·have e7:grpT l x=0:=by rw[grpT,putE,c1,c2,e3];simp;omega
     have e9:¬(32:Int)<l.length+1:=by omega
     push_cast[e7,e3,e9,updA]
  ·push_cast[Grp.v,h123,h187,c1,c2,grpT,putE]
 ·push_cast[Grp.v,h123,c1,grpT,putE]
theorem r_del {k e es id n i:Nat}{xs:List V}{st:St}(hH:∀args st,HH k args st=hDel e es args st)(h1:Sha.look st.arr id=some ⟨e,es,xs,true,false⟩)(hn:xs.length=n)(hi:i<n) :
  run Tryz.prog HH k [.osl id n,.int .i64 i,.int .i64 (i+1:Nat)] st=some (.ret (.osl st.nx (n-1)),⟨st.nx+1,st.mem,(st.nx,⟨e,es,xs.take i++xs.drop (i+1),true,false⟩)::delA st.arr id,st.x⟩):=by
 refine run_H ((hH _ _).trans ?_)
 simp only[hDel,h1,delH]
 rw[if_pos ⟨hn,trivial,trivial,trivial,trivial,by omega,by omega,by omega⟩,Int.toNat_natCast,Int.toNat_natCast,show i+1-i=1 by omega]
def delE (c:Int)(b:Bool):Int:=if ¬c=0 then c else if b=true then 0 else 6
theorem f107 {l:List Grp}{v:Int}(hl:l.length<1000000)(hb:∀q∈l,q.chans.length<140737488355328){st:St}:run Tryz.prog HH 107 [.sl (l.map Grp.v),.int .i64 v] st=some (.ret (.tup [.sl ((if delE (grpsC l) (bsF (grpB v) l)=0 then delT Grp.num v l else[]).map Grp.v),.int .i64 (delE (grpsC l) (bsF (grpB v) l))]),st):=by
 have h123:=fun(st:St)=>f82 (l:=l) (st:=st) (by omega) hb
 have h215:=fun(st:St)=>f177 (l:=l) (v:=v) (st:=st) (by omega)
 have h214:=fun(st:St)=>r_cln (k:=176) (e:=47) (es:=2) (b:=32) (f:=Grp.v) (l:=l) (st:=st) (fun _ _=>rfl) (fun _=>rfl) (fun _=>rfl) (by omega) (by omega)
 push_cast[Grp.v]at h123 h215 h214
 rw[run_shut F107 rfl rfl (by simp)]
 by_cases c1:grpsC l=0
 ·obtain⟨e4,-,ha⟩:=grps_ok c1
  have hc:CmpK Grp.num v (grpB v) l:=cmpI_ok
  cases hf:bsF (grpB v) l with
  |true =>
   have e1:=del_hit ha hc hf
   have e2:=((bs_tab ha hc).2.2.2.1 hf).1
   generalize hr:bsR (grpB v) l=r at *
   have e6:(l.map Grp.v).take r++(l.map Grp.v).drop (r+1)=(delT Grp.num v l).map Grp.v:=by rw[←e1];simp
   have hw:IntKind.i64.wrap ((r:Int)+1)=((r+1:Nat):Int):=iwrap (by omega) (by omega)
   have e3:l.length-1=(delT Grp.num v l).length:=by rw[←e1];simp;omega
   push_cast[Grp.v,h123,h214,h215,c1,hf,hw]
   rw[show((r:Int)+1)=((r+1:Nat):Int) by omega,r_del (e:=47) (es:=2) (n:=l.length) (i:=r) (xs:=l.map Grp.v) (fun _ _=>rfl) rfl (by simp) e2,e6]
   push_cast[e3,delE,delA]
  |false=>push_cast[Grp.v,h123,h215,c1,hf,delE]
 ·push_cast[Grp.v,h123,c1,delE]
def sbB (v:Int):Sb→Int:=fun y=>IntKind.i64.wrap (y.num-v)
theorem f262 {x:Sb}{v:Int}{st:St}:run Tryz.prog HH 262 [x.v,.int .i64 v] st=some (.ret (.int .i64 (sbB v x)),st):=by
 rw[run_shut F262 rfl rfl (by simp)]
 push_cast[Sb.v,sbB]
theorem f261 {l:List Sb}{v:Int}(hl:l.length<140737488355328){st:St}:run Tryz.prog HH 261 [.sl (l.map Sb.v),.int .i64 v,.fn (.func 262) [] []] st=some (.ret (.tup [.int .i64 (bsR (sbB v) l),.bool (bsF (sbB v) l)]),st) :=
 BsF (f:=Sb.v) (es:=4) (fun _=>rfl) (fun _=>rfl) F261 rfl (by simp) hl (fun x st=>f262) (fun _ _=>rfl) (fun _=>rfl)
theorem f182 {l:List Sb}{v:Int}(hl:l.length<140737488355328){st:St}:run Tryz.prog HH 182 [.sl (l.map Sb.v),.int .i64 v] st=some (.ret (.tup [.int .i64 (bsR (sbB v) l),.bool (bsF (sbB v) l)]),st):=by
 have h:=fun(st:St)=>f261 (v:=v) hl (st:=st)
 push_cast[Sb.v]at h
 rw[run_shut F182 rfl rfl (by simp)]
 push_cast[Sb.v,h]
section
variable {α:Type} [Inhabited α] {f:α→V}{e es:Nat}{wr:Bool}{h k:FuncId}{caps:List V}{v:Int}{c:α→Int}{l:List α}
theorem BsLo (hg:∀x,V.agg ((f x).cells.take es)=f x)(he:∀x,(f x).cells.length=es)(hr:∀x,rd (some es) (f x).cells 0=some (f x))(hl:l.length<140737488355328){st:St}{id:Nat}(h1':Sha.look st.arr id=some ⟨e,es,l.map f,wr,false⟩)(hp:∀x,run Tryz.prog HH h (f x::.int .i64 v::caps) st=some (.ret (.int .i64 (c x)),st))
  (hs:∀x,(snapA st (f x)).getD (f x)=f x) (hc:caps.map (fun v=>(snapA st v).getD v)=caps) (hk0:memL h HH.raw=false):∀i j,i≤j→j≤l.length →
  runL Tryz.prog HH [0,1,2,8,9,10] st.nx (BsB es) [(0,.osl id l.length),(1,.int .i64 v),(2,.fn (.func h) [] caps),(8,.int .i64 l.length),(9,.int .i64 i),(10,.int .i64 j)] st
  = some (.exit 0,[(0,.osl id l.length),(1,.int .i64 v),(2,.fn (.func h) [] caps),(8,.int .i64 l.length),(9,.int .i64 (bsI (fun k=>c (l.getD k default)) i j))],st):=by
 intro i j
 rw[HH_raw]at hk0
 push_cast at hk0
 induction i,j using bsI.induct (fun k=>c (l.getD k default)) with
 |case1 i j h h2 ih =>
  intro hij hj
  have ih:=ih (by omega) hj
  rw[bsI,dif_pos h,if_pos h2,runL_of (BsB.eq_1 _)]
  have h1:(i:Int)<j:=by omega
  have h3:=halfI (i:=i) (j:=j) (by omega)
  have h4:(((i+j) / 2:Nat):Int)<l.length:=by omega
  have h5:IntKind.i64.wrap ((((i+j) / 2:Nat):Int)+1)=(((i+j) / 2+1:Nat):Int):=iwrap (by omega) (by omega)
  have h207:=hp (l.getD ((i+j) / 2) default)
  generalize hk:(i+j) / 2=k at *
  have e5:l[k]?=some (l.getD k default):=by rw[List.getD_eq_getElem?_getD,List.getElem?_eq_getElem (by omega)];rfl
  have e6:k<l.length:=by omega
  push_cast at ih h207
  push_cast[h1,h3,h4,h5,h207,h2,h1',e5,e6,hg,he,hr,hs,hc,hk0,loadV]
  exact ih
 |case2 i j h h2 ih =>
  intro hij hj
  have ih:=ih (by omega) (by omega)
  rw[bsI,dif_pos h,if_neg h2,runL_of (BsB.eq_1 _)]
  have h1:(i:Int)<j:=by omega
  have h3:=halfI (i:=i) (j:=j) (by omega)
  have h4:(((i+j) / 2:Nat):Int)<l.length:=by omega
  have h207:=hp (l.getD ((i+j) / 2) default)
  generalize hk:(i+j) / 2=k at *
  have e5:l[k]?=some (l.getD k default):=by rw[List.getD_eq_getElem?_getD,List.getElem?_eq_getElem (by omega)];rfl
  have e6:k<l.length:=by omega
  push_cast at ih h207
  push_cast[h1,h3,h4,h207,h2,h1',e5,e6,hg,he,hr,hs,hc,hk0,loadV]
  exact ih
 |case3 i j h =>
  intro hij hj
  rw[bsI,dif_neg h,runL_of (BsB.eq_1 _)]
  have h1:¬(i:Int)<j:=by omega
  push_cast[h1]
theorem BsFo (hg:∀x,V.agg ((f x).cells.take es)=f x)(he:∀x,(f x).cells.length=es)(hr:∀x,rd (some es) (f x).cells 0=some (f x))(hF:compF Tryz.prog k=some ⟨49,[.tmp 6,.tmp 7],BsC es⟩){st:St}{id:Nat}(h1':Sha.look st.arr id=some ⟨e,es,l.map f,wr,false⟩)
  (hH:HH k [.osl id l.length,.int .i64 v,.fn (.func h) [] caps] st=none) (hb:V.bdL 0 [.osl id l.length,.int .i64 v,.fn (.func h) [] caps]=false) (hl:l.length<140737488355328)
  (hp:∀x,run Tryz.prog HH h (f x::.int .i64 v::caps) st=some (.ret (.int .i64 (c x)),st)) (hs:∀x,(snapA st (f x)).getD (f x)=f x) (hc:caps.map (fun v=>(snapA st v).getD v)=caps) (hk0:memL h HH.raw=false:=by rfl) :
  run Tryz.prog HH k [.osl id l.length,.int .i64 v,.fn (.func h) [] caps] st=some (.ret (.tup [.int .i64 (bsR c l),.bool (bsF c l)]),st):=by
 rw[run_open hF hH rfl hb]
 unfold BsC
 have h0:=BsLo hg he hr hl h1' hp hs hc hk0 0 l.length (by omega) (Nat.le_refl _)
 have h207:=hp (l.getD (bsR c l) default)
 rw[show bsI (fun k=>c (l.getD k default)) 0 l.length=bsR c l from rfl]at h0
 rw[HH_raw]at hk0
 push_cast at h0 h207 hk0
 by_cases h2:bsR c l<l.length
 ·have e5:l[bsR c l]?=some (l.getD (bsR c l) default):=by rw[List.getD_eq_getElem?_getD,List.getElem?_eq_getElem (by omega)];rfl
  have h3:(bsR c l:Int)<l.length:=by omega
  push_cast[h0,h207,h1',e5,h2,h3,hg,he,hr,hs,hc,hk0,loadV,bsF]
 ·have h3:¬(bsR c l:Int)<l.length:=by omega
  push_cast[h0,h207,h1',h3,hg,he,hr,hs,hc,hk0,loadV,bsF]
end
end Go.Proofs.YtmjkgajnpmiomaaGreatDoor

namespace Go.Proofs.YtmjkgajnpmiomaaGreatDoor
open Go.Sha
set_option maxRecDepth 100000
variable {g:List (Nat×Obj)}{n:Nat}
theorem f220o {l:List Sb}{v:Int}{e id:Nat}{st:St}(hl:l.length<140737488355328)(h1:Sha.look st.arr id=some ⟨e,4,l.map Sb.v,true,false⟩) :
  run Tryz.prog HH 182 [.osl id l.length,.int .i64 v] st=some (.ret (.tup [.int .i64 (bsR (sbB v) l),.bool (bsF (sbB v) l)]),st):=by
 have h:=BsFo (f:=Sb.v) (es:=4) (e:=e) (wr:=true) (h:=262) (k:=261) (v:=v) (c:=sbB v) (caps:=[]) (l:=l) (fun _=>rfl) (fun _=>rfl) (fun _=>rfl) F261 h1 rfl (by simp) hl (fun x=>f262) (fun _=>rfl) rfl
 rw[run_open F182 rfl rfl (by simp)]
 push_cast[h,h1]
def sbT (l:List Sb)(x:Sb):Int:=putE (subsCR l) (sbR x) 16 (insT Sb.num x l).length
theorem sb_range {x:Sb}(h:sbR x=0):1≤x.num∧x.num≤1048576:=by
 unfold sbR at h
 split at h
 ·cases h
 ·rename_i h1;unfold sbOk at h1;omega
theorem sb_cmp {l:List Sb}(h:subsCR l=0){v:Int}(hv:1≤v∧v≤1048576):CmpK Sb.num v (sbB v) l:=by
 obtain⟨-,h1,ha⟩:=subs_ok h
 exact(bs_wrap (fun y hy=>sb_range (h1 y hy)) ha (by omega)).2 hv
theorem f108 {l:List Sb}{x:Sb}(hl:l.length<1000000)(hb:∀q∈l,q.gains.length<140737488355328)(hx:x.gains.length<140737488355328){st:St}:run Tryz.prog HH 108 [.sl (l.map Sb.v),x.v] st=some (.ret (.tup [.sl ((if sbT l x=0 then insT Sb.num x l else[]).map Sb.v),.int .i64 (sbT l x)]),st):=by
 have h128:=fun(st:St)=>f87 (l:=l) (st:=st) (by omega) hb
 have h190:=fun(st:St)=>f139 (x:=x) (st:=st) hx
 rw[subsC_eq]at h128
 rw[sb_eq]at h190
 have h219:=fun(st:St)=>r_cln (k:=181) (e:=50) (es:=4) (b:=48) (f:=Sb.v) (l:=l) (st:=st) (fun _ _=>rfl) (fun _=>rfl) (fun _=>rfl) (by omega) (by omega)
 have h220:=fun(arr:List (Nat×Arr)) (id:Nat) (st:St) (h:st.arr=arr) (h1:Sha.look arr id=some ⟨50,4,l.map Sb.v,true,false⟩)=>f220o (v:=x.num) (st:=st) (id:=id) (e:=50) (l:=l) (by omega) (by rw[h];exact h1)
 push_cast[Sb.v]at h128 h190 h219 h220
 rw[run_shut F108 rfl rfl (by simp)]
 by_cases c1:subsCR l=0
 ·by_cases c2:sbR x=0
  ·obtain⟨e4,-,ha⟩:=subs_ok c1
   have hc:CmpK Sb.num x.num (sbB x.num) l:=sb_cmp c1 (sb_range c2)
   push_cast[Sb.v,h128,h190,h219,c1,c2]
   rw[h220 _ 1 _ rfl rfl]
   cases hf:bsF (sbB x.num) l with
   |true =>
    have e1:=put_hit ha hc hf
    have e2:=((bs_tab ha hc).2.2.2.1 hf).1
    have e3:=insT_len (x:=x) ha
    rw[←(bs_tab ha hc).2.2.1,hf,if_pos rfl]at e3
    generalize hr:bsR (sbB x.num) l=r at *
    have e5:l[r]?=some l[r]:=List.getElem?_eq_getElem e2
    have e6:(l.map Sb.v).set r x.v=(insT Sb.num x l).map Sb.v:=by rw[←e1,List.map_set]
    rw[Sb.v]at e6
    have e7:sbT l x=0:=by rw[sbT,putE,c1,c2,e3];simp;omega
    push_cast[Sb.v,e5,stoB,V.cells,V.recell,e6,e3,e7,List.length_map]
    exact dn_eq e2 rfl
   |false =>
    have e1:=put_miss ha hc hf
    have e2:=(bs_tab ha hc).1
    have e3:=insT_len (x:=x) ha
    rw[←(bs_tab ha hc).2.2.1,hf,if_neg (by simp)]at e3
    have e6:(l.map Sb.v).take (bsR (sbB x.num) l)++[x.v]++(l.map Sb.v).drop (bsR (sbB x.num) l)=(insT Sb.num x l).map Sb.v:=by rw[←e1];simp
    generalize hr:bsR (sbB x.num) l=r at *
    rw[Sb.v]at e6
    by_cases e8:l.length=16
    ·have e7:sbT l x=5:=by rw[sbT,putE,c1,c2,e3];simp;omega
     have e9:(l.length:Int)=16:=by omega
     push_cast[e7,e9]
    ·have e7:sbT l x=0:=by rw[sbT,putE,c1,c2,e3];simp;omega
     have e9:¬(l.length:Int)=16:=by omega
     push_cast[e9]
     rw[r_ins (e:=50) (e':=50) (es:=4) (b:=48) (n:=l.length) (m:=1) (i:=r) (xs:=l.map Sb.v) (ys:=[V.agg [.int .i64 x.num,.int .i64 x.prio,.bool x.inh,.sl (x.gains.map Gan.v)]]) (zs:=[V.agg [.int .i64 x.num,.int .i64 x.prio,.bool x.inh,.sl (x.gains.map Gan.v)]]) (wr':=false) (fun _ _=>rfl) rfl rfl (by simp) rfl (by decide) (by decide) (by omega) (by omega) (by decide) rfl,e6]
     push_cast[e7,e3,updA]
  ·push_cast[Sb.v,h128,h190,c1,c2,sbT,putE]
 ·push_cast[Sb.v,h128,c1,sbT,putE]
end Go.Proofs.YtmjkgajnpmiomaaGreatDoor

namespace Go.Proofs.YtmjkgajnpmiomaaGreatDoor
open Go.Sha
set_option maxRecDepth 10000
theorem F116:compF Tryz.prog 116=some ⟨44,[.tmp 6,.tmp 7],(.g [.q 5 55 2,.s 6 (.mv (.c .nils)),.c 7 0] (.z [5] (.g [.m 13 0,.m 14 1,.g' 15 188 13 14,.m 12 15,.j 16 0 12,.j 17 1 12,.s 8 (.alloc 257 [.nils,.nilm]),.w 2 8 16,.m 9 17] (.z [8] (.join [0,1,5,8] (.g [.m 18 9,.v 19 .neq 18 0] (.i 19 (.g [.m 20 9,.s 6 (.mv (.c .nils)),.m 7 20] (.ret [6,7])) .skip)) (.g [.m 21 0,.f 22 189 21,.m 10 22] (.join [1,10] (.g [.d 23 2 8,.a 24 0 5,.l 25 24,.a 26 1 5,.l 27 26,.s 28 (.f 190 [.t 23,.t 25,.t 27]),.m 11 28] (.g [.m 29 11,.v 30 .geq 29 0] (.i 30 (.reg [.m 31 10,.m 32 11,.d 33 7 5,.r 34 7 31 32,.w 7 34 33]) (.reg [.m 35 10,.d 36 7 5,.s 37 (.bslice 55 7 [.t 36]),.s 38 (.append 55 7 72 (.t 35) (.t 37)),.m 10 38])))) (.g [.m 39 10,.m 40 1,.g' 41 191 39 40,.j 42 0 41,.j 43 1 41,.m 6 42,.m 7 43] (.ret [6,7])))))))))⟩:=by kernel_rfl
theorem F117:compF Tryz.prog 117=some ⟨40,[.tmp 8,.tmp 9,.tmp 10],(.g [.s 8 (.mv (.c .nils)),.k 9 false,.c 10 0] (.g [.m 15 0,.m 16 1,.g' 17 188 15 16,.m 14 17,.j 18 0 14,.j 19 1 14,.s 11 (.alloc 257 [.nils,.nilm]),.w 2 11 18,.m 12 19] (.z [11] (.join [0,2,3,11] (.g [.m 20 12,.v 21 .neq 20 0] (.i 21 (.g [.m 22 12,.s 8 (.mv (.c .nils)),.k 9 false,.m 10 22] (.ret [8,9,10])) .skip)) (.g [.d 23 2 11,.m 24 2,.m 25 3,.s 26 (.f 190 [.t 23,.t 24,.t 25]),.m 13 26] (.join [0,13] (.g [.m 27 13,.v 28 .lss 27 0] (.i 28 (.g [.m 29 0,.f 30 189 29,.m 8 30,.k 9 false,.c 10 0] (.ret [8,9,10])) .skip)) (.join [8,9,10] (.greg [] [] [[],[],[],[],[],[],[],[false,false,false,false,false,false,false],[],[],[],[]] [.m 31 0,.m 32 13,.s 33 (.slice 7 (.t 31) none (some (.t 32)) none),.m 34 0,.m 35 13,.v 36 .add 35 1,.s 37 (.slice 7 (.t 34) (some (.t 36)) none none),.s 38 (.bslice 24 1 [.t 33,.t 37]),.f 39 192 38,.m 8 39,.k 9 true,.c 10 0]) (.ret [8,9,10]))))))))⟩:=by kernel_rfl
def B192_0:Cd:=(.g [.b 12 .lss 11 10] (.join [0,3,9,10,11] (.i 12 .skip (.exit [0,3] 0)) (.join [0,3,9,10,11] (.block 1 (.g [.r 13 1 9 11,.l 14 13,.m 5 14] (.g [.m 15 3,.m 16 5,.u 17 16,.b 18 .add 15 17,.m 3 18] (.g [.m 19 3,.v 20 .lss 19 0] (.i 20 (.reg [.s 21 (.mkif 9 (.w [108,101,110,32,111,117,116,32,111,102,32,114,97,110,103,101])),.n (.panic (.t 21))]) .skip))))) (.reg [.v 22 .add 11 1,.m 11 22]))))
def B192_1:Cd:=(.g [.b 28 .lss 27 26] (.join [6,25,26,27] (.i 28 .skip (.exit [6] 2)) (.join [6,25,26,27] (.block 3 (.g [.r 29 1 25 27,.l 30 29,.m 8 30] (.reg [.m 31 6,.m 32 8,.s 33 (.append 55 7 72 (.t 31) (.t 32)),.m 6 33]))) (.reg [.v 34 .add 27 1,.m 27 34]))))
theorem F192:compF Tryz.prog 192=some ⟨36,[.tmp 2],(.g [.s 2 (.mv (.c .nils))] (.g [.c 3 0] (.join [0,3] (.g [.m 9 0,.u 10 9,.c 11 0] (.block 0 (.loop [0,3,9,10,11] [] B192_0))) (.g [.m 23 3,.s 24 (.f 270 [(.c .nils),.t 23]),.m 6 24] (.join [6] (.g [.m 25 0,.u 26 25,.c 27 0] (.block 2 (.loop [6,25,26,27] [(6,(55,7))] B192_1))) (.g [.m 35 6,.m 2 35] (.ret [2])))))))⟩:=by kernel_rfl
end Go.Proofs.YtmjkgajnpmiomaaGreatDoor

namespace Go.Proofs.YtmjkgajnpmiomaaGreatDoor
open Go.Sha
set_option maxRecDepth 100000
variable {g:List (Nat×Obj)}{n:Nat}
def CcB (e es b : Nat) : Cd := (.g [.b 28 .lss 27 26]
 (.join [6, 25, 26, 27] (.i 28 .skip
 (.exit [6] 2))
 (.join [6, 25, 26, 27] (.block 3 (.g [.r 29 1 25 27, .l 30 29, .m 8 30]
 (.reg [.m 31 6, .m 32 8, .s 33 (.append e es b (.t 31) (.t 32)), .m 6 33])))
 (.reg [.v 34 .add 27 1, .m 27 34]))))
def CcC (e es b k : Nat) : Cd := (.g [.s 2 (.mv (.c .nils))]
 (.g [.c 3 0]
 (.join [0, 3] (.g [.m 9 0, .u 10 9, .c 11 0]
 (.block 0 (.loop [0, 3, 9, 10, 11] [] B184_0)))
 (.g [.m 23 3, .s 24 (.f k [(.c .nils), .t 23]), .m 6 24]
 (.join [6] (.g [.m 25 0, .u 26 25, .c 27 0]
 (.block 2 (.loop [6, 25, 26, 27] [(6, (e, es))] (CcB e es b))))
 (.g [.m 35 6, .m 2 35]
 (.ret [2])))))))
def sumN {α:Type}(ls:List (List α)):Nat:=(ls.map List.length).sum
theorem sumN_cons {α:Type}{q:List α}{r:List (List α)}:sumN (q::r)=q.length+sumN r:=rfl
section
variable {α:Type}{f:α→V}{ls:List (List α)}{e es b k:Nat}
theorem CcL0 (hl:ls.length<1000000):∀r j,ls.drop j=r→∀s,s+sumN r≤1000000 →
  runL Tryz.prog HH [0,3,9,10,11] n B184_0 [(0,.sl (ls.map fun l=>.sl (l.map f))),(3,.int .i64 (s:Nat)),(9,.sl (ls.map fun l=>.sl (l.map f))),(10,.int .i64 ls.length),(11,.int .i64 j)] (stN g n)
   = some (.exit 0,[(0,.sl (ls.map fun l=>.sl (l.map f))),(3,.int .i64 (s+sumN r:Nat))],stN g n):=by
 refine drop_ind (fun j h s hs=>?_) (fun q r j h hx hd ih s hs=>?_)
 all_goals rw[runL_of B184_0.eq_1]
 ·have h1:¬(j:Int)<ls.length:=by omega
  push_cast[h1,sumN,List.map_nil,List.sum_nil]
 ·have h1:(j:Int)<ls.length:=by omega
  rw[sumN_cons]at hs ⊢
  have hw:=iw1 (j:=j) (by omega)
  have hw2:IntKind.i64.wrap ((s:Int)+q.length)=((s+q.length:Nat):Int):=iwrap (by omega) (by omega)
  have h2:¬((s:Int)+q.length)<0:=by omega
  have ih:=ih (s+q.length) (by omega)
  push_cast[Int.add_assoc]at ih
  push_cast[h1,hw,hw2,hx,h2]at ih ⊢
  exact ih
def stJ (g:List (Nat×Obj))(n e es:Nat)(xs:List V):St:=⟨n+1,[],[(n,⟨e,es,xs,true,false⟩)],⟨[],g,[]⟩⟩
@[push_cast]theorem stJ_eq {e es:Nat}{xs:List V}:stJ g n e es xs=⟨n+1,[],[(n,⟨e,es,xs,true,false⟩)],⟨[],g,[]⟩⟩:=idq rfl
theorem mapO_id {st:St}{l:List V}(h:∀x∈l,snapA st x=some x):mapO (snapA st) l=some l:=by
 induction l with
 |nil=>rfl
 |cons x r ih=>simp only[mapO,h x (List.mem_cons_self ..),ih fun y hy=>h y (List.mem_cons_of_mem _ hy)]
theorem CcL1 (hs:∀st x,snapA st (f x)=some (f x))(hb:b≤1000)(he:∀x,(f x).cells.length=es)(hfa:∀x,fastA (f x)=true)(hl:ls.length<1000000):∀r j,ls.drop j=r→∀a:List α,a.length+sumN r≤1000000 →
  runL Tryz.prog HH [6,25,26,27] (n+1) (CcB e es b) [(6,.osl n a.length),(25,.sl (ls.map fun l=>.sl (l.map f))),(26,.int .i64 ls.length),(27,.int .i64 j)] (stJ g n e es (a.map f))
   = some (.exit 2,[(6,.osl n (a++r.flatten).length)],stJ g n e es ((a++r.flatten).map f)):=by
 refine drop_ind (fun j h a ha=>?_) (fun q r j h hx hd ih a ha=>?_)
 all_goals rw[runL_of (CcB.eq_1 _ _ _)]
 ·have h1:¬(j:Int)<ls.length:=by omega
  push_cast[h1,List.flatten_nil,List.append_nil]
 ·have h1:(j:Int)<ls.length:=by omega
  rw[sumN_cons]at ha
  have hw:=iw1 (j:=j) (by omega)
  have h5:=fun st:St=>mapO_id (st:=st) (l:=q.map f) (fun x hx=>by obtain⟨y,-,rfl⟩:=List.mem_map.1 hx;exact hs st y)
  have h6:((q.map f).all fun y=>y.cells.length == es)=true:=by rw[List.all_map,List.all_eq_true];intro y _;simpa using he y
  have h4:roomV (a.length+q.length) b=true:=roomV_lit (by have:=Nat.mul_le_mul (show a.length+q.length≤1000000 by omega) hb;omega) (by omega)
  have ih:=ih (a++q) (by simp;omega)
  push_cast[List.map_append,List.append_assoc]at ih
  push_cast[h1,hw,hx,h4,h5,h6,appS_s,appG_osl,List.map_append,List.flatten_cons]at ih ⊢
  exact ih
theorem r_grw {m:Nat}{st:St}(hH:∀args st,HH k args st=hGrw e es b args st)(hm:m≤1000000)(hb:b≤1000) :
  run Tryz.prog HH k [.nils,.int .i64 m] st=some (.ret (.osl st.nx 0),⟨st.nx+1,st.mem,(st.nx,⟨e,es,[],true,false⟩)::st.arr,st.x⟩):=by
 refine run_H ((hH _ _).trans ?_)
 have h6:roomV m b=true:=roomV_lit (by have:=Nat.mul_le_mul hm hb;omega) (by omega)
 simp only[hGrw]
 rw[if_pos ⟨by omega,by omega,by rw[Int.toNat_natCast];exact h6⟩]
theorem CcF {k':FuncId}(hF:compF Tryz.prog k'=some ⟨36,[.tmp 2],CcC e es b k⟩){st:St}(hH':HH k' [.sl (ls.map fun l=>.sl (l.map f))] st=none)(hB:V.bdL 0 [.sl (ls.map fun l=>.sl (l.map f))]=true)(hH:∀args st,HH k args st=hGrw e es b args st)(hs:∀st x,snapA st (f x)=some (f x))(hb:b≤1000)(he:∀x,(f x).cells.length=es)(hfa:∀x,fastA (f x)=true)(hbd:∀x,V.bd 0 (f x)=true)
  (hl:ls.length<1000000) (hN:sumN ls≤1000000) (hk0:(decide (103=k)||(decide (113=k)||(decide (173=k)||(decide (179=k)||(decide (183=k)||(decide (265=k)||decide (270=k)))))))=true:=by rfl):run Tryz.prog HH k' [.sl (ls.map fun l=>.sl (l.map f))] st=some (.ret (.sl (ls.flatten.map f)),st):=by
 rw[run_shut hF hH' rfl hB]
 unfold CcC
 have h0:=CcL0 (g:=st.x.gl) (n:=0) (f:=f) hl ls 0 rfl 0 (by omega)
 have h1:=CcL1 (g:=st.x.gl) (n:=0) (f:=f) (e:=e) hs hb he hfa hl ls 0 rfl [] (by simpa using hN)
 have h2:=fun st:St=>r_grw (m:=sumN ls) (st:=st) hH hN hb
 push_cast at h0 h1 h2
 have h6:(ls.flatten.all fun x=>V.bd 0 (f x))=true:=List.all_eq_true.2 fun x _=>hbd x
 push_cast[h0,h1,h2,hk0,h6]
end
theorem f184 {ls:List (List Sb)}(hl:ls.length<1000000)(hN:sumN ls≤1000000){st:St}:run Tryz.prog HH 184 [.sl (ls.map fun l=>.sl (l.map Sb.v))] st=some (.ret (.sl (ls.flatten.map Sb.v)),st) :=
 CcF (e:=50) (es:=4) (b:=48) (k:=265) F184 rfl (by simp) (fun _ _=>rfl) (fun _ _=>rfl) (by decide) (fun _=>rfl) (fun _=>rfl) (fun _=>(by simp)) hl hN
theorem f192 {ls:List (List Fixt)}(hl:ls.length<1000000)(hN:sumN ls≤1000000){st:St}:run Tryz.prog HH 192 [.sl (ls.map fun l=>.sl (l.map Fixt.v))] st=some (.ret (.sl (ls.flatten.map Fixt.v)),st) :=
 CcF (e:=55) (es:=7) (b:=72) (k:=270) F192 rfl (by simp) (fun _ _=>rfl) (fun _ _=>rfl) (by decide) (fun _=>rfl) (fun _=>rfl) (fun _=>(by simp)) hl hN
theorem f109 {l:List Sb}{v:Int}(hv:-9223372036854775808≤v∧v≤9223372036854775807)(hl:l.length<1000000)(hb:∀q∈l,q.gains.length<140737488355328){st:St}:run Tryz.prog HH 109 [.sl (l.map Sb.v),.int .i64 v] st=some (.ret (.tup [.sl ((if delE (subsCR l) (bsF (sbB v) l)=0 then delT Sb.num v l else[]).map Sb.v),.int .i64 (delE (subsCR l) (bsF (sbB v) l))]),st):=by
 have h128:=fun(st:St)=>f87 (l:=l) (st:=st) (by omega) hb
 rw[subsC_eq]at h128
 have h220:=fun(st:St)=>f182 (l:=l) (v:=v) (st:=st) (by omega)
 push_cast[Sb.v]at h128 h220
 rw[run_shut F109 rfl rfl (by simp)]
 by_cases c1:subsCR l=0
 ·obtain⟨e4,h1,ha⟩:=subs_ok c1
  cases hf:bsF (sbB v) l with
  |true =>
   have hv:1≤v∧v≤1048576:=by
    have e:=(bs_wrap (v:=v) (fun y hy=>sb_range (h1 y hy)) ha hv).1
    rw[show(fun y:Sb=>IntKind.i64.wrap (y.num-v))=sbB v from rfl,hf]at e
    obtain⟨y,hy,h⟩:=List.any_eq_true.1 e.symm
    have h:=of_decide_eq_true h
    subst h
    exact sb_range (h1 y hy)
   have hc:CmpK Sb.num v (sbB v) l:=sb_cmp c1 hv
   have e1:=del_hit ha hc hf
   have e2:=((bs_tab ha hc).2.2.2.1 hf).1
   generalize hr:bsR (sbB v) l=r at *
   have hw:IntKind.i64.wrap ((r:Int)+1)=((r+1:Nat):Int):=iwrap (by omega) (by omega)
   have h222:∀st,run Tryz.prog HH 184 [.sl [.sl ((l.take r).map Sb.v),.sl ((l.drop (r+1)).map Sb.v)]] st=some (.ret (.sl ((delT Sb.num v l).map Sb.v)),st):=fun st=>by
    have h:=f184 (ls:=[l.take r,l.drop (r+1)]) (st:=st) (by simp) (by simp[sumN];omega)
    rw[show[l.take r,l.drop (r+1)].flatten=delT Sb.num v l by rw[←e1];simp]at h
    exact h
   have h7:((r:Int)+1).toNat=r+1:=by omega
   push_cast[Sb.v,h128,h220,h222,c1,hf,hw,delE,h7,List.take_length]
   exact dn_eq (by omega) rfl
  |false=>push_cast[Sb.v,h128,h220,c1,hf,delE]
 ·push_cast[Sb.v,h128,c1,delE]
end Go.Proofs.YtmjkgajnpmiomaaGreatDoor

namespace Go.Proofs.YtmjkgajnpmiomaaGreatDoor
open Go.Sha
set_option maxRecDepth 100000
variable {g:List (Nat×Obj)}{n:Nat}
def effB (v:Int):Eff→Int:=fun y=>IntKind.i64.wrap (y.num-v)
theorem f267 {x:Eff}{v:Int}{st:St}:run Tryz.prog HH 267 [x.v,.int .i64 v,.ep (.agg [.fn (.func 142) [] []]) 0] st=some (.ret (.int .i64 (effB v x)),st):=by
 have h:=fun(st:St)=>f142 (x:=x) (st:=st)
 push_cast[Eff.v]at h
 rw[run_shut F267 rfl rfl (by simp)]
 push_cast[Eff.v,h,effB]
theorem f110 {l:List Eff}{v:Int}(hl:l.length<140737488355328){st:St}:run Tryz.prog HH 110 [.sl (l.map Eff.v),.int .i64 v,.fn (.func 267) [] [.ep (.agg [.fn (.func 142) [] []]) 0]] st=some (.ret (.tup [.int .i64 (bsR (effB v) l),.bool (bsF (effB v) l)]),st) :=
 BsF (f:=Eff.v) (es:=6) (fun _=>rfl) (fun _=>rfl) F110 rfl (by simp) hl (fun x st=>f267) (fun _ _=>rfl) (fun _=>rfl)
theorem f187 {l:List Eff}{v:Int}(hl:l.length<140737488355328){st:St}:run Tryz.prog HH 187 [.sl (l.map Eff.v),.int .i64 v,.fn (.func 142) [] []] st=some (.ret (.tup [.int .i64 (bsR (effB v) l),.bool (bsF (effB v) l)]),st):=by
 have h:=fun(st:St)=>f110 (v:=v) hl (st:=st)
 push_cast[Eff.v]at h
 rw[run_shut F187 rfl rfl (by simp)]
 push_cast[Eff.v,h]
theorem eff_range {x:Eff}(h:effC x=0):1≤x.num∧x.num≤1048576:=by
 unfold effC at h
 split at h
 ·cases h
 ·omega
theorem f114 {l:List Eff}{v:Int}(hl:l.length<1000000)(hb:∀q∈l,q.wave.length<140737488355328){st:St}:run Tryz.prog HH 114 [.sl (l.map Eff.v),.int .i64 v] st=some (.ret (.tup [.int .i64 (if effsC l=0∧bsF (effB v) l=true then bsR (effB v) l else 0:Nat),.bool (if effsC l=0 then bsF (effB v) l else false),.int .i64 (effsC l)]),st):=by
 have h130:=fun(st:St)=>f89 (l:=l) (st:=st) (by omega) hb
 have h225:=fun(st:St)=>f187 (l:=l) (v:=v) (st:=st) (by omega)
 push_cast[Eff.v]at h130 h225
 rw[run_shut F114 rfl rfl (by simp)]
 by_cases c1:effsC l=0
 ·cases hf:bsF (effB v) l with
  |true=>push_cast[Eff.v,h130,h225,c1,hf]
  |false=>push_cast[Eff.v,h130,h225,c1,hf]
 ·push_cast[Eff.v,h130,c1,false_and]
end Go.Proofs.YtmjkgajnpmiomaaGreatDoor

namespace Go.Proofs.YtmjkgajnpmiomaaGreatDoor
open Go.Sha
set_option maxRecDepth 100000
variable {g:List (Nat×Obj)}{n:Nat}
def edC (s:Sho)(e:Edi):List V:=s.v.cells++e.v.cells
theorem edC_eq {s:Sho}{e:Edi}:edC s e=[.str s.title,.sl (s.curves.map Pt.vs),.sl (s.profs.map Prof.v),.sl (s.fixts.map Fixt.v),.sl (s.grps.map Grp.v),.sl (s.pals.map Pal.v),.sl (s.lsts.map Lst.v),.sl (s.subs.map Sb.v),.sl (s.effs.map Eff.v),
 .int .i64 e.kind,.int .i64 e.num,.int .i64 e.chan,.int .i64 e.prio,.str e.key,.str e.cue.num,.str e.cue.label,.sl (e.cue.moves.map Mov.v),.sl (e.cue.parts.map Tim.v),.bool e.cue.block,.bool e.cue.mark,.int .i64 e.cue.follow,.str e.cue.link,.int .i64 e.cue.loops,.int .i64 e.pal.num,.sl (e.pal.hues.map Hue.v),.int .i64 e.grp.num,.sl (e.grp.chans.map (V.int .i64)),.int .i64 e.sub.num,.int .i64 e.sub.prio,.bool e.sub.inh,.sl (e.sub.gains.map Gan.v),.int .i64 e.eff.num,.int .i64 e.eff.attr,.sl (e.eff.wave.map Pt.v),.int .i64 e.eff.period,.int .i64 e.eff.spread,.int .i64 e.eff.size,.int .i64 e.fix.chan,.int .i64 e.fix.part,.str e.fix.prof,.int .i64 e.fix.univ,.int .i64 e.fix.addr,.int .i64 e.fix.phase,.str e.fix.cable]:=rfl
theorem f49 {s:Sho}{e:Edi}{id:Nat}{st:St}(h:Sha.look st.mem id=some (edC s e))(hl:s.pals.length<1000000)(hb:∀q∈s.pals,q.hues.length<140737488355328)(hx:e.pal.hues.length<140737488355328) :
  run Tryz.prog HH 49 [.ptr id 0] st=some (.ret (.int .i64 (palT s.pals e.pal)),⟨st.nx,updM st.mem id (edC { s with pals:=if palT s.pals e.pal=0 then insT Pal.num e.pal s.pals else[] } e),st.arr,st.x⟩):=by
 have h148:=fun(st:St)=>f104 hl hb hx (st:=st)
 rw[edC_eq]at h ⊢
 rw[run_open F49 rfl rfl (by simp)]
 push_cast[Pal.v]at h148
 push_cast[h,h148]
def S0:Sho:=⟨[],[],[],[],[],[],[],[],[]⟩
def appR (e:Edi)(s':Sho)(c:Int):Int:=if ¬edtC e=0 then edtC e else if ¬c=0 then c else shoC s'
theorem f22_o {k:Nat}(hk0:k=3∨k=4∨k=5∨k=6∨k=7∨k=8∨k=12∨k=13){s s':Sho}{e:Edi}{c:Int}(hk:e.kind=k)(hm:e.cue.moves.length<140737488355328)(hp:e.cue.parts.length<140737488355328)
  (hM:∀(id:Nat) (st:St),Sha.look st.mem id=some (edC s e)→run Tryz.prog HH (46+k) [.ptr id 0] st=some (.ret (.int .i64 c),⟨st.nx,updM st.mem id (edC s' e),st.arr,st.x⟩)) (hok:c=0→s'.ok) {st:St} :
  run Tryz.prog HH 22 [s.v,e.v] st=some (.ret (.tup [(if appR e s' c=0 then s' else S0).v,.int .i64 (appR e s' c)]),st):=by
 rcases hk0 with rfl|rfl|rfl|rfl|rfl|rfl|rfl|rfl
 all_goals
  push_cast at hk
  simp only[Nat.reduceAdd]at hM
  have h14:=fun(st:St)=>f45 hm hp (st:=st)
  rw[run_shut F22 rfl rfl (by simp)]
  push_cast[Edi.v,Sho.v,hk]at h14
  by_cases c1:edtC e=0
  ·push_cast[Edi.v,Sho.v,hk,h14,c1]
   rw[hM 3 _ (by rw[edC_eq,hk];rfl),edC_eq]
   by_cases c2:c=0
   ·have h18:=fun(st:St)=>f21 (hok c2) (st:=st)
    have e1:appR e s' 0=shoC s':=by rw[appR,if_neg (by simp[c1]),if_neg (by simp)]
    push_cast[Sho.v]at h18
    by_cases c3:shoC s'=0
    ·push_cast[updM,c2,e1,c3,h18]
    ·push_cast[updM,c2,e1,c3,h18,S0,List.map_nil]
   ·have e1:appR e s' c=c:=by rw[appR,if_neg (by simp[c1]),if_pos c2]
    push_cast[updM,c2,e1,S0,List.map_nil]
  ·have e1:appR e s' c=edtC e:=if_pos c1
   push_cast[Edi.v,Sho.v,hk,h14,c1,e1,S0,List.map_nil]
end Go.Proofs.YtmjkgajnpmiomaaGreatDoor

namespace Go.Proofs.YtmjkgajnpmiomaaGreatDoor
open Go.Sha
set_option maxRecDepth 100000
variable {g:List (Nat×Obj)}{n:Nat}{s:Sho}{e:Edi}{id:Nat}{st:St}
def gonE (b:Bool)(c:Int):Int:=if c=0∧b=false then 6 else c
theorem f98 {b:Bool}{c:Int}:run Tryz.prog HH 98 [.bool b,.int .i64 c] st=some (.ret (.int .i64 (gonE b c)),st):=by
 rw[run_shut F98 rfl rfl (by simp)]
 push_cast[gonE]
def palD (l:List Pal)(v:Int):Int:=gonE (if palsCR l=0 then bsF (fun y:Pal=>IntKind.i64.wrap (y.num-v)) l else false) (palsCR l)
theorem f50 (h:Sha.look st.mem id=some (edC s e))(hl:s.pals.length<1000000)(hb:∀q∈s.pals,q.hues.length<140737488355328) :
  run Tryz.prog HH 50 [.ptr id 0] st=some (.ret (.int .i64 (palD s.pals e.num)),⟨st.nx,updM st.mem id (edC { s with pals:=if palsCR s.pals=0 then delT Pal.num e.num s.pals else[] } e),st.arr,st.x⟩):=by
 have h149:=fun(st:St)=>f105 hl hb (v:=e.num) (st:=st)
 have h142:=fun(b:Bool) (c:Int) (st:St)=>f98 (b:=b) (c:=c) (st:=st)
 rw[edC_eq]at h ⊢
 rw[run_open F50 rfl rfl (by simp)]
 push_cast[Pal.v]at h149
 push_cast[h,h149,h142,palD]
theorem f51 (h:Sha.look st.mem id=some (edC s e))(hl:s.grps.length<1000000)(hb:∀q∈s.grps,q.chans.length<140737488355328)(hx:e.grp.chans.length<140737488355328) :
  run Tryz.prog HH 51 [.ptr id 0] st=some (.ret (.int .i64 (grpT s.grps e.grp)),⟨st.nx,updM st.mem id (edC { s with grps:=if grpT s.grps e.grp=0 then insT Grp.num e.grp s.grps else[] } e),st.arr,st.x⟩):=by
 have h150:=fun(st:St)=>f106 hl hb hx (st:=st)
 rw[edC_eq]at h ⊢
 rw[run_open F51 rfl rfl (by simp)]
 push_cast[Grp.v]at h150
 push_cast[h,h150]
def grpD (l:List Grp)(v:Int):Int:=delE (grpsC l) (bsF (grpB v) l)
theorem f52 (h:Sha.look st.mem id=some (edC s e))(hl:s.grps.length<1000000)(hb:∀q∈s.grps,q.chans.length<140737488355328) :
  run Tryz.prog HH 52 [.ptr id 0] st=some (.ret (.int .i64 (grpD s.grps e.num)),⟨st.nx,updM st.mem id (edC { s with grps:=if grpD s.grps e.num=0 then delT Grp.num e.num s.grps else[] } e),st.arr,st.x⟩):=by
 have h151:∀st:St,run Tryz.prog HH 107 [.sl (s.grps.map Grp.v),.int .i64 e.num] st=some (.ret (.tup [.sl ((if grpD s.grps e.num=0 then delT Grp.num e.num s.grps else[]).map Grp.v),.int .i64 (grpD s.grps e.num)]),st):=fun st=>f107 hl hb
 rw[edC_eq]at h ⊢
 rw[run_open F52 rfl rfl (by simp)]
 push_cast[Grp.v]at h151
 push_cast[h,h151]
theorem f53 (h:Sha.look st.mem id=some (edC s e))(hl:s.subs.length<1000000)(hb:∀q∈s.subs,q.gains.length<140737488355328)(hx:e.sub.gains.length<140737488355328) :
  run Tryz.prog HH 53 [.ptr id 0] st=some (.ret (.int .i64 (sbT s.subs e.sub)),⟨st.nx,updM st.mem id (edC { s with subs:=if sbT s.subs e.sub=0 then insT Sb.num e.sub s.subs else[] } e),st.arr,st.x⟩):=by
 have h152:=fun(st:St)=>f108 hl hb hx (st:=st)
 rw[edC_eq]at h ⊢
 rw[run_open F53 rfl rfl (by simp)]
 push_cast[Sb.v]at h152
 push_cast[h,h152]
def sbD (l:List Sb)(v:Int):Int:=delE (subsCR l) (bsF (sbB v) l)
theorem f54 (h:Sha.look st.mem id=some (edC s e))(hv:-9223372036854775808≤e.num∧e.num≤9223372036854775807)(hl:s.subs.length<1000000)(hb:∀q∈s.subs,q.gains.length<140737488355328) :
  run Tryz.prog HH 54 [.ptr id 0] st=some (.ret (.int .i64 (sbD s.subs e.num)),⟨st.nx,updM st.mem id (edC { s with subs:=if sbD s.subs e.num=0 then delT Sb.num e.num s.subs else[] } e),st.arr,st.x⟩):=by
 have h153:∀st:St,run Tryz.prog HH 109 [.sl (s.subs.map Sb.v),.int .i64 e.num] st=some (.ret (.tup [.sl ((if sbD s.subs e.num=0 then delT Sb.num e.num s.subs else[]).map Sb.v),.int .i64 (sbD s.subs e.num)]),st):=fun st=>f109 hv hl hb
 rw[edC_eq]at h ⊢
 rw[run_open F54 rfl rfl (by simp)]
 push_cast[Sb.v]at h153
 push_cast[h,h153]
theorem f59 (h:Sha.look st.mem id=some (edC s e)):run Tryz.prog HH 59 [.ptr id 0] st=some (.ret (.int .i64 0),⟨st.nx,updM st.mem id (edC { s with title:=e.key } e),st.arr,st.x⟩):=by
 rw[edC_eq]at h ⊢
 rw[run_open F59 rfl rfl (by simp)]
 push_cast[h]
end Go.Proofs.YtmjkgajnpmiomaaGreatDoor

namespace Go.Proofs.YtmjkgajnpmiomaaGreatDoor
open Go.Sha
set_option maxRecDepth 10000
def B4_0:Cd:=(.g [.b 17 .lss 16 15] (.join [1,2,14,15,16] (.i 17 .skip (.exit [1,2] 0)) (.join [1,2,14,15,16] (.block 1 (.g [.r 18 1 14 16,.l 19 18,.m 4 19] (.g [.d 21 11 1,.m 22 4,.s 23 (.build [.i 0,.i 0,.i 0,.i 0,(.str []),(.str []),(.str []),.nils,.nils,(.bool false),(.bool false),.i 0,(.str []),.i 0,.i 0,.nils,.i 0,.nils,.i 0,.i 0,(.bool false),.nils,.i 0,.i 0,.nils,.i 0,.i 0,.i 0,.i 0,.i 0,(.str []),.i 0,.i 0,.i 0,(.str [])] [(0,1,(.i 13)),(4,1,(.t 22))]),.g' 24 7 21 23,.m 20 24,.j 25 0 20,.j 26 1 20,.s 5 (.alloc 37 [.nils,(.str []),.nils,.nils,.nils,.nils,.nils,.nils,.nils,.nils,.nils]),.w 11 5 25,.m 6 26] (.z [5] (.reg [.d 27 11 5,.m 28 2,.m 29 6,.b 30 .add 28 29,.w 11 1 27,.m 2 30]))))) (.reg [.v 31 .add 16 1,.m 16 31]))))
theorem F4:compF Tryz.prog 4=some ⟨73,[.tmp 0],(.g [.k 0 false] (.g [.s 13 (.build [.nils,(.str []),.nils,.nils,.nils,.nils,.nils,.nils,.nils,.nils,.nils] []),.s 1 (.alloc 37 [.nils,(.str []),.nils,.nils,.nils,.nils,.nils,.nils,.nils,.nils,.nils]),.w 11 1 13] (.g [.c 2 0] (.join [1,2] (.g [.s 14 (.bslice 9 1 [(.w [65]),(.w [66])]),.u 15 14,.c 16 0] (.block 0 (.loop [1,2,14,15,16] [] B4_0))) (.g [.d 33 11 1,.f 34 10 33,.m 32 34,.j 35 0 32,.j 36 1 32,.s 7 (.alloc 37 [.nils,(.str []),.nils,.nils,.nils,.nils,.nils,.nils,.nils,.nils,.nils]),.w 11 7 35,.m 8 36] (.z [7] (.g [.d 38 11 7,.f 39 10 38,.m 37 39,.j 40 0 37,.j 41 1 37,.s 9 (.alloc 37 [.nils,(.str []),.nils,.nils,.nils,.nils,.nils,.nils,.nils,.nils,.nils]),.w 11 9 40,.m 10 41] (.z [9] (.g [.d 43 11 9,.f 44 11 43,.m 42 44,.j 45 0 42,.j 46 1 42,.s 11 (.alloc 37 [.nils,(.str []),.nils,.nils,.nils,.nils,.nils,.nils,.nils,.nils,.nils]),.w 11 11 45,.m 12 46] (.z [11] (.join [0] (.reg [.m 47 2,.m 48 8,.b 49 .add 47 48,.m 50 10,.b 51 .add 49 50,.m 52 12,.b 53 .add 51 52,.v 54 .eql 53 0,.m 55 54,.ay 56 1 1 55,.ay 57 0 56 55,.ly 58 57 55,.y 59 (.bin .eql (.t 58) (.w [66])) 55,.e 60 55 59,.m 61 60,.ay 62 1 9 61,.ay 63 0 62 61,.ly 64 63 61,.y 65 (.bin .eql (.t 64) (.w [])) 61,.e 66 61 65,.m 67 66,.ay 68 1 11 67,.ay 69 0 68 67,.ly 70 69 67,.y 71 (.bin .eql (.t 70) (.w [65])) 67,.e 72 67 71,.m 0 72]) (.ret [0]))))))))))))⟩:=by kernel_rfl
theorem F5:compF Tryz.prog 5=some ⟨10,[.tmp 2],(.g [.q 1 31 0,.k 2 false] (.z [1] (.join [2] (.reg [.d 3 9 1,.f 4 12 3,.m 5 4,.y 6 (.load (some 9) (.t 1)) 5,.y 7 (.f 13 [.t 6]) 5,.vy 8 .eql 7 0 5,.e 9 5 8,.m 2 9]) (.ret [2]))))⟩:=by kernel_rfl
end Go.Proofs.YtmjkgajnpmiomaaGreatDoor

namespace Go.Proofs.YtmjkgajnpmiomaaGreatDoor
open Go.Sha
set_option maxRecDepth 100000
variable {g:List (Nat×Obj)}{n:Nat}
end Go.Proofs.YtmjkgajnpmiomaaGreatDoor

namespace Go.Proofs.YtmjkgajnpmiomaaGreatDoor
open Go.Sha
set_option maxRecDepth 10000
def B12_0:Cd:=(.join [1,3] (.g [.m 53 3,.a 54 2 1,.l 55 54,.u 56 55,.b 57 .lss 53 56] (.i 57 .skip (.exit [1] 0))) (.join [1,3] (.block 1 (.g [.a 60 2 1,.l 61 60,.m 62 3,.r 63 4 61 62,.d 64 4 63,.f 65 34 64,.z 66 65] (.i 66 (.g [.k 2 false] (.ret [2])) .skip))) (.reg [.m 58 3,.v 59 .add 58 1,.m 3 59])))
def B12_1:Cd:=(.join [1,4] (.join [1,4,75] (.reg [.m 67 4,.a 68 6 1,.l 69 68,.u 70 69,.b 71 .lss 67 70,.m 72 71,.my 73 4 72,.vy 74 .lss 73 10 72,.e 75 72 74]) (.i 75 .skip (.exit [1] 2))) (.join [1,4] (.block 3 (.g [.a 78 6 1,.l 79 78,.m 80 4,.r 81 3 79 80,.d 82 3 81,.f 83 35 82,.z 84 83] (.i 84 (.g [.k 2 false] (.ret [2])) .skip))) (.reg [.m 76 4,.v 77 .add 76 1,.m 4 77])))
theorem F12:compF Tryz.prog 12=some ⟨101,[.tmp 2],(.g [.q 1 31 0,.k 2 false] (.z [1] (.join [1] (.join [1,52] (.reg [.a 5 0 1,.l 6 5,.s 7 (.lens (.t 6)),.v 8 .gtr 7 100,.m 9 8,.ax 10 1 1 9,.lx 11 10 9,.x 12 (.f 32 [.t 11]) 9,.x 13 (.un .not (.t 12)) 9,.o 14 9 13,.m 15 14,.ax 16 2 1 15,.lx 17 16 15,.x 18 (.len (.t 17)) 15,.vx 19 .gtr 18 40 15,.o 20 15 19,.m 21 20,.ax 22 3 1 21,.lx 23 22 21,.ax 24 2 1 21,.lx 25 24 21,.x 26 (.f 33 [.t 23,.t 25]) 21,.x 27 (.un .not (.t 26)) 21,.o 28 21 27,.m 29 28,.ax 30 4 1 29,.lx 31 30 29,.x 32 (.f 16 [.t 31]) 29,.x 33 (.un .not (.t 32)) 29,.o 34 29 33,.m 35 34,.ax 36 5 1 35,.lx 37 36 35,.x 38 (.f 15 [.t 37]) 35,.x 39 (.un .not (.t 38)) 35,.o 40 35 39,.m 41 40,.ax 42 7 1 41,.lx 43 42 41,.x 44 (.f 17 [.t 43]) 41,.x 45 (.un .not (.t 44)) 41,.o 46 41 45,.m 47 46,.ax 48 8 1 47,.lx 49 48 47,.x 50 (.f 18 [.t 49,(.c .nils)]) 47,.x 51 (.un .not (.t 50)) 47,.o 52 47 51]) (.i 52 (.g [.k 2 false] (.ret [2])) .skip)) (.join [1] (.g [.c 3 0] (.block 0 (.loop [1,3] [] B12_0))) (.join [1] (.g [.c 4 0] (.block 2 (.loop [1,4] [] B12_1))) (.join [2] (.reg [.a 85 6 1,.l 86 85,.u 87 86,.v 88 .leq 87 3,.m 89 88,.ax 90 6 1 89,.lx 91 90 89,.x 92 (.len (.t 91)) 89,.vx 93 .gtr 92 8 89,.mx 94 93 89,.ay 95 6 1 94,.ly 96 95 94,.y 97 (.len (.t 96)) 94,.vy 98 .leq 97 20 94,.x 99 (.pick (.t 94) (.t 98) (.c (.bool false))) 89,.o 100 89 99,.m 2 100]) (.ret [2])))))))⟩:=by kernel_rfl
def B33_0:Cd:=(.join [1,5] (.join [1,5,31] (.reg [.m 24 5,.m 25 1,.u 26 25,.b 27 .lss 24 26,.m 28 27,.my 29 5 28,.vy 30 .lss 29 6 28,.e 31 28 30]) (.i 31 .skip (.exit [] 0))) (.join [1,5] (.block 1 (.g [.m 34 1,.m 35 5,.r 36 4 34 35,.a 37 3 36,.l 38 37,.u 39 38,.v 40 .gtr 39 16] (.i 40 (.g [.k 4 false] (.ret [4])) .skip))) (.reg [.m 32 5,.v 33 .add 32 1,.m 5 33])))
theorem F33:compF Tryz.prog 33=some ⟨41,[.tmp 4],(.g [.k 4 false] (.join [1] (.join [1,23] (.reg [.m 6 0,.u 7 6,.v 8 .gtr 7 12,.m 9 8,.my 10 0 9,.y 11 (.len (.t 10)) 9,.vy 12 .leq 11 64 9,.e 13 9 12,.m 14 13,.mx 15 1 14,.x 16 (.len (.t 15)) 14,.vx 17 .gtr 16 6 14,.mx 18 17 14,.my 19 1 18,.y 20 (.len (.t 19)) 18,.vy 21 .leq 20 32 18,.x 22 (.pick (.t 18) (.t 21) (.c (.bool false))) 14,.o 23 14 22]) (.i 23 (.g [.k 4 false] (.ret [4])) .skip)) (.join [] (.g [.c 5 0] (.block 0 (.loop [1,5] [] B33_0))) (.g [.k 4 true] (.ret [4])))))⟩:=by kernel_rfl
def B16_0:Cd:=(.join [0,3] (.join [0,3,11] (.reg [.m 4 3,.m 5 0,.u 6 5,.b 7 .lss 4 6,.m 8 7,.my 9 3 8,.vy 10 .lss 9 60 8,.e 11 8 10]) (.i 11 .skip (.exit [0] 0))) (.join [0,3] (.block 1 (.join [0,3,29] (.reg [.m 14 0,.m 15 3,.r 16 2 14 15,.a 17 1 16,.l 18 17,.u 19 18,.v 20 .gtr 19 40,.m 21 20,.my 22 0 21,.my 23 3 21,.ry 24 2 22 23 21,.ay 25 1 24 21,.ly 26 25 21,.y 27 (.len (.t 26)) 21,.vy 28 .leq 27 256 21,.e 29 21 28]) (.i 29 (.g [.k 2 false] (.ret [2])) .skip))) (.reg [.m 12 3,.v 13 .add 12 1,.m 3 13])))
theorem F16:compF Tryz.prog 16=some ⟨33,[.tmp 2],(.g [.k 2 false] (.join [0] (.g [.c 3 0] (.block 0 (.loop [0,3] [] B16_0))) (.g [.m 30 0,.u 31 30,.v 32 .leq 31 60,.m 2 32] (.ret [2]))))⟩:=by kernel_rfl
def B15_0:Cd:=(.join [0,3] (.g [.m 7 3,.m 8 0,.u 9 8,.b 10 .lss 7 9] (.i 10 .skip (.exit [] 0))) (.join [0,3] (.block 1 (.g [.m 13 0,.m 14 3,.r 15 2 13 14,.a 16 1 15,.l 17 16,.u 18 17,.v 19 .gtr 18 512] (.i 19 (.g [.k 2 false] (.ret [2])) .skip))) (.reg [.m 11 3,.v 12 .add 11 1,.m 3 12])))
theorem F15:compF Tryz.prog 15=some ⟨20,[.tmp 2],(.g [.k 2 false] (.join [0] (.g [.m 4 0,.u 5 4,.v 6 .gtr 5 64] (.i 6 (.g [.k 2 false] (.ret [2])) .skip)) (.join [] (.g [.c 3 0] (.block 0 (.loop [0,3] [] B15_0))) (.g [.k 2 true] (.ret [2])))))⟩:=by kernel_rfl
def B17_0:Cd:=(.join [0,3] (.join [0,3,11] (.reg [.m 4 3,.m 5 0,.u 6 5,.b 7 .lss 4 6,.m 8 7,.my 9 3 8,.vy 10 .lss 9 40 8,.e 11 8 10]) (.i 11 .skip (.exit [0] 0))) (.join [0,3] (.block 1 (.join [0,3,29] (.reg [.m 14 0,.m 15 3,.r 16 4 14 15,.a 17 3 16,.l 18 17,.u 19 18,.v 20 .gtr 19 30,.m 21 20,.my 22 0 21,.my 23 3 21,.ry 24 4 22 23 21,.ay 25 3 24 21,.ly 26 25 21,.y 27 (.len (.t 26)) 21,.vy 28 .leq 27 128 21,.e 29 21 28]) (.i 29 (.g [.k 2 false] (.ret [2])) .skip))) (.reg [.m 12 3,.v 13 .add 12 1,.m 3 13])))
theorem F17:compF Tryz.prog 17=some ⟨33,[.tmp 2],(.g [.k 2 false] (.join [0] (.g [.c 3 0] (.block 0 (.loop [0,3] [] B17_0))) (.g [.m 30 0,.u 31 30,.v 32 .leq 31 40,.m 2 32] (.ret [2]))))⟩:=by kernel_rfl
def B18_0:Cd:=(.join [1,5] (.join [1,5,31] (.reg [.m 24 5,.m 25 1,.u 26 25,.b 27 .lss 24 26,.m 28 27,.my 29 5 28,.vy 30 .lss 29 4 28,.e 31 28 30]) (.i 31 .skip (.exit [] 0))) (.join [1,5] (.block 1 (.join [1,5,49] (.reg [.m 34 1,.m 35 5,.r 36 6 34 35,.a 37 1 36,.l 38 37,.u 39 38,.v 40 .gtr 39 8,.m 41 40,.my 42 1 41,.my 43 5 41,.ry 44 6 42 43 41,.ay 45 1 44 41,.ly 46 45 41,.y 47 (.len (.t 46)) 41,.vy 48 .leq 47 256 41,.e 49 41 48]) (.i 49 (.g [.k 4 false] (.ret [4])) .skip))) (.reg [.m 32 5,.v 33 .add 32 1,.m 5 33])))
theorem F18:compF Tryz.prog 18=some ⟨50,[.tmp 4],(.g [.k 4 false] (.join [1] (.join [1,23] (.reg [.m 6 0,.u 7 6,.v 8 .gtr 7 4,.m 9 8,.my 10 0 9,.y 11 (.len (.t 10)) 9,.vy 12 .leq 11 16 9,.e 13 9 12,.m 14 13,.mx 15 1 14,.x 16 (.len (.t 15)) 14,.vx 17 .gtr 16 4 14,.mx 18 17 14,.my 19 1 18,.y 20 (.len (.t 19)) 18,.vy 21 .leq 20 16 18,.x 22 (.pick (.t 18) (.t 21) (.c (.bool false))) 14,.o 23 14 22]) (.i 23 (.g [.k 4 false] (.ret [4])) .skip)) (.join [] (.g [.c 5 0] (.block 0 (.loop [1,5] [] B18_0))) (.g [.k 4 true] (.ret [4])))))⟩:=by kernel_rfl
def B34_0:Cd:=(.join [1,3] (.join [1,3,12] (.reg [.m 4 3,.a 5 3 1,.l 6 5,.u 7 6,.b 8 .lss 4 7,.m 9 8,.my 10 3 9,.vy 11 .lss 10 40 9,.e 12 9 11]) (.i 12 .skip (.exit [1] 0))) (.join [1,3] (.block 1 (.g [.a 15 3 1,.l 16 15,.m 17 3,.r 18 10 16 17,.a 19 9 18,.l 20 19,.u 21 20,.v 22 .gtr 21 40] (.i 22 (.g [.k 2 false] (.ret [2])) .skip))) (.reg [.m 13 3,.v 14 .add 13 1,.m 3 14])))
theorem F34:compF Tryz.prog 34=some ⟨33,[.tmp 2],(.g [.q 1 94 0,.k 2 false] (.z [1] (.join [1] (.g [.c 3 0] (.block 0 (.loop [1,3] [] B34_0))) (.join [2] (.reg [.a 23 3 1,.l 24 23,.u 25 24,.v 26 .leq 25 40,.m 27 26,.ay 28 0 1 27,.ly 29 28 27,.y 30 (.lens (.t 29)) 27,.vy 31 .leq 30 100 27,.e 32 27 31,.m 2 32]) (.ret [2])))))⟩:=by kernel_rfl
def B35_0:Cd:=(.join [1,3,4] (.g [.m 15 4,.a 16 2 1,.l 17 16,.u 18 17,.b 19 .lss 15 18] (.i 19 .skip (.exit [] 0))) (.join [1,3,4] (.block 1 (.g [.m 22 3,.a 23 2 1,.l 24 23,.m 25 4,.r 26 9 24 25,.a 27 2 26,.l 28 27,.u 29 28,.b 30 .add 22 29,.m 3 30] (.join [1,3,4,42] (.reg [.a 31 2 1,.l 32 31,.m 33 4,.r 34 9 32 33,.a 35 2 34,.l 36 35,.u 37 36,.v 38 .gtr 37 20,.m 39 38,.mx 40 3 39,.vx 41 .gtr 40 30 39,.o 42 39 41]) (.i 42 (.g [.d 43 3 1,.f 44 68 43,.v 45 .neq 44 0,.m 2 45] (.ret [2])) .skip)))) (.reg [.m 20 4,.v 21 .add 20 1,.m 4 21])))
theorem F35:compF Tryz.prog 35=some ⟨46,[.tmp 2],(.g [.q 1 98 0,.k 2 false] (.z [1] (.join [1] (.g [.d 5 3 1,.f 6 67 5,.z 7 6] (.i 7 (.g [.k 2 false] (.ret [2])) .skip)) (.join [1] (.g [.a 8 2 1,.l 9 8,.u 10 9,.v 11 .gtr 10 10] (.i 11 (.g [.d 12 3 1,.f 13 68 12,.v 14 .neq 13 0,.m 2 14] (.ret [2])) .skip)) (.g [.c 3 0] (.join [] (.g [.c 4 0] (.block 0 (.loop [1,3,4] [] B35_0))) (.g [.k 2 true] (.ret [2]))))))))⟩:=by kernel_rfl
def B67_0:Cd:=(.join [1,3] (.g [.m 8 3,.a 9 2 1,.l 10 9,.u 11 10,.b 12 .lss 8 11] (.i 12 .skip (.exit [] 0))) (.join [1,3] (.block 1 (.g [.a 15 2 1,.l 16 15,.m 17 3,.r 18 9 16 17,.d 19 9 18,.f 20 14 19,.z 21 20] (.i 21 (.g [.k 2 false] (.ret [2])) .skip))) (.reg [.m 13 3,.v 14 .add 13 1,.m 3 14])))
theorem F67:compF Tryz.prog 67=some ⟨22,[.tmp 2],(.g [.q 1 98 0,.k 2 false] (.z [1] (.join [1] (.g [.a 4 2 1,.l 5 4,.u 6 5,.v 7 .gtr 6 128] (.i 7 (.g [.k 2 false] (.ret [2])) .skip)) (.join [] (.g [.c 3 0] (.block 0 (.loop [1,3] [] B67_0))) (.g [.k 2 true] (.ret [2]))))))⟩:=by kernel_rfl
theorem F14:compF Tryz.prog 14=some ⟨30,[.tmp 2],(.g [.q 1 41 0,.k 2 false] (.z [1] (.join [2] (.reg [.a 3 0 1,.l 4 3,.s 5 (.lens (.t 4)),.v 6 .leq 5 40,.m 7 6,.ay 8 1 1 7,.ly 9 8 7,.y 10 (.lens (.t 9)) 7,.vy 11 .leq 10 100 7,.e 12 7 11,.m 13 12,.ay 14 7 1 13,.ly 15 14 13,.y 16 (.lens (.t 15)) 13,.vy 17 .leq 16 40 13,.e 18 13 17,.m 19 18,.ay 20 3 1 19,.ly 21 20 19,.y 22 (.len (.t 21)) 19,.vy 23 .leq 22 10 19,.e 24 19 23,.m 25 24,.ay 26 2 1 25,.ly 27 26 25,.y 28 (.f 42 [.t 27]) 25,.e 29 25 28,.m 2 29]) (.ret [2]))))⟩:=by kernel_rfl
theorem F42:compF Tryz.prog 42=some ⟨6,[.tmp 2],(.g [.k 2 false] (.g [.m 3 0,.u 4 3,.v 5 .leq 4 300,.m 2 5] (.ret [2])))⟩:=by kernel_rfl
end Go.Proofs.YtmjkgajnpmiomaaGreatDoor

namespace Go.Proofs.YtmjkgajnpmiomaaGreatDoor
open Go.Sha
set_option maxRecDepth 100000
variable {g:List (Nat×Obj)}{n:Nat}
def anyN {α:Type}(m:Int)(p:α→Prop)[DecidablePred p]:List α→Nat→Bool
 |[],_=>false
 |q::r,j=>if(j:Int)<m then if p q then true else anyN m p r (j+1) else false
theorem L32 {l:List (List Pt)}(hl:l.length<140737488355328):∀r j,l.drop j=r→runL Tryz.prog HH [0,3] n B32_0 [(0,.sl (l.map Pt.vs)),(3,.int .i64 j)] (stN g n)=lpB (stN g n) [(0,.sl (l.map Pt.vs))] 2 (anyN 40 (fun q:List Pt=>40<(q.length:Int)) r j) false:=by
 refine drop_ind (fun j h=>?_) (fun q r j h hx hd ih=>?_)
 all_goals rw[runL_of B32_0.eq_1]
 ·have h1:¬(j:Int)<l.length:=by omega
  push_cast[h1,anyN]
 ·have h1:(j:Int)<l.length:=by omega
  have hw:=iw1 (j:=j) (by omega)
  push_cast[h1,hw,hx,f66]at ih ⊢
  simp only[ih,anyN,lps,Int.reduceEq,not_false_eq_true]
  all_goals ((repeat' split)<;>simp_all)
theorem f32 {l:List (List Pt)}(hl:l.length<140737488355328):∃b,∀st,run Tryz.prog HH 32 [.sl (l.map Pt.vs)] st=some (.ret (.bool b),st):=by
 refine⟨if anyN 40 (fun q:List Pt=>40<(q.length:Int)) l 0=true then false else decide ((l.length:Int)≤40),fun st=>?_⟩
 rw[run_shut F32 rfl rfl (by simp)]
 have hL0:=fun n=>L32 (g:=st.x.gl) (n:=n) hl _ 0 rfl
 push_cast at hL0
 push_cast[hL0,lpE,lpX,lpI,lpB]
theorem L33 {l:List Prof}(hl:l.length<140737488355328):∀r j,l.drop j=r→runL Tryz.prog HH [1,5] n B33_0 [(1,.sl (l.map Prof.v)),(5,.int .i64 j)] (stN g n)=lpB (stN g n) [] 4 (anyN 6 (fun q:Prof=>16<(q.feats.length:Int)) r j) false:=by
 refine drop_ind (fun j h=>?_) (fun q r j h hx hd ih=>?_)
 all_goals rw[runL_of B33_0.eq_1]
 ·have h1:¬(j:Int)<l.length:=by omega
  push_cast[h1,anyN,Prof.v]
 ·have h1:(j:Int)<l.length:=by omega
  have hw:=iw1 (j:=j) (by omega)
  push_cast[h1,hw,hx,Prof.v]at ih ⊢
  simp only[ih,anyN,lps,Int.reduceEq,not_false_eq_true]
theorem f33 {l:List Fixt}{ps:List Prof}(hl:ps.length<140737488355328):∃b,∀st,run Tryz.prog HH 33 [.sl (l.map Fixt.v),.sl (ps.map Prof.v)] st=some (.ret (.bool b),st):=by
 apply Exists.intro
 intro st
 have hL0:=fun n=>L33 (g:=st.x.gl) (n:=n) hl _ 0 rfl
 rw[run_shut F33 rfl rfl (by simp)]
 push_cast at hL0
 push_cast[hL0,lpB]
 exact rfl
theorem L16 {l:List Grp}(hl:l.length<140737488355328):∀r j,l.drop j=r→runL Tryz.prog HH [0,3] n B16_0 [(0,.sl (l.map Grp.v)),(3,.int .i64 j)] (stN g n)=lpB (stN g n) [(0,.sl (l.map Grp.v))] 2 (anyN 60 (fun q:Grp=>40<(q.chans.length:Int)∧(q.chans.length:Int)≤256) r j) false:=by
 refine drop_ind (fun j h=>?_) (fun q r j h hx hd ih=>?_)
 all_goals rw[runL_of B16_0.eq_1]
 ·have h1:¬(j:Int)<l.length:=by omega
  push_cast[h1,anyN,Grp.v]
 ·have h1:(j:Int)<l.length:=by omega
  have hw:=iw1 (j:=j) (by omega)
  push_cast[h1,hw,hx,Grp.v]at ih ⊢
  simp only[ih,anyN,lps,Int.reduceEq,not_false_eq_true]
theorem f16 {l:List Grp}(hl:l.length<140737488355328):∃b,∀st,run Tryz.prog HH 16 [.sl (l.map Grp.v)] st=some (.ret (.bool b),st):=by
 refine⟨if anyN 60 (fun q:Grp=>40<(q.chans.length:Int)∧(q.chans.length:Int)≤256) l 0=true then false else decide ((l.length:Int)≤60),fun st=>?_⟩
 rw[run_shut F16 rfl rfl (by simp)]
 have hL0:=fun n=>L16 (g:=st.x.gl) (n:=n) hl _ 0 rfl
 push_cast at hL0
 push_cast[hL0,lpE,lpX,lpI,lpB]
def anyP {α:Type}(p:α→Prop)[DecidablePred p]:List α→Bool
 |[]=>false
 |q::r=>if p q then true else anyP p r
theorem L15 {l:List Pal}(hl:l.length<140737488355328):∀r j,l.drop j=r→runL Tryz.prog HH [0,3] n B15_0 [(0,.sl (l.map Pal.v)),(3,.int .i64 j)] (stN g n)=lpB (stN g n) [] 2 (anyP (fun q:Pal=>512<(q.hues.length:Int)) r) false:=by
 refine drop_ind (fun j h=>?_) (fun q r j h hx hd ih=>?_)
 all_goals rw[runL_of B15_0.eq_1]
 ·have h1:¬(j:Int)<l.length:=by omega
  push_cast[h1,anyP,Pal.v]
 ·have h1:(j:Int)<l.length:=by omega
  have hw:=iw1 (j:=j) (by omega)
  push_cast[h1,hw,hx,Pal.v]at ih ⊢
  simp only[ih,anyP,lps,Int.reduceEq,not_false_eq_true]
theorem f15 {l:List Pal}(hl:l.length<140737488355328):∃b,∀st,run Tryz.prog HH 15 [.sl (l.map Pal.v)] st=some (.ret (.bool b),st):=by
 refine⟨if 64<(l.length:Int) then false else if anyP (fun q:Pal=>512<(q.hues.length:Int)) l=true then false else true,fun st=>?_⟩
 rw[run_shut F15 rfl rfl (by simp)]
 have hL0:=fun n=>L15 (g:=st.x.gl) (n:=n) hl _ 0 rfl
 push_cast at hL0
 push_cast[hL0,lpE,lpX,lpI,lpB]
theorem L17 {l:List Sb}(hl:l.length<140737488355328):∀r j,l.drop j=r→runL Tryz.prog HH [0,3] n B17_0 [(0,.sl (l.map Sb.v)),(3,.int .i64 j)] (stN g n)=lpB (stN g n) [(0,.sl (l.map Sb.v))] 2 (anyN 40 (fun q:Sb=>30<(q.gains.length:Int)∧(q.gains.length:Int)≤128) r j) false:=by
 refine drop_ind (fun j h=>?_) (fun q r j h hx hd ih=>?_)
 all_goals rw[runL_of B17_0.eq_1]
 ·have h1:¬(j:Int)<l.length:=by omega
  push_cast[h1,anyN,Sb.v]
 ·have h1:(j:Int)<l.length:=by omega
  have hw:=iw1 (j:=j) (by omega)
  push_cast[h1,hw,hx,Sb.v]at ih ⊢
  simp only[ih,anyN,lps,Int.reduceEq,not_false_eq_true]
theorem f17 {l:List Sb}(hl:l.length<140737488355328):∃b,∀st,run Tryz.prog HH 17 [.sl (l.map Sb.v)] st=some (.ret (.bool b),st):=by
 refine⟨if anyN 40 (fun q:Sb=>30<(q.gains.length:Int)∧(q.gains.length:Int)≤128) l 0=true then false else decide ((l.length:Int)≤40),fun st=>?_⟩
 rw[run_shut F17 rfl rfl (by simp)]
 have hL0:=fun n=>L17 (g:=st.x.gl) (n:=n) hl _ 0 rfl
 push_cast at hL0
 push_cast[hL0,lpE,lpX,lpI,lpB]
theorem f18 {l:List Eff}:∃b,∀st,run Tryz.prog HH 18 [.sl (l.map Eff.v),.sl []] st=some (.ret (.bool b),st):=by
 refine⟨if 4<(l.length:Int)∧(l.length:Int)≤16 then false else true,fun st=>?_⟩
 rw[run_shut F18 rfl rfl (by simp)]
 push_cast[runL_of B18_0.eq_1]
theorem L34 {x:Prof}(hl:x.feats.length<140737488355328):∀r j,x.feats.drop j=r→runL Tryz.prog HH [1,3] n B34_0 [(1,.ep x.v 0),(3,.int .i64 j)] (stN g n)=lpB (stN g n) [(1,.ep x.v 0)] 2 (anyN 40 (fun q:Ftr=>40<(q.wheel.length:Int)) r j) false:=by
 refine drop_ind (fun j h=>?_) (fun q r j h hx hd ih=>?_)
 all_goals rw[runL_of B34_0.eq_1]
 ·have h1:¬(j:Int)<x.feats.length:=by omega
  push_cast[h1,anyN,Prof.v,Ftr.v]
 ·have h1:(j:Int)<x.feats.length:=by omega
  have hw:=iw1 (j:=j) (by omega)
  push_cast[h1,hw,hx,Prof.v,Ftr.v]at ih ⊢
  simp only[ih,anyN,lps,Int.reduceEq,not_false_eq_true]
def few51 (x:Prof):Bool:=if anyN 40 (fun q:Ftr=>40<(q.wheel.length:Int)) x.feats 0=true then false else(decide ((x.feats.length:Int)≤40)&&decide ((x.name.length:Int)≤100))
theorem f34 {x:Prof}(hl:x.feats.length<140737488355328){st:St}:run Tryz.prog HH 34 [x.v] st=some (.ret (.bool (few51 x)),st):=by
 rw[run_shut F34 rfl rfl (by simp)]
 have hL0:=fun n=>L34 (g:=st.x.gl) (n:=n) hl _ 0 rfl
 push_cast[Prof.v,few51]at hL0
 push_cast[Prof.v,few51,hL0,lpE,lpX,lpI,lpB]
def few129 (x:Cu):Bool:=decide ((x.num.length:Int)≤40)&&(decide ((x.label.length:Int)≤100)&&(decide ((x.link.length:Int)≤40)&&(decide ((x.parts.length:Int)≤10)&&decide ((x.moves.length:Int)≤300))))
theorem f14 {x:Cu}{st:St}:run Tryz.prog HH 14 [x.v] st=some (.ret (.bool (few129 x)),st):=by
 rw[run_shut F14 rfl rfl (by simp)]
 push_cast[Cu.v,(fun(a0:V) (st:St) (h:V.bdL 0 [a0]=true)=>run_shut (P:=Tryz.prog) (H:=HH) (args:=[a0]) (st:=st) F42 rfl rfl h),few129]
theorem L67 {x:Lst}(hl:x.cues.length<140737488355328):∀r j,x.cues.drop j=r→runL Tryz.prog HH [1,3] n B67_0 [(1,.ep x.v 0),(3,.int .i64 j)] (stN g n)=lpB (stN g n) [] 2 (anyP (fun q:Cu=>few129 q=false) r) false:=by
 refine drop_ind (fun j h=>?_) (fun q r j h hx hd ih=>?_)
 all_goals rw[runL_of B67_0.eq_1]
 ·have h1:¬(j:Int)<x.cues.length:=by omega
  push_cast[h1,anyP,Lst.v,Cu.v]
 ·have h1:(j:Int)<x.cues.length:=by omega
  have hw:=iw1 (j:=j) (by omega)
  push_cast[h1,hw,hx,Lst.v,Cu.v,f14]at ih ⊢
  simp only[ih,anyP,lps,Int.reduceEq,not_false_eq_true]
theorem f67 {x:Lst}(hl:x.cues.length<140737488355328):∃b,∀st,run Tryz.prog HH 67 [x.v] st=some (.ret (.bool b),st):=by
 refine⟨if 128<(x.cues.length:Int) then false else if anyP (fun q:Cu=>few129 q=false) x.cues=true then false else true,fun st=>?_⟩
 rw[run_shut F67 rfl rfl (by simp)]
 have hL0:=fun n=>L67 (g:=st.x.gl) (n:=n) hl _ 0 rfl
 push_cast[Lst.v]at hL0
 push_cast[Lst.v,hL0,lpE,lpX,lpI,lpB]
def add52:List Cu→Int→Option Int
 |[],_=>none
 |q::r,m=>if 20<(q.moves.length:Int)∨30<IntKind.i64.wrap (m+q.moves.length) then some 1 else add52 r (IntKind.i64.wrap (m+q.moves.length))
theorem L35 {x:Lst}(hx0:x.ok):∀r j,x.cues.drop j=r→∀m,runL Tryz.prog HH [1,3,4] n B35_0 [(1,.ep x.v 0),(3,.int .i64 m),(4,.int .i64 j)] (stN g n)=(match add52 r m with|none=>some (.exit 0,[],stN g n)|some _=>some (.ret,[(2,.bool (lstR x != 0))],stN g n)):=by
 have hl:=hx0.a
 have h91:=fun(st:St)=>f68 (st:=st) hx0
 refine drop_ind (fun j h m=>?_) (fun q r j h hx hd ih m=>?_)
 all_goals rw[runL_of B35_0.eq_1]
 ·have h1:¬(j:Int)<x.cues.length:=by omega
  push_cast[h1,add52,Lst.v]
 ·have h1:(j:Int)<x.cues.length:=by omega
  have hw:=iw1 (j:=j) (by omega)
  push_cast[Lst.v]at h91
  push_cast[h1,hw,hx,Lst.v,Cu.v,h91]at ih ⊢
  simp only[ih,add52]
  split<;>rfl
theorem f35 {x:Lst}(h:x.ok):∃b,∀st,run Tryz.prog HH 35 [x.v] st=some (.ret (.bool b),st):=by
 obtain⟨b,hb⟩:=f67 h.a
 have h91:=fun(st:St)=>f68 (st:=st) h
 have h0:=fun g n=>L35 (g:=g) (n:=n) h x.cues 0 rfl 0
 cases h2:add52 x.cues 0 with
 |none =>
  rw[h2]at h0
  push_cast[Lst.v]at h0 hb h91
  refine⟨if b=false then false else if 10<(x.cues.length:Int) then lstR x != 0 else true,fun st=>?_⟩
  rw[run_shut F35 rfl rfl (by simp)]
  push_cast[Lst.v,hb,h91,h0]
 |some k =>
  rw[h2]at h0
  push_cast[Lst.v]at h0 hb h91
  refine⟨if b=false then false else lstR x != 0,fun st=>?_⟩
  rw[run_shut F35 rfl rfl (by simp)]
  push_cast[Lst.v,hb,h91,h0]
open Classical in
noncomputable def few52 (x:Lst):Bool:=if h:x.ok then(f35 h).choose else false
theorem f35' {x:Lst}(h:x.ok){st:St}:run Tryz.prog HH 35 [x.v] st=some (.ret (.bool (few52 x)),st):=by
 unfold few52;rw[dif_pos h];exact(f35 h).choose_spec st
theorem L12_0 {x:Sho}(hx0:x.ok):∀r j,x.profs.drop j=r→runL Tryz.prog HH [1,3] n B12_0 [(1,.ep x.v 0),(3,.int .i64 j)] (stN g n)=lpB (stN g n) [(1,.ep x.v 0)] 2 (anyP (fun q=>few51 q=false) r) false:=by
 have hl:=hx0.p.1
 refine drop_ind (fun j h=>?_) (fun q r j h hx hd ih=>?_)
 all_goals rw[runL_of B12_0.eq_1]
 ·have h1:¬(j:Int)<x.profs.length:=by omega
  push_cast[h1,anyP,Sho.v,Prof.v]
 ·have h1:(j:Int)<x.profs.length:=by omega
  have hw:=iw1 (j:=j) (by omega)
  have hq:q.feats.length<140737488355328:=(hx0.p.2.1 q (mem_at hd)).a
  push_cast[h1,hw,hx,Sho.v,Prof.v,f34 hq]at ih ⊢
  simp only[ih,anyP,lps,Int.reduceEq,not_false_eq_true]
theorem L12_1 {x:Sho}(hx0:x.ok):∀r j,x.lsts.drop j=r→runL Tryz.prog HH [1,4] n B12_1 [(1,.ep x.v 0),(4,.int .i64 j)] (stN g n)=if anyN 10 (fun q=>few52 q=false) r j=true then some (.ret,[(2,.bool false)],stN g n) else some (.exit 2,[(1,.ep x.v 0)],stN g n):=by
 have hl:=hx0.k.1
 refine drop_ind (fun j h=>?_) (fun q r j h hx hd ih=>?_)
 all_goals rw[runL_of B12_1.eq_1]
 ·have h1:¬(j:Int)<x.lsts.length:=by omega
  push_cast[h1,anyN,Sho.v,Lst.v]
 ·have h1:(j:Int)<x.lsts.length:=by omega
  have hw:=iw1 (j:=j) (by omega)
  have hq:q.ok:=hx0.k.2 q (mem_at hd)
  push_cast[h1,hw,hx,Sho.v,Lst.v,f35' hq]at ih ⊢
  simp only[ih,anyN,lps,Int.reduceEq,not_false_eq_true]
  all_goals ((repeat' split)<;>simp_all)
theorem f12 {x:Sho}(h:x.ok):∃b,∀st,run Tryz.prog HH 12 [x.v] st=some (.ret (.bool b),st):=by
 obtain⟨b1,h1⟩:=f32 h.c.1
 obtain⟨b2,h2⟩:=f33 (l:=x.fixts) h.p.1
 obtain⟨b3,h3⟩:=f16 h.g.1
 obtain⟨b4,h4⟩:=f15 h.l.1
 obtain⟨b5,h5⟩:=f17 h.s.1
 obtain⟨b6,h6⟩:=f18 (l:=x.effs)
 have k0:=fun g n=>L12_0 (g:=g) (n:=n) h x.profs 0 rfl
 have k1:=fun g n=>L12_1 (g:=g) (n:=n) h x.lsts 0 rfl
 push_cast[Sho.v]at k0 k1
 apply Exists.intro
 intro st
 rw[run_shut F12 rfl rfl (by simp)]
 push_cast[Sho.v,h1,h2,h3,h4,h5,h6,k0,k1,lpB]
 exact rfl
end Go.Proofs.YtmjkgajnpmiomaaGreatDoor

namespace Go.Proofs.YtmjkgajnpmiomaaGreatDoor
open Go.Sha
set_option maxRecDepth 100000
theorem f5 {s:Sho}(h:s.ok){b:Bool}(hF:∀st:St,run Tryz.prog HH 12 [s.v] st=some (.ret (.bool b),st)){st:St}:run Tryz.prog HH 5 [s.v] st=some (.ret (.bool (b&&shoC s == 0)),st):=by
 have h18:=fun(st:St)=>f13 h (st:=st)
 rw[run_shut F5 rfl rfl (by simp)]
 push_cast[Sho.v]at hF h18
 cases b with
 |true=>push_cast[Sho.v,hF,h18]
 |false=>push_cast[Sho.v,hF]
end Go.Proofs.YtmjkgajnpmiomaaGreatDoor

namespace Go.Proofs.YtmjkgajnpmiomaaGreatDoor
open Go.Sha
set_option maxRecDepth 100000
variable {g:List (Nat×Obj)}{n:Nat}
def cmpE (a b:Int):Int:=if a<b then -1 else if b<a then 1 else 0
theorem f101 {a b:Int}{st:St}:run Tryz.prog HH 101 [.int .i64 a,.int .i64 b] st=some (.ret (.int .i64 (cmpE a b)),st):=by
 rw[run_shut F101 rfl rfl (by simp)]
 unfold cmpE
 by_cases h1:a<b
 ·push_cast[h1]
 ·by_cases h2:b<a
  ·push_cast[h1,h2]
  ·push_cast[h1,h2]
theorem f111 {x:Eff}{v:Int}{st:St}:run Tryz.prog HH 111 [x.v,.int .i64 v] st=some (.ret (.int .i64 (cmpE x.num v)),st):=by
 rw[run_shut F111 rfl rfl (by simp)]
 push_cast[Eff.v,f101]
theorem f100 {x:Lst}{v:Int}{st:St}:run Tryz.prog HH 100 [x.v,.int .i64 v] st=some (.ret (.int .i64 (cmpE x.num v)),st):=by
 rw[run_shut F100 rfl rfl (by simp)]
 push_cast[Lst.v,f101]
def effP (v:Int)(y:Eff):Int:=cmpE y.num v
def lstP' (v:Int)(y:Lst):Int:=cmpE y.num v
theorem f112p {l:List Eff}{v:Int}(hl:l.length<140737488355328){st:St}:run Tryz.prog HH 110 [.sl (l.map Eff.v),.int .i64 v,.fn (.func 111) [] []] st=some (.ret (.tup [.int .i64 (bsR (effP v) l),.bool (bsF (effP v) l)]),st) :=
 BsF (f:=Eff.v) (es:=6) (fun _=>rfl) (fun _=>rfl) F110 rfl (by simp) hl (fun x st=>f111) (fun _ _=>rfl) (fun _=>rfl)
theorem f101p {l:List Lst}{v:Int}(hl:l.length<140737488355328){st:St}:run Tryz.prog HH 99 [.sl (l.map Lst.v),.int .i64 v,.fn (.func 100) [] []] st=some (.ret (.tup [.int .i64 (bsR (lstP' v) l),.bool (bsF (lstP' v) l)]),st) :=
 BsF (f:=Lst.v) (es:=3) (fun _=>rfl) (fun _=>rfl) F99 rfl (by simp) hl (fun x st=>f100) (fun _ _=>rfl) (fun _=>rfl)
theorem bsI_le {c:Nat→Int}(i j:Nat)(h:i≤j):bsI c i j≤j:=by
 induction i,j using bsI.induct c with
 |case1 i j h1 h2 ih=>rw[bsI,dif_pos h1,if_pos h2];exact ih (by omega)
 |case2 i j h1 h2 ih=>rw[bsI,dif_pos h1,if_neg h2];have:=ih (by omega);omega
 |case3 i j h1=>rw[bsI,dif_neg h1];omega
theorem bsR_len {α:Type}[Inhabited α]{c:α→Int}{l:List α}:bsR c l≤l.length:=bsI_le _ _ (Nat.zero_le _)
theorem bsF_len {α:Type}[Inhabited α]{c:α→Int}{l:List α}(h:bsF c l=true):bsR c l<l.length:=by
 unfold bsF at h
 simp only[Bool.and_eq_true,decide_eq_true_eq]at h
 omega
def effN (x:Eff)(l:List Eff):List Eff:=if bsF (effP x.num) l=true then l.set (bsR (effP x.num) l) x else l.take (bsR (effP x.num) l)++[x]++l.drop (bsR (effP x.num) l)
def stE (g:List (Nat×Obj))(s:Sho)(e:Edi):St:=⟨5,[(3,edC s e),(2,[.str [],.nils,.nils,.nils,.nils,.nils,.nils,.nils,.nils])],[],⟨[],g,[]⟩⟩
def stE' (g:List (Nat×Obj))(s:Sho)(e:Edi)(l:List Eff)(r:List (Nat×Arr))(nx:Nat):St:=⟨nx,[(3,(edC s e).set 8 (.osl 5 l.length)),(2,[.str [],.nils,.nils,.nils,.nils,.nils,.nils,.nils,.nils])],r++[(5,⟨53,6,l.map Eff.v,true,false⟩)],⟨[],g,[]⟩⟩
theorem f57r {s:Sho}{e:Edi}(hl:s.effs.length<1000000):∃r nx,run Tryz.prog HH 55 [.ptr 3 0] (stE g s e)=some (.ret (.int .i64 0),stE' g s e (effN e.eff s.effs) r nx)∧(r=[]∧nx=6∨∃a,r=[(6,a)]∧nx=7):=by
 have h112:=fun(st:St)=>f112p (l:=s.effs) (v:=e.eff.num) (st:=st) (by omega)
 have h114:=fun(st:St)=>r_cln (k:=112) (e:=53) (es:=6) (b:=64) (f:=Eff.v) (l:=s.effs) (st:=st) (fun _ _=>rfl) (fun _=>rfl) (fun _=>rfl) (by omega) (by omega)
 unfold stE stE'
 rw[edC_eq]
 rw[run_open F55 rfl rfl (by simp)]
 push_cast[Eff.v]at h112 h114
 cases hf:bsF (effP e.eff.num) s.effs with
 |true =>
  refine⟨[],6,?_,.inl ⟨rfl,rfl⟩⟩
  have hlt:=bsF_len hf
  have hlt':((bsR (effP e.eff.num) s.effs:Nat):Int)<s.effs.length:=by omega
  have en:effN e.eff s.effs=s.effs.set (bsR (effP e.eff.num) s.effs) e.eff:=if_pos hf
  rw[en]
  generalize bsR (effP e.eff.num) s.effs=k at *
  have hy:s.effs[k]?=some (s.effs[k]'hlt):=List.getElem?_eq_getElem hlt
  generalize s.effs[k]'hlt=y at *
  have hset:(s.effs.map Eff.v).set k e.eff.v=(s.effs.set k e.eff).map Eff.v:=by rw[List.map_set]
  push_cast[Eff.v]at hset
  push_cast[h112,h114,hf,hlt,hlt',hy,Eff.v,V.cells,V.recell,stoB,hset,List.length_set,List.set_cons_succ,List.set_cons_zero,List.nil_append]
 |false =>
  have hr:bsR (effP e.eff.num) s.effs≤s.effs.length:=bsR_len
  have en:effN e.eff s.effs=s.effs.take (bsR (effP e.eff.num) s.effs)++[e.eff]++s.effs.drop (bsR (effP e.eff.num) s.effs):=if_neg (by simp[hf])
  have e6:(s.effs.map Eff.v).take (bsR (effP e.eff.num) s.effs)++[e.eff.v]++(s.effs.map Eff.v).drop (bsR (effP e.eff.num) s.effs)=(effN e.eff s.effs).map Eff.v:=by rw[en];simp
  have e7:(effN e.eff s.effs).length=s.effs.length+1:=by rw[en];simp;omega
  rw[e7]
  refine⟨[(6,⟨53,6,[e.eff.v],false,false⟩)],7,?_,.inr ⟨_,rfl,rfl⟩⟩
  generalize bsR (effP e.eff.num) s.effs=k at *
  rw[Eff.v]at e6
  push_cast[h112,h114,hf,Eff.v,V.cells,V.recell,stoB]
  rw[r_ins (e:=53) (e':=53) (es:=6) (b:=64) (n:=s.effs.length) (m:=1) (i:=k) (xs:=s.effs.map Eff.v) (ys:=[V.agg [.int .i64 e.eff.num,.int .i64 e.eff.attr,.sl (e.eff.wave.map Pt.v),.int .i64 e.eff.period,.int .i64 e.eff.spread,.int .i64 e.eff.size]]) (zs:=[V.agg [.int .i64 e.eff.num,.int .i64 e.eff.attr,.sl (e.eff.wave.map Pt.v),.int .i64 e.eff.period,.int .i64 e.eff.spread,.int .i64 e.eff.size]]) (wr':=false) (fun _ _=>rfl) rfl rfl (by simp) rfl (by decide) (by decide) (by omega) (by omega) (by decide) rfl,e6]
  push_cast[updA,List.set_cons_succ,List.set_cons_zero,List.cons_append,List.nil_append]
  exact dn_eq e7 rfl
theorem f57c {s:Sho}{e:Edi}(hl:s.effs.length<1000000):hCls (run Tryz.prog HH) 55 [.ptr 3 0] (stE g s e)=some (.ret (.int .i64 0),stE g { s with effs:=effN e.eff s.effs } e):=by
 obtain⟨r,nx,h,⟨rfl,rfl⟩|⟨a,rfl,rfl⟩⟩:=f57r (g:=g) (s:=s) (e:=e) hl
 ·rw[hCls,h]
  push_cast[stE',stE,edC_eq,clsS,clsK,frzA,frzK,clsV,snap1,List.map,List.set_cons_succ,List.set_cons_zero,List.nil_append]
 ·rw[hCls,h]
  push_cast[stE',stE,edC_eq,clsS,clsK,frzA,frzK,clsV,snap1,List.map,List.set_cons_succ,List.set_cons_zero,List.cons_append,List.nil_append]
def effDl (l:List Eff)(v:Int):Int:=gonE (if effsC l=0 then bsF (effB v) l else false) (effsC l)
theorem effDl_0 {l:List Eff}{v:Int}:(effDl l v=0)=(effsC l=0∧bsF (effB v) l=true):=by
 unfold effDl gonE
 by_cases h:effsC l=0
 ·cases hf:bsF (effB v) l<;>simp[h]
 ·simp[h]
theorem effDl_n {l:List Eff}{v:Int}(h:¬(effsC l=0∧bsF (effB v) l=true)):¬effDl l v=0:=by rw[effDl_0];exact h
theorem f58c {s:Sho}{e:Edi}(hv:-9223372036854775808≤e.num∧e.num≤9223372036854775807)(hl:s.effs.length<1000000)(hb:∀q∈s.effs,q.wave.length<140737488355328):hCls (run Tryz.prog HH) 56 [.ptr 3 0] (stE g s e)=some (.ret (.int .i64 (effDl s.effs e.num)),stE g { s with effs:=if effDl s.effs e.num=0 then delT Eff.num e.num s.effs else s.effs } e):=by
 have h116:=fun(st:St)=>f114 hl hb (v:=e.num) (st:=st)
 have h114:=fun(st:St)=>r_cln (k:=112) (e:=53) (es:=6) (b:=64) (f:=Eff.v) (l:=s.effs) (st:=st) (fun _ _=>rfl) (fun _=>rfl) (fun _=>rfl) (by omega) (by omega)
 have h100:=fun(b:Bool) (c:Int) (st:St)=>f98 (b:=b) (c:=c) (st:=st)
 push_cast[Eff.v]at h116 h114
 by_cases c1:effsC s.effs=0
 ·cases hf:bsF (effB e.num) s.effs with
  |true =>
   have hD:effDl s.effs e.num=0:=by rw[effDl_0];exact⟨c1,hf⟩
   rw[hD,if_pos rfl]
   obtain⟨e4,h1,ha⟩:=effs_ok c1
   have hw0:=bs_wrap (v:=e.num) (fun y hy=>eff_range (h1 y hy)) ha hv
   have hv':1≤e.num∧e.num≤1048576:=by
    have e:=hw0.1
    rw[show(fun y:Eff=>IntKind.i64.wrap (y.num-_))=effB _ from rfl,hf]at e
    obtain⟨y,hy,h⟩:=List.any_eq_true.1 e.symm
    have h:=of_decide_eq_true h
    rw[←h]
    exact eff_range (h1 y hy)
   have hc:CmpK Eff.num e.num (effB e.num) s.effs:=hw0.2 hv'
   have e1:=del_hit ha hc hf
   have e2:=bsF_len hf
   have e6:(s.effs.map Eff.v).take (bsR (effB e.num) s.effs)++(s.effs.map Eff.v).drop (bsR (effB e.num) s.effs+1)=(delT Eff.num e.num s.effs).map Eff.v:=by rw[←e1];simp
   have e3:s.effs.length-1=(delT Eff.num e.num s.effs).length:=by rw[←e1];simp;omega
   have hraw:run Tryz.prog HH 56 [.ptr 3 0] (stE g s e)=some (.ret (.int .i64 0),⟨7,[(3,(edC s e).set 8 (.osl 6 (delT Eff.num e.num s.effs).length)),(2,[.str [],.nils,.nils,.nils,.nils,.nils,.nils,.nils,.nils])],[(6,⟨53,6,(delT Eff.num e.num s.effs).map Eff.v,true,false⟩)],⟨[],g,[]⟩⟩):=by
    unfold stE
    rw[edC_eq]
    rw[run_open F56 rfl rfl (by simp)]
    generalize bsR (effB e.num) s.effs=r at *
    have hw:IntKind.i64.wrap ((r:Int)+1)=((r+1:Nat):Int):=iwrap (by omega) (by omega)
    push_cast[h116,h114,c1,hf,hw,Eff.v]
    rw[show((r:Int)+1)=((r+1:Nat):Int) by omega,r_del (e:=53) (es:=6) (n:=s.effs.length) (i:=r) (xs:=s.effs.map Eff.v) (fun _ _=>rfl) rfl (by simp) e2,e6]
    push_cast[e3,delA,List.set_cons_succ,List.set_cons_zero]
   rw[hCls,hraw]
   push_cast[stE,edC_eq,clsS,clsK,frzA,frzK,clsV,snap1,List.map,List.set_cons_succ,List.set_cons_zero]
  |false =>
   have hD:¬effDl s.effs e.num=0:=effDl_n (by simp[hf])
   have hraw:run Tryz.prog HH 56 [.ptr 3 0] (stE g s e)=some (.ret (.int .i64 (effDl s.effs e.num)),stE g s e):=by
    unfold stE
    rw[edC_eq]
    rw[run_open F56 rfl rfl (by simp)]
    push_cast[h116,h100,c1,hf,effDl]
   rw[hCls,hraw]
   push_cast[stE,edC_eq,clsS,clsK,frzA,frzK,clsV,List.map,hD]
 ·have hD:¬effDl s.effs e.num=0:=effDl_n (by simp[c1])
  have hraw:run Tryz.prog HH 56 [.ptr 3 0] (stE g s e)=some (.ret (.int .i64 (effDl s.effs e.num)),stE g s e):=by
   unfold stE
   rw[edC_eq]
   rw[run_open F56 rfl rfl (by simp)]
   push_cast[h116,h100,c1,effDl,false_and]
  rw[hCls,hraw]
  push_cast[stE,edC_eq,clsS,clsK,frzA,frzK,clsV,List.map,hD]
end Go.Proofs.YtmjkgajnpmiomaaGreatDoor

namespace Go.Proofs.YtmjkgajnpmiomaaGreatDoor
open Go.Sha
set_option maxRecDepth 100000
variable {g:List (Nat×Obj)}{n:Nat}
def priN (v p:Int)(l:List Lst):List Lst:=match bsF (lstP' v) l,l[bsR (lstP' v) l]? with
 |true,some y=>l.set (bsR (lstP' v) l) { y with prio:=p }
 |_,_=>l.take (bsR (lstP' v) l)++[⟨v,p,[]⟩]++l.drop (bsR (lstP' v) l)
theorem f50c {s:Sho}{e:Edi}(hl:s.lsts.length<1000000):hCls (run Tryz.prog HH) 48 [.ptr 3 0] (stE g s e)=some (.ret (.int .i64 0),stE g { s with lsts:=priN e.num e.prio s.lsts } e):=by
 have h101:=fun(st:St)=>f101p (l:=s.lsts) (v:=e.num) (st:=st) (by omega)
 have h104:=fun(st:St)=>r_cln (k:=102) (e:=98) (es:=3) (b:=40) (f:=Lst.v) (l:=s.lsts) (st:=st) (fun _ _=>rfl) (fun _=>rfl) (fun _=>rfl) (by omega) (by omega)
 push_cast[Lst.v]at h101 h104
 cases hf:bsF (lstP' e.num) s.lsts with
 |true =>
  have hlt:=bsF_len hf
  have hy:s.lsts[bsR (lstP' e.num) s.lsts]?=some (s.lsts[bsR (lstP' e.num) s.lsts]'hlt):=List.getElem?_eq_getElem hlt
  generalize hyy:s.lsts[bsR (lstP' e.num) s.lsts]'hlt=y at hy
  have en:priN e.num e.prio s.lsts=s.lsts.set (bsR (lstP' e.num) s.lsts) { y with prio:=e.prio }:=by rw[priN,hf,hy]
  rw[en]
  have hraw:run Tryz.prog HH 48 [.ptr 3 0] (stE g s e)=some (.ret (.int .i64 0),⟨6,[(3,(edC s e).set 6 (.osl 5 (s.lsts.set (bsR (lstP' e.num) s.lsts) { y with prio:=e.prio }).length)),(2,[.str [],.nils,.nils,.nils,.nils,.nils,.nils,.nils,.nils])],[(5,⟨98,3,(s.lsts.set (bsR (lstP' e.num) s.lsts) { y with prio:=e.prio }).map Lst.v,true,false⟩)],⟨[],g,[]⟩⟩):=by
   unfold stE
   rw[edC_eq]
   rw[run_open F48 rfl rfl (by simp)]
   generalize bsR (lstP' e.num) s.lsts=k at *
   have hlt':(k:Int)<s.lsts.length:=by omega
   have hset:(s.lsts.map Lst.v).set k ({ y with prio:=e.prio }:Lst).v=(s.lsts.set k { y with prio:=e.prio }).map Lst.v:=by rw[List.map_set]
   push_cast[Lst.v]at hset
   push_cast[h101,h104,hf,hlt,hlt',hy,Lst.v,V.cells,V.recell,stoB,hset,List.length_set,List.set_cons_succ,List.set_cons_zero]
  rw[hCls,hraw]
  generalize s.lsts.set (bsR (lstP' e.num) s.lsts) { y with prio:=e.prio }=L
  push_cast[stE,edC_eq,clsS,clsK,frzA,frzK,clsV,snap1,List.map,List.set_cons_succ,List.set_cons_zero]
 |false =>
  have hr:bsR (lstP' e.num) s.lsts≤s.lsts.length:=bsR_len
  have en:priN e.num e.prio s.lsts=s.lsts.take (bsR (lstP' e.num) s.lsts)++[⟨e.num,e.prio,[]⟩]++s.lsts.drop (bsR (lstP' e.num) s.lsts):=by rw[priN,hf]
  rw[en]
  generalize bsR (lstP' e.num) s.lsts=k at *
  have e7:(s.lsts.take k++[(⟨e.num,e.prio,[]⟩:Lst)]++s.lsts.drop k).length=s.lsts.length+1:=by simp;omega
  have e5:((s.lsts.map Lst.v).take k++[V.agg [.int .i64 e.num,.int .i64 0,.sl []]]++(s.lsts.map Lst.v).drop k)[k]?=some (V.agg [.int .i64 e.num,.int .i64 0,.sl []]):=by
   rw[List.append_assoc,List.getElem?_append_right (by simp;omega)]
   simp[Nat.min_eq_left hr]
  have e6:((s.lsts.map Lst.v).take k++[V.agg [.int .i64 e.num,.int .i64 0,.sl []]]++(s.lsts.map Lst.v).drop k).set k (V.agg [.int .i64 e.num,.int .i64 e.prio,.sl []])=(s.lsts.take k++[(⟨e.num,e.prio,[]⟩:Lst)]++s.lsts.drop k).map Lst.v:=by
   rw[List.append_assoc,List.set_append_right _ _ (by simp;omega)]
   simp[Nat.min_eq_left hr,Lst.v]
  generalize s.lsts.take k++[(⟨e.num,e.prio,[]⟩:Lst)]++s.lsts.drop k=L at *
  have hraw:run Tryz.prog HH 48 [.ptr 3 0] (stE g s e)=some (.ret (.int .i64 0),⟨7,[(3,(edC s e).set 6 (.osl 5 L.length)),(2,[.str [],.nils,.nils,.nils,.nils,.nils,.nils,.nils,.nils])],[(6,⟨98,3,[V.agg [.int .i64 e.num,.int .i64 0,.sl []]],false,false⟩),(5,⟨98,3,L.map Lst.v,true,false⟩)],⟨[],g,[]⟩⟩):=by
   rw[e7]
   unfold stE
   rw[edC_eq]
   rw[run_open F48 rfl rfl (by simp)]
   push_cast[h101,h104,hf,Lst.v,V.cells,V.recell,stoB]
   rw[r_ins (e:=98) (e':=98) (es:=3) (b:=40) (n:=s.lsts.length) (m:=1) (i:=k) (xs:=s.lsts.map Lst.v) (ys:=[V.agg [.int .i64 e.num,.int .i64 0,.sl []]]) (zs:=[V.agg [.int .i64 e.num,.int .i64 0,.sl []]]) (wr':=false) (fun _ _=>rfl) rfl rfl (by simp) rfl (by decide) (by decide) (by omega) (by omega) (by decide) rfl]
   have e8:(k:Int)<s.lsts.length+1:=by omega
   have e9:k<s.lsts.length+1:=by omega
   have e10:((s.lsts.map Lst.v).take k++[V.agg [.int .i64 e.num,.int .i64 0,.sl []]]++(s.lsts.map Lst.v).drop k).length=s.lsts.length+1:=by simp;omega
   generalize (s.lsts.map Lst.v).take k++[V.agg [.int .i64 e.num,.int .i64 0,.sl []]]++(s.lsts.map Lst.v).drop k=X at *
   push_cast[updA,e5,e6,e8,e9,e10,V.cells,V.recell,stoB,List.set_cons_succ,List.set_cons_zero]
  rw[hCls,hraw]
  push_cast[stE,edC_eq,clsS,clsK,frzA,frzK,clsV,snap1,List.map,List.set_cons_succ,List.set_cons_zero]
end Go.Proofs.YtmjkgajnpmiomaaGreatDoor

namespace Go.Proofs.YtmjkgajnpmiomaaGreatDoor
open Go.Sha
set_option maxRecDepth 10000
theorem F188:compF Tryz.prog 188=some ⟨17,[.cell 4 (some 2),.tmp 5],(.g [.s 4 (.alloc 257 [.nils,.nilm]),.c 5 0] (.join [0,1,4] (.g [.m 7 0,.m 8 1,.g' 9 135 7 8,.m 6 9] (.g [.m 10 6,.v 11 .neq 10 0] (.i 11 (.g [.s 12 (.build [.nils,.nilm] []),.m 13 6,.w 2 4 12,.m 5 13] (.ret [4,5])) .skip))) (.g [.m 14 0,.m 15 1,.g' 16 217 14 15,.w 2 4 16,.c 5 0] (.ret [4,5]))))⟩:=by kernel_rfl
end Go.Proofs.YtmjkgajnpmiomaaGreatDoor

namespace Go.Proofs.YtmjkgajnpmiomaaGreatDoor
open Go.Sha
set_option maxRecDepth 10000
theorem F191:compF Tryz.prog 191=some ⟨14,[.tmp 4,.tmp 5],(.g [.s 4 (.mv (.c .nils)),.c 5 0] (.join [0] (.g [.m 7 0,.m 8 1,.g' 9 135 7 8,.m 6 9] (.g [.m 10 6,.v 11 .neq 10 0] (.i 11 (.g [.m 12 6,.s 4 (.mv (.c .nils)),.m 5 12] (.ret [4,5])) .skip))) (.g [.m 13 0,.m 4 13,.c 5 0] (.ret [4,5]))))⟩:=by kernel_rfl
theorem F93:compF Tryz.prog 93=some ⟨14,[.cell 3 (some 3),.tmp 4],(.g [.q 2 98 0,.s 3 (.alloc 98 [.i 0,.i 0,.nils]),.c 4 0] (.z [2] (.q (.dreg 9 [.d 5 3 2,.l 6 1,.s 7 (.k 6),.a 8 9 7,.a 9 5 8,.d 10 9 9,.g' 11 94 5 10,.j 12 0 11,.j 13 1 11,.w 3 3 12,.m 4 13]) (.ret [3,4]))))⟩:=by kernel_rfl
theorem F95:compF Tryz.prog 95=some ⟨34,[.cell 3 (some 3),.tmp 4],(.g [.q 2 98 0,.s 3 (.alloc 98 [.i 0,.i 0,.nils]),.c 4 0] (.z [2] (.join [1,2,3] (.g [.l 9 1,.s 10 (.k 9),.a 11 9 10,.a 12 4 11,.l 13 12,.f 14 96 13,.m 5 14] (.g [.m 15 5,.v 16 .neq 15 0] (.i 16 (.g [.s 17 (.build [.i 0,.i 0,.nils] []),.m 18 5,.w 3 3 17,.m 4 18] (.ret [3,4])) .skip))) (.join [3,6,7,8] (.greg [] [] [[],[],[],[],[],[],[],[],[],[],[],[true,true,true,true,true,true,true,true,true,true,true],[false,true,true,false,false,false,false,false,false,false,false,false],[],[]] [.d 20 3 2,.l 21 1,.s 22 (.k 21),.a 23 9 22,.a 24 4 23,.l 25 24,.g' 26 97 20 25,.m 19 26,.j 27 0 19,.j 28 1 19,.j 29 2 19,.s 6 (.alloc 98 [.i 0,.i 0,.nils]),.w 3 6 27,.m 7 28,.m 8 29]) (.z [6] (.join [3,4] (.greg [] [] [[],[],[],[],[false,false,false,false],[]] [.d 30 3 6,.m 31 7,.m 32 8,.g' 33 98 31 32,.w 3 3 30,.m 4 33]) (.ret [3,4])))))))⟩:=by kernel_rfl
end Go.Proofs.YtmjkgajnpmiomaaGreatDoor

namespace Go.Proofs.YtmjkgajnpmiomaaGreatDoor
open Go.Sha
set_option maxRecDepth 100000
variable {g:List (Nat×Obj)}{n:Nat}
theorem f188 {l:List Fixt}{ps:List Prof}(hl:l.length<140737488355328)(hb:∀x∈l,x.cable.length<140737488355328)(hp:ps.length<140737488355328){st:St} :
  run Tryz.prog HH 188 [.sl (l.map Fixt.v),.sl (ps.map Prof.v)] st=some (.ret (.tup [if fixCR l ps=0 then rigV l (dedP ps) else .agg [.sl [],.nilm],.int .i64 (fixCR l ps)]),st):=by
 have h137:=fun(st:St)=>f135 (l:=l) (ps:=ps) (st:=st) hl hb hp
 have h219:=fun(st:St)=>f217 (l:=l) (ps:=ps) (st:=st) hp
 push_cast[rigV]at h219
 rw[run_shut F188 rfl rfl (by simp)]
 by_cases c:fixCR l ps=0
 ·push_cast[h137,h219,c,rigV]
 ·push_cast[h137,c]
theorem f191 {l:List Fixt}{ps:List Prof}(hl:l.length<140737488355328)(hb:∀x∈l,x.cable.length<140737488355328)(hp:ps.length<140737488355328){st:St} :
  run Tryz.prog HH 191 [.sl (l.map Fixt.v),.sl (ps.map Prof.v)] st=some (.ret (.tup [.sl ((if fixCR l ps=0 then l else[]).map Fixt.v),.int .i64 (fixCR l ps)]),st):=by
 have h137:=fun(st:St)=>f135 (l:=l) (ps:=ps) (st:=st) hl hb hp
 rw[run_shut F191 rfl rfl (by simp)]
 by_cases c:fixCR l ps=0
 ·push_cast[h137,c]
 ·push_cast[h137,c,List.map_nil]
def fixI (l:List Fixt)(c d:Int):Int:=ix (fun x=>decide (x.chan=c)&&x.part == d) l 0
def fixX (l:List Fixt)(c d:Int):List Fixt:=if fixI l c d<0 then l else l.take (fixI l c d).toNat++l.drop ((fixI l c d).toNat+1)
theorem fixI_lt {l:List Fixt}{c d:Int}:-1≤fixI l c d∧fixI l c d<l.length:=by
 unfold fixI
 cases h:l.find? (fun x=>decide (x.chan=c)&&x.part == d) with
 |none=>rw[ix_find.1 h];omega
 |some x =>
  obtain⟨k,h1,h2,-⟩:=ix_find.2 x h
  rw[h1];omega
theorem f117 {l:List Fixt}{ps:List Prof}{c d:Int}(hl:l.length<1000000)(hb:∀x∈l,x.cable.length<140737488355328)(hp:ps.length<140737488355328){st:St} :
  run Tryz.prog HH 117 [.sl (l.map Fixt.v),.sl (ps.map Prof.v),.int .i64 c,.int .i64 d] st=some (.ret (.tup [.sl ((if fixCR l ps=0 then fixX l c d else[]).map Fixt.v),.bool (decide (fixCR l ps=0∧0≤fixI l c d)),.int .i64 (fixCR l ps)]),st):=by
 have h190:=fun(st:St)=>f188 (l:=l) (ps:=ps) (st:=st) (by omega) hb hp
 have h192:=fun(st:St)=>f190 (l:=l) (ps:=dedP ps) (c:=c) (d:=d) (st:=st) (by omega)
 have h191:=fun(st:St)=>r_cln (k:=189) (e:=55) (es:=7) (b:=72) (f:=Fixt.v) (l:=l) (st:=st) (fun _ _=>rfl) (fun _=>rfl) (fun _=>rfl) (by omega) (by omega)
 rw[run_shut F117 rfl rfl (by simp)]
 rw[show ix (fun x:Fixt=>decide (x.chan=c)&&x.part == d) l 0=fixI l c d from rfl]at h192
 obtain⟨i1,i2⟩:=fixI_lt (l:=l) (c:=c) (d:=d)
 by_cases c1:fixCR l ps=0
 ·rw[c1,if_pos rfl]at h190
  push_cast[rigV,Fixt.v]at h190 h191 h192
  by_cases c2:fixI l c d<0
  ·have c3:¬0≤fixI l c d:=by omega
   have e1:fixX l c d=l:=if_pos c2
   push_cast[h190,h191,h192,c1,c2,c3,e1,Fixt.v]
  ·have c3:0≤fixI l c d:=by omega
   have e1:fixX l c d=l.take (fixI l c d).toNat++l.drop ((fixI l c d).toNat+1):=if_neg c2
   have hw:IntKind.i64.wrap (fixI l c d+1)=fixI l c d+1:=iwrap (by omega) (by omega)
   have h194:∀st,run Tryz.prog HH 192 [.sl [.sl ((l.take (fixI l c d).toNat).map Fixt.v),.sl ((l.drop ((fixI l c d).toNat+1)).map Fixt.v)]] st=some (.ret (.sl ((fixX l c d).map Fixt.v)),st):=fun st=>by
    have h:=f192 (ls:=[l.take (fixI l c d).toNat,l.drop ((fixI l c d).toNat+1)]) (st:=st) (by simp) (by simp[sumN];omega)
    rw[show[l.take (fixI l c d).toNat,l.drop ((fixI l c d).toNat+1)].flatten=fixX l c d by rw[e1];simp]at h
    exact h
   have h7:(fixI l c d+1).toNat=(fixI l c d).toNat+1:=by omega
   push_cast[Fixt.v]at h194
   push_cast[h190,h192,h194,c1,c2,c3,hw,h7,Fixt.v,List.take_length]
   exact dn_eq (by omega) rfl
 ·rw[if_neg c1]at h190
  push_cast[h190,c1,false_and,decide_false,List.map_nil]
def fixD (l:List Fixt)(ps:List Prof)(c d:Int):Int:=gonE (decide (fixCR l ps=0∧0≤fixI l c d)) (fixCR l ps)
variable {s:Sho}{e:Edi}{id:Nat}{st:St}
theorem f58 (h:Sha.look st.mem id=some (edC s e))(hl:s.fixts.length<1000000)(hb:∀x∈s.fixts,x.cable.length<140737488355328)(hp:s.profs.length<140737488355328) :
  run Tryz.prog HH 58 [.ptr id 0] st=some (.ret (.int .i64 (fixD s.fixts s.profs e.chan e.num)),⟨st.nx,updM st.mem id (edC { s with fixts:=if fixCR s.fixts s.profs=0 then fixX s.fixts e.chan e.num else[] } e),st.arr,st.x⟩):=by
 have h119:=fun(st:St)=>f117 hl hb hp (c:=e.chan) (d:=e.num) (st:=st)
 have h100:=fun(b:Bool) (c:Int) (st:St)=>f98 (b:=b) (c:=c) (st:=st)
 rw[edC_eq]at h ⊢
 rw[run_open F58 rfl rfl (by simp)]
 push_cast[Fixt.v,Prof.v]at h119
 push_cast[h,h119,h100,fixD]
end Go.Proofs.YtmjkgajnpmiomaaGreatDoor

namespace Go.Proofs.YtmjkgajnpmiomaaGreatDoor
open Go.Sha
set_option maxRecDepth 100000
variable {g:List (Nat×Obj)}{n:Nat}
def lstI (l:List Lst)(v:Int):Int:=ix (fun x=>x.num == v) l 0
def fndC (s:Sho)(v:Int):Int:=if ¬shoC s=0 then shoC s else if lstI s.lsts v<0 then 6 else 0
theorem f156 {s:Sho}{v:Int}(hs:s.ok)(hl:s.lsts.length<140737488355328){st:St} :
  run Tryz.prog HH 156 [s.v,.int .i64 v] st=some (.ret (.tup [.int .i64 (if fndC s v=0 then lstI s.lsts v else 0),.int .i64 (fndC s v)]),st):=by
 have h23:=fun(st:St)=>f21 hs (st:=st)
 have h300:=fun(st:St)=>f298 (l:=s.lsts) (v:=v) hl (st:=st)
 rw[show ix (fun x:Lst=>x.num == v) s.lsts 0=lstI s.lsts v from rfl]at h300
 push_cast[Sho.v,Lst.v]at h23 h300
 have h234:∀st:St,run Tryz.prog HH 232 [s.v,.sl (s.lsts.map Lst.v),.int .i64 v,.fn (.func 233) [] []] st=some (.ret (.tup [.int .i64 (if fndC s v=0 then lstI s.lsts v else 0),.int .i64 (fndC s v)]),st):=fun st=>by
  rw[run_shut F232 rfl rfl (by simp)]
  unfold fndC
  by_cases c1:shoC s=0
  ·by_cases c2:lstI s.lsts v<0
   ·push_cast[Sho.v,Lst.v,h23,h300,c1,c2]
   ·push_cast[Sho.v,Lst.v,h23,h300,c1,c2]
  ·push_cast[Sho.v,Lst.v,h23,c1]
 push_cast[Sho.v,Lst.v]at h234
 rw[run_shut F156 rfl rfl (by simp)]
 push_cast[Sho.v,Lst.v,h234]
theorem lstI_lt {l:List Lst}{v:Int}:-1≤lstI l v∧lstI l v<l.length:=by
 unfold lstI
 cases h:l.find? (fun x=>x.num == v) with
 |none=>rw[ix_find.1 h];omega
 |some x =>
  obtain⟨k,h1,h2,-⟩:=ix_find.2 x h
  rw[h1];omega
def stF (g:List (Nat×Obj))(s:Sho)(e:Edi):St:=⟨6,[(3,edC s e),(2,[.str [],.nils,.nils,.nils,.nils,.nils,.nils,.nils,.nils])],[],⟨[],g,[]⟩⟩
end Go.Proofs.YtmjkgajnpmiomaaGreatDoor

namespace Go.Proofs.YtmjkgajnpmiomaaGreatDoor
open Go.Sha
set_option maxRecDepth 100000
theorem e4 (g:List (Nat×Obj)):evK Tryz.prog HH 100 30 4 [] (stG g)=some (.ret (.bool true),stG g):=by kernel_rfl
theorem at_gl {f:FuncId}{args:List V}{st:St}{r:VRes}(h:run Tryz.prog HH f args (stG st.x.gl)=some (r,stG st.x.gl))(hF:(compF Tryz.prog f).isSome=true)(hH:∀s:St,HH f args s=none)(hb:V.bdL 0 args=true):run Tryz.prog HH f args st=some (r,st):=by
 obtain⟨F,hF⟩:=Option.isSome_iff_exists.1 hF
 rw[run_eq (hH _) hF]at h ⊢
 unfold endF at h ⊢
 split at h
 ·rename_i hl
  rw[if_pos hl,if_pos hb]
  change shutR (stG st.x.gl) (rawE F.res (runC Tryz.prog HH F.c (argEnv 0 args) (stG st.x.gl)))=_ at h
  change shutR st (rawE F.res (runC Tryz.prog HH F.c (argEnv 0 args) (stG st.x.gl)))=_
  generalize rawE F.res (runC Tryz.prog HH F.c (argEnv 0 args) (stG st.x.gl))=X at h ⊢
  match X,h with
  |some (.ret v,s),h =>
   simp only[shutR]at h ⊢
   cases hg:(shutV s v).bd 0 with
   |true=>rw[hg]at h;simp only[guardT]at h ⊢;cases h;rfl
   |false=>rw[hg]at h;cases h
  |some (.pan v,s),h =>
   simp only[shutR]at h ⊢
   cases hg:(shutV s v).bd 0 with
   |true=>rw[hg]at h;simp only[guardT]at h ⊢;cases h;rfl
   |false=>rw[hg]at h;cases h
 ·cases h
theorem f4 {st:St}:run Tryz.prog HH 4 [] st=some (.ret (.bool true),st) :=
 at_gl (evK_run (e4 st.x.gl)) (by rw[F4];rfl) (fun _=>rfl) rfl
end Go.Proofs.YtmjkgajnpmiomaaGreatDoor

namespace Go.Proofs.YtmjkgajnpmiomaaGreatDoor
open Go.Sha
set_option maxRecDepth 10000
theorem F94:compF Tryz.prog 94=some ⟨37,[.cell 4 (some 3),.tmp 5],(.g [.q 2 98 0,.q 3 41 1,.s 4 (.alloc 98 [.i 0,.i 0,.nils]),.c 5 0] (.z [2,3] (.join [2,3,4] (.g [.d 9 3 2,.f 10 138 9,.m 6 10] (.g [.m 11 6,.v 12 .neq 11 0] (.i 12 (.g [.s 13 (.build [.i 0,.i 0,.nils] []),.m 14 6,.w 3 4 13,.m 5 14] (.ret [4,5])) .skip))) (.join [2,3,4] (.g [.d 15 9 3,.f 16 157 15,.m 7 16] (.g [.m 17 7,.v 18 .neq 17 0] (.i 18 (.g [.s 19 (.build [.i 0,.i 0,.nils] []),.m 20 7,.w 3 4 19,.m 5 20] (.ret [4,5])) .skip))) (.join [2,4,8] (.greg [25] [27] [[],[],[],[],[false,false,false,false],[true],[true],[false,false,false,false,false,false,false],[]] [.d 21 3 2,.s 22 (.build [.i 0,.i 0,.nils] [(0,3,(.t 21))]),.a 23 0 3,.l 24 23,.g' 25 158 22 24,.d 26 9 3,.s 27 (.bslice 41 9 [.t 26]),.s 28 (.append 41 9 120 (.t 25) (.t 27)),.m 8 28]) (.join [2,4,8] (.g [.m 29 8,.u 30 29,.v 31 .gtr 30 64] (.i 31 (.g [.s 32 (.build [.i 0,.i 0,.nils] []),.w 3 4 32,.c 5 5] (.ret [4,5])) .skip)) (.g [.d 33 3 2,.s 34 (.build [.i 0,.i 0,.nils] [(0,3,(.t 33))]),.m 35 8,.g' 36 159 34 35,.w 3 4 36,.c 5 0] (.ret [4,5]))))))))⟩:=by kernel_rfl
theorem F97:compF Tryz.prog 97=some ⟨32,[.cell 4 (some 3),.tmp 5,.tmp 6],(.g [.q 2 98 0,.s 4 (.alloc 98 [.i 0,.i 0,.nils]),.k 5 false,.c 6 0] (.g [.d 11 3 2,.m 12 1,.g' 13 166 11 12,.m 10 13,.j 14 0 10,.j 15 1 10,.j 16 2 10,.m 7 14,.m 8 15,.m 9 16] (.join [2,4,7,8] (.g [.m 17 9,.v 18 .neq 17 0] (.i 18 (.g [.s 19 (.build [.i 0,.i 0,.nils] []),.m 20 9,.w 3 4 19,.k 5 false,.m 6 20] (.ret [4,5,6])) .skip)) (.join [2,4,8] (.g [.m 21 8] (.i 21 (.reg [.a 22 2 2,.l 23 22,.f 24 168 23,.m 25 7,.m 26 7,.v 27 .add 26 1,.s 28 (.f 167 [.t 24,.t 25,.t 27]),.a 29 2 2,.w 1 29 28]) .skip)) (.g [.d 30 3 2,.m 31 8,.w 3 4 30,.m 5 31,.c 6 0] (.ret [4,5,6]))))))⟩:=by kernel_rfl
theorem F158:compF Tryz.prog 158=some ⟨11,[.tmp 4],(.g [.q 2 225 0,.q 3 9 1,.s 4 (.mv (.c .nils))] (.z [2,3] (.g [.a 5 0 2,.a 6 2 5,.l 7 6,.f 8 168 7,.s 9 (.mkfn (.func 242) [] [.t 3]),.g' 10 241 8 9,.m 4 10] (.ret [4]))))⟩:=by kernel_rfl
theorem F159:compF Tryz.prog 159=some ⟨12,[.cell 4 (some 3)],(.g [.q 2 225 0,.s 4 (.alloc 98 [.i 0,.i 0,.nils])] (.g [.m 5 1,.s 6 (.f 243 [.t 5,(.c (.fn (.func 244) [] []))])] (.g [.m 7 1,.a 8 0 2,.a 9 2 8,.w 1 9 7] (.g [.a 10 0 2,.d 11 3 10,.w 3 4 11] (.ret [4])))))⟩:=by kernel_rfl
def B241_0:Cd:=(.join [0,1,5,6] (.g [.m 16 6,.m 17 0,.u 18 17,.b 19 .lss 16 18] (.i 19 .skip (.exit [0,5] 0))) (.join [0,1,5,6] (.block 1 (.g [.m 22 0,.m 23 6,.r 24 9 22 23,.d 25 9 24,.s 7 (.alloc 41 [(.str []),(.str []),.nils,.nils,(.bool false),(.bool false),.i 0,(.str []),.i 0]),.w 9 7 25] (.z [7] (.g [.m 26 1,.d 27 9 7,.s 28 (.call (.t 26) [.t 27]),.z 29 28] (.i 29 (.g [.m 30 0,.m 31 5,.d 32 9 7,.r 33 9 30 31,.w 9 33 32] (.reg [.m 34 5,.v 35 .add 34 1,.m 5 35])) .skip))))) (.reg [.m 20 6,.v 21 .add 20 1,.m 6 21])))
theorem F241:compF Tryz.prog 241=some ⟨42,[.tmp 4],(.g [.s 4 (.mv (.c .nils))] (.g [.m 8 0,.m 9 1,.g' 10 303 8 9,.m 5 10] (.join [0,1,5] (.g [.m 11 5,.v 12 .eql 11 (-1)] (.i 12 (.g [.m 13 0,.m 4 13] (.ret [4])) .skip)) (.join [0,5] (.g [.m 14 5,.v 15 .add 14 1,.m 6 15] (.block 0 (.loop [0,1,5,6] [] B241_0))) (.g [.m 36 0,.m 37 5,.s 38 (.slice 9 (.t 36) (some (.t 37)) none none),.n (.act (.clr 9 (.agg [(.str []),(.str []),.nils,.nils,(.bool false),(.bool false),.i 0,(.str []),.i 0])) [.t 38])] (.g [.m 39 0,.m 40 5,.s 41 (.slice 9 (.t 39) none (some (.t 40)) none),.m 4 41] (.ret [4])))))))⟩:=by kernel_rfl
theorem F242:compF Tryz.prog 242=some ⟨8,[.tmp 3],(.g [.q 2 41 0,.k 3 false] (.z [2] (.g [.a 4 0 2,.l 5 4,.l 6 1,.b 7 .eql 5 6,.m 3 7] (.ret [3]))))⟩:=by kernel_rfl
end Go.Proofs.YtmjkgajnpmiomaaGreatDoor

namespace Go.Proofs.YtmjkgajnpmiomaaGreatDoor
open Go.Sha
set_option maxRecDepth 10000
theorem F243:compF Tryz.prog 243=some ⟨14,[],(.g [.m 5 0,.u 6 5,.m 4 6] (.reg [.m 7 0,.m 8 4,.m 9 4,.s 10 (.cvi .u64 (.t 9)),.f 11 305 10,.m 12 1,.s 13 (.f 304 [.t 7,.i 0,.t 8,.t 11,.t 12])]))⟩:=by kernel_rfl
theorem F244:compF Tryz.prog 244=some ⟨10,[.tmp 4],(.g [.q 2 41 0,.q 3 41 1,.c 4 0] (.z [2,3] (.g [.a 5 0 2,.l 6 5,.a 7 0 3,.l 8 7,.g' 9 226 6 8,.m 4 9] (.ret [4]))))⟩:=by kernel_rfl
def B304_0:Cd:=(.block 1 (.g [.m 21 2,.m 22 1,.b 23 .sub 21 22,.m 12 23] (.join [0,1,2,3,4,10,11,12] (.g [.m 24 12,.v 25 .leq 24 12] (.i 25 (.g [.m 26 0,.m 27 1,.m 28 2,.m 29 4,.s 30 (.f 331 [.t 26,.t 27,.t 28,.t 29])] (.ret [])) .skip)) (.join [0,1,2,3,4,10,11,12] (.g [.m 31 3,.v 32 .eql 31 0] (.i 32 (.g [.m 33 0,.m 34 1,.m 35 2,.m 36 4,.s 37 (.f 332 [.t 33,.t 34,.t 35,.t 36])] (.ret [])) .skip)) (.join [0,1,2,3,4,10,11,12] (.g [.m 38 10,.z 39 38] (.i 39 (.g [.m 40 0,.m 41 1,.m 42 2,.m 43 4,.s 44 (.f 333 [.t 40,.t 41,.t 42,.t 43])] (.reg [.m 45 3,.v 46 .sub 45 1,.m 3 46])) .skip)) (.g [.m 48 0,.m 49 1,.m 50 2,.m 51 4,.s 52 (.f 334 [.t 48,.t 49,.t 50,.t 51]),.m 47 52,.j 53 0 47,.j 54 1 47,.m 13 53,.m 14 54] (.join [0,1,2,3,4,10,11,12,13,14] (.g [.m 55 14,.v 56 .eql 55 2] (.i 56 (.g [.m 57 0,.m 58 1,.m 59 2,.m 60 4,.s 61 (.f 335 [.t 57,.t 58,.t 59,.t 60])] (.g [.m 62 2,.v 63 .sub 62 1,.m 64 13,.m 65 1,.b 66 .sub 64 65,.b 67 .sub 63 66,.m 13 67] (.reg [.c 14 1]))) .skip)) (.join [0,1,2,3,4,10,11,12,13] (.join [0,1,2,3,4,10,11,12,13,75] (.reg [.m 68 10,.m 69 68,.my 70 11 69,.e 71 69 70,.m 72 71,.my 73 14 72,.vy 74 .eql 73 1 72,.e 75 72 74]) (.i 75 (.g [.m 76 0,.m 77 1,.m 78 2,.m 79 4,.s 80 (.f 336 [.t 76,.t 77,.t 78,.t 79])] (.i 80 (.ret []) .skip)) .skip)) (.join [0,1,2,3,4,12,13] (.join [0,1,2,3,4,10,11,12,13,97] (.dreg 17 [.m 81 1,.v 82 .gtr 81 0,.m 83 82,.my 84 4 83,.my 85 0 83,.my 86 1 83,.vy 87 .sub 86 1 83,.ry 88 9 85 87 83,.y 89 (.load (some 9) (.t 88)) 83,.my 90 0 83,.my 91 13 83,.ry 92 9 90 91 83,.y 93 (.load (some 9) (.t 92)) 83,.y 94 (.call (.t 84) [.t 89,.t 93]) 83,.vy 95 .lss 94 0 83,.y 96 (.un .not (.t 95)) 83,.e 97 83 96]) (.i 97 (.g [.m 98 0,.m 99 1,.m 100 2,.m 101 13,.m 102 4,.s 103 (.f 337 [.t 98,.t 99,.t 100,.t 101,.t 102]),.m 15 103] (.g [.m 104 15,.m 1 104] (.exit [0,1,2,3,4,10,11] 1))) .skip)) (.g [.m 106 0,.m 107 1,.m 108 2,.m 109 13,.m 110 4,.s 111 (.f 338 [.t 106,.t 107,.t 108,.t 109,.t 110]),.m 105 111,.j 112 0 105,.j 113 1 105,.m 16 112,.m 17 113] (.g [.m 114 17,.m 11 114] (.g [.m 115 16,.m 116 1,.b 117 .sub 115 116,.m 118 2,.m 119 16,.b 120 .sub 118 119,.m 18 117,.m 19 120] (.g [.m 121 12,.v 122 .quo 121 8,.m 20 122] (.g [.m 123 18,.m 124 19,.b 125 .lss 123 124] (.i 125 (.g [.m 126 18,.m 127 20,.b 128 .geq 126 127,.m 10 128] (.g [.m 129 0,.m 130 1,.m 131 16,.m 132 3,.m 133 4,.s 134 (.f 304 [.t 129,.t 130,.t 131,.t 132,.t 133])] (.reg [.m 135 16,.v 136 .add 135 1,.m 1 136]))) (.g [.m 137 19,.m 138 20,.b 139 .geq 137 138,.m 10 139] (.g [.m 140 0,.m 141 16,.v 142 .add 141 1,.m 143 2,.m 144 3,.m 145 4,.s 146 (.f 304 [.t 140,.t 142,.t 143,.t 144,.t 145])] (.reg [.m 147 16,.m 2 147]))))))))))))))))))
theorem F304:compF Tryz.prog 304=some ⟨148,[],(.g [.k 10 true] (.g [.k 11 true] (.block 0 (.loop [0,1,2,3,4,10,11] [] B304_0))))⟩:=by kernel_rfl
def B331_0:Cd:=(.join [0,1,2,3,8,9] (.join [0,1,2,3,8,9,34] (.dreg 17 [.m 18 9,.m 19 1,.b 20 .gtr 18 19,.m 21 20,.my 22 3 21,.my 23 0 21,.my 24 9 21,.ry 25 9 23 24 21,.y 26 (.load (some 9) (.t 25)) 21,.my 27 0 21,.my 28 9 21,.vy 29 .sub 28 1 21,.ry 30 9 27 29 21,.y 31 (.load (some 9) (.t 30)) 21,.y 32 (.call (.t 22) [.t 26,.t 31]) 21,.vy 33 .lss 32 0 21,.e 34 21 33]) (.i 34 .skip (.exit [0,1,2,3,8] 2))) (.join [0,1,2,3,8,9] (.block 3 (.greg [] [] [[],[],[],[],[],[],[],[],[],[],[],[],[],[],[],[false,false,false,false,false,false,false,false,false,false,true,true,true,false,false],[],[false,false,false,false,false,false,false,false,false,false,false,false,false,false,false,false,false]] [.m 37 0,.m 38 9,.m 39 0,.m 40 9,.v 41 .sub 40 1,.m 42 0,.m 43 9,.v 44 .sub 43 1,.r 45 9 42 44,.d 46 9 45,.m 47 0,.m 48 9,.r 49 9 47 48,.d 50 9 49,.r 51 9 37 38,.w 9 51 46,.r 52 9 39 41,.w 9 52 50])) (.reg [.m 35 9,.v 36 .sub 35 1,.m 9 36])))
def B331_1:Cd:=(.join [0,1,2,3,8] (.g [.m 12 8,.m 13 2,.b 14 .lss 12 13] (.i 14 .skip (.exit [] 0))) (.join [0,1,2,3,8] (.block 1 (.g [.m 17 8,.m 9 17] (.block 2 (.loop [0,1,2,3,8,9] [] B331_0)))) (.reg [.m 15 8,.v 16 .add 15 1,.m 8 16])))
theorem F331:compF Tryz.prog 331=some ⟨53,[],(.g [.m 10 1,.v 11 .add 10 1,.m 8 11] (.block 0 (.loop [0,1,2,3,8] [] B331_1)))⟩:=by kernel_rfl
end Go.Proofs.YtmjkgajnpmiomaaGreatDoor

namespace Go.Proofs.YtmjkgajnpmiomaaGreatDoor
open Go.Sha
set_option maxRecDepth 100000
variable {g:List (Nat×Obj)}{n:Nat}
def cmpC (a b:Cu):Int:=cmpN a.num b.num
theorem f244 {a b:Cu}(ha:a.ok)(hb:b.ok){st:St}:run Tryz.prog HH 244 [a.v,b.v] st=some (.ret (.int .i64 (cmpC a b)),st):=by
 have h:=fun(st:St)=>f226 (s:=a.num) (t:=b.num) (st:=st) ha.1 hb.1
 rw[run_shut F244 rfl rfl (by simp)]
 push_cast[Cu.v,h,cmpC]
abbrev cmpV:V:=.fn (.func 244) [] []
def ltC (x y:Cu):Prop:=cmpC x y<0
instance {x y:Cu}:Decidable (ltC x y):=by unfold ltC;exact inferInstance
def insW {α:Type}(lt:α→α→Prop)[∀x y,Decidable (lt x y)]:List α→α→List α→List α
 |[],x,s=>x::s
 |y::r,x,s=>if lt x y then insW lt r x (y::s) else r.reverse++y::x::s
theorem insW_app {α:Type}{lt:α→α→Prop}[∀x y,Decidable (lt x y)]:∀{r:List α}{x:α}{s:List α},insW lt r x s=insW lt r x []++s
 |[],x,s=>rfl
 |y::r,x,s=>by
  rw[insW,insW]
  split
  ·rw[insW_app (s:=y::s),insW_app (s:=[y])];simp
  ·simp
theorem insW_len {α:Type}{lt:α→α→Prop}[∀x y,Decidable (lt x y)]:∀{r:List α}{x:α}{s:List α},(insW lt r x s).length=r.length+s.length+1
 |[],x,s=>by simp[insW]
 |y::r,x,s=>by
  rw[insW]
  split
  ·rw[insW_len];simp;omega
  ·simp;omega
def insS {α:Type}(lt:α→α→Prop)[∀x y,Decidable (lt x y)](out:List α)(x:α):List α:=insW lt out.reverse x []
def isort {α:Type}(lt:α→α→Prop)[∀x y,Decidable (lt x y)](l:List α):List α:=l.foldl (insS lt) []
theorem insS_len {α:Type}{lt:α→α→Prop}[∀x y,Decidable (lt x y)]{l:List α}{x:α}:(insS lt l x).length=l.length+1:=by
 rw[insS,insW_len];simp
theorem isort_len {α:Type}{lt:α→α→Prop}[∀x y,Decidable (lt x y)]{l:List α}:(isort lt l).length=l.length:=by
 suffices ∀o:List α,(l.foldl (insS lt) o).length=o.length+l.length by simpa [isort] using this []
 induction l with
 |nil=>intro o;rfl
 |cons x l ih=>intro o;rw[List.foldl_cons,ih,insS_len,List.length_cons];omega
theorem mem_atC {α:Type}{l:List α}{x:α}{r:List α}{j:Nat}(h:l.drop j=x::r):x∈l:=List.mem_of_mem_drop (i:=j) (by rw[h];exact List.mem_cons_self ..)
theorem insW_mem {α:Type}{lt:α→α→Prop}[∀x y,Decidable (lt x y)]{q:α}:∀{r:List α}{x:α}{s:List α},q∈insW lt r x s↔q∈r∨q=x∨q∈s
 |[],x,s=>by simp[insW]
 |y::r,x,s=>by
  rw[insW]
  split
  ·rw[insW_mem];simp only[List.mem_cons]
   constructor
   ·rintro(h|h|h|h)<;>simp[h]
   ·rintro((h|h)|h|h)<;>simp[h]
  ·simp only[List.mem_append,List.mem_reverse,List.mem_cons]
   constructor
   ·rintro(h|h|h|h)<;>simp[h]
   ·rintro((h|h)|h|h)<;>simp[h]
theorem insS_mem {α:Type}{lt:α→α→Prop}[∀x y,Decidable (lt x y)]{q:α}{l:List α}{x:α}:q∈insS lt l x↔q∈l∨q=x:=by
 rw[insS,insW_mem];simp
theorem isort_mem {α:Type}{lt:α→α→Prop}[∀x y,Decidable (lt x y)]{q:α}{l:List α}:q∈isort lt l↔q∈l:=by
 suffices ∀o:List α,q∈l.foldl (insS lt) o↔q∈o∨q∈l by simpa [isort] using this []
 induction l with
 |nil=>intro o;simp
 |cons x l ih=>intro o;rw[List.foldl_cons,ih,insS_mem,List.mem_cons,or_assoc]
def stC (g:List (Nat×Obj))(k:Nat)(M:List (Nat×List V))(n:Nat)(xs:List Cu):St:=⟨k,M,[(n,⟨41,9,xs.map Cu.v,true,false⟩)],⟨[],g,[]⟩⟩
@[push_cast]theorem stC_eq {k n:Nat}{M:List (Nat×List V)}{xs:List Cu}:stC g k M n xs=⟨k,M,[(n,⟨41,9,xs.map Cu.v,true,false⟩)],⟨[],g,[]⟩⟩:=idq rfl
end Go.Proofs.YtmjkgajnpmiomaaGreatDoor

namespace Go.Proofs.YtmjkgajnpmiomaaGreatDoor
open Go.Sha
set_option maxRecDepth 10000
theorem F166:compF Tryz.prog 166=some ⟨24,[.tmp 4,.tmp 5,.tmp 6],(.g [.q 2 98 0,.c 4 0,.k 5 false,.c 6 0] (.z [2] (.join [1,2] (.g [.d 9 3 2,.m 10 1,.s 11 (.bslice 9 1 [.t 10]),.g' 12 249 9 11,.m 7 12] (.g [.m 13 7,.v 14 .neq 13 0] (.i 14 (.g [.m 15 7,.c 4 0,.k 5 false,.m 6 15] (.ret [4,5,6])) .skip))) (.g [.d 16 3 2,.s 17 (.build [.i 0,.i 0,.nils] [(0,3,(.t 16))]),.m 18 1,.g' 19 250 17 18,.m 8 19] (.g [.m 20 8,.s 21 (.gen .mx [.t 20,.i 0]),.m 22 8,.v 23 .geq 22 0,.m 4 21,.m 5 23,.c 6 0] (.ret [4,5,6]))))))⟩:=by kernel_rfl
def B249_0:Cd:=(.g [.b 17 .lss 16 15] (.join [14,15,16] (.i 17 .skip (.exit [] 0)) (.join [14,15,16] (.block 1 (.g [.r 18 1 14 16,.l 19 18,.m 7 19] (.g [.m 20 7,.f 21 96 20,.m 8 21] (.g [.m 22 8,.v 23 .neq 22 0] (.i 23 (.g [.m 24 8,.m 4 24] (.ret [4])) .skip))))) (.reg [.v 25 .add 16 1,.m 16 25]))))
theorem F249:compF Tryz.prog 249=some ⟨26,[.tmp 4],(.g [.q 2 98 0,.c 4 0] (.z [2] (.join [1] (.g [.d 9 3 2,.f 10 138 9,.m 5 10] (.g [.m 11 5,.v 12 .neq 11 0] (.i 12 (.g [.m 13 5,.m 4 13] (.ret [4])) .skip))) (.join [] (.g [.m 14 1,.u 15 14,.c 16 0] (.block 0 (.loop [14,15,16] [] B249_0))) (.g [.c 4 0] (.ret [4]))))))⟩:=by kernel_rfl
theorem F250:compF Tryz.prog 250=some ⟨10,[.tmp 4],(.g [.q 2 225 0,.q 3 9 1,.c 4 0] (.z [2,3] (.g [.a 5 0 2,.a 6 2 5,.l 7 6,.s 8 (.mkfn (.func 308) [] [.t 3]),.g' 9 303 7 8,.m 4 9] (.ret [4]))))⟩:=by kernel_rfl
def B303_0:Cd:=(.g [.b 9 .lss 8 7] (.join [0,1,7,8] (.i 9 .skip (.exit [] 0)) (.join [0,1,7,8] (.block 1 (.g [.m 10 8,.m 5 10] (.g [.m 11 1,.m 12 0,.m 13 5,.r 14 9 12 13,.d 15 9 14,.s 16 (.call (.t 11) [.t 15])] (.i 16 (.g [.m 17 5,.m 4 17] (.ret [4])) .skip)))) (.reg [.v 18 .add 8 1,.m 8 18]))))
theorem F303:compF Tryz.prog 303=some ⟨19,[.tmp 4],(.g [.c 4 0] (.join [] (.g [.m 6 0,.u 7 6,.c 8 0] (.block 0 (.loop [0,1,7,8] [] B303_0))) (.g [.c 4 (-1)] (.ret [4]))))⟩:=by kernel_rfl
theorem F308:compF Tryz.prog 308=some ⟨8,[.tmp 3],(.g [.q 2 41 0,.k 3 false] (.z [2] (.g [.a 4 0 2,.l 5 4,.l 6 1,.b 7 .eql 5 6,.m 3 7] (.ret [3]))))⟩:=by kernel_rfl
end Go.Proofs.YtmjkgajnpmiomaaGreatDoor

namespace Go.Proofs.YtmjkgajnpmiomaaGreatDoor
open Go.Sha
set_option maxRecDepth 100000
variable {g:List (Nat×Obj)}{n:Nat}
def stW (g:List (Nat×Obj))(l:List Cu):St:=⟨6,[(2,[.i 0,.i 0,.nils])],[(5,⟨41,9,l.map Cu.v,true,false⟩)],⟨[],g,[]⟩⟩
@[push_cast]theorem stW_eq {l:List Cu}:stW g l=⟨6,[(2,[.i 0,.i 0,.nils])],[(5,⟨41,9,l.map Cu.v,true,false⟩)],⟨[],g,[]⟩⟩:=idq rfl
def isN (s:List UInt8)(q:Cu):Bool:=decide (q.num=s)
abbrev dfV (s:List UInt8):V:=.fn (.func 242) [] [.ep (.agg [.str s]) 0]
theorem f242 {q:Cu}{s:List UInt8}{st:St}:run Tryz.prog HH 242 [q.v,.ep (.agg [.str s]) 0] st=some (.ret (.bool (isN s q)),st):=by
 rw[run_shut F242 rfl rfl (by simp)]
 push_cast[Cu.v,isN]
 congr 4
 rw[Bool.eq_iff_iff];simp
theorem getD_cu {l:List Cu}{k:Nat}(h:k<l.length):(l.map Cu.v).getD k V.und=(l.getD k default).v:=by
 simp[List.getD_eq_getElem?_getD,h]
theorem ix_rng {α:Type}{p:α→Bool}:∀{l:List α}{j:Nat},ix p l j=-1∨(j:Int)≤ix p l j∧ix p l j<j+l.length
 |[],j=>.inl rfl
 |x::r,j=>by
  unfold ix
  split
  ·exact .inr ⟨by omega,by simp;omega⟩
  ·rcases ix_rng (p:=p) (l:=r) (j:=j+1) with h|h
   ·exact .inl h
   ·exact .inr ⟨by omega,by simp;omega⟩
theorem L303o {s:List UInt8}{l:List Cu}(hl:l.length<1000) :
  ∀r j,l.drop j=r→runL Tryz.prog HH [0,1,7,8] 6 B303_0 [(0,.osl 5 l.length),(1,dfV s),(7,.int .i64 l.length),(8,.int .i64 j)] (stW g l)=lpI (stW g l) [] 4 (ix (isN s) r j):=by
 have hq:=fun q st=>f242 (q:=q) (s:=s) (st:=st)
 refine drop_ind (fun j h=>?_) (fun x r j h hx hd ih=>?_)
 all_goals rw[runL_of B303_0.eq_1]
 ·have h1:¬(j:Int)<l.length:=by omega
  push_cast[h1,ix,lpI]
 ·have h1:(j:Int)<l.length:=by omega
  have hw:=iw1 (j:=j) (by omega)
  have e5:=getD_cu (l:=l) (k:=j) h
  rw[hx]at e5
  have e6:ix (isN s) (x::r) j=if isN s x=true then(j:Int) else ix (isN s) r (j+1):=rfl
  push_cast[Cu.v]at hq e5
  push_cast[h,h1,hw,hx,hq,e5,Cu.v]at ih ⊢
  rw[e6]
  cases hd:isN s x with
  |true=>push_cast[hd,lpI_n]
  |false=>push_cast[hd,ih]
theorem f303o {s:List UInt8}{l:List Cu}(hl:l.length<1000) :
  run Tryz.prog HH 303 [.osl 5 l.length,dfV s] (stW g l)=some (.ret (.int .i64 (ix (isN s) l 0)),stW g l):=by
 have hL:=L303o (g:=g) (s:=s) hl l 0 rfl
 rw[run_open F303 rfl rfl (by simp[V.bdL,V.bd])]
 push_cast at hL
 rcases ix_rng (p:=isN s) (l:=l) (j:=0) with h|h
 ·rw[h]at hL ⊢
  push_cast[lpI_1]at hL
  push_cast[hL]
 ·obtain⟨t,ht⟩:∃t:Nat,ix (isN s) l 0=t:=⟨(ix (isN s) l 0).toNat,by omega⟩
  rw[ht]at hL ⊢
  rw[lpI_n]at hL
  push_cast[hL]
theorem L241 {s:List UInt8}{l:List Cu}(hl:l.length<1000) :
  ∀r j,l.drop j=r→∀(xs:List Cu) (i:Nat),xs.length=l.length→i≤j→xs.drop j=r→∃xs':List Cu,xs'.length=l.length∧xs'.take (i+(r.filter fun q=>!isN s q).length)=xs.take i++(r.filter fun q=>!isN s q) ∧
   runL Tryz.prog HH [0,1,5,6] 6 B241_0 [(0,.osl 5 l.length),(1,dfV s),(5,.int .i64 i),(6,.int .i64 j)] (stW g xs)
    = some (.exit 0,[(0,.osl 5 l.length),(5,.int .i64 ((i+(r.filter fun q=>!isN s q).length:Nat):Int))],stW g xs'):=by
 have hq0:=fun q st=>f242 (q:=q) (s:=s) (st:=st)
 refine drop_ind (fun j h xs i hx1 hij hxd=>?_) (fun x r j h hx hd ih xs i hx1 hij hxd=>?_)
 all_goals rw[runL_of B241_0.eq_1]
 ·have h1:¬(j:Int)<l.length:=by omega
  refine⟨xs,hx1,by simp,?_⟩
  push_cast[hx1,h1,List.filter_nil,List.length_nil,Nat.add_zero]
 ·have h1:(j:Int)<l.length:=by omega
  have hw:=iw1 (j:=j) (by omega)
  have hwi:IntKind.i64.wrap ((i:Int)+1)=((i+1:Nat):Int):=iwrap (by omega) (by omega)
  have hq:=hq0 x
  have hj:j<xs.length:=by omega
  have e4:xs.getD j default=x:=by
   have:xs[j]?=some x:=by rw[←List.head?_drop,hxd];rfl
   rw[List.getD_eq_getElem?_getD,this];rfl
  have e5:=getD_cu (l:=xs) (k:=j) hj
  rw[e4]at e5
  have hi:i<xs.length:=by omega
  have hdr:xs.drop (j+1)=r:=by
   rw[←List.drop_drop,hxd];rfl
  cases hd':isN s x with
  |true =>
   obtain⟨ys,y1,y2,y3⟩:=ih xs i hx1 (by omega) hdr
   have ef:(x::r).filter (fun q=>!isN s q)=r.filter fun q=>!isN s q:=by rw[List.filter_cons,hd'];rfl
   rw[ef]
   refine⟨ys,y1,y2,?_⟩
   generalize (r.filter fun q=>!isN s q).length=z at *
   rw[hd']at hq
   push_cast[Cu.v]at hq e5 y3
   push_cast[h,hj,h1,hw,hx,hx1,hq,e5,Cu.v]at y3 ⊢
   exact y3
  |false =>
   obtain⟨ys,y1,y2,y3⟩:=ih (xs.set i x) (i+1) (by rw[List.length_set];exact hx1) (by omega) (by rw[List.drop_set_of_lt (by omega)];exact hdr)
   have ef:(x::r).filter (fun q=>!isN s q)=x::r.filter fun q=>!isN s q:=by rw[List.filter_cons,hd'];rfl
   have et:(xs.set i x).take (i+1)=xs.take i++[x]:=by
    rw[List.set_eq_take_append_cons_drop,if_pos hi,List.take_append,List.take_take]
    simp[Nat.min_eq_left (Nat.le_of_lt hi)]
   rw[ef,List.length_cons]
   refine⟨ys,y1,?_,?_⟩
   ·rw[show i+((r.filter fun q=>!isN s q).length+1)=i+1+(r.filter fun q=>!isN s q).length by omega,y2,et];simp
   rw[show i+((r.filter fun q=>!isN s q).length+1)=i+1+(r.filter fun q=>!isN s q).length by omega]
   generalize (r.filter fun q=>!isN s q).length=z at *
   rw[hd']at hq
   have hgi:xs[i]?=some (xs.getD i default):=by rw[List.getD_eq_getElem?_getD,List.getElem?_eq_getElem hi];rfl
   have hbs:V.bdL 6 ((xs.set i x).map Cu.v)=true:=by rw[bdL_map',List.all_eq_true];intro q _;simp[Cu.v,V.bd,V.bdL]
   simp only[stW,List.map_set]at y3 hbs
   generalize xs.getD i default=y at hgi
   push_cast[Cu.v]at hq e5 y3 hbs
   push_cast[h,hj,hi,h1,hw,hwi,hgi,hbs,hx,hx1,hq,e5,Cu.v]at y3 ⊢
   exact dn_eq (by omega) y3
theorem slice_win {st:St}{a:Arr}{id N es:Nat}{lo hi:Option V}(hl:Sha.look st.arr id=some a)(h1:a.xs.length=N)(h2:a.wr=true)(h3:a.es=es):sliceV st es (.osl id N) lo hi none=(boundsV N lo hi).map fun p=>.win id N p.1 p.2 es:=by
 unfold sliceV
 simp only[fixedV,hl,h1,h2,h3,winV,winA,and_true,true_and,Bool.true_eq_false,false_and,and_false,if_false,if_true]
abbrev C0:V:=.agg [.str [],.str [],.nils,.nils,.bool false,.bool false,.i 0,.str [],.i 0]
theorem f241a {s:List UInt8}{l:List Cu}(hl:l.length<1000)(hix:ix (isN s) l 0=-1) :
  run Tryz.prog HH 241 [.osl 5 l.length,dfV s] (stW g l)=some (.ret (.osl 5 l.length),stW g l):=by
 have h11:=f303o (g:=g) (s:=s) hl
 rw[run_open F241 rfl rfl (by simp[V.bdL,V.bd])]
 rw[hix]at h11
 push_cast at h11
 push_cast[h11]
theorem f241b {s:List UInt8}{l:List Cu}(hl:l.length<1000){t:Nat}(hix:ix (isN s) l 0=t)(ht:t<l.length) :
  ∃(xs:List V) (i:Nat),i≤l.length∧xs.length=l.length∧i=(l.take t++(l.drop (t+1)).filter (fun q=>!isN s q)).length∧xs.take i=(l.take t++(l.drop (t+1)).filter (fun q=>!isN s q)).map Cu.v∧run Tryz.prog HH 241 [.osl 5 l.length,dfV s] (stW g l)=some (.ret (.win 5 l.length 0 i 9),⟨6,[(2,[.i 0,.i 0,.nils])],[(5,⟨41,9,xs,true,false⟩)],⟨[],g,[]⟩⟩):=by
 have h11:=f303o (g:=g) (s:=s) hl
 obtain⟨ys,y1,y2,y3⟩:=L241 (g:=g) (s:=s) hl _ (t+1) rfl l t rfl (by omega) rfl
 have hfl:((l.drop (t+1)).filter fun q=>!isN s q).length≤l.length-(t+1):=by
  have:=List.length_filter_le (fun q=>!isN s q) (l.drop (t+1));rw[List.length_drop]at this;exact this
 have hw:IntKind.i64.wrap ((t:Int)+1)=((t+1:Nat):Int):=iwrap (by omega) (by omega)
 have hi:t+((l.drop (t+1)).filter fun q=>!isN s q).length≤l.length:=by omega
 have h0:¬(t:Int)=-1:=by omega
 rw[hix]at h11
 refine⟨(ys.take (t+((l.drop (t+1)).filter fun q=>!isN s q).length)).map Cu.v++List.replicate (l.length-(t+((l.drop (t+1)).filter fun q=>!isN s q).length)) C0,t+((l.drop (t+1)).filter fun q=>!isN s q).length,hi,?_,?_,?_,?_⟩
 ·simp[y1];omega
 ·simp[Nat.min_eq_left (Nat.le_of_lt ht)]
 ·rw[List.take_append_of_le_length (by simp[y1];omega),←List.map_take,List.take_take,Nat.min_self,y2]
 rw[run_open F241 rfl rfl (by simp[V.bdL,V.bd])]
 generalize t+((l.drop (t+1)).filter fun q=>!isN s q).length=i at *
 push_cast at h11 y3
 have hsl:=fun(lo hi:Option V)=>slice_win (st:=⟨6,[(2,[.i 0,.i 0,.nils])],[(5,⟨41,9,ys.map Cu.v,true,false⟩)],⟨[],g,[]⟩⟩) (a:=⟨41,9,ys.map Cu.v,true,false⟩) (id:=5) (N:=l.length) (es:=9) (lo:=lo) (hi:=hi) (by simp[Sha.look]) (by simp[y1]) rfl rfl
 have hsl2:=fun(lo hi':Option V)=>slice_win (st:=⟨6,[(2,[.i 0,.i 0,.nils])],[(5,⟨41,9,(ys.take i).map Cu.v++List.replicate (l.length-i) C0,true,false⟩)],⟨[],g,[]⟩⟩) (a:=⟨41,9,(ys.take i).map Cu.v++List.replicate (l.length-i) C0,true,false⟩) (id:=5) (N:=l.length) (es:=9) (lo:=lo) (hi:=hi') (by simp[Sha.look]) (by simp[y1];omega) rfl rfl
 have hb1:boundsV l.length (some (.int .i64 (i:Int))) none=some (i,l.length):=by simp[boundsV,optN,natV,hi]
 have hb2:boundsV l.length none (some (.int .i64 (i:Int)))=some (0,i):=by simp[boundsV,optN,natV,hi]
 have hcl:actV (.clr 9 C0) [.win 5 l.length i l.length 9] ⟨6,[(2,[.i 0,.i 0,.nils])],[(5,⟨41,9,ys.map Cu.v,true,false⟩)],⟨[],g,[]⟩⟩=some (.tup [],⟨6,[(2,[.i 0,.i 0,.nils])],[(5,⟨41,9,(ys.take i).map Cu.v++List.replicate (l.length-i) C0,true,false⟩)],⟨[],g,[]⟩⟩):=by
  simp only[actV]
  have e1:List.drop l.length (ys.map Cu.v)=[]:=List.drop_eq_nil_of_le (by simp[y1])
  simp only[clrV,clrA,Sha.look,if_true,List.length_map,y1,hi,Nat.le_refl,and_true,true_and,e1,List.append_nil,updA,←List.map_take]
  rfl
 push_cast[h11,hw,h0,y1,y3,hsl,hsl2,hb1,hb2,hcl]
 rfl
def woC (s:List UInt8)(l:List Cu):List Cu:=l.filter fun q=>!isN s q
theorem woC_at {s:List UInt8}:∀{l:List Cu}{k t:Nat},ix (isN s) l k=((k+t:Nat):Int)→woC s l=l.take t++(l.drop (t+1)).filter (fun q=>!isN s q)
 |[],k,t,h=>by simp[ix]at h;omega
 |x::r,k,t,h=>by
  unfold ix at h
  split at h
  ·rename_i c
   have:t=0:=by omega
   subst this
   simp[woC,List.filter_cons,c]
  ·rename_i c
   cases t with
   |zero=>rcases ix_rng (p:=isN s) (l:=r) (j:=k+1) with h'|h'<;>omega
   |succ t =>
    have:=woC_at (s:=s) (l:=r) (k:=k+1) (t:=t) (by rw[h];omega)
    rw[woC,List.filter_cons,if_pos (by simpa using c),List.take_succ_cons,List.drop_succ_cons,List.cons_append,←this,woC]
theorem woC_no {s:List UInt8}:∀{l:List Cu}{k:Nat},ix (isN s) l k=-1→woC s l=l
 |[],k,h=>rfl
 |x::r,k,h=>by
  unfold ix at h
  split at h
  ·omega
  ·rename_i c
   rw[woC,List.filter_cons,if_pos (by simpa using c)]
   have:=woC_no (s:=s) (l:=r) (k:=k+1) h
   rw[woC]at this;rw[this]
def hdR:Rt→Rt
 |some (.ret (.win id n 0 i es),s)=>(match Sha.look s.arr id with
  |some r=>if r.xs.length=n∧r.wr=true∧r.fz=false∧r.es=es∧i≤n then some (.ret (.osl s.nx i),⟨s.nx+1,s.mem,(s.nx,⟨r.e,r.es,r.xs.take i,r.wr,r.fz⟩)::delA s.arr id,s.x⟩) else none
  |none=>none)
 |some (.ret (.osl id n),s)=>(match Sha.look s.arr id with
  |some r=>if r.xs.length=n∧r.wr=true∧r.fz=false then some (.ret (.osl s.nx n),⟨s.nx+1,s.mem,(s.nx,⟨r.e,r.es,r.xs.take n,r.wr,r.fz⟩)::delA s.arr id,s.x⟩) else none
  |none=>none)
 |_=>none
theorem hd_ok {P:Program}{E:EvF}(hE:ESound P E){f:FuncId}{args:List V}{st:St}{r:VRes}{s:St}(h:hdR (E f args st)=some (r,s)):VCalls P f args st (fun x y=>x=r∧y=s):=by
 refine VCalls_head ?_
 cases he:E f args st with
 |none=>rw[he]at h;cases h
 |some z =>
  obtain⟨r0,s0⟩:=z
  refine(hE _ _ _ _ _ he).mono ?_
  rintro x y ⟨rfl,rfl⟩
  rw[he]at h
  unfold hdR at h
  split at h
  ·rename_i e
   cases e
   split at h
   ·rename_i a ha
    split at h
    ·rename_i c
     cases h
     exact⟨_,_,_,_,a,_,rfl,.win,ha,c.1,c.2.1,c.2.2.1,c.2.2.2.1,c.2.2.2.2,rfl,rfl⟩
    ·cases h
   ·cases h
  ·rename_i e
   cases e
   split at h
   ·rename_i a ha
    split at h
    ·rename_i c
     cases h
     exact⟨_,_,_,a.es,a,_,rfl,.all rfl,ha,c.1,c.2.1,c.2.2,rfl,Nat.le_refl _,rfl,rfl⟩
    ·cases h
   ·cases h
  ·cases h
end Go.Proofs.YtmjkgajnpmiomaaGreatDoor

namespace Go.Proofs.YtmjkgajnpmiomaaGreatDoor
open Go.Sha
set_option maxRecDepth 100000
variable {g:List (Nat×Obj)}{n:Nat}
theorem mixed:Tryz.prog.follows .mixedOrders=true:=by kernel_rfl
def memU:List Nat:=[138,157,168,243]
noncomputable def HU:EvF:=⟨[103,113,173,179,183,265,270,241,243],fun f args st=>bif Nat.beq f 241 then hdR (run Tryz.prog HH 241 args st) else bif memL f memU then run Tryz.prog HH f args st else none⟩
@[push_cast]theorem HU_raw:HU.raw=[103,113,173,179,183,265,270,241,243]:=idq rfl
theorem HU_ok (h1:ESound Tryz.prog HH):ESound Tryz.prog HU:=fun f args st r s h=>by
 simp only[HU]at h
 cases h2:Nat.beq f 241 with
 |true=>rw[h2]at h;rw[Nat.eq_of_beq_eq_true h2];exact hd_ok (run_sound mixed h1) h
 |false =>
  rw[h2]at h
  cases hi:memL f memU with
  |false=>rw[hi]at h;cases h
  |true=>rw[hi]at h;exact run_sound mixed h1 _ _ _ _ _ h
theorem upU {k:Nat}{args:List V}{st:St}{r:VRes×St}(h:run Tryz.prog HH k args st=some r)(h1:Nat.beq k 241=false:=by rfl)(h3:memL k memU=true:=by rfl):run Tryz.prog HU k args st=some r:=by
 refine run_H ?_
 simp only[HU,h1,h3,cond_false,cond_true,h]
def st94 (g:List (Nat×Obj)):St:=⟨3,[(2,[.i 0,.i 0,.nils])],[],⟨[],g,[]⟩⟩
def st94' (g:List (Nat×Obj))(l:List Cu):St:=⟨7,[(2,[.i 0,.i 0,.nils])],[(6,⟨41,9,l.map Cu.v,true,false⟩)],⟨[],g,[]⟩⟩
theorem e241 {s:List UInt8}{l:List Cu}(hl:l.length<1000):run Tryz.prog HU 241 [.osl 5 l.length,dfV s] (stW g l)=some (.ret (.osl 6 (woC s l).length),st94' g (woC s l)):=run_H (by
 show hdR (run Tryz.prog HH 241 [.osl 5 l.length,dfV s] (stW g l))=_
 rcases ix_rng (p:=isN s) (l:=l) (j:=0) with h|h
 ·rw[f241a hl h,woC_no h]
  have e:List.take l.length (l.map Cu.v)=l.map Cu.v:=List.take_of_length_le (by simp)
  simp[hdR,stW,Sha.look,delA,st94',e]
 ·obtain⟨t,ht⟩:∃t:Nat,ix (isN s) l 0=t:=⟨(ix (isN s) l 0).toNat,by omega⟩
  have hw:=woC_at (s:=s) (l:=l) (k:=0) (t:=t) (by rw[ht];omega)
  obtain⟨xs,i,h1,h2,h3,h4,h5⟩:=f241b (g:=g) hl ht (by omega)
  rw[h5]
  rw[←hw]at h3 h4
  simp[hdR,Sha.look,delA,st94',h2,h1,h4,←h3])
noncomputable def hOpn (P:Program)(H:EvF)(f:FuncId)(args:List V)(st:St):Rt:=match compF P f with
 |some F=>if args.length≤F.N then openR st.nx (rawE F.res (runC P H F.c (argEnv 0 args) st)) else none
 |none=>none
theorem opn_ok {P:Program}{H:EvF}(hm:P.follows .mixedOrders=true)(hH:ESound P H){f:FuncId}{args:List V}{st:St}{r:VRes}{s:St}(h:hOpn P H f args st=some (r,s)):VCalls P f args st (fun x y=>x=r∧y=s):=by
 unfold hOpn at h
 cases hF:compF P f with
 |none=>rw[hF]at h;cases h
 |some F =>
  rw[hF]at h
  dsimp only at h
  split at h
  ·rename_i hl
   cases hz:rawE F.res (runC P H F.c (argEnv 0 args) st) with
   |none=>rw[hz]at h;cases h
   |some z =>
    obtain⟨r1,s1⟩:=z
    rw[hz]at h
    exact VCalls_open (rawD_sound hm (run_sound hm hH) hF hl hz) h
  ·cases h
theorem opn_eq {P:Program}{H:EvF}{f:FuncId}{args:List V}{st:St}{N:Nat}{res:List Res}{c:Cd}(hF:compF P f=some ⟨N,res,c⟩)(hl:Nat.ble args.length N=true) :
  hOpn P H f args st=openR st.nx (rawE res (runC P H c (argEnv 0 args) st)):=by
 unfold hOpn;rw[hF];exact if_pos (Nat.le_of_ble_eq_true hl)
theorem o158 {x:Lst}{s:List UInt8}(hl:x.cues.length<1000):hOpn Tryz.prog HU 158 [x.v,.str s] (st94 g)=some (.ret (.osl 6 (woC s x.cues).length),st94' g (woC s x.cues)):=by
 have h168:=fun(st:St)=>upU (r_cln (k:=168) (e:=41) (es:=9) (b:=120) (f:=Cu.v) (l:=x.cues) (st:=st) (fun _ _=>rfl) (fun _=>rfl) (fun _=>rfl) (by omega) (by omega))
 have h241:=e241 (g:=g) (s:=s) hl
 unfold st94 st94' at *
 unfold stW at h241
 rw[opn_eq F158 rfl]
 push_cast[Lst.v]at h168 h241
 push_cast[Lst.v,h168,h241]
end Go.Proofs.YtmjkgajnpmiomaaGreatDoor

namespace Go.Proofs.YtmjkgajnpmiomaaGreatDoor
open Go.Sha
set_option maxRecDepth 100000
variable {g:List (Nat×Obj)}{n:Nat}
theorem f308 {x:Cu}{s:List UInt8}{st:St}:run Tryz.prog HH 308 [x.v,.ep (.agg [.str s]) 0] st=some (.ret (.bool (x.num == s)),st):=by
 rw[run_shut F308 rfl rfl (by simp)]
 push_cast[Cu.v]
theorem f303 {l:List Cu}{s:List UInt8}(hl:l.length<140737488355328){st:St}:run Tryz.prog HH 303 [.sl (l.map Cu.v),.fn (.func 308) [] [.ep (.agg [.str s]) 0]] st=some (.ret (.int .i64 (ix (fun x=>x.num == s) l 0)),st) :=
 IxF (f:=Cu.v) (n:=some 9) (fun _=>rfl) (fun _=>rfl) F303 rfl (by simp) hl (fun q _ _=>f308) (fun _ _=>rfl) (fun _=>rfl)
theorem f250 {x:Lst}{s:List UInt8}(hl:x.cues.length<140737488355328){st:St}:run Tryz.prog HH 250 [x.v,.str s] st=some (.ret (.int .i64 (ix (fun x=>x.num == s) x.cues 0)),st):=by
 have h1:=fun(st:St)=>f303 (s:=s) (st:=st) hl
 rw[run_shut F250 rfl rfl (by simp)]
 push_cast[Lst.v,h1]
theorem f249 {x:Lst}(h:x.ok){s:List UInt8}(hs:s.length<140737488355328){st:St}:run Tryz.prog HH 249 [x.v,.sl [.str s]] st=some (.ret (.int .i64 (if ¬lstP x=0 then lstP x else numC s)),st):=by
 have h1:=fun(st:St)=>f138 (st:=st) h
 have h2:=fun(st:St)=>f96 (st:=st) hs
 push_cast[Lst.v]at h1
 rw[run_shut F249 rfl rfl (by simp)]
 push_cast[Lst.v,h1,h2,runL_of B249_0.eq_1,List.length_cons,List.length_nil]
theorem f166 {x:Lst}(h:x.ok){s:List UInt8}(hs:s.length<140737488355328){st:St}:run Tryz.prog HH 166 [x.v,.str s] st=some (.ret (if ¬lstP x=0 then .tup [.int .i64 0,.bool false,.int .i64 (lstP x)] else if ¬numC s=0 then .tup [.int .i64 0,.bool false,.int .i64 (numC s)] else
  .tup [.int .i64 (if ix (fun x=>x.num == s) x.cues 0<0 then 0 else ix (fun x=>x.num == s) x.cues 0),.bool (decide (0≤ix (fun x=>x.num == s) x.cues 0)),.int .i64 0]),st):=by
 have h1:=fun(st:St)=>f249 (st:=st) h hs
 have h2:=fun(st:St)=>f250 (s:=s) (st:=st) h.1
 push_cast[Lst.v]at h1 h2
 rw[run_shut F166 rfl rfl (by simp)]
 by_cases h3:lstP x=0
 ·by_cases h4:numC s=0
  ·push_cast[Lst.v,h1,h2,h3,h4]
  ·push_cast[Lst.v,h1,h2,h3,h4]
 ·push_cast[Lst.v,h1,h3]
def L0:Lst:=⟨0,0,[]⟩
def drI (x:Lst)(s:List UInt8):Int:=ix (fun x=>x.num == s) x.cues 0
def drE (x:Lst)(s:List UInt8):Int:=if ¬lstP x=0 then lstP x else numC s
def drC (x:Lst)(s:List UInt8):List Cu:=x.cues.take (drI x s).toNat++x.cues.drop ((drI x s).toNat+1)
def drL (x:Lst)(s:List UInt8):Lst:=if drE x s=0 then if 0≤drI x s then⟨x.num,x.prio,drC x s⟩ else x else L0
def drB (x:Lst)(s:List UInt8):Bool:=decide (drE x s=0)&&decide (0≤drI x s)
theorem f97 {x:Lst}(h:x.ok)(hl:x.cues.length<1000){s:List UInt8}(hs:s.length<140737488355328){st:St}:run Tryz.prog HH 97 [x.v,.str s] st=some (.ret (.tup [(drL x s).v,.bool (drB x s),.int .i64 (drE x s)]),st):=by
 have h166:=fun(st:St)=>f166 (st:=st) h hs
 have h168:=fun(st:St)=>r_cln (k:=168) (e:=41) (es:=9) (b:=120) (f:=Cu.v) (l:=x.cues) (st:=st) (fun _ _=>rfl) (fun _=>rfl) (fun _=>rfl) (by omega) (by omega)
 rw[run_shut F97 rfl rfl (by simp)]
 by_cases h3:lstP x=0
 ·by_cases h4:numC s=0
  ·have hE:drE x s=0:=by rw[drE,if_neg (by simp[h3]),h4]
   rcases ix_rng (p:=fun c:Cu=>c.num == s) (l:=x.cues) (j:=0) with h5|h5
   ·have h6:¬0≤drI x s:=by rw[drI,h5];omega
    have hL:drL x s=x:=by rw[drL,if_pos hE,if_neg h6]
    have hB:drB x s=false:=by rw[drB,decide_eq_false h6,Bool.and_false]
    push_cast[Lst.v,h3,h4,h5]at h166
    push_cast[Lst.v,h166,hE,hL,hB]
   ·obtain⟨i,hi⟩:∃i:Nat,ix (fun c:Cu=>c.num == s) x.cues 0=i:=⟨(ix (fun c:Cu=>c.num == s) x.cues 0).toNat,by omega⟩
    have h6:0≤drI x s:=by rw[drI,hi];omega
    have h7:i<x.cues.length:=by omega
    have hL:drL x s=⟨x.num,x.prio,x.cues.take i++x.cues.drop (i+1)⟩:=by rw[drL,if_pos hE,if_pos h6,drC,drI,hi,Int.toNat_natCast]
    have hB:drB x s=true:=by rw[drB,hE,decide_eq_true h6];rfl
    have hw:IntKind.i64.wrap ((i:Int)+1)=((i+1:Nat):Int):=iwrap (by omega) (by omega)
    have hn:¬(i:Int)<0:=by omega
    have e6:(x.cues.map Cu.v).take i++(x.cues.map Cu.v).drop (i+1)=(x.cues.take i++x.cues.drop (i+1)).map Cu.v:=by simp
    have e3:x.cues.length-1=(x.cues.take i++x.cues.drop (i+1)).length:=by simp;omega
    generalize hz:x.cues.take i++x.cues.drop (i+1)=z at *
    push_cast[Lst.v,h3,h4,hi,hn]at h166
    push_cast[Cu.v]at h168
    push_cast[Lst.v,h166,h168,hE,hL,hB,hw]
    rw[show((i:Int)+1)=((i+1:Nat):Int) by omega,r_del (e:=41) (es:=9) (n:=x.cues.length) (i:=i) (xs:=x.cues.map Cu.v) (fun _ _=>rfl) rfl (by simp) h7,e6]
    push_cast[e3,delA]
  ·have hE:drE x s=numC s:=by rw[drE,if_neg (by simp[h3])]
   have hL:drL x s=L0:=if_neg (by rw[hE];exact h4)
   have hB:drB x s=false:=by rw[drB,hE,decide_eq_false h4,Bool.false_and]
   push_cast[Lst.v,h3,h4]at h166
   push_cast[Lst.v,h166,h4,hE,hL,hB,L0,List.map_nil]
 ·have hE:drE x s=lstP x:=if_pos h3
  have hL:drL x s=L0:=if_neg (by rw[hE];exact h3)
  have hB:drB x s=false:=by rw[drB,hE,decide_eq_false h3,Bool.false_and]
  push_cast[Lst.v,h3]at h166
  push_cast[Lst.v,h166,h3,hE,hL,hB,L0,List.map_nil]
end Go.Proofs.YtmjkgajnpmiomaaGreatDoor

namespace Go.Proofs.YtmjkgajnpmiomaaGreatDoor
open Go.Sha
set_option maxRecDepth 10000
theorem F334:compF Tryz.prog 334=some ⟨63,[.tmp 8,.tmp 9],(.g [.c 8 0,.c 9 0] (.g [.m 15 2,.m 16 1,.b 17 .sub 15 16,.m 10 17] (.g [.s 11 (.alloc 3 [.i 0])] (.z [11] (.g [.m 18 1,.m 19 10,.v 20 .quo 19 4,.v 21 .mul 20 1,.b 22 .add 18 21,.m 12 22] (.g [.m 23 1,.m 24 10,.v 25 .quo 24 4,.v 26 .mul 25 2,.b 27 .add 23 26,.m 13 27] (.g [.m 28 1,.m 29 10,.v 30 .quo 29 4,.v 31 .mul 30 3,.b 32 .add 28 31,.m 14 32] (.join [11,13] (.g [.m 33 10,.v 34 .geq 33 8] (.i 34 (.join [0,3,11,12,13,14] (.g [.m 35 10,.v 36 .geq 35 50] (.i 36 (.g [.m 37 0,.m 38 12,.m 39 3,.s 40 (.f 363 [.t 37,.t 38,.t 11,.t 39]),.m 12 40] (.g [.m 41 0,.m 42 13,.m 43 3,.s 44 (.f 363 [.t 41,.t 42,.t 11,.t 43]),.m 13 44] (.reg [.m 45 0,.m 46 14,.m 47 3,.s 48 (.f 363 [.t 45,.t 46,.t 11,.t 47]),.m 14 48]))) .skip)) (.reg [.m 49 0,.m 50 12,.m 51 13,.m 52 14,.m 53 3,.s 54 (.f 364 [.t 49,.t 50,.t 51,.t 52,.t 11,.t 53]),.m 13 54])) .skip)) (.g [.l 55 11] (.block 0 (.g [.v 58 .eql 55 0,.m 57 58] (.i 57 (.g [.m 59 13,.m 8 59,.c 9 1] (.ret [8,9])) (.g [.v 61 .eql 55 12,.m 60 61] (.i 60 (.g [.m 62 13,.m 8 62,.c 9 2] (.ret [8,9])) (.g [.m 56 13,.m 8 56,.c 9 0] (.ret [8,9]))))))))))))))))⟩:=by kernel_rfl
def B336_0:Cd:=(.join [0,1,2,3,9,10] (.join [0,1,2,3,9,10,36] (.dreg 18 [.m 19 9,.m 20 2,.b 21 .lss 19 20,.m 22 21,.my 23 3 22,.my 24 0 22,.my 25 9 22,.ry 26 9 24 25 22,.y 27 (.load (some 9) (.t 26)) 22,.my 28 0 22,.my 29 9 22,.vy 30 .sub 29 1 22,.ry 31 9 28 30 22,.y 32 (.load (some 9) (.t 31)) 22,.y 33 (.call (.t 23) [.t 27,.t 32]) 22,.vy 34 .lss 33 0 22,.y 35 (.un .not (.t 34)) 22,.e 36 22 35]) (.i 36 .skip (.exit [0,1,2,3,9,10] 2))) (.block 3 (.reg [.m 37 9,.v 38 .add 37 1,.m 9 38])))
def B336_1:Cd:=(.join [0,1,2,3,9,10,11] (.g [.m 68 11,.v 69 .geq 68 1] (.i 69 .skip (.exit [0,1,2,3,9,10] 4))) (.join [0,1,2,3,9,10,11] (.block 5 (.join [0,1,2,3,9,10,11] (.q (.dreg 13 [.m 72 3,.m 73 0,.m 74 11,.r 75 9 73 74,.d 76 9 75,.m 77 0,.m 78 11,.v 79 .sub 78 1,.r 80 9 77 79,.d 81 9 80,.s 82 (.call (.t 72) [.t 76,.t 81]),.v 83 .lss 82 0,.z 84 83]) (.i 84 (.exit [0,1,2,3,9,10] 4) .skip)) (.greg [] [] [[],[],[],[],[],[],[],[],[],[],[],[],[],[],[],[false,false,false,false,false,false,false,false,false,false,true,true,true,false,false],[],[false,false,false,false,false,false,false,false,false,false,false,false,false,false,false,false,false]] [.m 85 0,.m 86 11,.m 87 0,.m 88 11,.v 89 .sub 88 1,.m 90 0,.m 91 11,.v 92 .sub 91 1,.r 93 9 90 92,.d 94 9 93,.m 95 0,.m 96 11,.r 97 9 95 96,.d 98 9 97,.r 99 9 85 86,.w 9 99 94,.r 100 9 87 89,.w 9 100 98]))) (.reg [.m 70 11,.v 71 .sub 70 1,.m 11 71])))
def B336_2:Cd:=(.join [0,1,2,3,9,10,12] (.g [.m 107 12,.m 108 2,.b 109 .lss 107 108] (.i 109 .skip (.exit [0,1,2,3,9,10] 6))) (.join [0,1,2,3,9,10,12] (.block 7 (.join [0,1,2,3,9,10,12] (.q (.dreg 13 [.m 112 3,.m 113 0,.m 114 12,.r 115 9 113 114,.d 116 9 115,.m 117 0,.m 118 12,.v 119 .sub 118 1,.r 120 9 117 119,.d 121 9 120,.s 122 (.call (.t 112) [.t 116,.t 121]),.v 123 .lss 122 0,.z 124 123]) (.i 124 (.exit [0,1,2,3,9,10] 6) .skip)) (.greg [] [] [[],[],[],[],[],[],[],[],[],[],[],[],[],[],[],[false,false,false,false,false,false,false,false,false,false,true,true,true,false,false],[],[false,false,false,false,false,false,false,false,false,false,false,false,false,false,false,false,false]] [.m 125 0,.m 126 12,.m 127 0,.m 128 12,.v 129 .sub 128 1,.m 130 0,.m 131 12,.v 132 .sub 131 1,.r 133 9 130 132,.d 134 9 133,.m 135 0,.m 136 12,.r 137 9 135 136,.d 138 9 137,.r 139 9 125 126,.w 9 139 134,.r 140 9 127 129,.w 9 140 138]))) (.reg [.m 110 12,.v 111 .add 110 1,.m 12 111])))
def B336_3:Cd:=(.join [0,1,2,3,9,10] (.g [.m 15 10,.v 16 .lss 15 5] (.i 16 .skip (.exit [] 0))) (.join [0,1,2,3,9,10] (.block 1 (.join [0,1,2,3,9,10] (.block 2 (.loop [0,1,2,3,9,10] [] B336_0)) (.join [0,1,2,3,9,10] (.g [.m 39 9,.m 40 2,.b 41 .eql 39 40] (.i 41 (.g [.k 8 true] (.ret [8])) .skip)) (.join [0,1,2,3,9,10] (.g [.m 42 2,.m 43 1,.b 44 .sub 42 43,.v 45 .lss 44 50] (.i 45 (.g [.k 8 false] (.ret [8])) .skip)) (.join [0,1,2,3,9,10] (.greg [] [] [[],[],[],[],[],[],[],[],[],[],[],[],[],[],[],[false,false,false,false,false,false,false,false,false,false,true,true,true,false,false],[],[false,false,false,false,false,false,false,false,false,false,false,false,false,false,false,false,false]] [.m 46 0,.m 47 9,.m 48 0,.m 49 9,.v 50 .sub 49 1,.m 51 0,.m 52 9,.v 53 .sub 52 1,.r 54 9 51 53,.d 55 9 54,.m 56 0,.m 57 9,.r 58 9 56 57,.d 59 9 58,.r 60 9 46 47,.w 9 60 55,.r 61 9 48 50,.w 9 61 59]) (.join [0,1,2,3,9,10] (.g [.m 62 9,.m 63 1,.b 64 .sub 62 63,.v 65 .geq 64 2] (.i 65 (.g [.m 66 9,.v 67 .sub 66 1,.m 11 67] (.block 4 (.loop [0,1,2,3,9,10,11] [] B336_1))) .skip)) (.g [.m 101 2,.m 102 9,.b 103 .sub 101 102,.v 104 .geq 103 2] (.i 104 (.g [.m 105 9,.v 106 .add 105 1,.m 12 106] (.block 6 (.loop [0,1,2,3,9,10,12] [] B336_2))) .skip)))))))) (.reg [.m 17 10,.v 18 .add 17 1,.m 10 18])))
theorem F336:compF Tryz.prog 336=some ⟨141,[.tmp 8],(.g [.k 8 false] (.g [.m 13 1,.v 14 .add 13 1,.m 9 14] (.join [] (.g [.c 10 0] (.block 0 (.loop [0,1,2,3,9,10] [] B336_3))) (.g [.k 8 false] (.ret [8])))))⟩:=by kernel_rfl
def B338_0:Cd:=(.join [0,1,4,12,13] (.join [0,1,4,12,13,47] (.dreg 16 [.m 32 12,.m 33 13,.b 34 .leq 32 33,.m 35 34,.my 36 4 35,.my 37 0 35,.my 38 12 35,.ry 39 9 37 38 35,.y 40 (.load (some 9) (.t 39)) 35,.my 41 0 35,.my 42 1 35,.ry 43 9 41 42 35,.y 44 (.load (some 9) (.t 43)) 35,.y 45 (.call (.t 36) [.t 40,.t 44]) 35,.vy 46 .lss 45 0 35,.e 47 35 46]) (.i 47 .skip (.exit [0,1,4,12,13] 0))) (.block 1 (.reg [.m 48 12,.v 49 .add 48 1,.m 12 49])))
def B338_1:Cd:=(.join [0,1,4,12,13] (.join [0,1,4,12,13,66] (.dreg 17 [.m 50 12,.m 51 13,.b 52 .leq 50 51,.m 53 52,.my 54 4 53,.my 55 0 53,.my 56 13 53,.ry 57 9 55 56 53,.y 58 (.load (some 9) (.t 57)) 53,.my 59 0 53,.my 60 1 53,.ry 61 9 59 60 53,.y 62 (.load (some 9) (.t 61)) 53,.y 63 (.call (.t 54) [.t 58,.t 62]) 53,.vy 64 .lss 63 0 53,.y 65 (.un .not (.t 64)) 53,.e 66 53 65]) (.i 66 .skip (.exit [0,1,4,12,13] 2))) (.block 3 (.reg [.m 67 13,.v 68 .sub 67 1,.m 13 68])))
def B338_2:Cd:=(.join [0,1,4,12,13] (.join [0,1,4,12,13,120] (.dreg 16 [.m 105 12,.m 106 13,.b 107 .leq 105 106,.m 108 107,.my 109 4 108,.my 110 0 108,.my 111 12 108,.ry 112 9 110 111 108,.y 113 (.load (some 9) (.t 112)) 108,.my 114 0 108,.my 115 1 108,.ry 116 9 114 115 108,.y 117 (.load (some 9) (.t 116)) 108,.y 118 (.call (.t 109) [.t 113,.t 117]) 108,.vy 119 .lss 118 0 108,.e 120 108 119]) (.i 120 .skip (.exit [0,1,4,12,13] 6))) (.block 7 (.reg [.m 121 12,.v 122 .add 121 1,.m 12 122])))
def B338_3:Cd:=(.join [0,1,4,12,13] (.join [0,1,4,12,13,139] (.dreg 17 [.m 123 12,.m 124 13,.b 125 .leq 123 124,.m 126 125,.my 127 4 126,.my 128 0 126,.my 129 13 126,.ry 130 9 128 129 126,.y 131 (.load (some 9) (.t 130)) 126,.my 132 0 126,.my 133 1 126,.ry 134 9 132 133 126,.y 135 (.load (some 9) (.t 134)) 126,.y 136 (.call (.t 127) [.t 131,.t 135]) 126,.vy 137 .lss 136 0 126,.y 138 (.un .not (.t 137)) 126,.e 139 126 138]) (.i 139 .skip (.exit [0,1,4,12,13] 8))) (.block 9 (.reg [.m 140 13,.v 141 .sub 140 1,.m 13 141])))
def B338_4:Cd:=(.block 5 (.join [0,1,4,12,13] (.block 6 (.loop [0,1,4,12,13] [] B338_2)) (.join [0,1,4,12,13] (.block 8 (.loop [0,1,4,12,13] [] B338_3)) (.join [0,1,4,12,13] (.g [.m 142 12,.m 143 13,.b 144 .gtr 142 143] (.i 144 (.exit [0,1,13] 4) .skip)) (.join [0,1,4,12,13] (.greg [] [] [[],[],[],[],[],[],[],[],[],[],[],[],[],[false,false,false,false,false,false,false,false,false,true,true,false,false],[],[false,false,false,false,false,false,false,false,false,false,false,false,false,false,false]] [.m 145 0,.m 146 12,.m 147 0,.m 148 13,.m 149 0,.m 150 13,.r 151 9 149 150,.d 152 9 151,.m 153 0,.m 154 12,.r 155 9 153 154,.d 156 9 155,.r 157 9 145 146,.w 9 157 152,.r 158 9 147 148,.w 9 158 156]) (.g [.m 159 12,.v 160 .add 159 1,.m 12 160] (.reg [.m 161 13,.v 162 .sub 161 1,.m 13 162])))))))
theorem F338:compF Tryz.prog 338=some ⟨178,[.tmp 10,.tmp 11],(.g [.c 10 0,.k 11 false] (.join [0,1,2,4] (.greg [] [] [[],[],[],[],[],[],[],[],[],[],[],[],[],[false,false,false,false,false,false,false,false,false,true,true,false,false],[],[false,false,false,false,false,false,false,false,false,false,false,false,false,false,false]] [.m 14 0,.m 15 1,.m 16 0,.m 17 3,.m 18 0,.m 19 3,.r 20 9 18 19,.d 21 9 20,.m 22 0,.m 23 1,.r 24 9 22 23,.d 25 9 24,.r 26 9 14 15,.w 9 26 21,.r 27 9 16 17,.w 9 27 25]) (.g [.m 28 1,.v 29 .add 28 1,.m 30 2,.v 31 .sub 30 1,.m 12 29,.m 13 31] (.join [0,1,4,12,13] (.block 0 (.loop [0,1,4,12,13] [] B338_0)) (.join [0,1,4,12,13] (.block 2 (.loop [0,1,4,12,13] [] B338_1)) (.join [0,1,4,12,13] (.g [.m 69 12,.m 70 13,.b 71 .gtr 69 70] (.i 71 (.join [13] (.greg [] [] [[],[],[],[],[],[],[],[],[],[],[],[],[],[false,false,false,false,false,false,false,false,false,true,true,false,false],[],[false,false,false,false,false,false,false,false,false,false,false,false,false,false,false]] [.m 72 0,.m 73 13,.m 74 0,.m 75 1,.m 76 0,.m 77 1,.r 78 9 76 77,.d 79 9 78,.m 80 0,.m 81 13,.r 82 9 80 81,.d 83 9 82,.r 84 9 72 73,.w 9 84 79,.r 85 9 74 75,.w 9 85 83]) (.g [.m 86 13,.m 10 86,.k 11 true] (.ret [10,11]))) .skip)) (.join [0,1,4,12,13] (.greg [] [] [[],[],[],[],[],[],[],[],[],[],[],[],[],[false,false,false,false,false,false,false,false,false,true,true,false,false],[],[false,false,false,false,false,false,false,false,false,false,false,false,false,false,false]] [.m 87 0,.m 88 12,.m 89 0,.m 90 13,.m 91 0,.m 92 13,.r 93 9 91 92,.d 94 9 93,.m 95 0,.m 96 12,.r 97 9 95 96,.d 98 9 97,.r 99 9 87 88,.w 9 99 94,.r 100 9 89 90,.w 9 100 98]) (.g [.m 101 12,.v 102 .add 101 1,.m 12 102] (.g [.m 103 13,.v 104 .sub 103 1,.m 13 104] (.join [0,1,13] (.block 4 (.loop [0,1,4,12,13] [] B338_4)) (.join [13] (.greg [] [] [[],[],[],[],[],[],[],[],[],[],[],[],[],[false,false,false,false,false,false,false,false,false,true,true,false,false],[],[false,false,false,false,false,false,false,false,false,false,false,false,false,false,false]] [.m 163 0,.m 164 13,.m 165 0,.m 166 1,.m 167 0,.m 168 1,.r 169 9 167 168,.d 170 9 169,.m 171 0,.m 172 13,.r 173 9 171 172,.d 174 9 173,.r 175 9 163 164,.w 9 175 170,.r 176 9 165 166,.w 9 176 174]) (.g [.m 177 13,.m 10 177,.k 11 false] (.ret [10,11])))))))))))))⟩:=by kernel_rfl
theorem F364:compF Tryz.prog 364=some ⟨41,[.tmp 12],(.g [.c 12 0] (.g [.m 14 0,.m 15 1,.m 16 2,.m 17 4,.m 18 5,.s 19 (.f 377 [.t 14,.t 15,.t 16,.t 17,.t 18]),.m 13 19,.j 20 0 13,.j 21 1 13,.m 1 20,.m 2 21] (.g [.m 23 0,.m 24 2,.m 25 3,.m 26 4,.m 27 5,.s 28 (.f 377 [.t 23,.t 24,.t 25,.t 26,.t 27]),.m 22 28,.j 29 0 22,.j 30 1 22,.m 2 29,.m 3 30] (.g [.m 32 0,.m 33 1,.m 34 2,.m 35 4,.m 36 5,.s 37 (.f 377 [.t 32,.t 33,.t 34,.t 35,.t 36]),.m 31 37,.j 38 0 31,.j 39 1 31,.m 1 38,.m 2 39] (.g [.m 40 2,.m 12 40] (.ret [12]))))))⟩:=by kernel_rfl
theorem F377:compF Tryz.prog 377=some ⟨32,[.tmp 10,.tmp 11],(.g [.c 10 0,.c 11 0] (.join [1,2] (.q (.dreg 11 [.m 12 4,.m 13 0,.m 14 2,.r 15 9 13 14,.d 16 9 15,.m 17 0,.m 18 1,.r 19 9 17 18,.d 20 9 19,.s 21 (.call (.t 12) [.t 16,.t 20]),.v 22 .lss 21 0]) (.i 22 (.g [.m 23 3,.s 24 (.k 23),.l 25 24,.v 26 .add 25 1,.s 27 (.k 23),.w 1 27 26] (.g [.m 28 2,.m 29 1,.m 10 28,.m 11 29] (.ret [10,11]))) .skip)) (.g [.m 30 1,.m 31 2,.m 10 30,.m 11 31] (.ret [10,11]))))⟩:=by kernel_rfl
end Go.Proofs.YtmjkgajnpmiomaaGreatDoor

namespace Go.Proofs.YtmjkgajnpmiomaaGreatDoor
open Go.Sha
set_option maxRecDepth 100000
variable {g:List (Nat×Obj)}{n:Nat}
theorem gets {xs:List Cu}{m N:Nat}(e:xs.length=N)(h:m<N):∃x,xs.getD m default=x∧(∀d,xs.getD m d=x)∧xs[m]?=some x∧(xs.map Cu.v).getD m V.und=x.v∧x∈xs∧(m:Int)<N:=by
 have h':m<xs.length:=by omega
 refine⟨xs[m],?_,fun d=>?_,List.getElem?_eq_getElem h',?_,List.getElem_mem h',by omega⟩
 ·simp[List.getD_eq_getElem?_getD,h']
 ·simp[List.getD_eq_getElem?_getD,h']
 ·simp[List.getD_eq_getElem?_getD,h']
section
variable {k id N:Nat}{M:List (Nat×List V)}{xs:List Cu}
theorem f377 (hid:id<k)(e1:xs.length=N)(hN:N<1000)(hol:∀q∈xs,q.ok){a b:Nat}(ha:a<N)(hb:b<N)(hc:¬cmpC (xs.getD b default) (xs.getD a default)<0) :
  run Tryz.prog HH 377 [.osl id N,.int .i64 a,.int .i64 b,.ep (.agg [.i 0]) 0,cmpV] (stC g k M id xs)=some (.ret (.tup [.int .i64 a,.int .i64 b]),stC g k M id xs):=by
 obtain⟨x,a1,a2,a3,a4,a5,a6⟩:=gets e1 ha
 obtain⟨y,b1,b2,b3,b4,b5,b6⟩:=gets e1 hb
 rw[a1,b1]at hc
 have h244:=fun st=>f244 (a:=y) (b:=x) (st:=st) (hol y b5) (hol x a5)
 have hni:¬id=k:=by omega
 have hnk:¬k≤id:=by omega
 rw[run_open F377 rfl rfl (by simp[V.bdL,V.bd])]
 push_cast[Cu.v]at h244
 push_cast[hid,hni,hnk,e1,ha,hb,a2,a3,a4,a6,b2,b3,b4,b6,Cu.v,h244,hc]
theorem f364 (hid:id<k)(e1:xs.length=N)(hN:N<1000)(hol:∀q∈xs,q.ok){a b c:Nat}(ha:a<N)(hb:b<N)(hc:c<N)(h1:¬cmpC (xs.getD b default) (xs.getD a default)<0)(h2:¬cmpC (xs.getD c default) (xs.getD b default)<0) :
  run Tryz.prog HH 364 [.osl id N,.int .i64 a,.int .i64 b,.int .i64 c,.ep (.agg [.i 0]) 0,cmpV] (stC g k M id xs)=some (.ret (.int .i64 b),stC g k M id xs):=by
 have k1:=f377 (g:=g) (M:=M) hid e1 hN hol ha hb h1
 have k2:=f377 (g:=g) (M:=M) hid e1 hN hol hb hc h2
 have hni:¬id=k:=by omega
 have hnk:¬k≤id:=by omega
 rw[run_open F364 rfl rfl (by simp[V.bdL,V.bd])]
 push_cast at k1 k2
 push_cast[hid,hni,hnk,e1,and_false,k1,k2]
theorem f334 (hid:id<k)(hM:dropM k M=M)(hB:belowL k (V.bdL k) M=true)(hK:keepL k M=M)(e1:xs.length=N)(hN:13≤N∧N≤16)(hol:∀q∈xs,q.ok)(h:∀i j,i<j→j<N-1→¬cmpC (xs.getD j default) (xs.getD i default)<0){Q:Nat}(hQ:N / 4=Q) :
  run Tryz.prog HH 334 [.osl id N,.int .i64 0,.int .i64 N,cmpV] (stC g k M id xs)=some (.ret (.tup [.int .i64 ((Q:Int)*2),.int .i64 1]),stC g k M id xs):=by
 have hni:¬id=k:=by omega
 have hnk:¬k≤id:=by omega
 have hid1:id<k+1:=by omega
 have k1:=f364 (g:=g) (k:=k+1) (M:=M) (a:=Q) (b:=Q*2) (c:=Q*3) (by omega) e1 (by omega) hol (by omega) (by omega) (by omega) (h _ _ (by omega) (by omega)) (h _ _ (by omega) (by omega))
 have w0:IntKind.i64.wrap ((N:Int)-0)=N:=by rw[iwrap (by omega) (by omega)];omega
 have c8:(8:Int)≤N:=by omega
 have c50:¬(50:Int)≤N:=by omega
 have q0:IntKind.i64.wrap ((N:Int).tdiv 4)=Q:=by
  rw[Int.tdiv_eq_ediv_of_nonneg (by omega),iwrap (by omega) (by omega)];omega
 have q1:IntKind.i64.wrap ((Q:Int)*1)=Q:=by rw[iwrap (by omega) (by omega)];omega
 have q2:IntKind.i64.wrap ((Q:Int)*2)=(Q:Int)*2:=iwrap (by omega) (by omega)
 have q3:IntKind.i64.wrap ((Q:Int)*3)=(Q:Int)*3:=iwrap (by omega) (by omega)
 have p1:IntKind.i64.wrap (0+(Q:Int))=Q:=by rw[iwrap (by omega) (by omega)];omega
 have p2:IntKind.i64.wrap (0+(Q:Int)*2)=(Q:Int)*2:=by rw[iwrap (by omega) (by omega)];omega
 have p3:IntKind.i64.wrap (0+(Q:Int)*3)=(Q:Int)*3:=by rw[iwrap (by omega) (by omega)];omega
 rw[run_open F334 rfl rfl (by simp[V.bdL,V.bd,hid])]
 push_cast at k1
 push_cast[hid,hid1,hM,hB,hK,hni,hnk,e1,and_false,w0,c8,c50,q0,q1,q2,q3,p1,p2,p3,k1]
theorem L336_0 (hid:id<k)(e1:xs.length=N)(hN:N<1000)(hol:∀q∈xs,q.ok){t:Nat}(h:∀j,1≤j→j<t→¬cmpC (xs.getD j default) (xs.getD (j-1) default)<0)(ht:t=N∨t<N∧cmpC (xs.getD t default) (xs.getD (t-1) default)<0) :
  ∀(d i:Nat),i+d=t→1≤i→runL Tryz.prog HH [0,1,2,3,9,10] k B336_0 [(0,.osl id N),(1,.int .i64 0),(2,.int .i64 N),(3,cmpV),(9,.int .i64 i),(10,.int .i64 0)] (stC g k M id xs)
   = some (.exit 2,[(0,.osl id N),(1,.int .i64 0),(2,.int .i64 N),(3,cmpV),(9,.int .i64 t),(10,.int .i64 0)],stC g k M id xs):=by
 have hni:¬id=k:=by omega
 have hnk:¬k≤id:=by omega
 intro d
 induction d with
 |zero =>
  intro i hi h1
  have:i=t:=by omega
  subst this
  rw[runL_of B336_0.eq_1]
  rcases ht with ht|⟨ht,hc⟩
  ·have c1:¬(i:Int)<N:=by omega
   push_cast[hid,hni,hnk,e1,c1]
  ·have c1:(i:Int)<N:=by omega
   obtain⟨x,a1,a2,a3,a4,a5,a6⟩:=gets e1 ht
   obtain⟨y,b1,b2,b3,b4,b5,b6⟩:=gets (m:=i-1) e1 (by omega)
   rw[a1,b1]at hc
   have hw:IntKind.i64.wrap ((i:Int)-1)=((i-1:Nat):Int):=by rw[iwrap (by omega) (by omega)];omega
   have h244:=fun st=>f244 (a:=x) (b:=y) (st:=st) (hol x a5) (hol y b5)
   have hb:i-1<N:=by omega
   generalize i-1=z at *
   push_cast[Cu.v]at h244
   push_cast[hid,hni,hnk,e1,c1,ht,hb,hw,a2,a3,a4,a6,b2,b3,b4,b6,Cu.v,h244,hc]
 |succ d ih =>
  intro i hi h1
  have ih:=ih (i+1) (by omega) (by omega)
  have c1:(i:Int)<N:=by omega
  have hti:i<N:=by omega
  have hc:=h i h1 (by omega)
  obtain⟨x,a1,a2,a3,a4,a5,a6⟩:=gets e1 hti
  obtain⟨y,b1,b2,b3,b4,b5,b6⟩:=gets (m:=i-1) e1 (by omega)
  rw[a1,b1]at hc
  have hw:IntKind.i64.wrap ((i:Int)-1)=((i-1:Nat):Int):=by rw[iwrap (by omega) (by omega)];omega
  have hw2:=iw1 (j:=i) (by omega)
  have h244:=fun st=>f244 (a:=x) (b:=y) (st:=st) (hol x a5) (hol y b5)
  have hb:i-1<N:=by omega
  rw[runL_of B336_0.eq_1]
  generalize i-1=z at *
  push_cast[Cu.v]at h244 ih
  push_cast[hid,hni,hnk,e1,c1,hti,hb,hw,hw2,a2,a3,a4,a6,b2,b3,b4,b6,Cu.v,h244,hc,ih]
theorem f336 (hid:id<k)(e1:xs.length=N)(hN:13≤N∧N≤16)(hol:∀q∈xs,q.ok){t:Nat}(h1t:1≤t)(h:∀j,1≤j→j<t→¬cmpC (xs.getD j default) (xs.getD (j-1) default)<0)(ht:t=N∨t<N∧cmpC (xs.getD t default) (xs.getD (t-1) default)<0) :
  run Tryz.prog HH 336 [.osl id N,.int .i64 0,.int .i64 N,cmpV] (stC g k M id xs)=some (.ret (.bool (decide (t=N))),stC g k M id xs):=by
 have hni:¬id=k:=by omega
 have hnk:¬k≤id:=by omega
 have hL:=L336_0 (g:=g) (M:=M) hid e1 (by omega) hol h ht (t-1) 1 (by omega) (by omega)
 have w0:IntKind.i64.wrap ((N:Int)-0)=N:=by rw[iwrap (by omega) (by omega)];omega
 have c50:(N:Int)<50:=by omega
 rw[run_open F336 rfl rfl (by simp[V.bdL,V.bd,hid])]
 push_cast at hL
 by_cases c:t=N
 ·subst c
  push_cast[hid,hni,hnk,e1,runL_of B336_3.eq_1,hL,and_false]
 ·have c':¬(t:Int)=N:=by omega
  push_cast[hid,hni,hnk,e1,runL_of B336_3.eq_1,hL,and_false,c,c',w0,c50]
end
end Go.Proofs.YtmjkgajnpmiomaaGreatDoor

namespace Go.Proofs.YtmjkgajnpmiomaaGreatDoor
open Go.Sha
set_option maxRecDepth 100000
variable {g:List (Nat×Obj)}{n:Nat}
theorem L331g {k id:Nat}{M:List (Nat×List V)}(hid:id<k){m i N:Nat}{A:List Cu}(hN:N<1000):∀(r:List Cu) (x:Cu) (s:List Cu),(∀q∈r,q.ok)→x.ok→(r++A).length+1+s.length=N →
  runL Tryz.prog HH [0,1,2,3,8,9] k B331_0 [(0,.osl id N),(1,.int .i64 A.length),(2,.int .i64 m),(3,cmpV),(8,.int .i64 i),(9,.int .i64 (r++A).length)] (stC g k M id ((r++A).reverse++x::s))
   = some (.exit 2,[(0,.osl id N),(1,.int .i64 A.length),(2,.int .i64 m),(3,cmpV),(8,.int .i64 i)],stC g k M id (A.reverse++insW ltC r x s)):=by
 intro r
 induction r with
 |nil =>
  intro x s hr hx hl
  rw[runL_of B331_0.eq_1]
  have hnl:¬(A.length:Int)<A.length:=by omega
  push_cast[hid,hnl,List.nil_append,insW]
 |cons y r ih =>
  intro x s hr hx hl
  have h123:=fun st=>f244 (a:=x) (b:=y) (st:=st) hx (hr y (List.mem_cons_self ..))
  have hni:¬id=k:=by omega
  have hnk:¬k≤id:=by omega
  rw[List.cons_append,List.length_cons]at hl
  rw[List.cons_append]
  have hq:A.reverse++(r.reverse++y::x::s)=(r++A).reverse++y::x::s:=by simp
  have hAr:A.length≤(r++A).length:=by simp
  rw[insW]
  generalize r++A=R at *
  have ih:=ih x (y::s) (fun q hq=>hr q (List.mem_cons_of_mem _ hq)) hx (by rw[List.length_cons];omega)
  have e1:((y::R).reverse++x::s).length=N:=by simp;omega
  have e2:∀d,((y::R).reverse++x::s).getD (R.length+1) d=x:=fun d=>by simp[List.getD_eq_getElem?_getD]
  have e3:∀d,((y::R).reverse++x::s).getD R.length d=y:=fun d=>by simp[List.getD_eq_getElem?_getD]
  have e4:(((y::R).reverse++x::s).map Cu.v).getD (R.length+1) V.und=x.v:=by simp[List.getD_eq_getElem?_getD]
  have e5:(((y::R).reverse++x::s).map Cu.v).getD R.length V.und=y.v:=by simp[List.getD_eq_getElem?_getD]
  have e6:((y::R).reverse++x::s)[R.length+1]?=some x:=by simp
  have e7:((((y::R).reverse++x::s).map Cu.v).set (R.length+1) y.v)[R.length]?=some y.v:=by simp
  have e8:((((y::R).reverse++x::s).map Cu.v).set (R.length+1) y.v).set R.length x.v=(R.reverse++x::y::s).map Cu.v:=by simp
  have w1:IntKind.i64.wrap (((R.length:Nat):Int)+1-1)=R.length:=by rw[iwrap (by omega) (by omega)];omega
  have c1:(A.length:Int)<((R.length:Nat):Int)+1:=by omega
  have c2:((R.length:Nat):Int)+1<N:=by omega
  have c3:(R.length:Int)<N:=by omega
  have d2:R.length+1<N:=by omega
  have d3:R.length<N:=by omega
  rw[List.length_cons]
  generalize hxs:(y::R).reverse++x::s=xs at *
  rw[runL_of B331_0.eq_1]
  push_cast[Cu.v]at h123 ih
  simp only[Cu.v]at e7 e8
  by_cases c:cmpC x y<0
  ·rw[if_pos (show ltC x y from c)]
   push_cast[hid,hni,hnk,e1,e2,e3,e4,e5,e6,e7,e8,w1,c1,c2,c3,d2,d3,Cu.v,h123,stoB,V.cells,V.recell,c]
   first|exact ih|exact dn_eq (fun _=>by simp[e1]) ih|exact dn_eq (by simp[e1]) ih
  ·rw[if_neg (show ¬ltC x y from c)]
   push_cast[hid,hni,hnk,e1,e2,e3,e4,e5,e6,e7,e8,w1,c1,c2,c3,d2,d3,Cu.v,h123,stoB,V.cells,V.recell,c]
   rw[hq];simp[←hxs]
theorem L331h {k id:Nat}{M:List (Nat×List V)}(hid:id<k){A l C:List Cu}{N:Nat}(hl:A.length+l.length+C.length=N)(hN:N<1000)(hol:∀q∈l,q.ok):∀(r:List Cu) (j:Nat),l.drop j=r→∀out:List Cu,(∀q∈out,q.ok)→out.length=j →
  runL Tryz.prog HH [0,1,2,3,8] k B331_1 [(0,.osl id N),(1,.int .i64 A.length),(2,.int .i64 ((A.length:Int)+l.length)),(3,cmpV),(8,.int .i64 ((A.length:Int)+j))] (stC g k M id (A++(out++r)++C))
   = some (.exit 0,[],stC g k M id (A++r.foldl (insS ltC) out++C)):=by
 refine drop_ind (fun j h out hk ho=>?_) (fun q r j h hx hd ih out hk ho=>?_)
 all_goals rw[runL_of B331_1.eq_1]
 ·have h1:¬(A.length:Int)+j<(A.length:Int)+l.length:=by omega
  push_cast[h1,List.foldl_nil,List.append_nil]
 ·have h1:(A.length:Int)+j<(A.length:Int)+l.length:=by omega
  have hw:IntKind.i64.wrap ((A.length:Int)+j+1)=(A.length:Int)+((j:Int)+1):=by rw[iwrap (by omega) (by omega)];omega
  have hlen:=congrArg List.length hd
  simp only[List.length_drop,List.length_cons]at hlen
  have hL:=L331g (g:=g) (M:=M) hid (m:=A.length+l.length) (i:=A.length+j) (A:=A.reverse) hN out.reverse q (r++C) (fun z hz=>hk z (List.mem_reverse.1 hz)) (hol q (mem_atC hd)) (by simp;omega)
  have ih:=ih (insS ltC out q) (fun z hz=>by rcases insS_mem.1 hz with h|h;exact hk z h;rw[h];exact hol q (mem_atC hd)) (by rw[insS_len,ho])
  rw[insW_app,List.reverse_append,List.reverse_reverse,List.reverse_reverse]at hL
  simp only[List.length_append,List.length_reverse,ho]at hL
  rw[List.foldl_cons]
  have e1:A++(out++q::r)++C=A++out++q::(r++C):=by simp
  have e2:A++(insS ltC out q++r)++C=A++(insW ltC out.reverse q []++(r++C)):=by simp[insS]
  rw[e2]at ih
  rw[e1]
  generalize A++(insW ltC out.reverse q []++(r++C))=z1 at *
  generalize A++out++q::(r++C)=z2 at *
  generalize A++List.foldl (insS ltC) (insS ltC out q) r++C=z3 at *
  rw[Nat.add_comm j A.length]at hL
  push_cast at ih hL
  push_cast[hid,h1,hw,hL]
  exact ih
theorem f331g {k id:Nat}{M:List (Nat×List V)}(hid:id<k){A l C:List Cu}{N:Nat}(hl:A.length+l.length+C.length=N)(hN:N<1000)(hol:∀q∈l,q.ok) :
  run Tryz.prog HH 331 [.osl id N,.int .i64 A.length,.int .i64 ((A.length:Int)+l.length),cmpV] (stC g k M id (A++l++C))=some (.ret (.tup []),stC g k M id (A++isort ltC l++C)):=by
 have hni:¬id=k:=by omega
 have hnk:¬k≤id:=by omega
 have hw:IntKind.i64.wrap ((A.length:Int)+1)=(A.length:Int)+1:=iwrap (by omega) (by omega)
 cases l with
 |nil =>
  have h1:¬(A.length:Int)+1<(A.length:Int)+0:=by omega
  have h0:isort ltC ([]:List Cu)=[]:=rfl
  rw[h0,run_open F331 rfl rfl (by simp[V.bdL,V.bd,hid])]
  push_cast[hid,hni,hnk,runL_of B331_1.eq_1,hw,h1,List.length_nil]
 |cons x l =>
  have hL:=L331h (g:=g) (M:=M) hid (A:=A) (C:=C) hl hN hol l 1 rfl [x] (fun q hq=>hol q (by rw[List.mem_singleton.1 hq];exact List.mem_cons_self ..)) rfl
  have e:isort ltC (x::l)=l.foldl (insS ltC) [x]:=by simp[isort,insS,insW]
  have hlen:(isort ltC (x::l)).length=(x::l).length:=isort_len
  rw[e]at hlen ⊢
  rw[List.singleton_append]at hL
  have hz:(A++x::l++C).length=N:=by rw[←hl];simp;omega
  have hz2:(A++List.foldl (insS ltC) [x] l++C).length=N:=by rw[←hl];simp at hlen ⊢;omega
  rw[run_open F331 rfl rfl (by simp[V.bdL,V.bd,hid])]
  generalize A++x::l++C=z1 at *
  generalize A++List.foldl (insS ltC) [x] l++C=z2 at *
  push_cast at hL
  push_cast[hid,hni,hnk,hL,hw,hz,hz2,and_false]
theorem L338_0 {k id N:Nat}{M:List (Nat×List V)}{xs:List Cu}(hid:id<k)(e1:xs.length=N)(hN:N<1000)(hol:∀q∈xs,q.ok){jj:Int}{t i0:Nat}(h0:0<N)(h:∀m,i0≤m→m<t→(m:Int)≤jj∧m<N∧cmpC (xs.getD m default) (xs.getD 0 default)<0)
  (ht:¬(t:Int)≤jj∨(t:Int)≤jj∧t<N∧¬cmpC (xs.getD t default) (xs.getD 0 default)<0) :
  ∀(d i:Nat),i+d=t→i0≤i→runL Tryz.prog HH [0,1,4,12,13] k B338_0 [(0,.osl id N),(1,.int .i64 0),(4,cmpV),(12,.int .i64 i),(13,.int .i64 jj)] (stC g k M id xs)
   = some (.exit 0,[(0,.osl id N),(1,.int .i64 0),(4,cmpV),(12,.int .i64 t),(13,.int .i64 jj)],stC g k M id xs):=by
 have hni:¬id=k:=by omega
 have hnk:¬k≤id:=by omega
 obtain⟨z,z1,z2,z3,z4,z5,z6⟩:=gets (m:=0) e1 h0
 intro d
 induction d with
 |zero =>
  intro i hi h1
  have:i=t:=by omega
  subst this
  rw[runL_of B338_0.eq_1]
  rcases ht with ht|⟨ht,hn,hc⟩
  ·push_cast[hid,hni,hnk,e1,ht]
  ·obtain⟨x,a1,a2,a3,a4,a5,a6⟩:=gets e1 hn
   rw[a1,z1]at hc
   have h244:=fun st=>f244 (a:=x) (b:=z) (st:=st) (hol x a5) (hol z z5)
   push_cast[Cu.v]at h244
   push_cast at z6
   push_cast[hid,hni,hnk,e1,ht,hn,h0,a2,a3,a4,a6,z2,z3,z4,z6,Cu.v,h244,hc]
 |succ d ih =>
  intro i hi h1
  have ih:=ih (i+1) (by omega) (by omega)
  obtain⟨c1,hn,hc⟩:=h i h1 (by omega)
  obtain⟨x,a1,a2,a3,a4,a5,a6⟩:=gets e1 hn
  rw[a1,z1]at hc
  have hw2:=iw1 (j:=i) (by omega)
  have h244:=fun st=>f244 (a:=x) (b:=z) (st:=st) (hol x a5) (hol z z5)
  rw[runL_of B338_0.eq_1]
  push_cast[Cu.v]at h244 ih
  push_cast at z6
  push_cast[hid,hni,hnk,e1,c1,hn,h0,hw2,a2,a3,a4,a6,z2,z3,z4,z6,Cu.v,h244,hc,ih]
theorem L338_2 {k id N:Nat}{M:List (Nat×List V)}{xs:List Cu}(hid:id<k)(e1:xs.length=N)(hN:N<1000)(hol:∀q∈xs,q.ok){jj:Int}{t i0:Nat}(h0:0<N)(h:∀m,i0≤m→m<t→(m:Int)≤jj∧m<N∧cmpC (xs.getD m default) (xs.getD 0 default)<0)
  (ht:¬(t:Int)≤jj∨(t:Int)≤jj∧t<N∧¬cmpC (xs.getD t default) (xs.getD 0 default)<0) :
  ∀(d i:Nat),i+d=t→i0≤i→runL Tryz.prog HH [0,1,4,12,13] k B338_2 [(0,.osl id N),(1,.int .i64 0),(4,cmpV),(12,.int .i64 i),(13,.int .i64 jj)] (stC g k M id xs)
   = some (.exit 6,[(0,.osl id N),(1,.int .i64 0),(4,cmpV),(12,.int .i64 t),(13,.int .i64 jj)],stC g k M id xs):=by
 have hni:¬id=k:=by omega
 have hnk:¬k≤id:=by omega
 obtain⟨z,z1,z2,z3,z4,z5,z6⟩:=gets (m:=0) e1 h0
 intro d
 induction d with
 |zero =>
  intro i hi h1
  have:i=t:=by omega
  subst this
  rw[runL_of B338_2.eq_1]
  rcases ht with ht|⟨ht,hn,hc⟩
  ·push_cast[hid,hni,hnk,e1,ht]
  ·obtain⟨x,a1,a2,a3,a4,a5,a6⟩:=gets e1 hn
   rw[a1,z1]at hc
   have h244:=fun st=>f244 (a:=x) (b:=z) (st:=st) (hol x a5) (hol z z5)
   push_cast[Cu.v]at h244
   push_cast at z6
   push_cast[hid,hni,hnk,e1,ht,hn,h0,a2,a3,a4,a6,z2,z3,z4,z6,Cu.v,h244,hc]
 |succ d ih =>
  intro i hi h1
  have ih:=ih (i+1) (by omega) (by omega)
  obtain⟨c1,hn,hc⟩:=h i h1 (by omega)
  obtain⟨x,a1,a2,a3,a4,a5,a6⟩:=gets e1 hn
  rw[a1,z1]at hc
  have hw2:=iw1 (j:=i) (by omega)
  have h244:=fun st=>f244 (a:=x) (b:=z) (st:=st) (hol x a5) (hol z z5)
  rw[runL_of B338_2.eq_1]
  push_cast[Cu.v]at h244 ih
  push_cast at z6
  push_cast[hid,hni,hnk,e1,c1,hn,h0,hw2,a2,a3,a4,a6,z2,z3,z4,z6,Cu.v,h244,hc,ih]
theorem L338_1 {k id N:Nat}{M:List (Nat×List V)}{xs:List Cu}(hid:id<k)(e1:xs.length=N)(hN:N<1000)(hol:∀q∈xs,q.ok){i t j0:Nat}(h0:0<N)(h:∀m,t<m→m≤j0→i≤m∧m<N∧¬cmpC (xs.getD m default) (xs.getD 0 default)<0)
  (ht:¬i≤t∨i≤t∧t<N∧cmpC (xs.getD t default) (xs.getD 0 default)<0) :
  ∀(d j:Nat),t+d=j→j≤j0→runL Tryz.prog HH [0,1,4,12,13] k B338_1 [(0,.osl id N),(1,.int .i64 0),(4,cmpV),(12,.int .i64 i),(13,.int .i64 j)] (stC g k M id xs)
   = some (.exit 2,[(0,.osl id N),(1,.int .i64 0),(4,cmpV),(12,.int .i64 i),(13,.int .i64 t)],stC g k M id xs):=by
 have hni:¬id=k:=by omega
 have hnk:¬k≤id:=by omega
 obtain⟨z,z1,z2,z3,z4,z5,z6⟩:=gets (m:=0) e1 h0
 intro d
 induction d with
 |zero =>
  intro j hj h1
  have:j=t:=by omega
  subst this
  rw[runL_of B338_1.eq_1]
  rcases ht with ht|⟨ht,hn,hc⟩
  ·have ht':¬(i:Int)≤j:=by omega
   push_cast[hid,hni,hnk,e1,ht']
  ·have ht':(i:Int)≤j:=by omega
   obtain⟨x,a1,a2,a3,a4,a5,a6⟩:=gets e1 hn
   rw[a1,z1]at hc
   have h244:=fun st=>f244 (a:=x) (b:=z) (st:=st) (hol x a5) (hol z z5)
   push_cast[Cu.v]at h244
   push_cast at z6
   push_cast[hid,hni,hnk,e1,ht',hn,h0,a2,a3,a4,a6,z2,z3,z4,z6,Cu.v,h244,hc]
 |succ d ih =>
  intro j hj h1
  have ih:=ih (j-1) (by omega) (by omega)
  obtain⟨c1,hn,hc⟩:=h j (by omega) h1
  have c1':(i:Int)≤j:=by omega
  obtain⟨x,a1,a2,a3,a4,a5,a6⟩:=gets e1 hn
  rw[a1,z1]at hc
  have hw2:IntKind.i64.wrap ((j:Int)-1)=((j-1:Nat):Int):=by rw[iwrap (by omega) (by omega)];omega
  have h244:=fun st=>f244 (a:=x) (b:=z) (st:=st) (hol x a5) (hol z z5)
  rw[runL_of B338_1.eq_1]
  generalize j-1=y at *
  push_cast[Cu.v]at h244 ih
  push_cast at z6
  push_cast[hid,hni,hnk,e1,c1',hn,h0,hw2,a2,a3,a4,a6,z2,z3,z4,z6,Cu.v,h244,hc,ih]
theorem L338_3 {k id N:Nat}{M:List (Nat×List V)}{xs:List Cu}(hid:id<k)(e1:xs.length=N)(hN:N<1000)(hol:∀q∈xs,q.ok){i t j0:Nat}(h0:0<N)(h:∀m,t<m→m≤j0→i≤m∧m<N∧¬cmpC (xs.getD m default) (xs.getD 0 default)<0)
  (ht:¬i≤t∨i≤t∧t<N∧cmpC (xs.getD t default) (xs.getD 0 default)<0) :
  ∀(d j:Nat),t+d=j→j≤j0→runL Tryz.prog HH [0,1,4,12,13] k B338_3 [(0,.osl id N),(1,.int .i64 0),(4,cmpV),(12,.int .i64 i),(13,.int .i64 j)] (stC g k M id xs)
   = some (.exit 8,[(0,.osl id N),(1,.int .i64 0),(4,cmpV),(12,.int .i64 i),(13,.int .i64 t)],stC g k M id xs):=by
 have hni:¬id=k:=by omega
 have hnk:¬k≤id:=by omega
 obtain⟨z,z1,z2,z3,z4,z5,z6⟩:=gets (m:=0) e1 h0
 intro d
 induction d with
 |zero =>
  intro j hj h1
  have:j=t:=by omega
  subst this
  rw[runL_of B338_3.eq_1]
  rcases ht with ht|⟨ht,hn,hc⟩
  ·have ht':¬(i:Int)≤j:=by omega
   push_cast[hid,hni,hnk,e1,ht']
  ·have ht':(i:Int)≤j:=by omega
   obtain⟨x,a1,a2,a3,a4,a5,a6⟩:=gets e1 hn
   rw[a1,z1]at hc
   have h244:=fun st=>f244 (a:=x) (b:=z) (st:=st) (hol x a5) (hol z z5)
   push_cast[Cu.v]at h244
   push_cast at z6
   push_cast[hid,hni,hnk,e1,ht',hn,h0,a2,a3,a4,a6,z2,z3,z4,z6,Cu.v,h244,hc]
 |succ d ih =>
  intro j hj h1
  have ih:=ih (j-1) (by omega) (by omega)
  obtain⟨c1,hn,hc⟩:=h j (by omega) h1
  have c1':(i:Int)≤j:=by omega
  obtain⟨x,a1,a2,a3,a4,a5,a6⟩:=gets e1 hn
  rw[a1,z1]at hc
  have hw2:IntKind.i64.wrap ((j:Int)-1)=((j-1:Nat):Int):=by rw[iwrap (by omega) (by omega)];omega
  have h244:=fun st=>f244 (a:=x) (b:=z) (st:=st) (hol x a5) (hol z z5)
  rw[runL_of B338_3.eq_1]
  generalize j-1=y at *
  push_cast[Cu.v]at h244 ih
  push_cast at z6
  push_cast[hid,hni,hnk,e1,c1',hn,h0,hw2,a2,a3,a4,a6,z2,z3,z4,z6,Cu.v,h244,hc,ih]
end Go.Proofs.YtmjkgajnpmiomaaGreatDoor

namespace Go.Proofs.YtmjkgajnpmiomaaGreatDoor
open Go.Sha
set_option maxRecDepth 100000
variable {g:List (Nat×Obj)}{n:Nat}
def swp (xs:List Cu)(p s:Nat):List Cu:=(xs.set p (xs.getD s default)).set s (xs.getD p default)
theorem swp_len {xs:List Cu}{p s:Nat}:(swp xs p s).length=xs.length:=by simp[swp]
theorem swp_v {xs:List Cu}{p s:Nat}:((xs.map Cu.v).set p (xs.getD s default).v).set s (xs.getD p default).v=(swp xs p s).map Cu.v:=by simp[swp,List.map_set]
theorem swp_get {xs:List Cu}{p s m:Nat}(hp:p<xs.length)(hs:s<xs.length):(swp xs p s).getD m default=if m=s then xs.getD p default else if m=p then xs.getD s default else xs.getD m default:=by
 unfold swp
 generalize xs.getD s default=S
 generalize xs.getD p default=P
 by_cases h1:m=s
 ·subst h1
  rw[if_pos rfl,List.getD_eq_getElem?_getD,List.getElem?_set_self (by simpa using hs)];rfl
 ·rw[if_neg h1,List.getD_eq_getElem?_getD,List.getElem?_set_ne (fun e=>h1 e.symm)]
  by_cases h2:m=p
  ·subst h2
   rw[if_pos rfl,List.getElem?_set_self hp];rfl
  ·rw[if_neg h2,List.getElem?_set_ne (fun e=>h2 e.symm),List.getD_eq_getElem?_getD]
theorem swp_mem {xs:List Cu}{p s:Nat}(hp:p<xs.length)(hs:s<xs.length){q:Cu}(h:q∈swp xs p s):q∈xs:=by
 have m:∀i,i<xs.length→xs.getD i default∈xs:=fun i hi=>by
  rw[List.getD_eq_getElem?_getD,List.getElem?_eq_getElem hi];exact List.getElem_mem hi
 rcases List.mem_or_eq_of_mem_set h with h|h
 ·rcases List.mem_or_eq_of_mem_set h with h|h
  ·exact h
  ·rw[h];exact m s hs
 ·rw[h];exact m p hp
section
variable {k id N:Nat}{M:List (Nat×List V)}{D:List Cu}
theorem f338a (hid:id<k)(e1:D.length=N)(hN:13≤N∧N≤16)(hol:∀q∈D,q.ok){Q:Nat}(hQ:N / 4=Q)(h:∀i j,i<j→j<N-1→cmpC (D.getD i default) (D.getD j default)<0∧¬cmpC (D.getD j default) (D.getD i default)<0)(hc:¬cmpC (D.getD (N-1) default) (D.getD (Q*2) default)<0) :
  ∃X:List Cu,X.length=N∧(∀z∈X,z∈D)∧∀g:List (Nat×Obj),run Tryz.prog HH 338 [.osl id N,.int .i64 0,.int .i64 N,.int .i64 ((Q:Int)*2),cmpV] (stC g k M id D)=some (.ret (.tup [.int .i64 ((Q:Int)*2),.bool true]),stC g k M id X):=by
 have hni:¬id=k:=by omega
 have hnk:¬k≤id:=by omega
 obtain⟨q,hq⟩:∃q,Q*2=q:=⟨_,rfl⟩
 have hqI:((Q:Int)*2)=q:=by omega
 have b1:6≤q∧q+4<N:=by omega
 have hqN:q<N:=by omega
 have h0N:0<N:=by omega
 obtain⟨X1,hX1⟩:∃X1,swp D 0 q=X1:=⟨_,rfl⟩
 have l1:X1.length=N:=by rw[←hX1,swp_len,e1]
 have m1:∀z∈X1,z.ok:=fun z hz=>hol z (swp_mem (p:=0) (s:=q) (by omega) (by omega) (by rw[hX1];exact hz))
 have g1:∀m,X1.getD m default=if m=q then D.getD 0 default else if m=0 then D.getD q default else D.getD m default:=fun m=>by rw[←hX1];exact swp_get (by omega) (by omega)
 have g10:X1.getD 0 default=D.getD q default:=by rw[g1,if_neg (by omega),if_pos rfl]
 rw[hq]at hc
 have hU:=fun g:List (Nat×Obj)=>L338_0 (g:=g) (M:=M) hid l1 (by omega) m1 (jj:=((N-1:Nat):Int)) (t:=q+1) (i0:=1) h0N (fun m h1 h2=>⟨by omega,by omega,by
  rw[g10,g1]
  by_cases c:m=q
  ·rw[if_pos c];exact(h 0 q (by omega) (by omega)).1
  ·rw[if_neg c,if_neg (by omega)];exact(h m q (by omega) (by omega)).1⟩) (.inr ⟨by omega,by omega,by
  rw[g10,g1,if_neg (by omega),if_neg (by omega)];exact(h q (q+1) (by omega) (by omega)).2⟩) q 1 (by omega) (by omega)
 have hD:=fun g:List (Nat×Obj)=>L338_1 (g:=g) (M:=M) hid l1 (by omega) m1 (i:=q+1) (t:=q) (j0:=N-1) h0N (fun m h1 h2=>⟨by omega,by omega,by
  rw[g10,g1,if_neg (by omega),if_neg (by omega)]
  by_cases c:m=N-1
  ·rw[c];exact hc
  ·exact(h q m (by omega) (by omega)).2⟩) (.inl (by omega)) (N-1-q) (N-1) (by omega) (by omega)
 obtain⟨X2,hX2⟩:∃X2,swp X1 q 0=X2:=⟨_,rfl⟩
 have l2:X2.length=N:=by rw[←hX2,swp_len,l1]
 refine⟨X2,l2,fun z hz=>swp_mem (p:=0) (s:=q) (by omega) (by omega) (by rw[hX1];exact swp_mem (p:=q) (s:=0) (by omega) (by omega) (by rw[hX2];exact hz)),fun g=>?_⟩
 have hU:=hU g
 have hD:=hD g
 obtain⟨P1,p11,p12,p13,p14,p15,p16⟩:=gets (m:=0) e1 h0N
 obtain⟨S1,s11,s12,s13,s14,s15,s16⟩:=gets (m:=q) e1 hqN
 have u17:((D.map Cu.v).set (0) S1.v)[q]?=some S1.v:=by rw[List.getElem?_set_ne (by omega),List.getElem?_map,s13];rfl
 have u18:((D.map Cu.v).set (0) S1.v).set (q) P1.v=X1.map Cu.v:=by rw[←p11,←s11];rw[←hX1];exact swp_v
 simp only[Cu.v]at u17 u18
 obtain⟨P2,p21,p22,p23,p24,p25,p26⟩:=gets (m:=q) l1 hqN
 obtain⟨S2,s21,s22,s23,s24,s25,s26⟩:=gets (m:=0) l1 h0N
 have u27:((X1.map Cu.v).set (q) S2.v)[0]?=some S2.v:=by rw[List.getElem?_set_ne (by omega),List.getElem?_map,s23];rfl
 have u28:((X1.map Cu.v).set (q) S2.v).set (0) P2.v=X2.map Cu.v:=by rw[←p21,←s21];rw[←hX2];exact swp_v
 simp only[Cu.v]at u27 u28
 have w1:IntKind.i64.wrap ((0:Int)+1)=1:=by decide
 have w2:IntKind.i64.wrap ((N:Int)-1)=((N-1:Nat):Int):=by rw[iwrap (by omega) (by omega)];omega
 have c1:(q:Int)<(q:Int)+1:=by omega
 rw[hqI,run_open F338 rfl rfl (by simp[V.bdL,V.bd,hid])]
 generalize N-1=z at *
 push_cast at hU hD p16 s26
 push_cast[hid,hni,hnk,e1,l1,l2,hqN,h0N,stoB,V.cells,V.recell,Cu.v,w1,w2,hU,hD,c1,p12,p13,p14,p16,s12,s13,s14,s16,u17,u18,p22,p23,p24,p26,s22,s23,s24,s26,u27,u28]
 exact dn_eq (by simp[l1,e1]) rfl
theorem f338b (hid:id<k)(e1:D.length=N)(hN:13≤N∧N≤16)(hol:∀q∈D,q.ok){Q:Nat}(hQ:N / 4=Q)(h:∀i j,i<j→j<N-1→cmpC (D.getD i default) (D.getD j default)<0∧¬cmpC (D.getD j default) (D.getD i default)<0)(hc:cmpC (D.getD (N-1) default) (D.getD (Q*2) default)<0) :
  ∃X:List Cu,X.length=N∧(∀z∈X,z∈D)∧∀g:List (Nat×Obj),run Tryz.prog HH 338 [.osl id N,.int .i64 0,.int .i64 N,.int .i64 ((Q:Int)*2),cmpV] (stC g k M id D)=some (.ret (.tup [.int .i64 ((Q:Int)*2+1),.bool false]),stC g k M id X):=by
 have hni:¬id=k:=by omega
 have hnk:¬k≤id:=by omega
 obtain⟨q,hq⟩:∃q,Q*2=q:=⟨_,rfl⟩
 have hqI:((Q:Int)*2)=q:=by omega
 have b1:6≤q∧q+4<N:=by omega
 have hqN:q<N:=by omega
 have h0N:0<N:=by omega
 obtain⟨X1,hX1⟩:∃X1,swp D 0 q=X1:=⟨_,rfl⟩
 have l1:X1.length=N:=by rw[←hX1,swp_len,e1]
 have m1:∀z∈X1,z.ok:=fun z hz=>hol z (swp_mem (p:=0) (s:=q) (by omega) (by omega) (by rw[hX1];exact hz))
 have g1:∀m,X1.getD m default=if m=q then D.getD 0 default else if m=0 then D.getD q default else D.getD m default:=fun m=>by rw[←hX1];exact swp_get (by omega) (by omega)
 have g10:X1.getD 0 default=D.getD q default:=by rw[g1,if_neg (by omega),if_pos rfl]
 rw[hq]at hc
 have hU:=fun g:List (Nat×Obj)=>L338_0 (g:=g) (M:=M) hid l1 (by omega) m1 (jj:=((N-1:Nat):Int)) (t:=q+1) (i0:=1) h0N (fun m h1 h2=>⟨by omega,by omega,by
  rw[g10,g1]
  by_cases c:m=q
  ·rw[if_pos c];exact(h 0 q (by omega) (by omega)).1
  ·rw[if_neg c,if_neg (by omega)];exact(h m q (by omega) (by omega)).1⟩) (.inr ⟨by omega,by omega,by
  rw[g10,g1,if_neg (by omega),if_neg (by omega)];exact(h q (q+1) (by omega) (by omega)).2⟩) q 1 (by omega) (by omega)
 have hD:=fun g:List (Nat×Obj)=>L338_1 (g:=g) (M:=M) hid l1 (by omega) m1 (i:=q+1) (t:=N-1) (j0:=N-1) h0N (fun m h1 h2=>by omega) (.inr ⟨by omega,by omega,by
  rw[g10,g1,if_neg (by omega),if_neg (by omega)];exact hc⟩) 0 (N-1) (by omega) (by omega)
 obtain⟨X2,hX2⟩:∃X2,swp X1 (q+1) (N-1)=X2:=⟨_,rfl⟩
 have l2:X2.length=N:=by rw[←hX2,swp_len,l1]
 have m2:∀z∈X2,z.ok:=fun z hz=>m1 z (swp_mem (p:=q+1) (s:=N-1) (by omega) (by omega) (by rw[hX2];exact hz))
 have g2:∀m,X2.getD m default=if m=N-1 then X1.getD (q+1) default else if m=q+1 then X1.getD (N-1) default else X1.getD m default:=fun m=>by rw[←hX2];exact swp_get (by omega) (by omega)
 have g20:X2.getD 0 default=D.getD q default:=by rw[g2,if_neg (by omega),if_neg (by omega),g10]
 have hU2:=fun g:List (Nat×Obj)=>L338_2 (g:=g) (M:=M) hid l2 (by omega) m2 (jj:=((N-2:Nat):Int)) (t:=q+2) (i0:=q+2) h0N (fun m h1 h2=>by omega) (.inr ⟨by omega,by omega,by
  rw[g20,g2,if_neg (by omega),if_neg (by omega),g1,if_neg (by omega),if_neg (by omega)];exact(h q (q+2) (by omega) (by omega)).2⟩) 0 (q+2) (by omega) (by omega)
 have hD2:=fun g:List (Nat×Obj)=>L338_3 (g:=g) (M:=M) hid l2 (by omega) m2 (i:=q+2) (t:=q+1) (j0:=N-2) h0N (fun m h1 h2=>⟨by omega,by omega,by
  rw[g20,g2,if_neg (by omega),if_neg (by omega),g1,if_neg (by omega),if_neg (by omega)];exact(h q m (by omega) (by omega)).2⟩) (.inl (by omega)) (N-2-(q+1)) (N-2) (by omega) (by omega)
 obtain⟨X3,hX3⟩:∃X3,swp X2 (q+1) 0=X3:=⟨_,rfl⟩
 have l3:X3.length=N:=by rw[←hX3,swp_len,l2]
 refine⟨X3,l3,fun z hz=>swp_mem (p:=0) (s:=q) (by omega) (by omega) (by rw[hX1];exact swp_mem (p:=q+1) (s:=N-1) (by omega) (by omega) (by rw[hX2];exact swp_mem (p:=q+1) (s:=0) (by omega) (by omega) (by rw[hX3];exact hz))),fun g=>?_⟩
 have hU:=hU g
 have hD:=hD g
 have hU2:=hU2 g
 have hD2:=hD2 g
 have hq1:q+1<N:=by omega
 have hn1:N-1<N:=by omega
 obtain⟨P1,p11,p12,p13,p14,p15,p16⟩:=gets (m:=0) e1 h0N
 obtain⟨S1,s11,s12,s13,s14,s15,s16⟩:=gets (m:=q) e1 hqN
 have u17:((D.map Cu.v).set (0) S1.v)[q]?=some S1.v:=by rw[List.getElem?_set_ne (by omega),List.getElem?_map,s13];rfl
 have u18:((D.map Cu.v).set (0) S1.v).set (q) P1.v=X1.map Cu.v:=by rw[←p11,←s11];rw[←hX1];exact swp_v
 simp only[Cu.v]at u17 u18
 obtain⟨P2,p21,p22,p23,p24,p25,p26⟩:=gets (m:=q+1) l1 hq1
 obtain⟨S2,s21,s22,s23,s24,s25,s26⟩:=gets (m:=N-1) l1 hn1
 have u27:((X1.map Cu.v).set (q+1) S2.v)[N-1]?=some S2.v:=by rw[List.getElem?_set_ne (by omega),List.getElem?_map,s23];rfl
 have u28:((X1.map Cu.v).set (q+1) S2.v).set (N-1) P2.v=X2.map Cu.v:=by rw[←p21,←s21];rw[←hX2];exact swp_v
 simp only[Cu.v]at u27 u28
 obtain⟨P3,p31,p32,p33,p34,p35,p36⟩:=gets (m:=q+1) l2 hq1
 obtain⟨S3,s31,s32,s33,s34,s35,s36⟩:=gets (m:=0) l2 h0N
 have u37:((X2.map Cu.v).set (q+1) S3.v)[0]?=some S3.v:=by rw[List.getElem?_set_ne (by omega),List.getElem?_map,s33];rfl
 have u38:((X2.map Cu.v).set (q+1) S3.v).set (0) P3.v=X3.map Cu.v:=by rw[←p31,←s31];rw[←hX3];exact swp_v
 simp only[Cu.v]at u37 u38
 have w1:IntKind.i64.wrap ((0:Int)+1)=1:=by decide
 have w2:IntKind.i64.wrap ((N:Int)-1)=((N-1:Nat):Int):=by rw[iwrap (by omega) (by omega)];omega
 have w3:IntKind.i64.wrap (((N-1:Nat):Int)-1)=((N-2:Nat):Int):=by rw[iwrap (by omega) (by omega)];omega
 have w4:IntKind.i64.wrap ((q:Int)+1+1)=(q:Int)+1+1:=iwrap (by omega) (by omega)
 have c1:¬((N-1:Nat):Int)<(q:Int)+1:=by omega
 have c2:(q:Int)+1<(q:Int)+1+1:=by omega
 rw[hqI,run_open F338 rfl rfl (by simp[V.bdL,V.bd,hid])]
 generalize N-1=z at *
 generalize N-2=y at *
 push_cast at hU hD hU2 hD2 p16 p26 s26 p36 s36
 push_cast[hid,hni,hnk,e1,l1,l2,l3,hqN,hq1,hn1,h0N,stoB,V.cells,V.recell,Cu.v,w1,w2,w3,w4,runL_of B338_4.eq_1,hU,hD,hU2,hD2,c1,c2,p12,p13,p14,p16,s12,s13,s14,s16,u17,u18,p22,p23,p24,p26,s22,s23,s24,s26,u27,u28,p32,p33,p34,p36,s32,s33,s34,s36,u37,u38]
 exact dn_eq (by simp[l1,l2,e1]) rfl
end
end Go.Proofs.YtmjkgajnpmiomaaGreatDoor

namespace Go.Proofs.YtmjkgajnpmiomaaGreatDoor
open Go.Sha
set_option maxRecDepth 100000
variable {g:List (Nat×Obj)}{n:Nat}
section
variable {k id N:Nat}{M:List (Nat×List V)}
theorem rng (hid:id<k){X:List Cu}(e1:X.length=N)(hN:N<1000)(hol:∀q∈X,q.ok){a b:Nat}(hab:a≤b)(hb:b≤N) :
  ∃X':List Cu,X'.length=N∧(∀z∈X',z∈X)∧∀g:List (Nat×Obj),run Tryz.prog HH 331 [.osl id N,.int .i64 a,.int .i64 b,cmpV] (stC g k M id X)=some (.ret (.tup []),stC g k M id X'):=by
 have hX:X.take a++(X.drop a).take (b-a)++X.drop b=X:=by
  rw[List.append_assoc,show X.drop b=(X.drop a).drop (b-a) by rw[List.drop_drop];congr 1;omega,List.take_append_drop,List.take_append_drop]
 have l1:(X.take a).length=a:=by rw[List.length_take];omega
 have l2:((X.drop a).take (b-a)).length=b-a:=by rw[List.length_take,List.length_drop];omega
 have l3:(X.drop b).length=N-b:=by rw[List.length_drop];omega
 have h:=fun g:List (Nat×Obj)=>f331g (g:=g) (M:=M) (k:=k) (id:=id) hid (A:=X.take a) (l:=(X.drop a).take (b-a)) (C:=X.drop b) (N:=N) (by omega) hN (fun q hq=>hol q (List.mem_of_mem_drop (List.mem_of_mem_take hq)))
 have h:=fun g=>(show _ from by have h:=h g;rw[l1,l2,hX,show((a:Int)+((b-a:Nat):Int))=b by omega]at h;exact h)
 refine⟨_,?_,fun z hz=>?_,h⟩
 ·simp only[List.length_append,isort_len,l1,l2,l3];omega
 ·simp only[List.mem_append,isort_mem]at hz
  rcases hz with(hz|hz)|hz
  ·exact List.mem_of_mem_take hz
  ·exact List.mem_of_mem_drop (List.mem_of_mem_take hz)
  ·exact List.mem_of_mem_drop hz
theorem L304s (hid:id<k){X X':List Cu}(e1:X.length=N)(e2:X'.length=N)(hN:N<1000){a b:Nat}(hab:a≤b)(hb:b≤N)(h12:b≤a+12){kk:Int}{x y:Bool}
  (h:run Tryz.prog HH 331 [.osl id N,.int .i64 a,.int .i64 b,cmpV] (stC g k M id X)=some (.ret (.tup []),stC g k M id X')) :
  runL Tryz.prog HH [0,1,2,3,4,10,11] k B304_0 [(0,.osl id N),(1,.int .i64 a),(2,.int .i64 b),(3,.int .i64 kk),(4,cmpV),(10,.bool x),(11,.bool y)] (stC g k M id X)=some (.ret,[],stC g k M id X'):=by
 have hni:¬id=k:=by omega
 have hnk:¬k≤id:=by omega
 have hw:IntKind.i64.wrap ((b:Int)-a)=(b:Int)-a:=iwrap (by omega) (by omega)
 have h1:(b:Int)-a≤12:=by omega
 rw[runL_of B304_0.eq_1]
 push_cast at h
 push_cast[hid,hni,hnk,e1,e2,and_false,hw,h1,h]
theorem f304s (hid:id<k){X X':List Cu}(e1:X.length=N)(e2:X'.length=N)(hN:N<1000){a b:Nat}(hab:a≤b)(hb:b≤N)(h12:b≤a+12){kk:Int}
  (h:run Tryz.prog HH 331 [.osl id N,.int .i64 a,.int .i64 b,cmpV] (stC g k M id X)=some (.ret (.tup []),stC g k M id X')) :
  run Tryz.prog HH 304 [.osl id N,.int .i64 a,.int .i64 b,.int .i64 kk,cmpV] (stC g k M id X)=some (.ret (.tup []),stC g k M id X'):=by
 have hni:¬id=k:=by omega
 have hnk:¬k≤id:=by omega
 have hL:=L304s (g:=g) (M:=M) (kk:=kk) (x:=true) (y:=true) hid e1 e2 hN hab hb h12 h
 rw[run_open F304 rfl rfl (by simp[V.bdL,V.bd,hid])]
 push_cast at hL
 push_cast[hid,hni,hnk,e1,e2,and_false,hL]
theorem f304p (hid:id<k){D X:List Cu}(e1:D.length=N)(hN:13≤N∧N≤16)(x1:X.length=N)(ok1:∀q∈X,q.ok){kk P:Int}(hkk:¬kk=0){mid:Nat}{fl:Bool}(hm:1≤mid∧mid≤12∧mid<N∧N≤mid+13)
  (k4:∀g:List (Nat×Obj),run Tryz.prog HH 334 [.osl id N,.int .i64 0,.int .i64 N,cmpV] (stC g k M id D)=some (.ret (.tup [.int .i64 P,.int .i64 1]),stC g k M id D))
  (hP:∀g:List (Nat×Obj),run Tryz.prog HH 336 [.osl id N,.int .i64 0,.int .i64 N,cmpV] (stC g k M id D)=some (.ret (.bool false),stC g k M id D))
  (hp:∀g:List (Nat×Obj),run Tryz.prog HH 338 [.osl id N,.int .i64 0,.int .i64 N,.int .i64 P,cmpV] (stC g k M id D)=some (.ret (.tup [.int .i64 mid,.bool fl]),stC g k M id X)) :
  ∃Z:List Cu,Z.length=N∧(∀z∈Z,z∈X)∧∀g:List (Nat×Obj),run Tryz.prog HH 304 [.osl id N,.int .i64 0,.int .i64 N,.int .i64 kk,cmpV] (stC g k M id D)=some (.ret (.tup []),stC g k M id Z):=by
 have hni:¬id=k:=by omega
 have hnk:¬k≤id:=by omega
 have hw:IntKind.i64.wrap ((N:Int)-0)=N:=by rw[iwrap (by omega) (by omega)];omega
 have h12:¬(N:Int)≤12:=by omega
 have w1:IntKind.i64.wrap ((mid:Int)-0)=mid:=by rw[iwrap (by omega) (by omega)];omega
 have w2:IntKind.i64.wrap ((N:Int)-mid)=(N:Int)-mid:=iwrap (by omega) (by omega)
 have w3:IntKind.i64.wrap ((mid:Int)+1)=(mid:Int)+1:=iwrap (by omega) (by omega)
 by_cases c:(mid:Int)<(N:Int)-mid
 ·obtain⟨Y,y1,y2,y3⟩:=rng (M:=M) hid x1 (by omega) ok1 (a:=0) (b:=mid) (by omega) (by omega)
  obtain⟨Z,z1,z2,z3⟩:=rng (M:=M) hid y1 (by omega) (fun q hq=>ok1 q (y2 q hq)) (a:=mid+1) (b:=N) (by omega) (by omega)
  refine⟨Z,z1,fun z hz=>y2 z (z2 z hz),fun g=>?_⟩
  have k4:=k4 g
  have hP:=hP g
  have hp:=hp g
  have t1:=f304s (kk:=kk) hid x1 y1 (by omega) (by omega) (by omega) (by omega) (y3 g)
  have t2:=fun x y=>L304s (kk:=kk) (x:=x) (y:=y) hid y1 z1 (by omega) (by omega) (by omega) (by omega) (z3 g)
  have hL:runL Tryz.prog HH [0,1,2,3,4,10,11] k B304_0 [(0,.osl id N),(1,.int .i64 0),(2,.int .i64 N),(3,.int .i64 kk),(4,cmpV),(10,.bool true),(11,.bool true)] (stC g k M id D)=some (.ret,[],stC g k M id Z):=by
   rw[runL_of B304_0.eq_1]
   push_cast at k4 hP hp t1 t2
   push_cast[hid,hni,hnk,e1,x1,y1,z1,and_false,hw,h12,hkk,k4,hP,hp,w1,w2,w3,c,t1,t2]
  rw[run_open F304 rfl rfl (by simp[V.bdL,V.bd,hid])]
  push_cast at hL
  push_cast[hid,hni,hnk,e1,z1,and_false,hL]
 ·obtain⟨Y,y1,y2,y3⟩:=rng (M:=M) hid x1 (by omega) ok1 (a:=mid+1) (b:=N) (by omega) (by omega)
  obtain⟨Z,z1,z2,z3⟩:=rng (M:=M) hid y1 (by omega) (fun q hq=>ok1 q (y2 q hq)) (a:=0) (b:=mid) (by omega) (by omega)
  refine⟨Z,z1,fun z hz=>y2 z (z2 z hz),fun g=>?_⟩
  have k4:=k4 g
  have hP:=hP g
  have hp:=hp g
  have t1:=f304s (kk:=kk) hid x1 y1 (by omega) (by omega) (by omega) (by omega) (y3 g)
  have t2:=fun x y=>L304s (kk:=kk) (x:=x) (y:=y) hid y1 z1 (by omega) (by omega) (by omega) (by omega) (z3 g)
  have hL:runL Tryz.prog HH [0,1,2,3,4,10,11] k B304_0 [(0,.osl id N),(1,.int .i64 0),(2,.int .i64 N),(3,.int .i64 kk),(4,cmpV),(10,.bool true),(11,.bool true)] (stC g k M id D)=some (.ret,[],stC g k M id Z):=by
   rw[runL_of B304_0.eq_1]
   push_cast at k4 hP hp t1 t2
   push_cast[hid,hni,hnk,e1,x1,y1,z1,and_false,hw,h12,hkk,k4,hP,hp,w1,w2,w3,c,t1,t2]
  rw[run_open F304 rfl rfl (by simp[V.bdL,V.bd,hid])]
  push_cast at hL
  push_cast[hid,hni,hnk,e1,z1,and_false,hL]
theorem f304l (hid:id<k)(hM:dropM k M=M)(hB:belowL k (V.bdL k) M=true)(hK:keepL k M=M){D:List Cu}(e1:D.length=N)(hN:13≤N∧N≤16)(hol:∀q∈D,q.ok)(h:∀i j,i<j→j<N-1→cmpC (D.getD i default) (D.getD j default)<0∧¬cmpC (D.getD j default) (D.getD i default)<0){kk:Int}(hkk:¬kk=0) :
  ∃X:List Cu,X.length=N∧(∀z∈X,z∈D)∧∀g:List (Nat×Obj),run Tryz.prog HH 304 [.osl id N,.int .i64 0,.int .i64 N,.int .i64 kk,cmpV] (stC g k M id D)=some (.ret (.tup []),stC g k M id X):=by
 have hni:¬id=k:=by omega
 have hnk:¬k≤id:=by omega
 obtain⟨Q,hQ⟩:∃Q,N / 4=Q:=⟨_,rfl⟩
 have k4:=fun g:List (Nat×Obj)=>f334 (g:=g) hid hM hB hK e1 hN hol (fun i j a b=>(h i j a b).2) hQ
 have hP:=fun g:List (Nat×Obj)=>f336 (g:=g) (M:=M) hid e1 hN hol (t:=if cmpC (D.getD (N-1) default) (D.getD (N-2) default)<0 then N-1 else N) (by split<;>omega) (fun j h1 h2=>by
  by_cases c:j=N-1
  ·split at h2
   ·omega
   ·rename_i hc;rw[c];exact hc
  ·exact(h (j-1) j (by omega) (by split at h2<;>omega)).2) (by
  split
  ·rename_i hc;exact .inr ⟨by omega,hc⟩
  ·exact .inl rfl)
 have hw:IntKind.i64.wrap ((N:Int)-0)=N:=by rw[iwrap (by omega) (by omega)];omega
 have h12:¬(N:Int)≤12:=by omega
 by_cases c0:cmpC (D.getD (N-1) default) (D.getD (N-2) default)<0
 ·have hP:=fun g:List (Nat×Obj)=>(show run Tryz.prog HH 336 [.osl id N,.int .i64 0,.int .i64 N,cmpV] (stC g k M id D)=some (.ret (.bool false),stC g k M id D) from by have hP:=hP g;rw[if_pos c0,decide_eq_false (by omega)]at hP;exact hP)
  by_cases c1:cmpC (D.getD (N-1) default) (D.getD (Q*2) default)<0
  ·obtain⟨X,x1,x2,x3⟩:=f338b (M:=M) hid e1 hN hol hQ h c1
   have x3:=fun g:List (Nat×Obj)=>(show run Tryz.prog HH 338 [.osl id N,.int .i64 0,.int .i64 N,.int .i64 ((Q:Int)*2),cmpV] (stC g k M id D)=some (.ret (.tup [.int .i64 ((Q*2+1:Nat):Int),.bool false]),stC g k M id X) from by rw[x3 g,show((Q*2+1:Nat):Int)=(Q:Int)*2+1 by omega])
   obtain⟨Z,z1,z2,z3⟩:=f304p hid e1 hN x1 (fun q hq=>hol q (x2 q hq)) hkk (mid:=Q*2+1) (by omega) k4 hP x3
   exact⟨Z,z1,fun z hz=>x2 z (z2 z hz),z3⟩
  ·obtain⟨X,x1,x2,x3⟩:=f338a (M:=M) hid e1 hN hol hQ h c1
   have x3':∀g:List (Nat×Obj),run Tryz.prog HH 338 [.osl id N,.int .i64 0,.int .i64 N,.int .i64 ((Q:Int)*2),cmpV] (stC g k M id D)=some (.ret (.tup [.int .i64 ((Q*2:Nat):Int),.bool true]),stC g k M id X):=fun g=>by
    rw[x3 g,show((Q*2:Nat):Int)=(Q:Int)*2 by omega]
   obtain⟨Z,z1,z2,z3⟩:=f304p hid e1 hN x1 (fun q hq=>hol q (x2 q hq)) hkk (mid:=Q*2) (by omega) k4 hP x3'
   exact⟨Z,z1,fun z hz=>x2 z (z2 z hz),z3⟩
 ·refine⟨D,e1,fun z hz=>hz,fun g=>?_⟩
  have hP:=hP g
  have k4:=k4 g
  rw[if_neg c0,decide_eq_true rfl]at hP
  rw[run_open F304 rfl rfl (by simp[V.bdL,V.bd,hid])]
  push_cast at k4 hP
  push_cast[hid,hni,hnk,e1,and_false,runL_of B304_0.eq_1,hw,h12,hkk,k4,hP]
end
end Go.Proofs.YtmjkgajnpmiomaaGreatDoor

