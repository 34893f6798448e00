/- slices. -/
import Derived.Test.YtdnpaifeoinjoaaGreatDoorWShbT
import Derived.Shelf.SlSortCmp.NoneTotal
set_option linter.unusedSimpArgs false
set_option linter.unusedVariables false
namespace Go.Sha
section
open Go.Shelf Go.RowKit Go.Lib Go.Sort Go.Proofs
variable {P:Program}{α:Type} [Inhabited α]
theorem putRow_setRow {w:World}{g:Nat}{cur:Array Value}{T:TypeId}{fr:Nat×Nat}(hg:w.heap[g]?=some (.cells cur T fr))(n:Nat)(F:Array Value)(os:Array Obj) :
  Below w.heap.size (w.setRow g (putCells id 0 F cur)) (grow (putRow id (Sort.ahead w n) g 0 F) os):=by
 refine⟨rfl,rfl,rfl,by simp,fun k hk=>?_⟩
 simp only[grow,putRow,mapBlock,Sort.ahead,World.setRow]
 rw[Array.getElem?_append_left (by simpa using hk)]
 simp only[Array.getElem?_modify]
 by_cases h:g=k
 ·subst h;simp only[if_true,hg,Option.map_some,onCells]
 ·simp[h]
theorem putCells_get {F cur:Array Value}{k:Nat}(h:k<F.size)(h2:F.size≤cur.size):(putCells id 0 F cur)[k]?=F[k]?:=by
 simp only[putCells,Array.getElem?_mapIdx,Nat.zero_le,true_and,Nat.zero_add,h,if_true,Nat.sub_zero,id]
 rw[Array.getElem?_eq_getElem (by omega),Array.getElem?_eq_getElem h,Option.map_some,getElem!_pos F k h]
theorem VCalls_sort {F:FuncId}(hc:Callable P F){k:Nat}(hk0:0<k){enc:α→List Value}(hk:∀x,(enc x).length=k)(h1:∀x,∀v∈enc x,v.oneCell'=true)
  {f:α→V} (hf:∀x,(f x).cells.length=k) (hinv:∀{w:World}{A:Abs}{x:α}{j:Nat}{v:Value}{c:V},(f x).cells[j]?=some c→Rep w A v c→(enc x)[j]?=some v)
  (hrep:∀{w:World}{A:Abs}{x:α}{j:Nat}{v:Value}{c:V},(enc x)[j]?=some v→(f x).cells[j]?=some c→Rep w A v c)
  {cf:α→α→Int}{g:Nat}
  (hN:∀(p:Option Addr) (cap:Nat) (fv:Value) (w:World),Calls P F #[.slice p 0 cap,fv] w fun e w'=>e=.returned (.tuple #[])∧w'=w)
  (hS:∀(blk off cap:Nat) (d:Array α) (w:World),CmpLays P g #[] enc k cf blk off d.size w→HoldsK enc k w blk off d→blk<w.heap.size→d.size<4611686018427387904 →
   Calls P F #[.slice (some ⟨blk,off,none⟩) d.size cap,.func (.func g) #[] #[]] w fun e w'=>e=.returned (.tuple #[])∧∃n os,w'=sortWorldK enc k w blk off n (d.toList.mergeSort fun x y=>!ltOf cf y x).toArray os)
  (hcmp:∀x y W,Calls P g #[.agg (enc x).toArray,.agg (enc y).toArray] W fun e w'=>e=.returned (.int .i64 (cf x y))∧∃q os',w'=grow (W.drewN q) os')
  {st:St}{id:Nat}{r:Arr}{l:List α} (hid:look st.arr id=some r) (hxs:r.xs=l.map f) (hes:r.es=k) (hw:r.wr=true) (hbig:l.length<4611686018427387904) :
  VCalls P F [.osl id l.length,.fn (.func g) [] []] st fun x s=>x=.ret (.tup [])∧s=⟨st.nx,st.mem,updA st.arr id { r with xs:=(l.mergeSort fun x y=>!ltOf cf y x).map f },st.x⟩:=by
 refine .inl ⟨hc,fun w A vs hs ha=>?_⟩
 obtain⟨hl,ha⟩:=ha
 match vs,hl with
 |[v0,v1],_ =>
 have r0:=ha 0 v0 _ rfl rfl
 have r1:=ha 1 v1 _ rfl rfl
 have hk':=hs.arr id r hid
 have hlen:l.length=r.xs.length:=by rw[hxs,List.length_map]
 have hv1:v1=.func (.func g) #[] #[]:=by
  cases r1 with
  |fn _ vs us _ _ e1 e2 _ _ =>
   have h1:vs=[]:=List.eq_nil_of_length_eq_zero e1
   have h2:us=[]:=List.eq_nil_of_length_eq_zero e2
   rw[h1,h2]
 have hv0:v0=A.sv id:=by
  cases r0 with
  |osl _ _ _ _ _ h=>exact h (by rw[hk'.ln,hlen])
 subst hv1
 have hperm:=List.mergeSort_perm l (fun x y=>!ltOf cf y x)
 rcases hk'.row with⟨q1,q2,_⟩|⟨b,cap,cur,q1,q2,q3,q4,q5,q6,q7,q8,q9⟩
 ·have hl0:l=[]:=by rw[q2]at hlen;exact List.eq_nil_of_length_eq_zero hlen
  subst hl0
  rw[hv0,q1]
  refine(hN none 0 _ w).mono fun e w' ⟨he,hw'⟩=>?_
  subst hw'
  refine⟨.ret (.tup []),A,_,⟨rfl,rfl⟩,?_,?_,Ext.refl w' A⟩
  ·subst he;exact .tup [] [] rfl (fun i v c h=>by simp at h)
  ·have e:({ r with xs:=(List.mergeSort ([]:List α) fun x y=>!ltOf cf y x).map f }:Arr)=r:=by
    cases r;simp_all
   rw[e,updA_same hid];exact hs
 ·rw[hv0,q1]
  have hd:l.toArray.size=r.xs.length:=by simp[hlen]
  rw[←hd]
  have hrow:=q2
  unfold rowAt at hrow
  have hle:l.length*k≤cur.size:=by rw[q5,hes,hlen];exact Nat.mul_le_mul_right _ q3
  have hcells:∀t,t<l.length*k→cur[t]?=some (flatK enc k l.toArray)[t]!:=fun t ht=>by
   have hi:t / k<l.length:=Nat.div_lt_of_lt_mul (by rwa [Nat.mul_comm]at ht)
   have hj:t % k<k:=Nat.mod_lt _ hk0
   rw[get_flatK enc k l.toArray t (by simpa using ht)]
   have hx:r.xs[t / k]?=some (f l[t / k]):=by rw[hxs,List.getElem?_map,List.getElem?_eq_getElem hi];rfl
   have hc2:(f l[t / k]).cells[t % k]?=some (f l[t / k]).cells[t % k]!:=by
    rw[getElem!_pos _ _ (by rw[hf];exact hj),List.getElem?_eq_getElem (by rw[hf];exact hj)]
   obtain⟨v,v1,v2,v3⟩:=q9 _ _ _ _ hx hc2
   have e1:t / k*r.es+t % k=t:=by rw[hes,Nat.mul_comm];exact Nat.div_add_mod t k
   rw[e1]at v1
   have e2:=hinv hc2 v3
   have e3:l.toArray[t / k]! = l[t / k]:=by rw[getElem!_pos _ _ (by simpa using hi)];simp
   rw[v1,e3,getElem!_pos _ _ (by rw[hk];exact hj)]
   rw[List.getElem?_eq_getElem (by rw[hk];exact hj)]at e2
   rw[Option.some.inj e2]
  have hH:HoldsK enc k w b 0 l.toArray:=fun t ht=>by
   rw[size_flatK,List.size_toArray]at ht
   refine⟨?_,?_⟩
   ·simp only[World.cell?,hrow,Nat.zero_add]
    simpa using hcells t ht
   ·simp only[World.frozen?,hrow,Nat.zero_add]
    split
    ·simp;omega
    ·simp
  have hlt:b<w.heap.size:=(Array.getElem?_eq_some_iff.1 hrow).1
  refine(hS b 0 cap l.toArray w (fun m os dk _ x y=>hcmp x y _) hH hlt (by rw[hd,←hlen];exact hbig)).mono fun e w' ⟨he,n,os,hw'⟩=>?_
  have hys:(l.mergeSort fun x y=>!ltOf cf y x).length=l.length:=hperm.length_eq
  generalize hY:(l.mergeSort fun x y=>!ltOf cf y x)=ys at hys hw'
  have hnew:∀(i j:Nat) (x:α) (v:Value),ys[i]?=some x→(enc x)[j]?=some v→(putCells _root_.id 0 (flatK enc k ys.toArray) cur)[i*k+j]?=some v:=fun i j x v hx hv=>by
   have hi:=(List.getElem?_eq_some_iff.1 hx).1
   have hj:j<k:=by rw[←hk x];exact(List.getElem?_eq_some_iff.1 hv).1
   have hb:i*k+j<ys.length*k:=by
    have:=Nat.mul_le_mul_right k (show i+1≤ys.length from hi);rw[Nat.add_mul,Nat.one_mul]at this;omega
   have e1:(i*k+j) / k=i:=(blk_iff k i _ hk0).1 ⟨by omega,by omega⟩
   have e2:(i*k+j) % k=j:=by rw[Nat.mod_eq_sub_div_mul,e1];omega
   rw[putCells_get (by rw[size_flatK];simpa using hb) (by rw[size_flatK,List.size_toArray,hys];exact hle)]
   have:=get_flatK enc k ys.toArray (i*k+j) (by simpa using hb)
   rw[e1,e2]at this
   rw[Array.getElem?_eq_getElem (by rw[size_flatK];simpa using hb)]
   rw[getElem!_pos _ _ (by rw[size_flatK];simpa using hb)]at this
   rw[this]
   have e3:ys.toArray[i]! = x:=by
    rw[getElem!_pos _ _ (by simpa using hi)];simpa [List.getElem?_eq_getElem hi] using hx
   rw[e3,getElem!_pos _ _ (by rw[hk];exact hj)]
   rw[List.getElem?_eq_getElem (by rw[hk];exact hj)]at hv
   exact hv
  obtain⟨x1,s1⟩:=hs.setAll hid hw q1 q2 q6 q3 q4 q5 (new:=putCells _root_.id 0 (flatK enc k ys.toArray) cur) (by simp[putCells]) (ys:=ys.map f) (by rw[List.length_map,hys,hlen]) (fun y hy=>by
   obtain⟨x,_,rfl⟩:=List.mem_map.1 hy
   rw[hf,hes]) (fun i j y c hy hcc=>by
   rw[List.getElem?_map]at hy
   obtain⟨x,hx,rfl⟩:=Option.map_eq_some_iff.1 hy
   have hj:j<k:=by rw[←hf x];exact(List.getElem?_eq_some_iff.1 hcc).1
   have hv:(enc x)[j]?=some (enc x)[j]!:=by rw[getElem!_pos _ _ (by rw[hk];exact hj),List.getElem?_eq_getElem (by rw[hk];exact hj)]
   rw[hes]
   exact⟨_,hnew i j x _ hx hv,h1 x _ (List.mem_of_getElem? hv),hrep hv hcc⟩)
  have hb:Below (w.setRow b (putCells _root_.id 0 (flatK enc k ys.toArray) cur)).heap.size (w.setRow b (putCells _root_.id 0 (flatK enc k ys.toArray) cur)) w':=by
   rw[hw']
   have:=putRow_setRow hrow n (flatK enc k ys.toArray) os
   unfold sortWorldK putRowK
   simpa [World.setRow] using this
  refine⟨.ret (.tup []),A,_,⟨rfl,rfl⟩,?_,s1.below hb,x1.trans (Ext.below s1 hb)⟩
  subst he;exact .tup [] [] rfl (fun i v c h=>by simp at h)
end
end Go.Sha
