/- slices. -/
import Derived.Test.YtmjkgajnpmiomaaGreatDoorLShbXI
import Derived.Shelf.SlicesE.Delete
import Derived.Shelf.Spec.SlicesInsertGrow
set_option linter.unusedSimpArgs false
set_option linter.unusedVariables false
namespace Go.Sha
open Go.Shelf Go.RowKit Go.Lib Go.Sort Go.Proofs
variable {P:Program}
structure SlT (P:Program) (s e k:Nat) (i:TypeInfo) (z:Value) (ρ:Ren):Prop where
 mixed:P.follows .mixedOrders=true
 t0:P.underlying (ρ.t 0)=some (TypeDesc.tuple #[])
 a0:∀w,(isAgg (ρ.t 0)).run P w=.ok false w
 z0:∀w,(Go.sizeOf (ρ.t 0)).run P w=.ok 1 w
 v0:∀w,(zeroValue (ρ.t 0)).run P w=.ok (Value.tuple #[]) w
 t3:P.underlying (ρ.t 3)=some (TypeDesc.int IntKind.i64)
 a3:∀w,(isAgg (ρ.t 3)).run P w=.ok false w
 z3:∀w,(Go.sizeOf (ρ.t 3)).run P w=.ok 1 w
 v3:∀w,(zeroValue (ρ.t 3)).run P w=.ok (Value.int IntKind.i64 0) w
 t4:P.underlying (ρ.t 4)=some (TypeDesc.bool)
 a4:∀w,(isAgg (ρ.t 4)).run P w=.ok false w
 z4:∀w,(Go.sizeOf (ρ.t 4)).run P w=.ok 1 w
 v4:∀w,(zeroValue (ρ.t 4)).run P w=.ok (Value.bool false) w
 ts:P.underlying (ρ.t s)=some (TypeDesc.slice (ρ.t e))
 aS:∀w,(isAgg (ρ.t s)).run P w=.ok false w
 zs:∀w,(Go.sizeOf (ρ.t s)).run P w=.ok 1 w
 vs:∀w,(zeroValue (ρ.t s)).run P w=.ok (Value.slice none 0 0) w
 ae:∀w,(isAgg (ρ.t e)).run P w=.ok true w
 ze:∀w,(Go.sizeOf (ρ.t e)).run P w=.ok k w
 ve:∀w,(zeroValue (ρ.t e)).run P w=.ok z w
 hi:P.info? (ρ.t e)=some i
 hz:i.zero=some z
 hk:i.size=k
 zc:z.cells.size=k
 z1:∀v∈z.cells.toList,v.oneCell'=true
theorem step_append_run {ops:Array Oper}{o:Oper}{a:Act}{w:World}{K:Act→World→Prop}{Q:Exit→Act→World→Prop}{E:Prop}
  (hg:o.guard=none) (d x:Operand) (t:TypeId) (hop:o.op=Op.call { callee:=Callee.builtin Builtin.append,args:=#[d,x],argTypes:=#[t,t] })
  (v u:Value) (hd:a.eval d=v) (hx:a.eval x=u) {v':Value}{w':World} (hr:(Builtin.append_ #[t,t] o.type #[v,u]).run P w=.ok v' w') (hK:K (a.put o.dst v') w') :
  if Region.wanted o (yielded ops a.tmps)=true then Oper.wp P o a w K Q else E:=by
 have hw:Region.wanted o (yielded ops a.tmps)=true:=by simp[Region.wanted,hg]
 rw[if_pos hw]
 unfold Oper.wp
 simp[execOp,hop,resolve,invoke,builtin,hd,hx,hr,Result.andThen]
 exact hK
set_option maxHeartbeats 4000000 in
set_option maxRecDepth 1000000 in
theorem delete_row {k:Nat}{i0:TypeInfo}{z:Value}{ρ:Ren}(L:SlT P 22 23 k i0 z ρ){f:FuncId}(FG:Bears P f (SlBodyN.n45 ρ)){w:World}{b n cap i j:Nat}{cur:Array Value}(hrow:w.heap[b]?=some (.cells cur (ρ.t 23) (0,0)))
  (hsz:cur.size=cap*k) (hn:n≤cap) (hm:cap≤9223372036854775807) (hij:i<j) (hj:j≤n) (h1:∀(t:Nat) v,t<n*k→cur[t]?=some v→v.oneCell'=true) :
  Calls P f #[.slice (some ⟨b,0,none⟩) n cap,.int .i64 i,.int .i64 j] w fun e w'=>e=.returned (.slice (some ⟨b,0,none⟩) (n-(j-i)) cap)∧∃q new,w'=(w.drewN q).setRow b new∧new.size=cur.size ∧
   ∀t,t<(n-(j-i))*k→new[t]?=if t<i*k then cur[t]? else cur[t+(j-i)*k]?:=by
 have mixed:=L.mixed;have t0:=L.t0;have a0:=L.a0;have z0:=L.z0;have v0:=L.v0;have t3:=L.t3;have a3:=L.a3;have z3:=L.z3;have v3:=L.v3;have t4:=L.t4;have a4:=L.a4;have z4:=L.z4;have v4:=L.v4;have t22:=L.ts;have a22:=L.aS;have z22:=L.zs;have v22:=L.vs;have a23:=L.ae;have z23:=L.ze
 have hnk:n*k≤cur.size:=by rw[hsz];exact Nat.mul_le_mul_right _ hn
 have hjk:j*k≤n*k:=Nat.mul_le_mul_right _ hj
 have hik:i*k≤j*k:=Nat.mul_le_mul_right _ (Nat.le_of_lt hij)
 have e1:(n-j)*k=n*k-j*k:=Nat.sub_mul ..
 have e2:(j-i)*k=j*k-i*k:=Nat.sub_mul ..
 have e3:(n-(j-i))*k=n*k-(j*k-i*k):=by rw[Nat.sub_mul,e2]
 -- the cells that are moved to the left
 obtain⟨news,hnews⟩:∃news,news=(cur.toList.drop (j*k)).take ((n-j)*k):=⟨_,rfl⟩
 have hlen:news.length=(n-j)*k:=by rw[hnews];simp;omega
 have hget:∀t v,news[t]?=some v→cur[j*k+t]?=some v∧t<(n-j)*k:=fun t v h=>by
  have ht:t<(n-j)*k:=by rw[←hlen];exact(List.getElem?_eq_some_iff.1 h).1
  rw[hnews,List.getElem?_take_of_lt ht,List.getElem?_drop]at h
  exact⟨by simpa using h,ht⟩
 obtain⟨A,hA,hsrc⟩:∃A:Addr,(if cap=j then some (⟨b,0,none⟩:Addr) else some ⟨b,j*k,none⟩)=some A∧(∀t u,news[t]?=some u→w.drew.cell? (A.add t)=some u):=by
  by_cases h:cap=j
  ·refine⟨⟨b,0,none⟩,by simp[h],fun t u hu=>?_⟩
   have h0:news.length=0:=by rw[hlen,show n-j=0 by omega,Nat.zero_mul]
   rw[List.length_eq_zero_iff.1 h0]at hu
   simp at hu
  ·refine⟨⟨b,j*k,none⟩,by simp[h],fun t u hu=>?_⟩
   rw[Addr.add_lit]
   have hr:w.drew.heap[b]?=some (.cells cur (ρ.t 23) (0,0)):=hrow
   simp only[World.cell?,hr]
   simpa using(hget t u hu).1
 have s2:∀u∈news,u.oneCell'=true:=fun u hu=>by
  obtain⟨t,ht⟩:=List.mem_iff_getElem?.1 hu
  obtain⟨q1,q2⟩:=hget t u ht
  exact h1 _ u (by omega) q1
 have hap:∀ty,(Builtin.append_ #[ρ.t 22,ρ.t 22] ty #[.slice (some ⟨b,0,none⟩) i cap,.slice (some A) (n-j) (cap-j)]).run P w.drew=_:=fun ty =>
  run_append_room (P:=P) w.drew (ρ.t 22) ty (ρ.t 23) i0 t22 L.hi b i cap cur hrow A (n-j) (cap-j) news (by rw[hlen,L.hk]) hsrc s2 (by omega) (by rw[hlen,L.hk];omega)
 rw[L.hk,hlen]at hap
 generalize hN1:(cur.toList.take (i*k)++news++cur.toList.drop (i*k+(n-j)*k)).toArray=new1 at hap
 have hs1:new1.size=cur.size:=by
  subst hN1
  simp only[List.size_toArray,List.length_append,List.length_take,List.length_drop,Array.length_toList,hlen];omega
 obtain⟨W1,hW1⟩:∃W1,W1=w.drew.setRow b new1:=⟨_,rfl⟩
 rw[←hW1]at hap
 have hrow1:W1.heap[b]?=some (.cells new1 (ρ.t 23) (0,0)):=by rw[hW1];exact setRow_heap _ b cur new1 _ _ hrow
 obtain⟨new2,hcl,hs2,hg2,_,_⟩:=run_clear_row (P:=P) hrow1 (.inl rfl) t22 L.ve L.zc L.z1 ((i+(n-j))*k) (n-(i+(n-j))) (by omega) (by rw[hs1,←Nat.add_mul,show i+(n-j)+(n-(i+(n-j)))=n by omega];exact hnk)
 have hic:i≤cap:=by omega
 have hjc:j≤cap:=by omega
 have fin:∀t,t<(n-(j-i))*k→new2[t]?=if t<i*k then cur[t]? else cur[t+(j-i)*k]?:=fun t ht=>by
  rw[hg2 t (by rw[show i+(n-j)=n-(j-i) by omega];exact ht)]
  subst hN1
  rw[List.getElem?_toArray,List.append_assoc]
  split
  ·rename_i h;rw[List.getElem?_append_left (by simp;omega),List.getElem?_take_of_lt h];simp
  ·rename_i h
   rw[List.getElem?_append_right (by simp;omega),List.getElem?_append_left (by simp;omega)]
   simp only[hnews,List.length_take,Array.length_toList]
   rw[List.getElem?_take_of_lt (by omega),List.getElem?_drop,show j*k+(t-min (i*k) cur.size)=t+(j-i)*k by omega];simp
 have hfin:W1.setRow b new2=(w.drewN 1).setRow b new2:=by rw[hW1,setRow_setRow];rfl
 have X:Aside (W1.setRow b new2=(w.drewN 1).setRow b new2):=hfin
 clear hrow1 hN1 hg2 hsrc s2 hget hlen hnews h1 hW1 hfin
 obtain⟨_,_,FG⟩:=FG
 go_enter FG,SlBodyN.n45_ntmps ρ
 go_wp2_with fail
 go_region_law_o (refine step_append_run rfl (.tmp 22) (.tmp 25) (ρ.t 22) rfl _ _ (by simp[Act.eval,Act.put]) (by simp[Act.eval,Act.put]) (hap _) ?_)
 go_wp2
 go_ret
 exact⟨by rw[show n-(j-i)=i+(n-j) by omega];rfl,1,new2,X.out,by rw[hs2,hs1],fin⟩
end Go.Sha
namespace Go.Sha
open Go.Shelf Go.RowKit Go.Lib Go.Sort Go.Proofs
variable {P:Program}
theorem run_copy_row {w:World}{dT sT elem:TypeId}{i:TypeInfo}{k:Nat}(hu:P.underlying dT=some (.slice elem))(hi:P.info? elem=some i)(hk:i.size=k){g:Nat}{T:TypeId}{cur:Array Value}(hrow:w.heap[g]?=some (.cells cur T (0,0)))
  {o dLen:Nat}{a:Addr}{sLen m:Nat}{cs:List Value} (hm:Nat.min sLen dLen=m) (hl:cs.length=m*k) (hsrc:∀j v,cs[j]?=some v→w.cell? (a.add j)=some v) (h1:∀v∈cs,v.oneCell'=true) (hfit:o+cs.length≤cur.size) :
  ∀ty dCap sCap,(Builtin.copy_ #[dT,sT] ty #[.slice (some ⟨g,o,none⟩) dLen dCap,.slice (some a) sLen sCap]).run P w=.ok (goInt m) (w.setRow g (cur.toList.take o++cs++cur.toList.drop (o+cs.length)).toArray):=fun ty dCap sCap=>by
 have hf:=run_firstCells_some (P:=P) w k m a sLen sCap cs hl hsrc
 have hst:=run_storeCells_row (P:=P) g o T (0,0) cs 0 cur w hrow (.inl rfl) (by simpa using hfit) h1
 simp only[Nat.add_zero]at hst
 simp[Builtin.copy_,run_underlying hu,Builtin.lenOf,sizeOf,typeInfo,hi,hk,hm,hf,hst]
def OvL (P:Program)(f S B:Nat):Prop:=∀args w,(callFunc f args).run P w=((Extern.SlicesOverlaps.overlaps #[S,S] #[B] args).run P w).andThen fun v w'=>.ok (.value v) w'
def InsP (cur new:Array Value)(vs:List Value)(a n m:Nat):Prop:=∀t,t<n+m→new[t]?=if t<a then cur[t]? else if t<a+m then vs[t-a]? else cur[t-m]?
set_option maxHeartbeats 4000000 in
set_option maxRecDepth 1000000 in
theorem insert_shift {k:Nat}{i0:TypeInfo}{z:Value}{ρ:Ren}(L:SlT P 24 9 k i0 z ρ){f:FuncId}(FG:Bears P f (Body2.n22 ρ))(FO:OvL P (ρ.f 29) (ρ.t 24) (ρ.t 4)){w:World}{b n c i vb m vc:Nat}{cur vcur:Array Value}{TV:TypeId}{vs:List Value}(hrow:w.heap[b]?=some (.cells cur (ρ.t 9) (0,0)))
  (hv:w.heap[vb]?=some (.cells vcur TV (0,0))) (hne:vb≠b) (hk0:0<k) (hsz:cur.size=c*k) (hc:c≤9223372036854775807) (hi:i<n) (hm:0<m) (hroom:n+m≤c) (hvl:vs.length=m*k) (hvs:∀(j:Nat) v,vs[j]?=some v→vcur[j]?=some v)
  (h1:∀(t:Nat) v,t<n*k→cur[t]?=some v→v.oneCell'=true) (h1v:∀v∈vs,v.oneCell'=true) :
  Calls P f #[.slice (some ⟨b,0,none⟩) n c,.int .i64 i,.slice (some ⟨vb,0,none⟩) m vc] w fun e w'=>e=.returned (.slice (some ⟨b,0,none⟩) (n+m) c)∧∃q new,w'=(w.drewN q).setRow b new∧new.size=cur.size∧InsP cur new vs (i*k) (n*k) (m*k):=by
 have t0:=L.t0;have a0:=L.a0;have z0:=L.z0;have v0:=L.v0;have t3:=L.t3;have a3:=L.a3;have z3:=L.z3;have v3:=L.v3;have t4:=L.t4;have a4:=L.a4;have z4:=L.z4;have v4:=L.v4;have t9:=L.ae;have z9:=L.ze;have t24:=L.ts;have a24:=L.aS;have z24:=L.zs;have v24:=L.vs
 have u0:=run_underlying L.t0;have u3:=run_underlying L.t3;have u4:=run_underlying L.t4;have u24:=run_underlying L.ts
 have mixed:=L.mixed
 have hz1:¬((m:Int)=0):=by omega
 have hz2:¬((i:Int)=(n:Int)):=by omega
 have hcn:(n+m)*k≤cur.size:=by rw[hsz];exact Nat.mul_le_mul_right _ hroom
 rw[Nat.add_mul]at hcn
 have hin':i*k≤n*k:=Nat.mul_le_mul_right _ (Nat.le_of_lt hi)
 have e1:(n-i)*k=n*k-i*k:=Nat.sub_mul ..
 have e2:(i+m)*k=i*k+m*k:=Nat.add_mul ..
 have hov:∀lb cb,(callFunc (ρ.f 29) #[.slice (some ⟨vb,0,none⟩) m vc,.slice (some ⟨b,(i+m)*k,none⟩) lb cb]).run P w=.ok (.value (.bool false)) w:=fun lb cb=>by
  rw[FO,Lib.run_overlaps_apart w (ρ.t 24) (ρ.t 4) (ρ.t 9) L.ts k L.ze ⟨vb,0,none⟩ ⟨b,(i+m)*k,none⟩ m vc lb cb hne TV (ρ.t 9) vcur.size cur.size (by simp[World.shape?,hv]) (by simp[World.shape?,hrow]) (by have:0<m*k:=Nat.mul_pos hm hk0;omega) (by simp[World.frozen?,hv]) (by simp[World.frozen?,hv])]
  rfl
 have hw1:IntKind.i64.wrap ((i:Int)+(m:Int))=(i:Int)+(m:Int):=by rw[IntKind.wrap_i64];omega
 have hb1:(0:Int)≤(i:Int)+(m:Int):=by omega
 have hin:i≤n:=by omega
 have htn:((i:Int)+(m:Int)).toNat=i+m:=by omega
 have hb2:¬(c=i+m):=by omega
 have hb3:(i:Int)≤(n:Int)+(m:Int):=by omega
 have hb4:¬(c=i):=by omega
 obtain⟨cs,hcs⟩:∃cs,cs=(cur.toList.drop (i*k)).take ((n-i)*k):=⟨_,rfl⟩
 have hcl:cs.length=(n-i)*k:=by rw[hcs];simp;omega
 have hcg:∀t v,cs[t]?=some v→cur[i*k+t]?=some v∧t<(n-i)*k:=fun t v h=>by
  have ht:t<(n-i)*k:=by rw[←hcl];exact(List.getElem?_eq_some_iff.1 h).1
  rw[hcs,List.getElem?_take_of_lt ht,List.getElem?_drop]at h
  exact⟨by simpa using h,ht⟩
 have hrow':w.drew.heap[b]?=some (.cells cur (ρ.t 9) (0,0)):=hrow
 have hcp1:=run_copy_row (P:=P) (w:=w.drew) (dT:=ρ.t 24) (sT:=ρ.t 24) L.ts L.hi L.hk hrow' (o:=(i+m)*k) (dLen:=n+m-(i+m)) (a:=⟨b,i*k,none⟩) (sLen:=n+m-i) (m:=n-i) (cs:=cs) (by simp only[Nat.min_def];split<;>omega) hcl
  (fun j v hj=>by rw[Addr.add_lit];simp only[World.cell?,hrow'];simpa using(hcg j v hj).1) (fun v hv=>by
   obtain⟨t,ht⟩:=List.mem_iff_getElem?.1 hv
   obtain⟨q1,q2⟩:=hcg t v ht
   exact h1 _ v (by omega) q1) (by rw[hcl];omega)
 generalize hN1:(cur.toList.take ((i+m)*k)++cs++cur.toList.drop ((i+m)*k+cs.length)).toArray=new1 at hcp1
 have hs1:new1.size=cur.size:=by
  subst hN1
  simp only[List.size_toArray,List.length_append,List.length_take,List.length_drop,Array.length_toList,hcl];omega
 obtain⟨W1,hW1⟩:∃W1,W1=w.drew.setRow b new1:=⟨_,rfl⟩
 rw[←hW1]at hcp1
 have hrow1:W1.heap[b]?=some (.cells new1 (ρ.t 9) (0,0)):=by rw[hW1];exact setRow_heap _ b cur new1 _ _ hrow'
 have hv1:W1.heap[vb]?=some (.cells vcur TV (0,0)):=by rw[hW1,setRow_other _ _ _ _ hne];exact hv
 have hcp2:=run_copy_row (P:=P) (w:=W1) (dT:=ρ.t 24) (sT:=ρ.t 24) L.ts L.hi L.hk hrow1 (o:=i*k) (dLen:=n+m-i) (a:=⟨vb,0,none⟩) (sLen:=m) (m:=m) (cs:=vs) (by simp only[Nat.min_def];split<;>omega) hvl
  (fun j v hj=>by rw[Addr.add_lit];simp only[World.cell?,hv1];simpa using hvs j v hj) h1v (by rw[hvl];omega)
 generalize hN2:(new1.toList.take (i*k)++vs++new1.toList.drop (i*k+vs.length)).toArray=new2 at hcp2
 have hs2:new2.size=cur.size:=by
  subst hN2
  simp only[List.size_toArray,List.length_append,List.length_take,List.length_drop,Array.length_toList,hvl];omega
 have fin:InsP cur new2 vs (i*k) (n*k) (m*k):=fun t ht=>by
  have l1:(new1.toList.take (i*k)).length=i*k:=by simp;omega
  have l2:(cur.toList.take ((i+m)*k)).length=(i+m)*k:=by simp;omega
  have g1:∀t,new1[t]?=if t<(i+m)*k then cur[t]? else if t<(i+m)*k+(n-i)*k then cs[t-(i+m)*k]? else cur[t]?:=fun t=>by
   rw[←hN1,List.getElem?_toArray,List.append_assoc]
   split
   ·rename_i h;rw[List.getElem?_append_left (by omega),List.getElem?_take_of_lt h];simp
   ·rename_i h
    rw[List.getElem?_append_right (by omega),l2]
    split
    ·rw[List.getElem?_append_left (by omega)]
    ·rw[List.getElem?_append_right (by omega),List.getElem?_drop,hcl,show(i+m)*k+(n-i)*k+(t-(i+m)*k-(n-i)*k)=t by omega];simp
  rw[←hN2,List.getElem?_toArray,List.append_assoc]
  split
  ·rename_i h;rw[List.getElem?_append_left (by omega),List.getElem?_take_of_lt h];simp[g1];intro h';omega
  ·rename_i h
   rw[List.getElem?_append_right (by omega),l1]
   split
   ·rw[List.getElem?_append_left (by omega)]
   ·rw[List.getElem?_append_right (by omega),List.getElem?_drop,hvl,show i*k+m*k+(t-i*k-m*k)=t by omega,Array.getElem?_toList,g1,if_neg (by omega),if_pos (by omega),hcs,List.getElem?_take_of_lt (by omega),List.getElem?_drop,show i*k+(t-(i+m)*k)=t-m*k by omega];simp
 have X:Aside (W1.setRow b new2=(w.drewN 1).setRow b new2):=by show _=_;rw[hW1,setRow_setRow];rfl
 clear hW1 hrow1 hv1 hN1 hN2 hcg hcs h1 h1v hvs hrow' e1 e2 hcn
 obtain⟨_,_,FG⟩:=FG
 go_enter FG,Body2.n22_ntmps ρ
 go_wp2_with (simp only[hov])
 go_region_law_o (refine step_copy_runI rfl _ _ (ρ.t 24) (ρ.t 24) rfl _ _ (by simp[Act.eval,Act.put]) (by simp[Act.eval,Act.put]) (hcp1 _ _ _) ?_)
 go_wp2_with (at_builtin;refine wpList_copy_runI _ rfl _ _ (ρ.t 24) (ρ.t 24) rfl _ _ rfl rfl (hcp2 _ _ _) ?_)
 go_ret
 exact⟨rfl,1,new2,X.out,hs2,fin⟩
theorem alloc_setRow {w:World}{T:TypeId}{cs cs':Array Value}:(w.alloc (.cells cs T)).setRow w.heap.size cs'=w.alloc (.cells cs' T):=by
 unfold World.setRow World.alloc
 congr 1
 apply Array.ext_getElem?
 intro i
 simp only[Array.getElem?_modify,Array.getElem?_push]
 split<;>split<;>simp_all
theorem size_zc {z:Value}{k:Nat}(h:z.cells.size=k)(n:Nat):(Builtin.zeroCells z.cells n).size=n*k:=by simp[Builtin.zeroCells,h]
set_option maxHeartbeats 4000000 in
set_option maxRecDepth 1000000 in
theorem insert_grow {k:Nat}{i0:TypeInfo}{z:Value}{ρ:Ren}(L:SlT P 24 9 k i0 z ρ){f:FuncId}(FG:Bears P f (Body2.n22 ρ)){w:World}{b n c i vb m vc:Nat}{cur vcur:Array Value}{TV:TypeId}{vs:List Value}(hrow:w.heap[b]?=some (.cells cur (ρ.t 9) (0,0)))
  (hv:w.heap[vb]?=some (.cells vcur TV (0,0))) (hk0:0<k) (hsz:cur.size=c*k) (hnc:n≤c) (hi:i<n) (hm:0<m) (hroom:c<n+m) (hbig:(n+m)*i0.bytes≤140737488355328) (h47:n+m≤maxLen) (hvl:vs.length=m*k) (hvs:∀(j:Nat) v,vs[j]?=some v→vcur[j]?=some v)
  (h1:∀(t:Nat) v,t<n*k→cur[t]?=some v→v.oneCell'=true) (h1v:∀v∈vs,v.oneCell'=true) :
  Calls P f #[.slice (some ⟨b,0,none⟩) n c,.int .i64 i,.slice (some ⟨vb,0,none⟩) m vc] w fun e w'=>∃c',e=.returned (.slice (some ⟨w.heap.size,0,none⟩) (n+m) c')∧n+m≤c'∧c'≤maxLen ∧
   ∃q new,w'=(w.drewN q).alloc (.cells new (ρ.t 9))∧new.size=c'*k∧InsP cur new vs (i*k) (n*k) (m*k):=by
 have t0:=L.t0;have a0:=L.a0;have z0:=L.z0;have v0:=L.v0;have t3:=L.t3;have a3:=L.a3;have z3:=L.z3;have v3:=L.v3;have t4:=L.t4;have a4:=L.a4;have z4:=L.z4;have v4:=L.v4;have t9:=L.ae;have z9:=L.ze;have t24:=L.ts;have a24:=L.aS;have z24:=L.zs;have v24:=L.vs
 have u0:=run_underlying L.t0;have u3:=run_underlying L.t3;have u4:=run_underlying L.t4;have u24:=run_underlying L.ts
 have mixed:=L.mixed
 have hz1:¬((m:Int)=0):=by omega
 have hz2:¬((i:Int)=(n:Int)):=by omega
 have hz3:(c:Int)<(n:Int)+(m:Int):=by omega
 have hcn:n*k≤cur.size:=by rw[hsz];exact Nat.mul_le_mul_right _ hnc
 have hin':i*k≤n*k:=Nat.mul_le_mul_right _ (Nat.le_of_lt hi)
 have e1:(n-i)*k=n*k-i*k:=Nat.sub_mul ..
 have e2:(i+m)*k=i*k+m*k:=Nat.add_mul ..
 have hkk:(n:Int)+(m:Int)-(i:Int)=((n+m-i:Nat):Int):=by omega
 have hik:i+(n+m-i)=n+m:=by omega
 have hbw:b<w.heap.size:=(Array.getElem?_eq_some_iff.1 hrow).1
 have hvw:vb<w.heap.size:=(Array.getElem?_eq_some_iff.1 hv).1
 obtain⟨olds,hol⟩:∃olds,olds=cur.toList.take (i*k):=⟨_,rfl⟩
 have holl:olds.length=i*k:=by rw[hol];simp;omega
 have hold:(Builtin.firstCells i0.size i (.slice (some ⟨b,0,none⟩) i c)).run P w.drew=.ok olds.toArray w.drew:=by
  rw[L.hk]
  refine run_firstCells_some (P:=P) w.drew k i ⟨b,0,none⟩ i c olds holl (fun j v hj=>?_)
  have hlt:j<i*k:=by rw[←holl];exact(List.getElem?_eq_some_iff.1 hj).1
  rw[hol,List.getElem?_take_of_lt hlt]at hj
  rw[Addr.add_lit]
  have hr:w.drew.heap[b]?=some (.cells cur (ρ.t 9) (0,0)):=hrow
  simp only[World.cell?,hr]
  simpa using hj
 have hrz0:=fun ty=>Lib.run_append_grow_zeros (P:=P) w (ρ.t 24) (ρ.t 3) ty (ρ.t 9) i0 z .i64 .i64 L.ts L.t3 L.hi L.hz (some ⟨b,0,none⟩) i c olds hold (n+m-i) (by omega) (by rw[L.hk];exact hk0) (by omega) (by unfold maxLen at h47;omega) (by
  have:(n+m-i)*i0.bytes≤(n+m)*i0.bytes:=Nat.mul_le_mul_right _ (by omega)
  omega) (by rw[hik];exact growslice_fits hroom hbig)
 rw[hik]at hrz0
 rw[←hkk]at hrz0
 have hGn:n+m≤grownCap w (n+m) c (ρ.t 9):=grownCap_ge w _ _ _
 have hG63:grownCap w (n+m) c (ρ.t 9)≤maxLen:=grownCap_le_maxLen w (n+m) c (ρ.t 9) h47
 generalize grownCap w (n+m) c (ρ.t 9)=G at hrz0 hGn hG63
 have hRs:(olds.toArray++Builtin.zeroCells z.cells (n+m-i)++Builtin.zeroCells z.cells (G-(n+m))).size=G*k:=by
  simp only[Array.size_append,List.size_toArray,size_zc L.zc,holl]
  rw[←Nat.add_mul,←Nat.add_mul,show i+(n+m-i)+(G-(n+m))=G by omega]
 have hRg:∀t,t<i*k→(olds.toArray++Builtin.zeroCells z.cells (n+m-i)++Builtin.zeroCells z.cells (G-(n+m)))[t]?=cur[t]?:=fun t ht=>by
  rw[Array.append_assoc,Array.getElem?_append_left (by simpa [holl] using ht),List.getElem?_toArray,hol,List.getElem?_take_of_lt ht];simp
 generalize olds.toArray++Builtin.zeroCells z.cells (n+m-i)++Builtin.zeroCells z.cells (G-(n+m))=ROW at hrz0 hRs hRg
 have hGk:(n+m)*k≤G*k:=Nat.mul_le_mul_right _ hGn
 rw[Nat.add_mul]at hGk
 obtain⟨h,hh⟩:∃h,h=w.heap.size:=⟨_,rfl⟩
 obtain⟨W1,hW1⟩:∃W1,W1=w.drew.alloc (.cells ROW (ρ.t 9)):=⟨_,rfl⟩
 rw[←hW1,←hh]at hrz0
 have hrow1:W1.heap[h]?=some (.cells ROW (ρ.t 9) (0,0)):=by rw[hW1,hh];exact heap_alloc_new w.drew _
 have hb1':W1.heap[b]?=some (.cells cur (ρ.t 9) (0,0)):=by rw[hW1,heap_alloc_old w.drew _ hbw];exact hrow
 have hv1:W1.heap[vb]?=some (.cells vcur TV (0,0)):=by rw[hW1,heap_alloc_old w.drew _ hvw];exact hv
 have hcpA:=fun(W:World) (hW:W.heap=W1.heap)=>run_copy_row (P:=P) (w:=W) (dT:=ρ.t 24) (sT:=ρ.t 24) L.ts L.hi L.hk (by rw[hW];exact hrow1) (o:=i*k) (dLen:=n+m-i) (a:=⟨vb,0,none⟩) (sLen:=m) (m:=m) (cs:=vs) (by simp only[Nat.min_def];split<;>omega) hvl
  (fun j v hj=>by rw[Addr.add_lit];simp only[World.cell?,hW,hv1];simpa using hvs j v hj) h1v (by rw[hvl];omega)
 generalize hN1:(ROW.toList.take (i*k)++vs++ROW.toList.drop (i*k+vs.length)).toArray=new1 at hcpA
 have hs1:new1.size=G*k:=by
  subst hN1
  simp only[List.size_toArray,List.length_append,List.length_take,List.length_drop,Array.length_toList,hvl];omega
 obtain⟨cs,hcs⟩:∃cs,cs=(cur.toList.drop (i*k)).take ((n-i)*k):=⟨_,rfl⟩
 have hcl:cs.length=(n-i)*k:=by rw[hcs];simp;omega
 have hcg:∀t v,cs[t]?=some v→cur[i*k+t]?=some v∧t<(n-i)*k:=fun t v h=>by
  have ht:t<(n-i)*k:=by rw[←hcl];exact(List.getElem?_eq_some_iff.1 h).1
  rw[hcs,List.getElem?_take_of_lt ht,List.getElem?_drop]at h
  exact⟨by simpa using h,ht⟩
 have hbh:b≠h:=by omega
 have hcpB:=fun(W:World) (hW:W.heap=(W1.setRow h new1).heap)=>run_copy_row (P:=P) (w:=W) (dT:=ρ.t 24) (sT:=ρ.t 24) L.ts L.hi L.hk (by rw[hW];exact setRow_heap _ h ROW new1 _ _ hrow1) (o:=(i+m)*k) (dLen:=n+m-(i+m)) (a:=⟨b,i*k,none⟩) (sLen:=n-i) (m:=n-i) (cs:=cs) (by simp only[Nat.min_def];split<;>omega) hcl
  (fun j v hj=>by rw[Addr.add_lit];simp only[World.cell?,hW,setRow_other _ _ _ _ hbh,hb1'];simpa using(hcg j v hj).1) (fun v hv=>by
   obtain⟨t,ht⟩:=List.mem_iff_getElem?.1 hv
   obtain⟨q1,q2⟩:=hcg t v ht
   exact h1 _ v (by omega) q1) (by rw[hcl];omega)
 generalize hN2:(new1.toList.take ((i+m)*k)++cs++new1.toList.drop ((i+m)*k+cs.length)).toArray=new2 at hcpB
 have hs2:new2.size=G*k:=by
  subst hN2
  simp only[List.size_toArray,List.length_append,List.length_take,List.length_drop,Array.length_toList,hcl];omega
 have fin:InsP cur new2 vs (i*k) (n*k) (m*k):=fun t ht=>by
  have l1:(ROW.toList.take (i*k)).length=i*k:=by simp;omega
  have l2:(new1.toList.take ((i+m)*k)).length=(i+m)*k:=by simp;omega
  have g1:∀t,t<(i+m)*k→new1[t]?=if t<i*k then cur[t]? else vs[t-i*k]?:=fun t ht=>by
   rw[←hN1,List.getElem?_toArray,List.append_assoc]
   split
   ·rename_i h;rw[List.getElem?_append_left (by omega),List.getElem?_take_of_lt h,Array.getElem?_toList,hRg t h]
   ·rename_i h
    rw[List.getElem?_append_right (by omega),l1,List.getElem?_append_left (by omega)]
  rw[←hN2,List.getElem?_toArray,List.append_assoc]
  by_cases h:t<(i+m)*k
  ·rw[List.getElem?_append_left (by omega),List.getElem?_take_of_lt h,Array.getElem?_toList,g1 t h]
   split
   ·rfl
   ·rw[if_pos (by omega)]
  ·rw[List.getElem?_append_right (by omega),l2,List.getElem?_append_left (by omega),if_neg (by omega),if_neg (by omega),hcs,List.getElem?_take_of_lt (by omega),List.getElem?_drop,show i*k+(t-(i+m)*k)=t-m*k by omega];simp
 have hGi:¬(G=i):=by omega
 have hGim:¬(G=i+m):=by omega
 have hci:¬(c=i):=by omega
 have hw1:IntKind.i64.wrap ((i:Int)+(m:Int))=(i:Int)+(m:Int):=by rw[IntKind.wrap_i64];unfold maxLen at h47;omega
 have hb1:(0:Int)≤(i:Int)+(m:Int):=by omega
 have hin:i≤n:=by omega
 have htn:((i:Int)+(m:Int)).toNat=i+m:=by omega
 have hb3:(i:Int)≤(n:Int):=by omega
 have h63:(n:Int)+(m:Int)≤9223372036854775807:=by unfold maxLen at h47;omega
 have X:Aside (W1=w.drew.alloc (.cells ROW (ρ.t 9))):=hW1
 have Y:Aside (h=w.heap.size):=hh
 have HF:Aside (InsP cur new2 vs (i*k) (n*k) (m*k)):=fin
 clear hkk hik hold hW1 hrow1 hb1' hv1 hN1 hN2 hcg hcs h1 h1v hvs e1 e2 hcn hh fin hRg hol
 obtain⟨_,_,FG⟩:=FG
 go_enter FG,Body2.n22_ntmps ρ
 go_wp2_with (first
  |(at_builtin;refine Lib.wpList_append_run _ rfl _ _ _ _ rfl _ _ rfl rfl _ _ (hrz0 _) ?_)
  |(at_builtin;refine wpList_copy_runI _ rfl _ _ (ρ.t 24) (ρ.t 24) rfl _ _ rfl rfl (hcpA _ rfl _ _ _) ?_)
  |(at_builtin;refine wpList_copy_runI _ rfl _ _ (ρ.t 24) (ρ.t 24) rfl _ _ rfl rfl (hcpB _ rfl _ _ _) ?_))
 go_region_law_o (refine step_copy_runI rfl _ _ (ρ.t 24) (ρ.t 24) rfl (.slice (some ⟨h,(i+m)*k,none⟩) (n+m-(i+m)) (G-(i+m))) (.slice (some ⟨b,i*k,none⟩) (n-i) (c-i)) (by simp[Act.eval,Act.put]) (by simp[Act.eval,Act.put]) (hcpB (W1.setRow h new1).drew rfl _ _ _) ?_)
 go_wp2
 go_ret
 refine⟨G,by rw[Y.out];rfl,hGn,hG63,2,new2,?_,hs2,HF.out⟩
 show((W1.setRow h new1).setRow h new2).drew=_
 rw[setRow_setRow,X.out,Y.out]
 exact congrArg World.drew (alloc_setRow (w:=w.drew))
end Go.Sha
