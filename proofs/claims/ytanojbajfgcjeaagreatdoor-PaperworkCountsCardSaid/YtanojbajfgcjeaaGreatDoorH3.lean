/- tracking.back: an iterator over the cues of a list. tracking.value: its contract in worlds. tracking.value's contract over shadow values. The contracts of this seat's table hold. The contracts with th .. -/
import Derived.RangeFuncNested
import Derived.RangeFuncBound
import Derived.RangeFuncCalls
import Derived.RangeFuncLeaves
import Derived.RangeFuncBox
import Derived.RangeFuncWrites
import Derived.Shelf.Abstract
import Derived.Shelf.RegionOpen
import Derived.WalkKit
import Derived.OwnWalkIn
import Derived.TacticsInMore
import Derived.LoopNIn
import Derived.LoopIn
import Derived.Test.YtanojbajfgcjeaaGreatDoorProg
import Derived.Test.YtanojbajfgcjeaaGreatDoorH2
import Derived.Test.YtanojbajfgcjeaaGreatDoorH1
import Derived.Test.YtanojbajfgcjeaaGreatDoorHShbT
import Derived.Test.YtanojbajfgcjeaaGreatDoorHShbZ
import Derived.Lib.AppendIntMem
import Derived.Test.YtanojbajfgcjeaaGreatDoorHShbXH
import Derived.Test.YtanojbajfgcjeaaGreatDoorRows
import Derived.Test.YtanojbajfgcjeaaGreatDoorHShbAE
import Derived.Test.YtanojbajfgcjeaaGreatDoorHShbYB
import Derived.KernelRfl
import Derived.Lib.ItoaLen
import Derived.Lib.CountLaws
import Derived.Lib.IndexLaws
import Derived.Test.YtanojbajfgcjeaaGreatDoorHShbXI
import Derived.Test.YtanojbajfgcjeaaGreatDoorHShbAC
import Derived.Test.YtanojbajfgcjeaaGreatDoorCards
import Derived.SizedLaws
import Derived.ProofKit
import Derived.OpenShut
import Derived.ChangeMaps5
import Derived.LaidLaws
import Derived.LaidHandle
import Derived.Lay
import Derived.SevenTiedAt
set_option linter.unusedSimpArgs false
set_option linter.unusedVariables false
namespace Go.Proofs.YtanojbajfgcjeaaGreatDoor
open Go.RowKit Go.Shelf
attribute [local go_sem] Oper.semAt_some
def dnL (a k:Nat):List Nat:=(List.range k).map (a-·)
theorem dnL_succ (a k:Nat):dnL a (k+1)=dnL a k++[a-k]:=by simp[dnL,List.range_succ]
theorem dnL_length (a k:Nat):(dnL a k).length=k:=by simp[dnL]
set_option maxHeartbeats 1000000 in
theorem back_in (F:Fence)(n:Nat)(h5:F.fn 230)(hro:F.round=none)(a0 a1 a2:Value)(x:Int)(w:World) :
  CallsIn F n Tryz.prog 230 #[.agg #[a0,a1,a2],.int .i64 x] w fun e w'=>e=.returned (.func (.func 300) #[] #[.pointer (some ⟨w.heap.size+1,0,none⟩),.pointer (some ⟨w.heap.size,0,none⟩)])∧w'=(w.alloc (.cells #[a0,a1,a2] 66)).alloc (.cells #[.int .i64 x] 3):=by
 refine callsIn_of_wp Tryz.func230 rfl h5 ?_ hro
 simp only[Tryz.ntmps230,List.size_toArray,List.length_cons,List.length_nil,Nat.reduceAdd,Nat.reduceSub,Array.replicate_succ,Array.replicate_zero,List.push_toArray,List.append_toArray,List.nil_append,List.cons_append]
 gi_wp2
 go_ret
 exact⟨rfl,by simp⟩
set_option maxRecDepth 100000 in
set_option maxHeartbeats 4000000 in
theorem back1_in (F:Fence)(n:Nat)(h7:F.fn 300)(hro:F.round=none)(hn:1≤n)(l Ba Bl n₀ b off len cap a:Nat)(c0 c1 c2 c3 c5 c6 c7 c8:Nat→Value)(bl:Nat→Bool)(hlen:len*144≤140737488351232)(hb:b<n₀)(ha:a<len)(J Jx:List Nat→World→Prop)
  (hY:∀pre x W,J pre W→pre.length<a+1→YieldAt F (n-1) Tryz.prog l #[.agg #[c0 x,c1 x,c2 x,c3 x,.bool (bl x),c5 x,c6 x,c7 x,c8 x]] W fun e W' =>
   (e=.returned (.bool true)∧J (pre++[x]) W'∧Below n₀ W W')∨(e=.returned (.bool false)∧Jx (pre++[x]) W'))
  (W:World) (hBa:W.cell? ⟨Ba,0,none⟩=some (.int .i64 a)) (hBl:W.cell? ⟨Bl,2,none⟩=some (.slice (some ⟨b,off,none⟩) len cap)) (hBl0:Bl<n₀)
  (hc:∀j,j<len→W.cell? ⟨b,off+j*9,none⟩=some (c0 j)∧W.cell? ⟨b,off+j*9+1,none⟩=some (c1 j)∧W.cell? ⟨b,off+j*9+2,none⟩=some (c2 j)∧W.cell? ⟨b,off+j*9+3,none⟩=some (c3 j) ∧
   W.cell? ⟨b,off+j*9+4,none⟩=some (.bool (bl j))∧W.cell? ⟨b,off+j*9+5,none⟩=some (c5 j)∧W.cell? ⟨b,off+j*9+6,none⟩=some (c6 j)∧W.cell? ⟨b,off+j*9+7,none⟩=some (c7 j)∧W.cell? ⟨b,off+j*9+8,none⟩=some (c8 j))
  (h0:J [] W) :
  CallsIn F n Tryz.prog 300 #[.func (.yield l) #[] #[],.pointer (some ⟨Ba,0,none⟩),.pointer (some ⟨Bl,0,none⟩)] W fun e W'=>(∃v,e=.returned v) ∧
   ((∃k,k≤a+1∧J (dnL a k) W'∧(k=a+1∨0<k∧bl (a+1-k)=true)∧∀j,0<j→j<k→bl (a+1-j)=false)∨(∃k,k≤a+1∧Jx (dnL a k) W'∧∀j,0<j→j<k→bl (a+1-j)=false)):=by
 refine callsIn_of_wp Tryz.func300 rfl h7 ?_ hro
 simp only[Tryz.ntmps300,List.size_toArray,List.length_cons,List.length_nil,Nat.reduceAdd,Nat.reduceSub,Array.replicate_succ,Array.replicate_zero,List.push_toArray,List.append_toArray,List.nil_append,List.cons_append]
 gi_wp2
 gi_loopw [4] (fun i wr=>∃k:Nat,k≤a+1∧i=.int .i64 ((a:Int)-k)∧J (dnL a k) wr∧Below n₀ W wr∧∀j,0<j→j≤k→bl (a+1-j)=false)
  (fun i _=>(intOf i+1).toNat)
 case atStart=>exact⟨0,Nat.zero_le _,by simp,h0,Below.refl _ _,fun j h1 h2=>by omega⟩
 case round =>
  obtain⟨k,hk,rfl,hJs,hnx,hbs⟩:=hrel
  have hcell:∀(W1:World),Below n₀ W W1→∀j,j<len→W1.cell? ⟨b,off+j*9,none⟩=some (c0 j)∧W1.cell? ⟨b,off+j*9+1,none⟩=some (c1 j)∧W1.cell? ⟨b,off+j*9+2,none⟩=some (c2 j)∧W1.cell? ⟨b,off+j*9+3,none⟩=some (c3 j) ∧
   W1.cell? ⟨b,off+j*9+4,none⟩=some (.bool (bl j))∧W1.cell? ⟨b,off+j*9+5,none⟩=some (c5 j)∧W1.cell? ⟨b,off+j*9+6,none⟩=some (c6 j)∧W1.cell? ⟨b,off+j*9+7,none⟩=some (c7 j)∧W1.cell? ⟨b,off+j*9+8,none⟩=some (c8 j):=fun W1 hB j hj=>by
   obtain⟨d0,d1,d2,d3,d4,d5,d6,d7,d8⟩:=hc j hj
   exact⟨(hB.cell (p:=⟨b,_,none⟩) hb).trans d0,(hB.cell (p:=⟨b,_,none⟩) hb).trans d1,(hB.cell (p:=⟨b,_,none⟩) hb).trans d2,(hB.cell (p:=⟨b,_,none⟩) hb).trans d3,(hB.cell (p:=⟨b,_,none⟩) hb).trans d4,(hB.cell (p:=⟨b,_,none⟩) hb).trans d5,(hB.cell (p:=⟨b,_,none⟩) hb).trans d6,(hB.cell (p:=⟨b,_,none⟩) hb).trans d7,(hB.cell (p:=⟨b,_,none⟩) hb).trans d8⟩
  by_cases hlt:k≤a
  ·obtain⟨fn,tmps,assign,body,hy,hR⟩:=hY _ (a-k) wr hJs (by rw[dnL_length];omega)
   obtain⟨d0,d1,d2,d3,d4,d5,d6,d7,d8⟩:=hcell wr hnx (a-k) (by omega)
   have hBl':=(hnx.cell (p:=⟨Bl,2,none⟩) hBl0).trans hBl
   have hx:((a:Int)-k)=((a-k:Nat):Int):=by omega
   rw[hx]
   have hlx:a-k<len:=by omega
   generalize hm:a-k=m at *
   gi_wp2
   refine hR.mono ?_
   rintro e W3 (⟨rfl,hJ3,hk3⟩|⟨rfl,hJx3⟩)
   ·obtain⟨e0,e1,e2,e3,e4,e5,e6,e7,e8⟩:=hcell W3 (hnx.trans hk3) m hlx
    have hBl3:=((hnx.trans hk3).cell (p:=⟨Bl,2,none⟩) hBl0).trans hBl
    have hjk:∀j,0<j→j<k+1→bl (a+1-j)=false:=fun j h1 h2=>hbs j h1 (by omega)
    cases hbm:bl m with
    |true =>
     rw[hbm]at e4
     gi_wp2
     refine bodyPost_ret (results_none rfl _ _ _) rfl ?_
     exact⟨⟨_,rfl⟩,.inl ⟨k+1,by omega,by rw[dnL_succ,hm];exact hJ3,.inr ⟨by omega,by rw[show a+1-(k+1)=m by omega];exact hbm⟩,hjk⟩⟩
    |false =>
     rw[hbm]at e4
     gi_wp2
     refine⟨⟨k+1,by omega,by rw[show((m:Int)-1)=(a:Int)-((k+1:Nat):Int) by omega],by rw[dnL_succ,hm];exact hJ3,hnx.trans hk3,fun j h1 h2=>?_⟩,by simp[intOf]⟩
     rcases Nat.lt_or_ge j (k+1) with h3|h3
     ·exact hjk j h1 h3
     ·rw[show a+1-j=m by omega];exact hbm
   ·gi_wp2
    refine bodyPost_ret (results_none rfl _ _ _) rfl ?_
    exact⟨⟨_,rfl⟩,.inr ⟨k+1,by omega,by rw[dnL_succ,hm];exact hJx3,fun j h1 h2=>hbs j h1 (by omega)⟩⟩
  ·obtain rfl:k=a+1:=by omega
   have hx:((a:Int)-((a+1:Nat):Int))=-1:=by omega
   rw[hx]
   gi_wp2
   go_end0
   exact⟨⟨_,rfl⟩,.inl ⟨_,Nat.le_refl _,hJs,.inl rfl,fun j h1 h2=>hbs j h1 (by omega)⟩⟩
end Go.Proofs.YtanojbajfgcjeaaGreatDoor

namespace Go.Proofs.YtanojbajfgcjeaaGreatDoor
open Go.RowKit Go.Shelf
attribute [local go_sem] Oper.semAt_some
def Box9 (c0 c1 c2 c3:Nat→Value)(bl:Nat→Bool)(c5 c6 c7 c8:Nat→Value)(W:World)(b o x:Nat):Prop :=
 W.cell? ⟨b,o,none⟩=some (c0 x)∧W.cell? ⟨b,o+1,none⟩=some (c1 x)∧W.cell? ⟨b,o+2,none⟩=some (c2 x)∧W.cell? ⟨b,o+3,none⟩=some (c3 x) ∧
   W.cell? ⟨b,o+4,none⟩=some (.bool (bl x))∧W.cell? ⟨b,o+5,none⟩=some (c5 x)∧W.cell? ⟨b,o+6,none⟩=some (c6 x)∧W.cell? ⟨b,o+7,none⟩=some (c7 x)∧W.cell? ⟨b,o+8,none⟩=some (c8 x)
theorem back_stops (F:Fence)(n:Nat)(h7:F.fn 300)(hro:F.round=none)(hn:1≤n)(Ba Bl n₀ b off len cap a:Nat)(c0 c1 c2 c3 c5 c6 c7 c8:Nat→Value)(bl:Nat→Bool)(hlen:len*144≤140737488351232)(hb:b<n₀)(ha:a<len)
  (w:World) (hn0:n₀≤w.heap.size) (hBa:w.cell? ⟨Ba,0,none⟩=some (.int .i64 a)) (hBa0:Ba<w.heap.size) (hBl:w.cell? ⟨Bl,2,none⟩=some (.slice (some ⟨b,off,none⟩) len cap)) (hBl0:Bl<n₀)
  (hc:∀j,j<len→Box9 c0 c1 c2 c3 bl c5 c6 c7 c8 w b (off+j*9) j) :
  SeqStopsK F n Tryz.prog 300 #[.pointer (some ⟨Ba,0,none⟩),.pointer (some ⟨Bl,0,none⟩)] (fun x:Nat=>#[.agg #[c0 x,c1 x,c2 x,c3 x,.bool (bl x),c5 x,c6 x,c7 x,c8 x]]) (Below n₀)
   (fun xs=>∃k,k≤a+1∧xs=dnL a k∧(k=a+1∨0<k∧bl (a+1-k)=true)∧∀j,0<j→j<k→bl (a+1-j)=false)
   (fun xs=>∃k,k≤a+1∧xs=dnL a k∧∀j,0<j→j<k→bl (a+1-j)=false) (a+1) w:=fun l J Jx W hW _ _ hY h0=>by
 have hB:=hW.mono hn0
 refine(back1_in F n h7 hro hn l Ba Bl n₀ b off len cap a c0 c1 c2 c3 c5 c6 c7 c8 bl hlen hb ha J Jx hY W ((hW.cell (p:=⟨Ba,0,none⟩) hBa0).trans hBa) ((hB.cell (p:=⟨Bl,2,none⟩) hBl0).trans hBl) hBl0 (fun j hj=>?_) h0).mono ?_
 ·obtain⟨d0,d1,d2,d3,d4,d5,d6,d7,d8⟩:=hc j hj
  exact⟨(hB.cell (p:=⟨b,_,none⟩) hb).trans d0,(hB.cell (p:=⟨b,_,none⟩) hb).trans d1,(hB.cell (p:=⟨b,_,none⟩) hb).trans d2,(hB.cell (p:=⟨b,_,none⟩) hb).trans d3,(hB.cell (p:=⟨b,_,none⟩) hb).trans d4,(hB.cell (p:=⟨b,_,none⟩) hb).trans d5,(hB.cell (p:=⟨b,_,none⟩) hb).trans d6,(hB.cell (p:=⟨b,_,none⟩) hb).trans d7,(hB.cell (p:=⟨b,_,none⟩) hb).trans d8⟩
 ·rintro e W' ⟨he,⟨k,h1,h2,h3,h4⟩|⟨k,h1,h2,h3⟩⟩
  ·exact⟨he,.inl ⟨_,⟨k,h1,rfl,h3,h4⟩,h2⟩⟩
  ·exact⟨he,.inr ⟨_,⟨k,h1,rfl,h3⟩,h2⟩⟩
theorem heap5 (w:World)(o1 o2 o3 o4 o5:Obj):(((((w.alloc o1).alloc o2).alloc o3).alloc o4).alloc o5).heap[w.heap.size+1]?=some o2∧(((((w.alloc o1).alloc o2).alloc o3).alloc o4).alloc o5).heap[w.heap.size+1+1]?=some o3 ∧
  (((((w.alloc o1).alloc o2).alloc o3).alloc o4).alloc o5).heap[w.heap.size+1+1+1]?=some o4∧(((((w.alloc o1).alloc o2).alloc o3).alloc o4).alloc o5).heap[w.heap.size+1+1+1+1]?=some o5:=by
 have e:(((((w.alloc o1).alloc o2).alloc o3).alloc o4).alloc o5).heap=((((w.heap.push o1).push o2).push o3).push o4).push o5:=rfl
 rw[e]
 simp only[Array.getElem?_push,Array.size_push]
 refine⟨?_,?_,?_,?_⟩
 ·rw[if_neg (by omega),if_neg (by omega),if_neg (by omega),if_pos trivial]
 ·rw[if_neg (by omega),if_neg (by omega),if_pos trivial]
 ·rw[if_neg (by omega),if_pos trivial]
 ·rw[if_pos trivial]
theorem cell_at {W:World}{k i:Nat}{cs:Array Value}{T:TypeId}{fz:Nat×Nat}(h:W.heap[k]?=some (.cells cs T fz)):W.cell? ⟨k,i,none⟩=cs[i]?:=by simp[World.cell?,h]
theorem froz_below {n:Nat}{A B:World}(h:Below n A B){p:Addr}(hp:p.block<n):B.frozen? p=A.frozen? p:=by unfold World.frozen?;rw[h.block _ hp]
theorem keeps_below {A B:World}(h:Below A.heap.size A B):KeepsOthers A B:=⟨h.size,fun k o hk _=>by rw[h.block k (Array.getElem?_eq_some_iff.1 hk).1];exact hk⟩
theorem froz_at {W:World}{k i:Nat}{cs:Array Value}{T:TypeId}(h:W.heap[k]?=some (.cells cs T (0,0))):W.frozen? ⟨k,i,none⟩=false:=by simp[World.frozen?,h]
set_option maxRecDepth 100000 in
set_option maxHeartbeats 4000000 in
theorem value_calls (w : World)(b off len cap a : Nat)(s0 s1 s7 : Nat → ByteArray)(a2 a3 : Nat → Option Addr)(n2 k2 n3 k3 : Nat → Nat)(b5 : Nat → Bool)(i6 i8 : Nat → Int)(bl : Nat → Bool)(v0 v1 p0 p1 : Value)(m1 m2 : Nat → Int)(ok : Nat → Bool)(hlen : len * 144 ≤ 140737488351232)(hb : b < w.heap.size)(ha : a < len)
    (hc : ∀ j, j < len → Box9 (fun x => .string (s0 x)) (fun x => .string (s1 x)) (fun x => .slice (a2 x) (n2 x) (k2 x)) (fun x => .slice (a3 x) (n3 x) (k3 x)) bl (fun x => .bool (b5 x)) (fun x => .int .i64 (i6 x)) (fun x => .string (s7 x)) (fun x => .int .i64 (i8 x)) w b (off + j * 9) j)
    (hmove : ∀ x W, Below w.heap.size w W → Calls Tryz.prog 231 #[.agg #[.string (s0 x), .string (s1 x), .slice (a2 x) (n2 x) (k2 x), .slice (a3 x) (n3 x) (k3 x), .bool (bl x), .bool (b5 x), .int .i64 (i6 x), .string (s7 x), .int .i64 (i8 x)], .agg #[p0, p1]] W fun e W' => e = .returned (.tuple #[.agg #[.int .i64 (m1 x), .int .i64 (m2 x)], .bool (ok x)]) ∧ Below W.heap.size W W')
    (hhome : ∀ W, Calls Tryz.prog 232 #[] W fun e W' => e = .returned (.agg #[.int .i64 (-1), .int .i64 0]) ∧ Below W.heap.size W W') :
    Calls Tryz.prog 152 #[.agg #[v0, v1, .slice (some ⟨b, off, none⟩) len cap], .int .i64 a, .agg #[p0, p1]] w fun e W' =>
      ((∃ k, k ≤ a + 1 ∧ (∀ x ∈ dnL a k, ok x = false) ∧ (k = a + 1 ∨ 0 < k ∧ bl (a + 1 - k) = true) ∧ (∀ j, 0 < j → j < k → bl (a + 1 - j) = false) ∧ e = .returned (.agg #[.int .i64 (-1), .int .i64 0])) ∨
       (∃ k, k < a + 1 ∧ (∀ x ∈ dnL a k, ok x = false) ∧ ok (a - k) = true ∧ (∀ j, 0 < j → j ≤ k → bl (a + 1 - j) = false) ∧ e = .returned (.agg #[.int .i64 (m1 (a - k)), .int .i64 (m2 (a - k))]))) ∧ Below w.heap.size w W' := by
  refine (callsIn_wide (n := 3)).1 ?_
  refine callsIn_of_wp_marks Tryz.func152 rfl trivial ?_ rfl
  simp only [Tryz.ntmps152, List.size_toArray, List.length_cons, List.length_nil, Nat.reduceAdd, Nat.reduceSub, Array.replicate_succ, Array.replicate_zero, List.push_toArray, List.append_toArray, List.nil_append, List.cons_append]
  gi_wp2_with (refine ⟨trivial, ?_⟩; gi_at_call 230; refine (back_in Fence.wide _ trivial rfl _ _ _ _ _).mono ?_; rintro e w' ⟨rfl, rfl⟩)
  have hB0 : Below w.heap.size w (((((w.alloc (.cells #[v0, v1, .slice (some ⟨b, off, none⟩) len cap] 66)).alloc (.cells #[p0, p1] 83)).alloc (.cells #[.int .i64 0, .int .i64 0] 85)).alloc (.cells #[v0, v1, .slice (some ⟨b, off, none⟩) len cap] 66)).alloc (.cells #[.int .i64 a] 3)) :=
    (((((Below.refl _ w).alloc (Nat.le_refl _) _).alloc (by simp) _).alloc (by simp; omega) _).alloc (by simp; omega) _).alloc (by simp; omega) _
  have hs0 : (((((w.alloc (.cells #[v0, v1, .slice (some ⟨b, off, none⟩) len cap] 66)).alloc (.cells #[p0, p1] 83)).alloc (.cells #[.int .i64 0, .int .i64 0] 85)).alloc (.cells #[v0, v1, .slice (some ⟨b, off, none⟩) len cap] 66)).alloc (.cells #[.int .i64 a] 3)).heap.size = w.heap.size + 1 + 1 + 1 + 1 + 1 := by simp
  obtain ⟨g2, g3, g4, g5⟩ := heap5 w (.cells #[v0, v1, .slice (some ⟨b, off, none⟩) len cap] 66) (.cells #[p0, p1] 83) (.cells #[.int .i64 0, .int .i64 0] 85) (.cells #[v0, v1, .slice (some ⟨b, off, none⟩) len cap] 66) (.cells #[.int .i64 a] 3)
  generalize hW0 : (((((w.alloc (.cells #[v0, v1, .slice (some ⟨b, off, none⟩) len cap] 66)).alloc (.cells #[p0, p1] 83)).alloc (.cells #[.int .i64 0, .int .i64 0] 85)).alloc (.cells #[v0, v1, .slice (some ⟨b, off, none⟩) len cap] 66)).alloc (.cells #[.int .i64 a] 3)) = W0 at *
  have f0 : W0.cell? ⟨w.heap.size + 1 + 1 + 1 + 1, 0, none⟩ = some (.int .i64 a) := cell_at g5
  have f1 : W0.cell? ⟨w.heap.size + 1 + 1 + 1, 2, none⟩ = some (.slice (some ⟨b, off, none⟩) len cap) := cell_at g4
  have f3 : W0.cell? ⟨w.heap.size + 1, 0, none⟩ = some p0 := cell_at g2
  have f4 : W0.cell? ⟨w.heap.size + 1, 1, none⟩ = some p1 := cell_at g2
  have f5 : W0.cell? ⟨w.heap.size + 1 + 1, 0, none⟩ = some (.int .i64 0) := cell_at g3
  have f6 : W0.cell? ⟨w.heap.size + 1 + 1, 1, none⟩ = some (.int .i64 0) := cell_at g3
  have f7 : W0.frozen? ⟨w.heap.size + 1 + 1, 0, none⟩ = false := froz_at g3
  have f8 : W0.frozen? ⟨w.heap.size + 1 + 1, 1, none⟩ = false := froz_at g3
  have hc0 : ∀ j, j < len → Box9 (fun x => .string (s0 x)) (fun x => .string (s1 x)) (fun x => .slice (a2 x) (n2 x) (k2 x)) (fun x => .slice (a3 x) (n3 x) (k3 x)) bl (fun x => .bool (b5 x)) (fun x => .int .i64 (i6 x)) (fun x => .string (s7 x)) (fun x => .int .i64 (i8 x)) W0 b (off + j * 9) j := fun j hj => by
    obtain ⟨d0, d1, d2, d3, d4, d5, d6, d7, d8⟩ := hc j hj
    exact ⟨(hB0.cell (p := ⟨b, _, none⟩) hb).trans d0, (hB0.cell (p := ⟨b, _, none⟩) hb).trans d1, (hB0.cell (p := ⟨b, _, none⟩) hb).trans d2, (hB0.cell (p := ⟨b, _, none⟩) hb).trans d3, (hB0.cell (p := ⟨b, _, none⟩) hb).trans d4, (hB0.cell (p := ⟨b, _, none⟩) hb).trans d5, (hB0.cell (p := ⟨b, _, none⟩) hb).trans d6, (hB0.cell (p := ⟨b, _, none⟩) hb).trans d7, (hB0.cell (p := ⟨b, _, none⟩) hb).trans d8⟩
  refine wpIn_rangeFunc_ownH rfl (by decide) (gf := 300) (lb := #[.pointer (some ⟨w.heap.size + 1 + 1 + 1 + 1, 0, none⟩), .pointer (some ⟨w.heap.size + 1 + 1 + 1, 0, none⟩)]) rfl trivial (enters_of Tryz.func300 (by kernel_rfl) rfl)
    (back_stops Fence.wide _ trivial rfl (by decide) (w.heap.size + 1 + 1 + 1 + 1) (w.heap.size + 1 + 1 + 1) W0.heap.size b off len cap a (fun x => .string (s0 x)) (fun x => .string (s1 x)) (fun x => .slice (a2 x) (n2 x) (k2 x)) (fun x => .slice (a3 x) (n3 x) (k3 x)) (fun x => .bool (b5 x)) (fun x => .int .i64 (i6 x)) (fun x => .string (s7 x)) (fun x => .int .i64 (i8 x)) bl hlen (by omega) ha W0 (Nat.le_refl _) f0 (by omega) f1 (by omega) hc0)
    belowK_t (belowK_b (Nat.le_refl _)) (Below.refl _ _) (fun _ => rfl)
    (fun pre W => (∀ x ∈ pre, ok x = false) ∧ Below W0.heap.size W0 W)
    (fun c pre W => (c = .ret ∧ ∃ ini last, pre = ini ++ [last] ∧ (∀ x ∈ ini, ok x = false) ∧ ok last = true ∧ W.cell? ⟨w.heap.size + 1 + 1, 0, none⟩ = some (.int .i64 (m1 last)) ∧ W.cell? ⟨w.heap.size + 1 + 1, 1, none⟩ = some (.int .i64 (m2 last))) ∧ Below w.heap.size w W)
    (OwnFrom.and (Own.from (fun s A B row hs hg hr => hs) _) (ownFrom_below (Nat.le_refl _) (Nat.le_refl _)))
    (fun c => OwnFrom.and (Own.from (fun s A B row hs hg hr => by obtain ⟨hc, ini, last, e1, e2, e3, e4, e5⟩ := hs; exact ⟨hc, ini, last, e1, e2, e3, cell_kept e4 hg hr, cell_kept e5 hg hr⟩) _) (ownFrom_below (Nat.le_refl _) (by omega)))
    ⟨by simp, Below.refl _ _⟩
    (fun x a' W => ∃ Bx, w.heap.size + 1 + 1 + 1 + 1 + 1 ≤ Bx ∧ Box9 (fun x => .string (s0 x)) (fun x => .string (s1 x)) (fun x => .slice (a2 x) (n2 x) (k2 x)) (fun x => .slice (a3 x) (n3 x) (k3 x)) bl (fun x => .bool (b5 x)) (fun x => .int .i64 (i6 x)) (fun x => .string (s7 x)) (fun x => .int .i64 (i8 x)) W Bx 0 x ∧ a' = { tmps := #[.agg #[v0, v1, .slice (some ⟨b, off, none⟩) len cap], .int .i64 a, .agg #[p0, p1], .pointer (some ⟨w.heap.size, 0, none⟩), undef, .pointer (some ⟨w.heap.size + 1, 0, none⟩), .pointer (some ⟨w.heap.size + 1 + 1, 0, none⟩), .pointer (some ⟨Bx, 0, none⟩), undef, undef, .agg #[v0, v1, .slice (some ⟨b, off, none⟩) len cap], .int .i64 a, .func (.func 300) #[] #[.pointer (some ⟨w.heap.size + 1 + 1 + 1 + 1, 0, none⟩), .pointer (some ⟨w.heap.size + 1 + 1 + 1, 0, none⟩)], .agg #[.string (s0 x), .string (s1 x), .slice (a2 x) (n2 x) (k2 x), .slice (a3 x) (n3 x) (k3 x), .bool (bl x), .bool (b5 x), .int .i64 (i6 x), .string (s7 x), .int .i64 (i8 x)], undef, undef, undef, undef, undef, undef, undef, undef, undef], defers := [] })
    (fun x a' => Own.from (fun s A B row hs hg hr => by
      obtain ⟨Bx, h1, ⟨d0, d1, d2, d3, d4, d5, d6, d7, d8⟩, h3⟩ := hs
      exact ⟨Bx, h1, ⟨cell_kept d0 hg hr, cell_kept d1 hg hr, cell_kept d2 hg hr, cell_kept d3 hg hr, cell_kept d4 hg hr, cell_kept d5 hg hr, cell_kept d6 hg hr, cell_kept d7 hg hr, cell_kept d8 hg hr⟩, h3⟩) _) ?assign ?body ?done ?stop
  case assign =>
    rintro l pre x W K hi hK
    gi_wp2
    refine hK _ _ ((KeepsOthers.alloc _ _).from _) ((Below.refl _ W).alloc hi.2.size _) ⟨hi.1, hi.2.alloc hi.2.size _⟩ ⟨W.heap.size, by have := hi.2.size; omega, ?_, rfl⟩
    have hn := World.alloc_heap_new W (.cells #[.string (s0 x), .string (s1 x), .slice (a2 x) (n2 x) (k2 x), .slice (a3 x) (n3 x) (k3 x), .bool (bl x), .bool (b5 x), .int .i64 (i6 x), .string (s7 x), .int .i64 (i8 x)] 73)
    exact ⟨cell_at hn, cell_at hn, cell_at hn, cell_at hn, cell_at hn, cell_at hn, cell_at hn, cell_at hn, cell_at hn⟩
  case body =>
    rintro l pre x a' W hl ⟨r, hr⟩ ⟨hp, hB⟩ ⟨Bx, hBx, ⟨d0, d1, d2, d3, d4, d5, d6, d7, d8⟩, rfl⟩ hlt
    simp only [Nat.zero_add] at d1 d2 d3 d4 d5 d6 d7 d8
    have hBw : Below w.heap.size w W := hB0.trans (hB.mono (by omega))
    have q3 := (hB.cell (p := ⟨w.heap.size + 1, 0, none⟩) (by show w.heap.size + 1 < _; omega)).trans f3
    have q4 := (hB.cell (p := ⟨w.heap.size + 1, 1, none⟩) (by show w.heap.size + 1 < _; omega)).trans f4
    gi_wp2_with (refine ⟨trivial, ?_⟩; gi_at_call 231; refine (CallsIn.inRound l (callsIn_wide.2 (hmove x W hBw))).mono ?_; rintro e w' ⟨rfl, hBm⟩; have hs3 := hB.size; have hs4 := hBm.size; have hB3 : Below W0.heap.size W0 w' := hB.trans (hBm.mono hs3); have q5 : ∀ o, (w'.alloc o).cell? ⟨w.heap.size + 1 + 1, 0, none⟩ = some (.int .i64 0) := fun o => ((hB3.alloc (by omega) o).cell (p := ⟨w.heap.size + 1 + 1, 0, none⟩) (by show w.heap.size + 1 + 1 < _; omega)).trans f5; have q6 : ∀ o, (w'.alloc o).cell? ⟨w.heap.size + 1 + 1, 1, none⟩ = some (.int .i64 0) := fun o => ((hB3.alloc (by omega) o).cell (p := ⟨w.heap.size + 1 + 1, 1, none⟩) (by show w.heap.size + 1 + 1 < _; omega)).trans f6; have q7 : ∀ o, (w'.alloc o).frozen? ⟨w.heap.size + 1 + 1, 0, none⟩ = false := fun o => (froz_below (hB3.alloc (by omega) o) (by show w.heap.size + 1 + 1 < _; omega)).trans f7; have q8 : ∀ o, (w'.alloc o).frozen? ⟨w.heap.size + 1 + 1, 1, none⟩ = false := fun o => (froz_below (hB3.alloc (by omega) o) (by show w.heap.size + 1 + 1 < _; omega)).trans f8)
    all_goals first
      | (have hx : ok x = false := by first | assumption | simpa using (by assumption : ¬ ok x = true)
         exact ⟨((keeps_below hBm).trans (KeepsOthers.alloc _ _)).from _, (hBm.mono hs3).alloc (by omega) _, ⟨fun y hy => (List.mem_append.1 hy).elim (hp y) (fun e => by rw [List.mem_singleton.1 e]; exact hx), hB3.alloc (by omega) _⟩⟩)
      | skip
    have hx : ok x = true := by first | assumption | simpa using (by assumption : ¬ ok x = false)
    refine ⟨(((keeps_below hBm).trans (KeepsOthers.alloc _ _)).trans ((KeepsOthers.setCell _ _ _).trans (KeepsOthers.setCell _ _ _))).from _, ⟨rfl, pre, x, rfl, hp, hx, ?_, ?_⟩, ?_⟩
    · exact (World.cell?_setCell_other _ _ _ _ (by simp)).trans (World.cell?_setCell_same' _ _ _ (by rw [q5]; rfl))
    · exact World.cell?_setCell_same' _ _ _ (by rw [World.cell?_setCell_other _ _ _ _ (by simp), q6]; rfl)
    · exact (((hBw.trans (hBm.mono hBw.size)).alloc (by omega) _).setCell (p := ⟨w.heap.size + 1 + 1, 0, none⟩) (by show _ ≤ w.heap.size + 1 + 1; omega) _).setCell (p := ⟨w.heap.size + 1 + 1, 1, none⟩) (by show _ ≤ w.heap.size + 1 + 1; omega) _
  case done =>
    rintro D ys W hD ⟨k, h1, rfl, h2, h3⟩ ⟨hp, hB⟩ hK
    gi_wp2_with (refine ⟨trivial, ?_⟩; gi_at_call 232; refine (callsIn_wide.2 (hhome W)).mono ?_; rintro e w' ⟨rfl, hBh⟩; have hs3 := hB.size; have hs4 := hBh.size; have hB3 : Below W0.heap.size W0 w' := hB.trans (hBh.mono hs3); have q5 : w'.cell? ⟨w.heap.size + 1 + 1, 0, none⟩ = some (.int .i64 0) := (hB3.cell (p := ⟨w.heap.size + 1 + 1, 0, none⟩) (by show w.heap.size + 1 + 1 < _; omega)).trans f5; have q6 : w'.cell? ⟨w.heap.size + 1 + 1, 1, none⟩ = some (.int .i64 0) := (hB3.cell (p := ⟨w.heap.size + 1 + 1, 1, none⟩) (by show w.heap.size + 1 + 1 < _; omega)).trans f6; have q7 : w'.frozen? ⟨w.heap.size + 1 + 1, 0, none⟩ = false := (froz_below hB3 (by show w.heap.size + 1 + 1 < _; omega)).trans f7; have q8 : w'.frozen? ⟨w.heap.size + 1 + 1, 1, none⟩ = false := (froz_below hB3 (by show w.heap.size + 1 + 1 < _; omega)).trans f8)
    have hKh : w'.heap[D]? = some (.deferred (some [])) := (hBh.block D (Array.getElem?_eq_some_iff.1 hK).1).trans hK
    have hK' := (KeepsOthers.setCell (w'.setCell ⟨w.heap.size + 1 + 1, 0, none⟩ (.int .i64 (-1))) ⟨w.heap.size + 1 + 1, 1, none⟩ (.int .i64 0)).same D _ ((KeepsOthers.setCell w' ⟨w.heap.size + 1 + 1, 0, none⟩ (.int .i64 (-1))).same D _ hKh rfl) rfl
    refine ⟨by simp, .inl ⟨_, _, rfl, run_takeDeferred hK', ?_⟩⟩
    have k0 : ((w'.setCell ⟨w.heap.size + 1 + 1, 0, none⟩ (.int .i64 (-1))).setCell ⟨w.heap.size + 1 + 1, 1, none⟩ (.int .i64 0)).cell? ⟨w.heap.size + 1 + 1, 0, none⟩ = some (.int .i64 (-1)) :=
      (World.cell?_setCell_other _ _ _ _ (by simp)).trans (World.cell?_setCell_same' _ _ _ (by rw [q5]; rfl))
    have k1 : ((w'.setCell ⟨w.heap.size + 1 + 1, 0, none⟩ (.int .i64 (-1))).setCell ⟨w.heap.size + 1 + 1, 1, none⟩ (.int .i64 0)).cell? ⟨w.heap.size + 1 + 1, 1, none⟩ = some (.int .i64 0) :=
      World.cell?_setCell_same' _ _ _ (by rw [World.cell?_setCell_other _ _ _ _ (by simp), q6]; rfl)
    have hc5 := cell_kept k0 (grownBy_putObj' _ D (.deferred none)) (fun r e => by cases e; exact ⟨_, hK', rfl⟩)
    have hc6 := cell_kept k1 (grownBy_putObj' _ D (.deferred none)) (fun r e => by cases e; exact ⟨_, hK', rfl⟩)
    refine ⟨.agg #[.int .i64 (-1), .int .i64 0], ?_, .inl ⟨k, h1, hp, h2, h3, rfl⟩, (((hB0.trans (hB3.mono (by omega))).setCell (p := ⟨w.heap.size + 1 + 1, 0, none⟩) (by show _ ≤ w.heap.size + 1 + 1; omega) _).setCell (p := ⟨w.heap.size + 1 + 1, 1, none⟩) (by show _ ≤ w.heap.size + 1 + 1; omega) _).trans (belowK_b (w := w) (Nat.le_refl _) _ D _ _ (by omega) hK' rfl rfl)⟩
    simp [results, Tryz.f152, go_sem, hc5, hc6]
  case stop =>
    rintro D c pre W hD ⟨k, h1, rfl, h2⟩ ⟨⟨rfl, ini, last, e1, e2, e3, e4, e5⟩, hB⟩ hK
    gi_wp2
    obtain ⟨k', rfl⟩ : ∃ k', k = k' + 1 := by
      cases k with
      | zero => simp [dnL] at e1
      | succ k' => exact ⟨k', rfl⟩
    rw [dnL_succ] at e1
    obtain ⟨rfl, e6⟩ := List.append_inj' e1 rfl
    obtain rfl : a - k' = last := by simpa using e6
    refine ⟨by simp, .inl ⟨_, _, rfl, run_takeDeferred hK, ?_⟩⟩
    have hc5 := cell_kept e4 (grownBy_putObj' _ D (.deferred none)) (fun r e => by cases e; exact ⟨_, hK, rfl⟩)
    have hc6 := cell_kept e5 (grownBy_putObj' _ D (.deferred none)) (fun r e => by cases e; exact ⟨_, hK, rfl⟩)
    refine ⟨.agg #[.int .i64 (m1 (a - k')), .int .i64 (m2 (a - k'))], ?_, .inr ⟨k', by omega, e2, e3, fun j h3 h4 => h2 j h3 (by omega), rfl⟩, hB.trans (belowK_b (w := w) (Nat.le_refl _) W D _ _ (by omega) hK rfl rfl)⟩
    simp [results, Tryz.f152, go_sem, hc5, hc6]
end Go.Proofs.YtanojbajfgcjeaaGreatDoor

namespace Go.Proofs.YtanojbajfgcjeaaGreatDoor
open Go.Sha Go.RowKit
set_option maxRecDepth 100000
theorem calls_of {P:Program}{f:FuncId}{fn:Func}(hf:P.funcs[f]?=some fn)(hname:(fn.name == "runtime.NumGoroutine")=false)(hb:fn.body.isNone=false){ds:List V}{st':St}{r:V}(h:VRet P f ds st0 r st'){w:World}{vs:List Value}(ha:Reps w (abs0 w) vs ds) :
  Calls P f vs.toArray w fun e w'=>(∃v A',e=.returned v∧Rep w' A' v r)∧Below w.heap.size w w':=by
 refine(VCalls.calls hf hname hb h (sim0 w) ha).mono fun e w' ⟨r',A',s,⟨hr,_⟩,he,_,hx⟩=>?_
 subst hr
 cases e with
 |returned v=>exact⟨⟨v,A',rfl,he⟩,⟨hx.os,hx.tape,hx.output,hx.size,fun i hi=>hx.fr i hi rfl⟩⟩
 |panicked ch=>exact he.elim
 |outgrown=>exact he.elim
theorem rdL_map {α:Type}{f:V→Option α}{g:α→V}(h:∀v x,f v=some x→v=g x):∀{l:List V}{xs:List α},rdL f l=some xs→l=xs.map g
 |[],xs,e=>by cases e;rfl
 |v::r,xs,e=>by
  rw[rdL]at e
  split at e
  ·rename_i x l h1 h2
   cases e
   rw[List.map_cons,←rdL_map h h2,←h v x h1]
  ·cases e
theorem rdMov_v (v:V)(x:Mov)(h:rdMov v=some x):v=x.v:=by
 unfold rdMov at h;split at h
 ·cases h;rfl
 ·cases h
theorem rdTim_v (v:V)(x:Tim)(h:rdTim v=some x):v=x.v:=by
 unfold rdTim at h;split at h
 ·cases h;rfl
 ·cases h
theorem rdCu_v (v:V)(x:Cu)(h:rdCu v=some x):v=x.v:=by
 unfold rdCu at h;split at h
 ·split at h
  ·rename_i h1 h2
   cases h
   rw[rdL_map rdMov_v h1,rdL_map rdTim_v h2]
  ·cases h
 ·cases h
theorem rep_sl {w:World}{A:Abs}{v:Value}{l:List V}(h:Rep w A v (.sl l)):∃a n k,v=.slice a n k:=by
 cases h with
 |sl=>exact⟨_,_,_,rfl⟩
 |slnil a=>exact⟨_,_,_,rfl⟩
theorem cues_at {w:World}{A:Abs}{v:Value}{l:List Cu}(h:Rep w A v (.sl (l.map Cu.v)))(hne:l≠[]) :
  ∃b o cap,∃cell:Nat→Nat→Value,v=.slice (some ⟨b,o,none⟩) l.length cap∧∀j x,l[j]?=some x→∀k c,x.v.cells[k]?=some c→A.C b (o+(j*9+k))∧w.cell? ⟨b,o+(j*9+k),none⟩=some (cell j k)∧Rep w A (cell j k) c:=by
 generalize hd:V.sl (l.map Cu.v)=d at h
 cases h with
 |sl ys b o cap es cell hes hcap hm hC hr =>
  cases hd
  have e1:es=9:=by
   obtain⟨x,hx⟩:=List.exists_mem_of_ne_nil _ hne
   exact(hes x.v (List.mem_map.2 ⟨x,hx,rfl⟩)).symm.trans rfl
  subst e1
  refine⟨b,o,cap,cell,by rw[List.length_map],fun j x hj k c hk=>?_⟩
  have hj':(l.map Cu.v)[j]?=some x.v:=by rw[List.getElem?_map,hj];rfl
  obtain⟨g1,g2,_⟩:=hC j k _ c hj' hk
  exact⟨g1,g2,hr j k _ c hj' hk⟩
 |slnil a=>cases l with|nil=>exact absurd rfl hne|cons x l=>cases hd
 |_=>cases hd
theorem agg9 {w:World}{A:Abs}{c:Cu}{a2 a3:Option Addr}{n2 k2 n3 k3:Nat}(h2:Rep w A (.slice a2 n2 k2) (.sl (c.moves.map Mov.v)))(h3:Rep w A (.slice a3 n3 k3) (.sl (c.parts.map Tim.v))) :
  Rep w A (.agg #[.string ⟨c.num.toArray⟩,.string ⟨c.label.toArray⟩,.slice a2 n2 k2,.slice a3 n3 k3,.bool c.block,.bool c.mark,.int .i64 c.follow,.string ⟨c.link.toArray⟩,.int .i64 c.loops]) c.v:=by
 refine Rep.agg [.string ⟨c.num.toArray⟩,.string ⟨c.label.toArray⟩,.slice a2 n2 k2,.slice a3 n3 k3,.bool c.block,.bool c.mark,.int .i64 c.follow,.string ⟨c.link.toArray⟩,.int .i64 c.loops] _ rfl (fun v hv=>?_) (fun i v d h4 h5=>?_)
 ·simp at hv;rcases hv with rfl|rfl|rfl|rfl|rfl|rfl|rfl|rfl|rfl<;>rfl
 ·match i,h4,h5 with
  |0,h4,h5=>simp at h4 h5;subst h4 h5;exact .str _
  |1,h4,h5=>simp at h4 h5;subst h4 h5;exact .str _
  |2,h4,h5=>simp at h4 h5;subst h4 h5;exact h2
  |3,h4,h5=>simp at h4 h5;subst h4 h5;exact h3
  |4,h4,h5=>simp at h4 h5;subst h4 h5;exact .bool _
  |5,h4,h5=>simp at h4 h5;subst h4 h5;exact .bool _
  |6,h4,h5=>simp at h4 h5;subst h4 h5;exact .int _ _
  |7,h4,h5=>simp at h4 h5;subst h4 h5;exact .str _
  |8,h4,h5=>simp at h4 h5;subst h4 h5;exact .int _ _
  |n+9,h4,h5=>simp at h4
theorem prm_inv {w:World}{A:Abs}{v:Value}{a b:Int}(h:Rep w A v (.agg [.int .i64 a,.int .i64 b])):v=.agg #[.int .i64 a,.int .i64 b]:=by
 obtain⟨vs,rfl,hl,_,hr⟩:=h.agg_inv
 match vs,hl,hr with
 |[x,y],_,hr =>
  have e1:=(hr 0 x _ rfl rfl).int_inv
  have e2:=(hr 1 y _ rfl rfl).int_inv
  subst e1 e2;rfl
theorem prm_rep {w:World}{A:Abs}{a b:Int}:Rep w A (.agg #[.int .i64 a,.int .i64 b]) (.agg [.int .i64 a,.int .i64 b]):=by
 refine Rep.agg [.int .i64 a,.int .i64 b] _ rfl (fun v hv=>?_) (fun i v d h4 h5=>?_)
 ·simp at hv;rcases hv with rfl|rfl<;>rfl
 ·match i,h4,h5 with
  |0,h4,h5=>simp at h4 h5;subst h4 h5;exact .int _ _
  |1,h4,h5=>simp at h4 h5;subst h4 h5;exact .int _ _
  |n+2,h4,h5=>simp at h4
theorem valF_at {l:List Cu}{q:Prm}:∀{a k:Nat},k≤a→(∀j,j<k→movF (l.getD (a-j) default).moves q=none∧(l.getD (a-j) default).block=false)→valF l q a=valF l q (a-k)
 |a,0,_,_=>rfl
 |0,k+1,h,_=>by omega
 |a+1,k+1,h,hj=>by
  obtain⟨h1,h2⟩:=hj 0 (by omega)
  simp only[Nat.sub_zero]at h1 h2
  rw[valF,h1,h2]
  simp only[Bool.false_eq_true,if_false]
  rw[valF_at (a:=a) (k:=k) (by omega) (fun j hjk=>by have:=hj (j+1) (by omega);rwa [show a+1-(j+1)=a-j by omega]at this)]
  congr 1;omega
theorem callable152:Callable Tryz.prog 152:=⟨_,Tryz.func152,by kernel_rfl,by kernel_rfl⟩
theorem v152 (x y:Int)(l:List Cu)(a:Nat)(q:Prm)(st:St)(ha:a<l.length)(hl:l.length≤1000000)(hq:okP q=true)(hm:∀c∈l,okMs c.moves=true)(hml:∀c∈l,c.moves.length<140737488355328) :
  VRet Tryz.prog 152 [.agg [.int .i64 x,.int .i64 y,.sl (l.map Cu.v)],.int .i64 a,.agg [.int .i64 q.chan,.int .i64 q.attr]] st (valF l q a).v st:=by
 refine VRet_of_below callable152 (fun w A vs hw hv=>?_)
 obtain⟨u0,u1,u2,rfl,r0,r1,r2⟩:∃u0 u1 u2,vs=[u0,u1,u2]∧Rep w A u0 (.agg [.int .i64 x,.int .i64 y,.sl (l.map Cu.v)])∧Rep w A u1 (.int .i64 a)∧Rep w A u2 (.agg [.int .i64 q.chan,.int .i64 q.attr]):=by
  obtain⟨hlen,hr⟩:=hv
  match vs,hlen,hr with
  |[u0,u1,u2],_,hr=>exact⟨u0,u1,u2,rfl,hr 0 _ _ rfl rfl,hr 1 _ _ rfl rfl,hr 2 _ _ rfl rfl⟩
 obtain rfl:=r1.int_inv
 obtain rfl:=prm_inv r2
 obtain⟨us,rfl,hus,_,hur⟩:=r0.agg_inv
 obtain⟨t0,t1,t2,rfl⟩:∃t0 t1 t2,us=[t0,t1,t2]:=by
  match us,hus with
  |[t0,t1,t2],_=>exact⟨t0,t1,t2,rfl⟩
 have hne:l≠[]:=by intro e;rw[e]at ha;simp at ha
 obtain⟨b,o,cap,cell,rfl,hc⟩:=cues_at (hur 2 _ _ rfl rfl) hne
 have hget:∀j,j<l.length→l[j]?=some (l.getD j default):=fun j hj=>by rw[List.getD_eq_getElem?_getD,List.getElem?_eq_getElem hj];rfl
 have hb:b<w.heap.size:=hw.Clt _ _ (hc a _ (hget a ha) 0 _ rfl).1
 have hs:∀j,∃a2:Option Addr,∃n2 k2:Nat,∃a3:Option Addr,∃n3 k3:Nat,(j<l.length→w.cell? ⟨b,o+j*9+2,none⟩=some (.slice a2 n2 k2)∧w.cell? ⟨b,o+j*9+3,none⟩=some (.slice a3 n3 k3))∧Rep w A (.slice a2 n2 k2) (.sl ((l.getD j default).moves.map Mov.v))∧Rep w A (.slice a3 n3 k3) (.sl ((l.getD j default).parts.map Tim.v)):=fun j=>by
  by_cases hj:j<l.length
  ·obtain⟨_,g2,g3⟩:=hc j _ (hget j hj) 2 _ rfl
   obtain⟨_,g4,g5⟩:=hc j _ (hget j hj) 3 _ rfl
   obtain⟨a2,n2,k2,e2⟩:=rep_sl g3
   obtain⟨a3,n3,k3,e3⟩:=rep_sl g5
   rw[e2]at g2 g3
   rw[e3]at g4 g5
   exact⟨a2,n2,k2,a3,n3,k3,fun _=>⟨by rw[Nat.add_assoc];exact g2,by rw[Nat.add_assoc];exact g4⟩,g3,g5⟩
  ·have e:l.getD j default=default:=by rw[List.getD_eq_getElem?_getD,List.getElem?_eq_none (by omega)];rfl
   rw[e]
   exact⟨none,0,0,none,0,0,fun h=>absurd h hj,.slnil _,.slnil _⟩
 obtain⟨a2,hs⟩:=Classical.axiomOfChoice hs
 obtain⟨n2,hs⟩:=Classical.axiomOfChoice hs
 obtain⟨k2,hs⟩:=Classical.axiomOfChoice hs
 obtain⟨a3,hs⟩:=Classical.axiomOfChoice hs
 obtain⟨n3,hs⟩:=Classical.axiomOfChoice hs
 obtain⟨k3,hs⟩:=Classical.axiomOfChoice hs
 have hok:∀j,okMs (l.getD j default).moves=true∧(l.getD j default).moves.length<140737488355328:=fun j=>by
  by_cases hj:j<l.length
  ·have:=List.mem_of_getElem? (hget j hj)
   exact⟨hm _ this,hml _ this⟩
  ·have e:l.getD j default=default:=by rw[List.getD_eq_getElem?_getD,List.getElem?_eq_none (by omega)];rfl
   rw[e];exact⟨rfl,by decide⟩
 have hmove:∀j W,Below w.heap.size w W→Calls Tryz.prog 231 #[.agg #[.string ⟨(l.getD j default).num.toArray⟩,.string ⟨(l.getD j default).label.toArray⟩,.slice (a2 j) (n2 j) (k2 j),.slice (a3 j) (n3 j) (k3 j),.bool (l.getD j default).block,.bool (l.getD j default).mark,.int .i64 (l.getD j default).follow,.string ⟨(l.getD j default).link.toArray⟩,.int .i64 (l.getD j default).loops],.agg #[.int .i64 q.chan,.int .i64 q.attr]] W fun e W' =>
   e=.returned (.tuple #[.agg #[.int .i64 ((movF (l.getD j default).moves q).getD ⟨-1,0⟩).pal,.int .i64 ((movF (l.getD j default).moves q).getD ⟨-1,0⟩).lev],.bool (movF (l.getD j default).moves q).isSome])∧Below W.heap.size W W':=fun j W hB=>by
  obtain⟨_,g2,g3⟩:=hs j
  have hx:=Ext.below hw hB
  have hwW:=hw.below hB
  have h0:Reps W A [.agg #[.string ⟨(l.getD j default).num.toArray⟩,.string ⟨(l.getD j default).label.toArray⟩,.slice (a2 j) (n2 j) (k2 j),.slice (a3 j) (n3 j) (k3 j),.bool (l.getD j default).block,.bool (l.getD j default).mark,.int .i64 (l.getD j default).follow,.string ⟨(l.getD j default).link.toArray⟩,.int .i64 (l.getD j default).loops],.agg #[.int .i64 q.chan,.int .i64 q.attr]] [(l.getD j default).v,q.v] :=
   ⟨rfl,fun i v c h1 h2=>by
    match i,h1,h2 with
    |0,h1,h2=>simp at h1 h2;subst h1 h2;exact agg9 (g2.mono hx) (g3.mono hx)
    |1,h1,h2=>simp at h1 h2;subst h1 h2;exact prm_rep
    |n+2,h1,h2=>simp at h1⟩
  have h1:=h0.data (B:=abs0 W) (fun b o h=>hwW.Clt b o h) (by simp[V.bdL,Cu.bd,Prm.bd])
  have hV:VRet Tryz.prog 231 [(l.getD j default).v,q.v] st0 (.tup [((movF (l.getD j default).moves q).getD ⟨-1,0⟩).v,.bool (movF (l.getD j default).moves q).isSome]) st0:=run_sound mixed HN0_ok _ _ _ _ _ (f231 (hok j).1 hq (hok j).2)
  refine(calls_of Tryz.func231 (by kernel_rfl) (by kernel_rfl) hV h1).mono fun e W' ⟨⟨v,A',he,hr⟩,hb⟩=>⟨?_,hb⟩
  obtain⟨ws,rfl,hws,hwr⟩:=hr.tup_inv
  obtain⟨y0,y1,rfl⟩:∃y0 y1,ws=[y0,y1]:=by
   match ws,hws with
   |[y0,y1],_=>exact⟨y0,y1,rfl⟩
  obtain rfl:=prm_inv (hwr 0 _ _ rfl rfl)
  obtain rfl:=(hwr 1 _ _ rfl rfl).bool_inv
  exact he
 have hhome:∀W,Calls Tryz.prog 232 #[] W fun e W'=>e=.returned (.agg #[.int .i64 (-1),.int .i64 0])∧Below W.heap.size W W':=fun W=>by
  have hV:VRet Tryz.prog 232 [] st0 (.agg [.int .i64 (-1),.int .i64 0]) st0:=run_sound mixed HN0_ok _ _ _ _ _ f232
  refine(calls_of (vs:=[]) (w:=W) Tryz.func232 (by kernel_rfl) (by kernel_rfl) hV ⟨rfl,fun i v c h1 h2=>by simp at h1⟩).mono fun e W' ⟨⟨v,A',he,hr⟩,hb⟩=>⟨?_,hb⟩
  rw[prm_inv hr]at he;exact he
 have hbox:∀j,j<l.length→Box9 (fun x=>.string ⟨(l.getD x default).num.toArray⟩) (fun x=>.string ⟨(l.getD x default).label.toArray⟩) (fun x=>.slice (a2 x) (n2 x) (k2 x)) (fun x=>.slice (a3 x) (n3 x) (k3 x)) (fun x=>(l.getD x default).block) (fun x=>.bool (l.getD x default).mark) (fun x=>.int .i64 (l.getD x default).follow) (fun x=>.string ⟨(l.getD x default).link.toArray⟩) (fun x=>.int .i64 (l.getD x default).loops) w b (o+j*9) j:=fun j hj=>by
  have hg:=hget j hj
  obtain⟨_,e0,d0⟩:=hc j _ hg 0 _ rfl
  obtain⟨_,e1,d1⟩:=hc j _ hg 1 _ rfl
  obtain⟨_,e4,d4⟩:=hc j _ hg 4 _ rfl
  obtain⟨_,e5,d5⟩:=hc j _ hg 5 _ rfl
  obtain⟨_,e6,d6⟩:=hc j _ hg 6 _ rfl
  obtain⟨_,e7,d7⟩:=hc j _ hg 7 _ rfl
  obtain⟨_,e8,d8⟩:=hc j _ hg 8 _ rfl
  rw[d0.str_inv]at e0
  rw[d1.str_inv]at e1
  rw[d4.bool_inv]at e4
  rw[d5.bool_inv]at e5
  rw[d6.int_inv]at e6
  rw[d7.str_inv]at e7
  rw[d8.int_inv]at e8
  obtain⟨e2,e3⟩:=(hs j).1 hj
  simp only[←Nat.add_assoc,Nat.add_zero]at e0 e1 e4 e5 e6 e7 e8
  exact⟨e0,e1,e2,e3,e4,e5,e6,e7,e8⟩
 refine(value_calls w b o l.length cap a (fun x=>⟨(l.getD x default).num.toArray⟩) (fun x=>⟨(l.getD x default).label.toArray⟩) (fun x=>⟨(l.getD x default).link.toArray⟩) a2 a3 n2 k2 n3 k3 (fun x=>(l.getD x default).mark) (fun x=>(l.getD x default).follow) (fun x=>(l.getD x default).loops) (fun x=>(l.getD x default).block) t0 t1 (.int .i64 q.chan) (.int .i64 q.attr)
  (fun x=>((movF (l.getD x default).moves q).getD ⟨-1,0⟩).pal) (fun x=>((movF (l.getD x default).moves q).getD ⟨-1,0⟩).lev) (fun x=>(movF (l.getD x default).moves q).isSome) (by omega) hb ha hbox hmove hhome).mono fun e W' ⟨he,hB⟩=>?_
 have hmem:∀{k j:Nat},j<k→(a-j)∈dnL a k:=fun {k j} hj=>by unfold dnL;exact List.mem_map.2 ⟨j,List.mem_range.2 hj,rfl⟩
 rcases he with⟨k,h1,h2,h3,h4,rfl⟩|⟨k,h1,h2,h3,h4,rfl⟩
 ·refine⟨_,rfl,fun w' A'=>?_,hB⟩
  have hk0:0<k:=by rcases h3 with h3|h3<;>omega
  have hn:∀j,j<k→movF (l.getD (a-j) default).moves q=none:=fun j hj=>by
   have:=h2 _ (hmem hj)
   cases hx:movF (l.getD (a-j) default).moves q with
   |none=>rfl
   |some v=>rw[hx]at this;simp at this
  have e1:=valF_at (l:=l) (q:=q) (a:=a) (k:=k-1) (by omega) (fun j hj=>⟨hn j (by omega),by have:=h4 (j+1) (by omega) (by omega);rwa [show a+1-(j+1)=a-j by omega]at this⟩)
  have e2:valF l q (a-(k-1))=⟨-1,0⟩:=by
   have hz:=hn (k-1) (by omega)
   cases hy:a-(k-1) with
   |zero=>rw[valF];rw[hy]at hz;rw[hz];rfl
   |succ y =>
    rw[hy]at hz
    rw[valF,hz]
    rcases h3 with h3|⟨_,h3⟩
    ·omega
    ·rw[show a+1-k=y+1 by omega]at h3
     simp only[h3,if_true]
  rw[e1,e2]
  exact prm_rep
 ·refine⟨_,rfl,fun w' A'=>?_,hB⟩
  have hn:∀j,j<k→movF (l.getD (a-j) default).moves q=none:=fun j hj=>by
   have:=h2 _ (hmem hj)
   cases hx:movF (l.getD (a-j) default).moves q with
   |none=>rfl
   |some v=>rw[hx]at this;simp at this
  have e1:=valF_at (l:=l) (q:=q) (a:=a) (k:=k) (by omega) (fun j hj=>⟨hn j hj,by have:=h4 (j+1) (by omega) (by omega);rwa [show a+1-(j+1)=a-j by omega]at this⟩)
  rw[e1]
  obtain⟨v,hv⟩:=Option.isSome_iff_exists.1 h3
  have e2:valF l q (a-k)=v:=by
   cases hy:a-k with
   |zero=>rw[valF];rw[hy]at hv;rw[hv];rfl
   |succ y=>rw[hy]at hv;rw[valF,hv]
  rw[e2]
  simp only[hv,Option.getD_some]
  exact prm_rep
end Go.Proofs.YtanojbajfgcjeaaGreatDoor

namespace Go.Proofs.YtanojbajfgcjeaaGreatDoor
open Go.Sha Go.RowKit
open Go.Lib (below_grow)
set_option maxRecDepth 100000
variable {g:List (Nat×Obj)}{n:Nat}
theorem intsB_eq {k:IntKind}:∀{zs:List Int}{vs:List Value},intsB k zs vs=true→vs=zs.map fun z=>Value.int k z
 |[],[],_=>rfl
 |[],_::_,h=>by cases h
 |z::zs,v::vs,h=>by
  unfold intsB at h
  split at h
  ·rename_i h1 h2;cases h1
  ·rename_i z' zs' j n' r h1 h2
   cases h1;cases h2
   simp only[Bool.and_eq_true,decide_eq_true_eq]at h
   obtain⟨⟨h3,h4⟩,h5⟩:=h
   subst h3;subst h4
   rw[intsB_eq h5];rfl
  ·cases h
 |z::zs,[],h=>by unfold intsB at h;cases h
theorem tab_at {gl:List (Nat×Obj)}{v:Nat}{k:IntKind}{zs:List Int}(h:gl.any (tabB v k zs)=true):∃T fz,(v,Obj.cells (zs.map fun z=>Value.int k z).toArray T fz)∈gl:=by
 obtain⟨p,hp,hh⟩:=List.any_eq_true.1 h
 obtain⟨i,o⟩:=p
 simp only[tabB,Bool.and_eq_true,decide_eq_true_eq]at hh
 obtain⟨hi,hh⟩:=hh
 subst hi
 split at hh
 ·rename_i cs T fz
  have:=intsB_eq hh
  refine⟨T,fz,?_⟩
  rw[←this]
  exact hp
 ·cases hh
theorem tab_is {w:World}{A:Abs}{st:St}(hw:Sim w A st){v:Nat}{name:String}{k:IntKind}{zs:List Int}(hn:Tryz.prog.globalNamed name=some v)(h:st.x.gl.any (tabB v k zs)=true):Lib.TabIs Tryz.prog w name k zs:=by
 obtain⟨T,fz,hm⟩:=tab_at h
 have:=(hw.x.gl _ hm).1
 simp only[Lib.TabIs,World.var?,hn,Option.bind_some,this]
theorem callable26:Callable Tryz.prog 26:=⟨_,Tryz.func26,by kernel_rfl,by kernel_rfl⟩
theorem v26 {n:Int}(h0:-9223372036854775808≤n)(h1:n≤9223372036854775807){st:St}(hG:glB st.x.gl=true):VRet Tryz.prog 26 [.int .i64 n] st (.str (Lib.itoa n)) st:=by
 simp only[glB,Bool.and_eq_true]at hG
 refine VRet_of_below callable26 (fun w A vs hw ha=>?_)
 obtain⟨u,rfl,h2⟩:=ha.one
 have e1:=h2.int_inv
 subst e1
 refine(Tryz.strconv_Itoa n h0 h1 w (tab_is hw (by kernel_rfl) hG.1)).mono fun e w' ⟨he,k,os,hw'⟩=>?_
 subst he
 exact⟨_,rfl,fun _ _=>.str _,by rw[hw'];exact below_grow _ w (Nat.le_refl _) k os⟩
theorem callable19:Callable Tryz.prog 19:=⟨_,Tryz.func19,by kernel_rfl,by kernel_rfl⟩
theorem v19 {s:List UInt8}{n:Int}(h0:0≤n)(hn:n≤1000000)(h1:s.length*n.toNat≤1000000){st:St}:VRet Tryz.prog 19 [.str s,.int .i64 n] st (.str (Lib.repeatL s n.toNat)) st:=by
 refine VRet_of_below callable19 (fun w A vs hw ha=>?_)
 obtain⟨hl,ha⟩:=ha
 match vs,hl with
 |[u,v],_ =>
 have e1:=(ha 0 u _ rfl rfl).str_inv
 have e2:=(ha 1 v _ rfl rfl).int_inv
 subst e1;subst e2
 obtain⟨m,rfl⟩:∃m:Nat,n=m:=⟨n.toNat,by omega⟩
 rw[Int.toNat_natCast]at h1 ⊢
 refine(Tryz.strings_Repeat ⟨s.toArray⟩ m w (by omega) (by simp[ByteArray.size];omega)).mono fun e w' ⟨he,hb⟩=>?_
 subst he
 exact⟨_,rfl,fun _ _=>.str _,hb⟩
theorem callable64:Callable Tryz.prog 64:=⟨_,Tryz.func64,by kernel_rfl,by kernel_rfl⟩
theorem strsV_map:∀{l:List V}{ss:List (List UInt8)},strsV l=some ss→l=ss.map .str
 |[],ss,h=>by cases h;rfl
 |v::r,ss,h=>by
  unfold strsV at h
  split at h
  ·rename_i h1;cases h1
  ·rename_i s r' h1
   cases h1
   obtain⟨x,hx,rfl⟩:=Option.map_eq_some_iff.1 h
   rw[strsV_map hx];rfl
  ·cases h
theorem v64 {ss:List (List UInt8)}{t:List UInt8}(hn:ss.length≤1000000)(hl:(Lib.join ss t).length≤100000000000){st:St}:VRet Tryz.prog 64 [.sl (ss.map .str),.str t] st (.str (Lib.join ss t)) st:=by
 refine VRet_of_below callable64 (fun w A vs hw ha=>?_)
 obtain⟨hlen,ha⟩:=ha
 match vs,hlen with
 |[u,v],_ =>
 have h1:=ha 0 u _ rfl rfl
 have e2:=(ha 1 v _ rfl rfl).str_inv
 subst e2
 have hbytes:(ss.map fun l=>(⟨l.toArray⟩:ByteArray)).map (·.data.toList)=ss:=by simp[Function.comp_def]
 generalize hd:V.sl (ss.map .str)=d at h1
 cases h1 with
 |sl ys b o cap es cell hes hcap hm hC hr =>
  cases hd
  cases hss:ss with
  |nil =>
   subst hss
   refine(Tryz.strings_Join_none _ cap ⟨t.toArray⟩ w).mono fun e w' ⟨he,hb⟩=>?_
   subst he;subst hb
   exact⟨_,rfl,fun _ _=>.str _,Below.refl _ _⟩
  |cons x r =>
   rw[←hss]
   have e1:es=1:=(hes (.str x) (by rw[hss];simp)).symm.trans rfl
   subst e1
   have hbk:b<w.heap.size:=by
    have hx0:(ss.map V.str)[0]?=some (.str x):=by rw[hss];rfl
    exact hw.Clt _ _ (hC 0 0 _ _ hx0 rfl).1
   have:=Tryz.strings_Join b o cap (ss.map fun l=>(⟨l.toArray⟩:ByteArray)) ⟨t.toArray⟩ w (fun j y hj=>?_) hbk (by rw[List.length_map];omega) (by rw[List.length_map];rw[List.length_map]at hcap;exact hcap) (by rw[hbytes];show(Lib.join ss t).length≤_;omega)
   ·rw[hbytes,List.length_map]at this
    rw[List.length_map]
    refine this.mono fun e w' ⟨he,hb⟩=>?_
    subst he
    exact⟨_,rfl,fun _ _=>.str _,hb⟩
   ·rw[List.getElem?_map]at hj
    obtain⟨l,hl1,rfl⟩:=Option.map_eq_some_iff.1 hj
    have hjx:(ss.map V.str)[j]?=some (.str l):=by rw[List.getElem?_map,hl1];rfl
    obtain⟨_,g2,_⟩:=hC j 0 _ _ hjx rfl
    have g3:=hr j 0 _ _ hjx rfl
    rw[g3.str_inv]at g2
    simpa using g2
 |slnil a =>
  have hss:ss=[]:=by
   cases ss with
   |nil=>rfl
   |cons x r=>cases hd
  subst hss
  refine(Tryz.strings_Join_none _ _ ⟨t.toArray⟩ w).mono fun e w' ⟨he,hb⟩=>?_
  subst he;subst hb
  exact⟨_,rfl,fun _ _=>.str _,Below.refl _ _⟩
 |_=>cases hd
theorem callable27:Callable Tryz.prog 27:=⟨_,Tryz.func27,by kernel_rfl,by kernel_rfl⟩
theorem v27 {s:List UInt8}{c:UInt8}{st:St}:VRet Tryz.prog 27 [.str s,.str [c]] st (.int .i64 (s.count c:Nat)) st:=by
 refine VRet_of_below callable27 (fun w A vs hw ha=>?_)
 obtain⟨hl,ha⟩:=ha
 match vs,hl with
 |[u,v],_ =>
 have e1:=(ha 0 u _ rfl rfl).str_inv
 have e2:=(ha 1 v _ rfl rfl).str_inv
 subst e1;subst e2
 refine(Tryz.strings_Count_one ⟨s.toArray⟩ c w).mono fun e w' ⟨he,hb⟩=>?_
 subst he;subst hb
 exact⟨_,rfl,fun w' A'=>.int _ _,Below.refl _ _⟩
theorem weak_back {st:St}(h:st.Wf){a:Arr}:Weak st.nx ⟨st.nx+1,st.mem,(st.nx,a)::st.arr,st.x⟩ st where
 nx:=rfl
 le:=Nat.le_succ _
 mem id cs hl:=⟨(h.mem id cs hl).1,hl⟩
 arr id a' hl:=⟨(h.arr id a' hl).1,by
  have:=(h.arr id a' hl).1
  simp only[Sha.look];rw[if_neg (by omega)];exact hl⟩
 bdm id cs hl:=(h.mem id cs hl).2
 bda id a' hl:=(h.arr id a' hl).2
 x:=⟨fun id o hl=>⟨(h.x id o hl).1,hl⟩,rfl,fun id T hl=>⟨h.t id T hl,hl⟩⟩
 bdx id o hl:=(h.x id o hl).2
theorem fresh_sl {w:World}{A:Abs}{st:St}(hw:Sim w A st)(l:List (List UInt8))(hl:l.length≤1000000):∃r A' st',(r=.ret (.sl (l.map .str))∧st'=st)∧EndRel (w.alloc (.cells (l.map fun l=>Value.string ⟨l.toArray⟩).toArray 9)) A' (.returned (.slice (some ⟨w.heap.size,0,none⟩) l.length l.length)) r∧Sim (w.alloc (.cells (l.map fun l=>Value.string ⟨l.toArray⟩).toArray 9)) A' st'∧Ext w A (w.alloc (.cells (l.map fun l=>Value.string ⟨l.toArray⟩).toArray 9)) A':=by
 have h1:=Sim.newArr (w0:=w) (cur:=(l.map fun l=>Value.string ⟨l.toArray⟩).toArray) (xs:=l.map V.str) (e:=9) (es:=1) (cap:=l.length) (wr:=false) (fz:=false) hw ⟨rfl,rfl,rfl,rfl⟩ (fun x hx=>by obtain⟨y,_,rfl⟩:=List.mem_map.1 hx;rfl) (by rw[List.length_map];exact Nat.le_refl _) (by unfold maxLen;omega) (by simp) (fun i j x c hi hj=>by
  rw[List.getElem?_map]at hi
  obtain⟨y,hy,rfl⟩:=Option.map_eq_some_iff.1 hi
  cases j with
  |zero=>simp[V.cells]at hj;subst hj;exact⟨_,by simp[hy],rfl,.str _⟩
  |succ j=>simp[V.cells]at hj)
 have hx:=Ext.newArr (w0:=w) hw ⟨rfl,rfl,rfl,rfl⟩ (.cells (l.map fun l=>Value.string ⟨l.toArray⟩).toArray 9) (l.map V.str).length (.slice (some ⟨w.heap.size,0,none⟩) (l.map V.str).length l.length) (!false) ((l.map V.str).length*1)
 have hR:Rep (w.alloc (.cells (l.map fun l=>Value.string ⟨l.toArray⟩).toArray 9)) (A.newArr w.heap.size (l.map V.str).length (.slice (some ⟨w.heap.size,0,none⟩) (l.map V.str).length l.length) (!false) ((l.map V.str).length*1)) (.slice (some ⟨w.heap.size,0,none⟩) (l.map V.str).length l.length) (.osl A.nx (l.map V.str).length):=Rep.newArr
 have hS:=snapA_rep h1 hR (d':=.sl (l.map V.str)) (by rw[←hw.nx];simp[snapA_osl,Sha.look,snapO])
 have hown0:∀b id,A.own b=some id→id<A.nx:=fun b id h=>(hw.ownlt b id h).2
 refine⟨_,_,_,⟨rfl,rfl⟩,?_,h1.cut (weak_back hw.wf),hx.cut hown0 (by rw[←hw.nx];exact Nat.le_refl _)⟩
 have:=hS.cut (n:=st.nx) (by simp[V.bd,bdL_map'])
 rw[List.length_map]at this ⊢
 exact this
theorem cntF_le:∀(l:List UInt8) (b:Bool),Lib.cntF b l≤l.length
 |[],_=>Nat.le_refl _
 |x::l,b=>by
  have:=cntF_le l (Lib.isSp x)
  unfold Lib.cntF
  rw[List.length_cons]
  split<;>omega
theorem callable225:Callable Tryz.prog 225:=⟨_,Tryz.func225,by kernel_rfl,by kernel_rfl⟩
theorem v225 {s:List UInt8}(h1:s.length≤1000)(h2:∀b∈s,b.toNat<128){st:St}(hG:glB st.x.gl=true):VRet Tryz.prog 225 [.str s] st (.sl ((Lib.fields s).map .str)) st:=by
 simp only[glB,Bool.and_eq_true]at hG
 refine .inl ⟨callable225,fun w A vs hw ha=>?_⟩
 obtain⟨u,rfl,h3⟩:=ha.one
 have e1:=h3.str_inv
 subst e1
 refine(Tryz.strings_Fields ⟨s.toArray⟩ w (by simp[ByteArray.size];omega) (fun j b hj=>h2 b (List.mem_of_getElem? hj)) (tab_is hw (by kernel_rfl) hG.2)).mono fun e w' ⟨he,hb⟩=>?_
 subst he
 change w'=w.alloc (.cells ((Lib.fields s).map fun l=>Value.string ⟨l.toArray⟩).toArray 9) at hb
 subst hb
 exact fresh_sl hw (Lib.fields s) (by rw[Lib.fields_length];have:=cntF_le s true;omega)
def oddR (r:Nat):Bool:=decide (r<32)||decide (126<r)
theorem pred129 (w:World):PredAt Tryz.prog 95 #[] encR oddR w:=fun W r _=>by
 unfold FnGives
 by_cases h1:r<32<;>by_cases h2:126<r
 all_goals
  have z1:(r:Int)<32↔r<32:=by omega
  have z2:(126:Int)<(r:Int)↔126<r:=by omega
  go_enter Tryz.func95,Tryz.ntmps95
  go_wp2
  all_goals first|(exfalso;omega)|(go_ret;exact⟨by simp[oddR,h1,h2],0,rfl⟩)
theorem v168' (s:List UInt8)(st:St):VRet Tryz.prog 168 [.str s,.fn (.func 95) [] [],.bool true] st (.int .i64 (Lib.idxFunc oddR true ⟨s.toArray⟩)) st:=by
 refine VRet_of_below callable168 (fun w A vs hw ha=>?_)
 obtain⟨hl,ha⟩:=ha
 match vs,hl with
 |[v0,v1,v2],_ =>
 have e0:=(ha 0 v0 _ rfl rfl).str_inv
 have r1:=ha 1 v1 _ rfl rfl
 have e2:=(ha 2 v2 _ rfl rfl).bool_inv
 have e1:v1=.func (.func 95) #[] #[]:=by
  cases r1 with
  |fn _ vs us _ _ e1 e2 _ _ =>
   have h1:vs=[]:=List.eq_nil_of_length_eq_zero e1
   have h2:us=[]:=List.eq_nil_of_length_eq_zero e2
   rw[h1,h2]
 subst e0;subst e1;subst e2
 refine(Tryz.strings_indexFunc 95 #[] (enters_of Tryz.func95 (by kernel_rfl) rfl) oddR true ⟨s.toArray⟩ w (pred129 w)).mono fun e w' ⟨he,hb⟩=>?_
 subst he
 exact⟨_,rfl,fun w' A'=>.int _ _,hb⟩
theorem odd_from (s:ByteArray):∀(f pos:Nat),s.size≤pos+f→Lib.idxFuncFrom oddR true s f pos=match(s.data.toList.drop pos).findIdx? (fun b=>!plainB b) with|some i=>((pos+i:Nat):Int)|none=>-1
 |0,pos,h=>by
  rw[List.drop_eq_nil_of_le (by rw[Array.length_toList];exact h)];rfl
 |f+1,pos,h=>by
  unfold Lib.idxFuncFrom
  by_cases hp:pos<s.size
  ·have hp':pos<s.data.toList.length:=by rw[Array.length_toList];exact hp
   have hb:s.data.toList[pos]'hp'=s[pos]'hp:=rfl
   rw[if_pos hp,List.drop_eq_getElem_cons hp',List.findIdx?_cons,hb]
   by_cases ha:(s[pos]'hp).toNat<128
   ·rw[decode_ascii s pos hp ha]
    have ih:=odd_from s f (pos+1) (by omega)
    cases hd:plainB (s[pos]'hp) with
    |true =>
     have:¬oddR (s[pos]'hp).toNat=true:=by
      simp only[plainB,Bool.and_eq_true,decide_eq_true_eq]at hd
      simp only[oddR,Bool.or_eq_true,decide_eq_true_eq];omega
     rw[if_neg this,ih]
     simp only[Bool.not_true,Bool.false_eq_true,if_false]
     cases(s.data.toList.drop (pos+1)).findIdx? (fun b=>!plainB b) with
     |none=>rfl
     |some i=>show((pos+1+i:Nat):Int)=((pos+(i+1):Nat):Int);rw[show pos+1+i=pos+(i+1) by omega]
    |false =>
     have:oddR (s[pos]'hp).toNat=true:=by
      simp only[plainB,Bool.and_eq_false_iff,decide_eq_false_iff_not]at hd
      simp only[oddR,Bool.or_eq_true,decide_eq_true_eq];omega
     rw[if_pos this]
     simp
   ·obtain⟨h1,h2⟩:=decode_high s pos hp (by omega)
    have:oddR (Utf8.decode s pos).1=true:=by
     simp only[oddR,Bool.or_eq_true,decide_eq_true_eq];omega
    have hd:plainB (s[pos]'hp)=false:=by
     simp only[plainB,Bool.and_eq_false_iff,decide_eq_false_iff_not];omega
    rw[if_pos this,hd]
    simp
  ·rw[if_neg hp,List.drop_eq_nil_of_le (by rw[Array.length_toList];exact Nat.le_of_not_lt hp)];rfl
theorem odd_idx (s:List UInt8):Lib.idxFunc oddR true ⟨s.toArray⟩=oddI s:=by
 have:=odd_from ⟨s.toArray⟩ s.length 0 (by simp[ByteArray.size])
 have e:Lib.idxFunc oddR true ⟨s.toArray⟩=Lib.idxFuncFrom oddR true ⟨s.toArray⟩ s.length 0:=by simp[Lib.idxFunc,ByteArray.size]
 rw[e,this]
 unfold oddI
 simp only[List.drop_zero]
 cases s.findIdx? (fun b=>!plainB b) with
 |none=>rfl
 |some i=>simp
def q168':List V→Option VRes
 |[.str s,.fn (.func 95) [] [],.bool true]=>some (.ret (.int .i64 (Lib.idxFunc oddR true ⟨s.toArray⟩)))
 |_=>none
def HL1:EvF:=⟨[],fun f args st=>(bif Nat.beq f 168 then q168' args else none).map fun r=>(r,st)⟩
@[push_cast]theorem HL1_raw:HL1.raw=[]:=idq rfl
theorem HL1_ok:ESound Tryz.prog HL1:=fun f args st r s h=>by
 obtain⟨z,hz,e⟩:=Option.map_eq_some_iff.1 h
 cases e
 by_cases h3:f=168
 ·subst h3
  rw[show Nat.beq 168 168=true from rfl,cond_true]at hz
  unfold q168' at hz
  split at hz<;>cases hz
  exact v168' _ _
 rw[show Nat.beq f 168=false from Bool.eq_false_iff.2 fun e=>h3 (Nat.eq_of_beq_eq_true e),cond_false]at hz
 cases hz
theorem v96 {s:List UInt8}{st:St}:VRet Tryz.prog 96 [.str s,.fn (.func 95) [] []] st (.int .i64 (oddI s)) st:=by
 have h:∀st,run Tryz.prog HL1 168 [.str s,.fn (.func 95) [] [],.bool true] st=some (.ret (.int .i64 (Lib.idxFunc oddR true ⟨s.toArray⟩)),st):=fun st=>run_H rfl
 have h2:run Tryz.prog HL1 96 [.str s,.fn (.func 95) [] []] st=some (.ret (.int .i64 (oddI s)),st):=by
  rw[run_shut F96 rfl rfl rfl]
  push_cast[h,odd_idx]
 exact run_sound mixed HL1_ok _ _ _ _ _ h2
theorem HH_ok:ESound Tryz.prog HH:=fun f args st r s h=>by
 simp only[HH]at h
 by_cases h1:f=81
 ·subst h1
  rw[show Nat.beq 81 81=true from rfl,cond_true]at h
  unfold hSort at h
  split at h
  ·rename_i id n
   unfold hSortA at h
   split at h
   ·rename_i r0 hr
    split at h
    ·rename_i hc
     cases h
     obtain⟨c1,c2,c3,c4,c5⟩:=hc
     subst c1
     exact v81 hr c3 c4 c2 c5
    ·cases h
   ·cases h
  ·cases h
 rw[show Nat.beq f 81=false from Bool.eq_false_iff.2 fun e=>h1 (Nat.eq_of_beq_eq_true e),cond_false]at h
 obtain⟨z,hz,e⟩:=Option.map_eq_some_iff.1 h
 cases e
 by_cases h1:f=140
 ·subst h1
  rw[show Nat.beq 140 140=true from rfl,cond_true]at hz
  unfold hCut at hz
  split at hz
  ·split at hz
   ·rename_i hl;cases hz;exact run_sound mixed HL0_ok _ _ _ _ _ (k140 hl)
   ·cases hz
  ·cases hz
 rw[show Nat.beq f 140=false from Bool.eq_false_iff.2 fun e=>h1 (Nat.eq_of_beq_eq_true e),cond_false]at hz
 by_cases h1:f=18
 ·subst h1
  rw[show Nat.beq 18 18=true from rfl,cond_true]at hz
  unfold hSuf at hz
  split at hz
  ·split at hz
   ·rename_i hl;cases hz;exact run_sound mixed HL0_ok _ _ _ _ _ (k18 hl.1 hl.2)
   ·cases hz
  ·cases hz
 rw[show Nat.beq f 18=false from Bool.eq_false_iff.2 fun e=>h1 (Nat.eq_of_beq_eq_true e),cond_false]at hz
 by_cases h1:f=222
 ·subst h1
  rw[show Nat.beq 222 222=true from rfl,cond_true]at hz
  unfold hAny at hz
  split at hz
  ·cases hz;exact run_sound mixed HL0_ok _ _ _ _ _ k222
  ·cases hz
 rw[show Nat.beq f 222=false from Bool.eq_false_iff.2 fun e=>h1 (Nat.eq_of_beq_eq_true e),cond_false]at hz
 by_cases h1:f=22
 ·subst h1
  rw[show Nat.beq 22 22=true from rfl,cond_true]at hz
  unfold hAtoi at hz
  split at hz
  ·split at hz
   ·rename_i hl;cases hz;exact v22 _ _ hl.1 hl.2.1 hl.2.2
   ·cases hz
  ·cases hz
 rw[show Nat.beq f 22=false from Bool.eq_false_iff.2 fun e=>h1 (Nat.eq_of_beq_eq_true e),cond_false]at hz
 by_cases h1:f=361
 ·subst h1
  rw[show Nat.beq 361 361=true from rfl,cond_true]at hz
  unfold hTrim at hz
  split at hz
  ·split at hz
   ·rename_i hl
    obtain⟨e1,e2⟩:=hl
    subst e1
    cases hz;exact run_sound mixed HL0_ok _ _ _ _ _ (k361 e2)
   ·cases hz
  ·cases hz
 rw[show Nat.beq f 361=false from Bool.eq_false_iff.2 fun e=>h1 (Nat.eq_of_beq_eq_true e),cond_false]at hz
 by_cases h1:f=26
 ·subst h1
  rw[show Nat.beq 26 26=true from rfl,cond_true]at hz
  unfold hItoa at hz
  split at hz
  ·split at hz
   ·rename_i hl
    simp only[Bool.and_eq_true,decide_eq_true_eq]at hl
    cases hz;exact v26 hl.1.1 hl.1.2 hl.2
   ·cases hz
  ·cases hz
 rw[show Nat.beq f 26=false from Bool.eq_false_iff.2 fun e=>h1 (Nat.eq_of_beq_eq_true e),cond_false]at hz
 by_cases h1:f=19
 ·subst h1
  rw[show Nat.beq 19 19=true from rfl,cond_true]at hz
  unfold hRep at hz
  split at hz
  ·split at hz
   ·rename_i hl
    simp only[Bool.and_eq_true,decide_eq_true_eq]at hl
    cases hz;exact v19 hl.1.1 hl.1.2 hl.2
   ·cases hz
  ·cases hz
 rw[show Nat.beq f 19=false from Bool.eq_false_iff.2 fun e=>h1 (Nat.eq_of_beq_eq_true e),cond_false]at hz
 by_cases h1:f=64
 ·subst h1
  rw[show Nat.beq 64 64=true from rfl,cond_true]at hz
  unfold hJoin at hz
  split at hz
  ·split at hz
   ·rename_i ss hs
    split at hz
    ·rename_i hl
     simp only[Bool.and_eq_true,decide_eq_true_eq]at hl
     cases hz;exact strsV_map hs▸v64 hl.1 hl.2
    ·cases hz
   ·cases hz
  ·cases hz
 rw[show Nat.beq f 64=false from Bool.eq_false_iff.2 fun e=>h1 (Nat.eq_of_beq_eq_true e),cond_false]at hz
 by_cases h1:f=27
 ·subst h1
  rw[show Nat.beq 27 27=true from rfl,cond_true]at hz
  unfold hCount at hz
  split at hz
  ·split at hz
   ·cases hz;exact v27
   ·cases hz
  ·cases hz
 rw[show Nat.beq f 27=false from Bool.eq_false_iff.2 fun e=>h1 (Nat.eq_of_beq_eq_true e),cond_false]at hz
 by_cases h1:f=225
 ·subst h1
  rw[show Nat.beq 225 225=true from rfl,cond_true]at hz
  unfold hFields at hz
  split at hz
  ·split at hz
   ·rename_i hl
    simp only[Bool.and_eq_true,decide_eq_true_eq,List.all_eq_true]at hl
    cases hz;exact v225 hl.1.1 hl.1.2 hl.2
   ·cases hz
  ·cases hz
 rw[show Nat.beq f 225=false from Bool.eq_false_iff.2 fun e=>h1 (Nat.eq_of_beq_eq_true e),cond_false]at hz
 by_cases h1:f=138
 ·subst h1
  rw[show Nat.beq 138 138=true from rfl,cond_true]at hz
  unfold hIdx at hz
  split at hz
  ·cases hz;exact v138 _ _ _
  ·cases hz
 rw[show Nat.beq f 138=false from Bool.eq_false_iff.2 fun e=>h1 (Nat.eq_of_beq_eq_true e),cond_false]at hz
 by_cases h1:f=96
 ·subst h1
  rw[show Nat.beq 96 96=true from rfl,cond_true]at hz
  unfold hOdd at hz
  split at hz
  ·cases hz;exact v96
  ·cases hz
 rw[show Nat.beq f 96=false from Bool.eq_false_iff.2 fun e=>h1 (Nat.eq_of_beq_eq_true e),cond_false]at hz
 by_cases h1:f=152
 ·subst h1
  rw[show Nat.beq 152 152=true from rfl,cond_true]at hz
  unfold hVal at hz
  split at hz
  ·rename_i x y cs a c d
   split at hz
   ·rename_i l hl
    split at hz
    ·rename_i hc
     simp only[Bool.and_eq_true,decide_eq_true_eq,List.all_eq_true]at hc
     obtain⟨⟨⟨⟨c1,c2⟩,c3⟩,c4⟩,c5⟩:=hc
     cases hz
     have ea:a=(a.toNat:Int):=by omega
     have:=v152 x y l a.toNat ⟨c,d⟩ st (by omega) c3 c4 (fun z hz=>(c5 z hz).1) (fun z hz=>by have:=(c5 z hz).2;omega)
     rw[←ea,←rdL_map rdCu_v hl]at this
     exact this
    ·cases hz
   ·cases hz
  ·cases hz
 rw[show Nat.beq f 152=false from Bool.eq_false_iff.2 fun e=>h1 (Nat.eq_of_beq_eq_true e),cond_false]at hz
 cases hz
end Go.Proofs.YtanojbajfgcjeaaGreatDoor

namespace Go.Proofs.YtanojbajfgcjeaaGreatDoor
open Go.Sha
set_option maxRecDepth 100000
theorem thS_C:shoC thS=0:=by kernel_rfl
theorem thS_par:parS thS=[⟨1,0⟩,⟨1,1⟩,⟨2,0⟩,⟨2,1⟩]:=by
 rw[parS,if_pos thS_C,par_eq (fix_chan thS_C)];kernel_rfl
theorem thS_ok:thS.ok:=by
 refine⟨by decide,⟨by decide,by simp[thS,theatre]⟩,⟨by decide,?_,?_⟩,⟨by decide,?_⟩,⟨by decide,by simp[thS,theatre]⟩,⟨by decide,?_⟩,⟨by decide,?_⟩,⟨by decide,by simp[thS,theatre]⟩,⟨by decide,by simp[thS,theatre]⟩⟩
 ·intro q hq;simp[thS,theatre]at hq;subst hq;exact⟨by decide,by simp,by decide⟩
 ·intro q hq;simp[thS,theatre]at hq;subst hq;exact⟨by decide,fun z hz=>by simp at hz;rcases hz with rfl|rfl<;>exact⟨by decide,by simp⟩,by decide⟩
 ·intro q hq;simp[thS,theatre]at hq;rcases hq with rfl|rfl<;>decide
 ·intro q hq;simp[thS,theatre]at hq;subst hq;decide
 ·intro q hq;simp[thS]at hq;subst hq;exact⟨by decide,fun z hz=>by simp at hz;subst hz;exact⟨by decide,by decide,by decide,by decide,by decide⟩⟩
theorem HK_ok:ESound Tryz.prog HK:=fun f args st r s h=>by
 simp only[HK]at h
 by_cases h1:f=169
 ·subst h1
  rw[show Nat.beq 169 169=true from rfl,cond_true]at h
  obtain⟨z,hz,e⟩:=Option.map_eq_some_iff.1 h
  cases e
  unfold hNoE at hz
  split at hz
  ·cases hz;exact noEscape_v Tryz.func169 (by kernel_rfl) (by kernel_rfl) (by kernel_rfl) (by kernel_rfl) _ _
  ·cases hz
 rw[show Nat.beq f 169=false from Bool.eq_false_iff.2 fun e=>h1 (Nat.eq_of_beq_eq_true e),cond_false]at h
 by_cases h1:f=30
 ·subst h1
  rw[show Nat.beq 30 30=true from rfl,cond_true]at h
  obtain⟨z,hz,e⟩:=Option.map_eq_some_iff.1 h
  cases e
  unfold hPar at hz
  split at hz
  ·split at hz
   ·rename_i hb
    cases V.beq_eq _ _ hb
    cases hz
    have:=v30 HH_ok thS_ok (st:=st)
    rw[thS_par,thS_C]at this
    exact this
   ·cases hz
  ·cases hz
 rw[show Nat.beq f 30=false from Bool.eq_false_iff.2 fun e=>h1 (Nat.eq_of_beq_eq_true e),cond_false]at h
 exact HH_ok _ _ _ _ _ h
end Go.Proofs.YtanojbajfgcjeaaGreatDoor

namespace Go.Proofs.YtanojbajfgcjeaaGreatDoor
set_option maxRecDepth 100000
open Go.Sha Go.ChangeShapes Go.WideShapes Go.ChangeAt Go.RowKit
theorem laid_glK {laid:List (String×DataW Unit)}{W:World}(hn:(laid.all fun x=>x.2.handleName?.isNone)=true)(m2:("strings.asciiSpace",Rows.laid_strings_asciiSpace)∈laid)(m3:("internal/strconv.uint64pow10",Rows.laid_internal_strconv_uint64pow10)∈laid)
  (h:laidMetH Tryz.prog laid W) (hs:W.ShapedOpen Tryz.prog):∃v,∀p∈glK v,W.heap[p.1]?=some p.2:=by
 rw[MakeChecks.laidMetH_plain _ _ _ hn]at h
 obtain⟨ps,hv,_⟩:=h
 obtain⟨g2,t2,cs2,T2,fz2,f2,p2,a2,b2,c2,d2⟩:=vars_read hv _ _ m2
 obtain⟨g3,t3,cs3,T3,fz3,f3,p3,a3,b3,c3,d3⟩:=vars_read hv _ _ m3
 obtain⟨m,hm⟩:=int_of_shape (zero:=#[.int .i64 0]) (g:=0) (t:=3) (k:=.i64) hs (of_decide_eq_true (by kernel_rfl)) (by kernel_rfl) rfl (by kernel_rfl) (by kernel_rfl) Tryz.underlying3
 have q2:(Rows.laid_strings_asciiSpace:DataW Unit)=Lib.tabData .u8 Lib.asciiSpaceTab:=by kernel_rfl
 have q3:(Rows.laid_internal_strconv_uint64pow10:DataW Unit)=Lib.tabData .u64 Lib.pow10Tab:=by kernel_rfl
 rw[q2]at d2
 rw[q3]at d3
 have k2:Tryz.prog.globalNamed "strings.asciiSpace"=some 4:=by kernel_rfl
 have k3:Tryz.prog.globalNamed "internal/strconv.uint64pow10"=some 3:=by kernel_rfl
 obtain rfl:=Option.some.inj (k2.symm.trans a2)
 obtain rfl:=Option.some.inj (k3.symm.trans a3)
 have u2:(match(Tryz.prog.globals[4]?).map (·.type) with|some t=>(match Tryz.prog.underlying t with|some (.array m e)=>decide (m=256)&&(match Tryz.prog.underlying e with|some (.int k')=>decide (k'=.u8)|_=>false)&&decide (Tryz.prog.cellsOf e=1)&&decide (Tryz.prog.cellsOf t=256)|_=>false)|none=>false)=true:=by kernel_rfl
 have u3:(match(Tryz.prog.globals[3]?).map (·.type) with|some t=>(match Tryz.prog.underlying t with|some (.array m e)=>decide (m=20)&&(match Tryz.prog.underlying e with|some (.int k')=>decide (k'=.u64)|_=>false)&&decide (Tryz.prog.cellsOf e=1)&&decide (Tryz.prog.cellsOf t=20)|_=>false)|none=>false)=true:=by kernel_rfl
 rw[b2]at u2
 rw[b3]at u3
 have e2:=tab_read u2 d2
 have e3:=tab_read u3 d3
 subst e2;subst e3
 refine⟨⟨T3,T2,3,fz3,fz2,(0,0),m⟩,fun p hp=>?_⟩
 simp only[glK,List.mem_cons,List.not_mem_nil,or_false]at hp
 rcases hp with rfl|rfl|rfl
 ·exact c3
 ·exact c2
 ·exact hm
end Go.Proofs.YtanojbajfgcjeaaGreatDoor

namespace Go.Proofs.YtanojbajfgcjeaaGreatDoor
open Go.Sha
set_option maxRecDepth 10000
def B66_0:Cd:=(.g [.b 13 .lss 12 11] (.join [1,5,10,11,12] (.i 13 .skip (.exit [5] 0)) (.join [1,5,10,11,12] (.block 1 (.g [.r 14 9 10 12,.d 15 9 14,.s 7 (.alloc 73 [(.str []),(.str []),.nils,.nils,(.bool false),(.bool false),.i 0,(.str []),.i 0]),.w 9 7 15] (.z [7] (.g [.m 16 1,.d 17 9 7,.s 18 (.call (.t 16) [.t 17])] (.i 18 (.reg [.m 19 5,.a 20 0 7,.l 21 20,.s 22 (.bslice 9 1 [.t 21]),.s 23 (.append 9 1 16 (.t 19) (.t 22)),.m 5 23]) .skip))))) (.reg [.v 24 .add 12 1,.m 12 24]))))
theorem F66:compF Tryz.prog 66=some ⟨26,[.tmp 4],(.g [.q 2 135 0,.s 4 (.mv (.c .nils))] (.z [2] (.g [.s 5 (.mv (.c .nils))] (.join [5] (.g [.a 8 0 2,.a 9 2 8,.l 10 9,.u 11 10,.c 12 0] (.block 0 (.loop [1,5,10,11,12] [(5,(9,1))] B66_0))) (.g [.m 25 5,.m 4 25] (.ret [4]))))))⟩:=by kernel_rfl
theorem F67:compF Tryz.prog 67=some ⟨12,[.tmp 3],(.g [.q 2 73 0,.k 3 false] (.z [2] (.join [3] (.reg [.l 4 1,.v 5 .gtr 4 0,.m 6 5,.ay 7 2 2 6,.ly 8 7 6,.y 9 (.mkfn (.func 69) [] [.t 1]) 6,.y 10 (.f 68 [.t 8,.t 9]) 6,.e 11 6 10,.m 3 11]) (.ret [3]))))⟩:=by kernel_rfl
theorem F69:compF Tryz.prog 69=some ⟨9,[.tmp 3],(.g [.q 2 139 0,.k 3 false] (.z [2] (.g [.a 4 2 2,.a 5 0 4,.l 6 5,.l 7 1,.b 8 .eql 6 7,.m 3 8] (.ret [3]))))⟩:=by kernel_rfl
theorem F25:compF Tryz.prog 25=some ⟨16,[.tmp 4,.tmp 5],(.g [.q 2 66 0,.q 3 3 1,.s 4 (.mv (.c .nils)),.c 5 0] (.z [2,3] (.join [2,3] (.g [.d 7 3 2,.f 8 65 7,.m 6 8] (.g [.m 9 6,.v 10 .neq 9 0] (.i 10 (.g [.m 11 6,.s 4 (.mv (.c .nils)),.m 5 11] (.ret [4,5])) .skip))) (.g [.d 12 3 2,.s 13 (.build [.i 0,.i 0,.nils] [(0,3,(.t 12))]),.s 14 (.mkfn (.func 67) [] [.t 3]),.g' 15 66 13 14,.m 4 15,.c 5 0] (.ret [4,5])))))⟩:=by kernel_rfl
theorem F58:compF Tryz.prog 58=some ⟨5,[.tmp 2],(.g [.s 2 (.mv (.w []))] (.g [.m 3 0,.f 4 26 3,.m 2 4] (.ret [2])))⟩:=by kernel_rfl
def B24_0:Cd:=(.g [.b 47 .lss 46 45] (.join [1,5,7,8,10,24,25,26,31,32,33,44,45,46] (.i 47 .skip (.exit [1,5,7,8,24,25,26,31,32,33] 4)) (.join [1,5,7,8,10,24,25,26,31,32,33,44,45,46] (.block 5 (.g [.r 48 1 44 46,.l 49 48,.m 14 49] (.reg [.m 50 8,.a 51 0 10,.l 52 51,.f 53 58 52,.s 54 (.bin .add (.t 53) (.w [32,47,32])),.m 55 14,.b 56 .add 54 55,.s 57 (.bslice 9 1 [.t 56]),.s 58 (.append 9 1 16 (.t 50) (.t 57)),.m 8 58]))) (.reg [.v 59 .add 46 1,.m 46 59]))))
def B24_1:Cd:=(.g [.b 34 .lss 33 32] (.join [1,5,7,8,24,25,26,31,32,33] (.i 34 .skip (.exit [1,5,7,8,24,25,26] 2)) (.join [1,5,7,8,24,25,26,31,32,33] (.block 3 (.g [.r 35 3 31 33,.d 36 3 35,.s 10 (.alloc 66 [.i 0,.i 0,.nils]),.w 3 10 36] (.z [10] (.g [.d 38 3 10,.a 39 0 7,.l 40 39,.g' 41 25 38 40,.m 37 41,.j 42 0 37,.j 43 1 37,.m 11 42,.m 12 43] (.g [.m 44 11,.u 45 44,.c 46 0] (.block 4 (.loop [1,5,7,8,10,24,25,26,31,32,33,44,45,46] [(8,(9,1))] B24_0))))))) (.reg [.v 60 .add 33 1,.m 33 60]))))
def B24_2:Cd:=(.g [.b 27 .lss 26 25] (.join [1,5,24,25,26] (.i 27 .skip (.exit [5] 0)) (.join [1,5,24,25,26] (.block 1 (.g [.r 28 2 24 26,.d 29 2 28,.s 7 (.alloc 63 [.i 0,.nils]),.w 2 7 29] (.z [7] (.g [.s 8 (.mv (.c .nils))] (.join [1,5,7,8,24,25,26] (.g [.a 30 6 1,.l 31 30,.u 32 31,.c 33 0] (.block 2 (.loop [1,5,7,8,24,25,26,31,32,33] [(8,(9,1))] B24_1))) (.greg [[],[],[],[],[],[],[],[],[],[],[false,false,false,false,false,false,false,false,false,true],[],[false,false,false,false,false,false,false,false,false,false,false,true],[false,false,false,false,false,false,false,false,false,false,false,false,false],[]] [.m 61 5,.a 62 0 7,.l 63 62,.f 64 58 63,.a 65 1 7,.l 66 65,.u 67 66,.f 68 58 67,.m 69 8,.s 70 (.f 64 [.t 69,(.w [44,32])]),.s 71 (.bslice 9 1 [.t 64,.t 68,.t 70]),.f 72 55 71,.s 73 (.bslice 31 1 [.t 72]),.s 74 (.append 31 1 24 (.t 61) (.t 73)),.m 5 74])))))) (.reg [.v 75 .add 26 1,.m 26 75]))))
theorem F24:compF Tryz.prog 24=some ⟨77,[.tmp 2,.tmp 3],(.g [.q 1 50 0,.s 2 (.mv (.c .nils)),.c 3 0] (.z [1] (.join [1] (.g [.d 15 9 1,.f 16 54 15,.m 4 16] (.g [.m 17 4,.v 18 .neq 17 0] (.i 18 (.g [.m 19 4,.s 2 (.mv (.c .nils)),.m 3 19] (.ret [2,3])) .skip))) (.g [.s 20 (.bslice 9 1 [(.w [112,97,108,101,116,116,101]),(.w [104,117,101,115]),(.w [99,117,101,115])]),.f 21 55 20,.s 22 (.bslice 31 1 [.t 21]),.m 5 22] (.join [5] (.g [.a 23 5 1,.l 24 23,.u 25 24,.c 26 0] (.block 0 (.loop [1,5,24,25,26] [(5,(31,1))] B24_2))) (.g [.m 76 5,.m 2 76,.c 3 0] (.ret [2,3])))))))⟩:=by kernel_rfl
theorem F20:compF Tryz.prog 20=some ⟨10,[.tmp 2],(.g [.q 1 50 0,.k 2 false] (.z [1] (.join [2] (.reg [.d 3 9 1,.f 4 52 3,.m 5 4,.y 6 (.load (some 9) (.t 1)) 5,.y 7 (.f 53 [.t 6]) 5,.vy 8 .eql 7 0 5,.e 9 5 8,.m 2 9]) (.ret [2]))))⟩:=by kernel_rfl
end Go.Proofs.YtanojbajfgcjeaaGreatDoor

namespace Go.Proofs.YtanojbajfgcjeaaGreatDoor
open Go.Sha
set_option maxRecDepth 100000
variable {g:List (Nat×Obj)}{n:Nat}
theorem f69 {q:Mov}{p:Int}{st:St}:run Tryz.prog HH 69 [q.v,.ep (.agg [.int .i64 p]) 0] st=some (.ret (.bool (q.val.pal == p)),st):=by
 rw[run_shut F69 rfl rfl (by simp)]
 push_cast[Mov.v]
theorem f191p {l:List Mov}{p:Int}(hl:l.length<140737488355328){st:St}:run Tryz.prog HH 136 [.sl (l.map Mov.v),.fn (.func 69) [] [.ep (.agg [.int .i64 p]) 0]] st=some (.ret (.int .i64 (ix (fun q=>q.val.pal == p) l 0)),st) :=
 IxF (f:=Mov.v) (n:=some 5) (fun _=>rfl) (fun _=>rfl) F136 rfl (by simp) hl (fun q _ _=>f69) (fun _ _=>rfl) (fun _=>rfl)
def usesC (p:Int)(c:Cu):Bool:=decide (0<p)&&c.moves.any (fun q=>q.val.pal == p)
theorem f67 {x:Cu}{p:Int}(hl:x.moves.length<140737488355328){st:St}:run Tryz.prog HH 67 [x.v,.ep (.agg [.int .i64 p]) 0] st=some (.ret (.bool (usesC p x)),st):=by
 have h:=fun(st:St)=>f191p (p:=p) (st:=st) hl
 push_cast[Mov.v]at h
 rw[run_shut F67 rfl rfl (by simp)]
 push_cast[Cu.v,Mov.v,usesC,h,ix_ge,(fun(a0 a1:V) (st:St) (h:V.bdL 0 [a0,a1]=true)=>run_shut (P:=Tryz.prog) (H:=HH) (args:=[a0,a1]) (st:=st) F68 rfl rfl h)]
theorem room16 {k:Nat}(h:k≤1000000):roomV (k+1) 16=true:=by
 have h1:k+1≤maxLen:=by unfold maxLen;omega
 have h2:(k+1)*16≤140737488355328:=by omega
 unfold roomV
 rw[decide_eq_true h1,decide_eq_true h2];rfl
def refsL (p:Int)(l:List Cu):Row:=(l.filter (usesC p)).map (·.num)
theorem L66 {l:List Cu}{p:Int}(hl:l.length≤1000000)(hm:∀c∈l,c.moves.length<140737488355328):∀r j,l.drop j=r→∀out:Row,out.length≤j →
  runL Tryz.prog HH [1,5,10,11,12] (n+1) B66_0 [(1,.fn (.func 67) [] [.ep (.agg [.int .i64 p]) 0]),(5,.osl n out.length),(10,.sl (l.map Cu.v)),(11,.int .i64 l.length),(12,.int .i64 j)] (stL g n out)
   = some (.exit 0,[(5,.osl n (out++refsL p r).length)],stL g n (out++refsL p r)):=by
 refine drop_ind (fun j h out ho=>?_) (fun q r j h hx hd ih out ho=>?_)
 all_goals rw[runL_of B66_0.eq_1]
 ·have h1:¬(j:Int)<l.length:=by omega
  push_cast[h1,refsL,List.filter_nil,List.map_nil,List.append_nil]
 ·have h1:(j:Int)<l.length:=by omega
  have hw:=iw1 (j:=j) (by omega)
  have h103:=fun(st:St)=>f67 (x:=q) (p:=p) (st:=st) (hm q (mem_at hd))
  have hr:=room16 (k:=out.length) (by omega)
  cases hu:usesC p q with
  |false =>
   have ih:=ih out (by omega)
   push_cast[Cu.v]at h103
   push_cast[h1,hw,hx,Cu.v,h103,hu,refsL,List.filter_cons]at ih ⊢
   exact ih
  |true =>
   have ih:=ih (out++[q.num]) (by simp;omega)
   push_cast[Cu.v]at h103
   push_cast[h1,hw,hx,Cu.v,h103,hu,hr,refsL,List.filter_cons,List.append_assoc,List.singleton_append,List.map_append,List.map_cons,List.map_nil]at ih ⊢
   exact ih
theorem f66 {x:Lst}{p:Int}(hl:x.cues.length≤1000000)(hm:∀c∈x.cues,c.moves.length<140737488355328){st:St}:run Tryz.prog HH 66 [x.v,.fn (.func 67) [] [.ep (.agg [.int .i64 p]) 0]] st=some (.ret (.sl ((refsL p x.cues).map .str)),st):=by
 have hL:=fun n=>L66 (g:=st.x.gl) (n:=n) (p:=p) hl hm _ 0 rfl [] (Nat.zero_le _)
 rw[List.drop_zero]at hL
 rw[run_shut F66 rfl rfl (by simp)]
 push_cast[List.map_nil,List.nil_append,List.length_nil]at hL
 push_cast[Lst.v,hL,List.map_nil,List.nil_append,List.length_nil]
def refsC (p:Int)(x:Lst):Row:=if lstP x=0 then refsL p x.cues else[]
theorem f25 {x:Lst}{p:Int}(h:x.ok){st:St}:run Tryz.prog HH 25 [x.v,.int .i64 p] st=some (.ret (.tup [.sl ((refsC p x).map .str),.int .i64 (lstP x)]),st):=by
 have h1:=fun st=>f65 (st:=st) h
 rw[run_shut F25 rfl rfl (by simp)]
 by_cases hP:lstP x=0
 ·have hx:x.cues.length≤1000000:=by
   unfold lstP at hP
   split at hP
   ·cases hP
   ·split at hP
    ·cases hP
    ·omega
  have h2:=fun st=>f66 (p:=p) (st:=st) hx (fun c hc=>(h.b c hc).c)
  push_cast[Lst.v]at h1 h2
  push_cast[Lst.v,h1,h2,hP,refsC]
 ·push_cast[Lst.v]at h1
  push_cast[Lst.v,h1,hP,refsC]
theorem f58 {m:Int}(h0:-9223372036854775808≤m)(h1:m≤9223372036854775807){st:St}(hG:glB st.x.gl=true):run Tryz.prog HH 58 [.int .i64 m] st=some (.ret (.str (Lib.itoa m)),st):=by
 have hI:∀st':St,st'.x.gl=st.x.gl→run Tryz.prog HH 26 [.int .i64 m] st'=some (.ret (.str (Lib.itoa m)),st'):=fun st' e=>run_H (by
  show(hItoa st'.x.gl [.int .i64 m]).map (fun r=>(r,st'))=_
  rw[hItoa,e,hG,decide_eq_true h0,decide_eq_true h1];rfl)
 rw[run_shut F58 rfl rfl (by simp)]
 push_cast[hI]
end Go.Proofs.YtanojbajfgcjeaaGreatDoor

namespace Go.Proofs.YtanojbajfgcjeaaGreatDoor
open Go.Sha
set_option maxRecDepth 100000
variable {g:List (Nat×Obj)}{n:Nat}
theorem h66 {l:List V}(hb:V.bdL 0 l=true){st:St}:run Tryz.prog HH 55 [.sl l] st=some (.ret (.sl l),st):=by
 rw[run_shut F55 rfl rfl (by simpa [V.bdL,V.bd] using hb)]
 push_cast[hb]
def useT (m:Int)(q:List UInt8):List UInt8:=Lib.itoa m++[32,47,32]++q
def stT (g:List (Nat×Obj))(tab:List Row)(cs:Row):St:=⟨5,[],[(4,⟨9,1,cs.map .str,false,false⟩),(2,⟨31,1,tab.map rowV,false,false⟩),(1,⟨9,1,[.str [112,97,108,101,116,116,101],.str [104,117,101,115],.str [99,117,101,115]],false,false⟩)],⟨[],g,[]⟩⟩
@[push_cast]theorem stT_eq {tab:List Row}{cs:Row}:stT g tab cs=⟨5,[],[(4,⟨9,1,cs.map .str,false,false⟩),(2,⟨31,1,tab.map rowV,false,false⟩),(1,⟨9,1,[.str [112,97,108,101,116,116,101],.str [104,117,101,115],.str [99,117,101,115]],false,false⟩)],⟨[],g,[]⟩⟩:=idq rfl
def stU2 (g:List (Nat×Obj))(tab:List Row)(cs:Row):St:=⟨6,[],[(4,⟨9,1,cs.map .str,false,false⟩),(2,⟨31,1,tab.map rowV,false,false⟩),(1,⟨9,1,[.str [112,97,108,101,116,116,101],.str [104,117,101,115],.str [99,117,101,115]],false,false⟩)],⟨[],g,[]⟩⟩
@[push_cast]theorem stU2_eq {tab:List Row}{cs:Row}:stU2 g tab cs=⟨6,[],[(4,⟨9,1,cs.map .str,false,false⟩),(2,⟨31,1,tab.map rowV,false,false⟩),(1,⟨9,1,[.str [112,97,108,101,116,116,101],.str [104,117,101,115],.str [99,117,101,115]],false,false⟩)],⟨[],g,[]⟩⟩:=idq rfl
theorem L24_0 {s:Sho}{pl:Pal}{x:Lst}{l:Row}{tab:List Row}{i il:Nat}(hq:∀q∈l,q.length≤1000)(hG:glB g=true)(hl:l.length≤1000000)(h0:-9223372036854775808≤x.num)(h1:x.num≤9223372036854775807):∀r j,l.drop j=r→∀cs:Row,cs.length+r.length≤1000000 →
  runL Tryz.prog HH [1,5,7,8,10,24,25,26,31,32,33,44,45,46] 6 B24_0 [(1,.ep s.v 0),(5,.osl 2 tab.length),(7,.ep pl.v 0),(8,.osl 4 cs.length),(10,.ep x.v 0),(24,.sl (s.pals.map Pal.v)),(25,.int .i64 s.pals.length),(26,.int .i64 i),(31,.sl (s.lsts.map Lst.v)),(32,.int .i64 s.lsts.length),(33,.int .i64 il),(44,.sl (l.map .str)),(45,.int .i64 l.length),(46,.int .i64 j)] (stU2 g tab cs)
   = some (.exit 4,[(1,.ep s.v 0),(5,.osl 2 tab.length),(7,.ep pl.v 0),(8,.osl 4 (cs++r.map (useT x.num)).length),(24,.sl (s.pals.map Pal.v)),(25,.int .i64 s.pals.length),(26,.int .i64 i),(31,.sl (s.lsts.map Lst.v)),(32,.int .i64 s.lsts.length),(33,.int .i64 il)],stU2 g tab (cs++r.map (useT x.num))):=by
 refine drop_ind (fun j h cs hc=>?_) (fun q r j h hx hd ih cs hc=>?_)
 all_goals rw[runL_of B24_0.eq_1]
 ·have h1:¬(j:Int)<l.length:=by omega
  push_cast[h1,List.map_nil,List.append_nil]
 ·have h1:(j:Int)<l.length:=by omega
  have hw:=iw1 (j:=j) (by omega)
  rw[List.length_cons]at hc
  have h68:=fun nx mem arr obj ty=>f58 (m:=x.num) (st:=⟨nx,mem,arr,⟨obj,g,ty⟩⟩) (by assumption) (by assumption) hG
  have hr:=room16 (k:=cs.length) (by omega)
  have ih:=ih (cs++[useT x.num q]) (by simp;omega)
  push_cast[Sho.v,Pal.v,Lst.v,useT]at ih ⊢
  push_cast[h1,hw,hx,h68,hr,Sho.v,Pal.v,Lst.v,List.map_cons,List.map_append,List.map_nil,List.append_assoc,List.singleton_append]at ih ⊢
  have hi:=Lib.itoa_length_le x.num (by assumption) (by assumption)
  have:=hq q (mem_at hd)
  first|exact ih|exact dn_eq (by omega) ih
theorem num_chars {s:List UInt8}(h:numC s=0):s.length≤8∧∀b∈s,isD b=true∨b=46:=by
 obtain⟨a1,a2,a3,a4⟩:=numC_parts h
 have e:s=nW s++s.dropWhile (· != 46):=(List.takeWhile_append_dropWhile ..).symm
 have e2:s.dropWhile (· != 46)=[]∨s.dropWhile (· != 46)=46::nR s:=by
  unfold nR
  cases hd:s.dropWhile (· != 46) with
  |nil=>exact .inl rfl
  |cons b r =>
   have:(b != 46)=false:=by
    have:=List.head_dropWhile_not (p:=(· != (46:UInt8))) (l:=s) (by rw[hd];simp)
    simpa [hd] using this
   have hb:b=46:=by simpa using this
   rw[hb];exact .inr rfl
 rcases e2 with e2|e2
 ·rw[e2,List.append_nil]at e
  exact⟨by rw[e];omega,fun b hb=>.inl (a1 b (by rw[←e];exact hb))⟩
 ·rw[e2]at e
  refine⟨by rw[e,List.length_append,List.length_cons];omega,fun b hb=>?_⟩
  rw[e]at hb
  rcases List.mem_append.1 hb with hb|hb
  ·exact .inl (a1 b hb)
  ·rcases List.mem_cons.1 hb with hb|hb
   ·exact .inr hb
   ·exact .inl (a2 b hb)
theorem cuesP_all {l:List Cu}:∀{r:List Cu}{j:Nat},cuesP l r j=0→∀c∈r,numC c.num=0
 |[],_,_,c,hc=>by simp at hc
 |q::r,j,h,c,hc=>by
  rw[cuesP]at h
  repeat' split at h
  all_goals first|(rename_i a;exact absurd h a)|cases h|skip
  rename_i a _
  rw[cue_eq]at a
  rcases List.mem_cons.1 hc with rfl|hc
  ·exact cueP_num (Classical.not_not.1 a)
  ·exact cuesP_all h c hc
theorem lst_parts {x:Lst}(h:lstP x=0):1≤x.num∧x.num≤1048576∧x.cues.length≤64∧∀c∈x.cues,numC c.num=0:=by
 unfold lstP lstB at h
 split at h
 ·cases h
 ·split at h
  ·cases h
  ·exact⟨by omega,by omega,by omega,cuesP_all h⟩
theorem lstsL_all {l:List Lst}:∀{r:List Lst}{j:Nat},lstsL l r j=0→∀c∈r,lstP c=0
 |[],_,_,c,hc=>by simp at hc
 |q::r,j,h,c,hc=>by
  rw[lstsL]at h
  repeat' split at h
  all_goals first|(rename_i a;exact absurd h a)|cases h|skip
  rename_i a _
  rcases List.mem_cons.1 hc with rfl|hc
  ·rw[lst_eq];exact Classical.not_not.1 a
  ·exact lstsL_all h c hc
theorem sho_parts {s:Sho}(h:shoC s=0):s.lsts.length≤8∧(∀x∈s.lsts,lstP x=0)∧s.pals.length≤32∧∀x∈s.pals,1≤x.num∧x.num≤1048576:=by
 obtain⟨_,_,_,_,_,h1,h2,_⟩:=shoC_parts h
 unfold lstsC at h2
 unfold palsCR at h1
 split at h1
 ·cases h1
 ·split at h2
  ·cases h2
  ·exact⟨by omega,lstsL_all h2,by omega,fun x hx=>have:=(palsR_all (j:=0) rfl h1).1 x hx;⟨this.1,this.2.1⟩⟩
theorem refs_le {x:Lst}{p:Int}(h:lstP x=0):(refsL p x.cues).length≤64∧∀q∈refsL p x.cues,numC q=0:=by
 obtain⟨_,_,h3,h4⟩:=lst_parts h
 refine⟨?_,fun q hq=>?_⟩
 ·unfold refsL
  rw[List.length_map]
  exact Nat.le_trans (List.length_filter_le ..) h3
 ·obtain⟨c,hc,rfl⟩:=List.mem_map.1 hq
  exact h4 c (List.mem_filter.1 hc).1
def usesL (p:Int)(x:Lst):Row:=(refsL p x.cues).map (useT x.num)
theorem L24_1 {s:Sho}{pl:Pal}{tab:List Row}{i:Nat}(hG:glB g=true)(h:s.ok)(hs:shoC s=0):∀r j,s.lsts.drop j=r→∀cs:Row,cs.length≤64*j →
  runL Tryz.prog HH [1,5,7,8,24,25,26,31,32,33] 5 B24_1 [(1,.ep s.v 0),(5,.osl 2 tab.length),(7,.ep pl.v 0),(8,.osl 4 cs.length),(24,.sl (s.pals.map Pal.v)),(25,.int .i64 s.pals.length),(26,.int .i64 i),(31,.sl (s.lsts.map Lst.v)),(32,.int .i64 s.lsts.length),(33,.int .i64 j)] (stT g tab cs)
   = some (.exit 2,[(1,.ep s.v 0),(5,.osl 2 tab.length),(7,.ep pl.v 0),(8,.osl 4 (cs++r.flatMap (usesL pl.num)).length),(24,.sl (s.pals.map Pal.v)),(25,.int .i64 s.pals.length),(26,.int .i64 i)],stT g tab (cs++r.flatMap (usesL pl.num))):=by
 obtain⟨hn,hp,-,-⟩:=sho_parts hs
 have hl:=h.k.1
 refine drop_ind (fun j h cs hc=>?_) (fun q r j hj hx hd ih cs hc=>?_)
 all_goals rw[runL_of B24_1.eq_1]
 ·have h1:¬(j:Int)<s.lsts.length:=by omega
  push_cast[h1,List.flatMap_nil,List.append_nil]
 ·have h1:(j:Int)<s.lsts.length:=by omega
  have hw:=iw1 (j:=j) (by omega)
  have hm:=mem_at hd
  have hq:=hp q hm
  obtain⟨p1,p2,p3,p4⟩:=lst_parts hq
  obtain⟨r1,r2⟩:=refs_le (p:=pl.num) hq
  have h36:=fun(st:St)=>f25 (p:=pl.num) (st:=st) (h.k.2 q hm)
  have hL:=L24_0 (g:=g) (s:=s) (pl:=pl) (x:=q) (l:=refsL pl.num q.cues) (tab:=tab) (i:=i) (il:=j) (fun z hz=>by have:=(num_chars (r2 z hz)).1;omega) hG (by omega) (by omega) (by omega) _ 0 rfl cs (by rw[List.drop_zero];omega)
  rw[List.drop_zero]at hL
  have hul:(usesL pl.num q).length≤64:=by rw[usesL,List.length_map];exact r1
  have ih:=ih (cs++usesL pl.num q) (by rw[List.length_append];omega)
  rw[show refsC pl.num q=refsL pl.num q.cues by rw[refsC,if_pos hq],hq]at h36
  simp only[List.flatMap_cons,←List.append_assoc]at ih ⊢
  rw[show(refsL pl.num q.cues).map (useT q.num)=usesL pl.num q from rfl]at hL
  generalize hcu:cs++usesL pl.num q=cu at *
  generalize refsL pl.num q.cues=rf at *
  push_cast[Sho.v,Pal.v,Lst.v]at hL ih h36
  push_cast[h1,hw,hx,h36,hL,Sho.v,Pal.v,Lst.v]at ih ⊢
  first|exact ih|exact dn_eq (by omega) ih
def rowP (s:Sho)(pl:Pal):Row:=[Lib.itoa pl.num,Lib.itoa pl.hues.length,Lib.join (s.lsts.flatMap (usesL pl.num)) [44,32]]
theorem strsV_str:∀{ss:List (List UInt8)},strsV (ss.map .str)=some ss
 |[]=>rfl
 |s::r=>by rw[List.map_cons,strsV,strsV_str];rfl
theorem h100 {ss:List (List UInt8)}{t:List UInt8}(hn:ss.length≤1000000)(hl:(Lib.join ss t).length≤100000000000){st:St}:run Tryz.prog HH 64 [.sl (ss.map .str),.str t] st=some (.ret (.str (Lib.join ss t)),st):=run_H (by
 show(hJoin [.sl (ss.map .str),.str t]).map _=_
 rw[hJoin,strsV_str]
 simp only[hn,hl,decide_true,Bool.and_self,if_true,Option.map_some])
theorem lens_le {B:Nat}:∀{ss:List (List UInt8)},(∀s∈ss,s.length≤B)→Lib.lens ss≤ss.length*B
 |[],_=>by simp[Lib.lens]
 |s::r,h=>by
  have h1:=lens_le (ss:=r) fun x hx=>h x (List.mem_cons_of_mem _ hx)
  have h2:=h s (List.mem_cons_self ..)
  have h3:Lib.lens (s::r)=s.length+Lib.lens r:=by simp[Lib.lens]
  rw[h3,List.length_cons,Nat.succ_mul];omega
theorem join_le {B:Nat}{ss:List (List UInt8)}{t:List UInt8}(h:∀s∈ss,s.length≤B)(hn:ss.length≤1000)(hB:B≤1000)(ht:t.length≤2):(Lib.join ss t).length≤1002000:=by
 cases ss with
 |nil=>simp[Lib.join_nil]
 |cons x r =>
  rw[Lib.join_length]
  have h1:=lens_le h
  have h2:(x::r).length*B≤1000*1000:=Nat.mul_le_mul hn hB
  have h3:t.length*r.length≤2*1000:=Nat.mul_le_mul ht (by rw[List.length_cons]at hn;omega)
  omega
theorem uses_of {s:Sho}{p:Int}(hs:shoC s=0):(s.lsts.flatMap (usesL p)).length≤1000∧∀q∈s.lsts.flatMap (usesL p),q.length≤1000:=by
 obtain⟨hn,hp,-,-⟩:=sho_parts hs
 constructor
 ·have:∀(l:List Lst),(∀x∈l,lstP x=0)→(l.flatMap (usesL p)).length≤l.length*64:=by
   intro l hl
   induction l with
   |nil=>simp
   |cons x r ih =>
    have h1:=ih fun y hy=>hl y (List.mem_cons_of_mem _ hy)
    have h2:=(refs_le (p:=p) (hl x (List.mem_cons_self ..))).1
    rw[List.flatMap_cons,List.length_append,List.length_cons,Nat.succ_mul,usesL,List.length_map]
    omega
  have:=this s.lsts hp
  omega
 ·intro q hq
  obtain⟨x,hx,hq⟩:=List.mem_flatMap.1 hq
  obtain⟨z,hz,rfl⟩:=List.mem_map.1 hq
  have h1:=(num_chars ((refs_le (hp x hx)).2 z hz)).1
  obtain⟨p1,p2,-,-⟩:=lst_parts (hp x hx)
  have h2:=Lib.itoa_length_le x.num (by omega) (by omega)
  simp only[useT,List.length_append,List.length_cons,List.length_nil]
  omega
def stTb (g:List (Nat×Obj))(tab:List Row):St:=⟨3,[],[(2,⟨31,1,tab.map rowV,false,false⟩),(1,⟨9,1,[.str [112,97,108,101,116,116,101],.str [104,117,101,115],.str [99,117,101,115]],false,false⟩)],⟨[],g,[]⟩⟩
@[push_cast]theorem stTb_eq {tab:List Row}:stTb g tab=⟨3,[],[(2,⟨31,1,tab.map rowV,false,false⟩),(1,⟨9,1,[.str [112,97,108,101,116,116,101],.str [104,117,101,115],.str [99,117,101,115]],false,false⟩)],⟨[],g,[]⟩⟩:=idq rfl
theorem L24_2 {s:Sho}(hG:glB g=true)(h:s.ok)(hs:shoC s=0):∀r j,s.pals.drop j=r→∀tab:List Row,tab.length≤j+1 →
  runL Tryz.prog HH [1,5,24,25,26] 3 B24_2 [(1,.ep s.v 0),(5,.osl 2 tab.length),(24,.sl (s.pals.map Pal.v)),(25,.int .i64 s.pals.length),(26,.int .i64 j)] (stTb g tab)
   = some (.exit 0,[(5,.osl 2 (tab++r.map (rowP s)).length)],stTb g (tab++r.map (rowP s))):=by
 obtain⟨hn,hp,hpl,hpn⟩:=sho_parts hs
 have hl:=h.l.1
 refine drop_ind (fun j h tab hc=>?_) (fun q r j hj hx hd ih tab hc=>?_)
 all_goals rw[runL_of B24_2.eq_1]
 ·have h1:¬(j:Int)<s.pals.length:=by omega
  push_cast[h1,List.map_nil,List.append_nil]
 ·have h1:(j:Int)<s.pals.length:=by omega
  have hw:=iw1 (j:=j) (by omega)
  have hm:=mem_at hd
  obtain⟨q1,q2⟩:=hpn q hm
  obtain⟨u1,u2⟩:=uses_of (p:=q.num) hs
  have u3:=join_le (t:=[44,32]) u2 u1 (Nat.le_refl _) (by decide)
  have hL:=L24_1 (g:=g) (s:=s) (pl:=q) (tab:=tab) (i:=j) hG ‹s.ok› hs _ 0 rfl [] (by simp)
  have e1:=fun nx mem arr obj ty=>f58 (m:=q.num) (st:=⟨nx,mem,arr,⟨obj,g,ty⟩⟩) (by omega) (by omega) hG
  have hh:=(‹s.ok›).l.2 q hm
  have e2:=fun nx mem arr obj ty=>f58 (m:=(q.hues.length:Nat)) (st:=⟨nx,mem,arr,⟨obj,g,ty⟩⟩) (by omega) (by omega) hG
  have e3:=fun(st:St)=>h100 (ss:=s.lsts.flatMap (usesL q.num)) (t:=[44,32]) (st:=st) (by omega) (by omega)
  have e4:=fun(st:St)=>h66 (l:=(rowP s q).map .str) (st:=st) (by simp[rowP,V.bdL,V.bd])
  have hr:roomV (tab.length+1) 24=true:=roomV_lit (by omega) (by omega)
  have ih:=ih (tab++[rowP s q]) (by simp;omega)
  rw[List.drop_zero,List.nil_append]at hL
  rw[List.map_cons]
  generalize hR:rowP s q=R at *
  rw[rowP]at hR
  generalize s.lsts.flatMap (usesL q.num)=us at *
  subst hR
  simp only[List.map_cons,List.map_nil]at e4
  push_cast[Sho.v,Pal.v,Lst.v,List.map_nil,List.length_nil]at hL ih
  push_cast[h1,hw,hx,hL,e1,e2,e3,e4,hr,Sho.v,Pal.v,Lst.v,List.map_nil,List.length_nil,List.map_append,List.map_cons,List.append_assoc,List.singleton_append,rowV]at ih ⊢
  first|exact ih|exact dn_eq (by omega) ih
def hdP:Row:=[[112,97,108,101,116,116,101],[104,117,101,115],[99,117,101,115]]
def palT (s:Sho):List Row:=if shoC s=0 then hdP::s.pals.map (rowP s) else[]
theorem f24 {s:Sho}(h:s.ok){st:St}(hG:glB st.x.gl=true):run Tryz.prog HH 24 [s.v] st=some (.ret (.tup [.sl ((palT s).map rowV),.int .i64 (shoC s)]),st):=by
 have h1:=fun st=>f54 (st:=st) h
 rw[run_shut F24 rfl rfl (by simp)]
 by_cases hs:shoC s=0
 ·have hL:=L24_2 (g:=st.x.gl) hG h hs _ 0 rfl [hdP] (Nat.le_refl _)
  have e4:=fun(st:St)=>h66 (l:=hdP.map .str) (st:=st) rfl
  rw[List.drop_zero]at hL
  simp only[hdP,List.map_cons,List.map_nil]at e4
  rw[hdP]at hL
  push_cast[Sho.v,rowV,List.map_cons,List.map_nil,List.length_cons,List.length_nil,List.singleton_append]at hL h1
  push_cast[Sho.v,hL,h1,hs,palT,e4,hdP,rowV,List.map_cons,List.map_nil,List.length_cons,List.length_nil,List.singleton_append]
 ·push_cast[Sho.v]at h1
  push_cast[Sho.v,h1,hs,palT]
end Go.Proofs.YtanojbajfgcjeaaGreatDoor

namespace Go.Proofs.YtanojbajfgcjeaaGreatDoor
open Go.Sha
set_option maxRecDepth 100000
theorem dec_digs:∀(k u:Nat),u<k→∀b∈Lib.decDigits u,isD b=true
 |0,_,h,_,_=>absurd h (Nat.not_lt_zero _)
 |k+1,u,h,b,hb=>by
  rw[Lib.decDigits]at hb
  have hd:∀m,m<10→isD (UInt8.ofNat (48+m))=true:=by decide
  split at hb
  ·rename_i h1
   rw[List.mem_singleton]at hb;subst hb
   exact hd u h1
  ·rcases List.mem_append.1 hb with hb|hb
   ·exact dec_digs k (u / 10) (by omega) b hb
   ·rw[List.mem_singleton]at hb;subst hb
    exact hd (u % 10) (by omega)
theorem itoa_digs {m:Int}(h:0≤m):∀b∈Lib.itoa m,isD b=true:=by
 unfold Lib.itoa
 rw[if_neg (by omega)]
 exact dec_digs _ _ (Nat.lt_succ_self _)
theorem join_two {x y:List UInt8}{r:List (List UInt8)}{t:List UInt8}:Lib.join (x::y::r) t=x++(t++Lib.join (y::r) t):=by
 rw[Lib.join_cons,Lib.join_cons]
 simp[Lib.joinTail]
end Go.Proofs.YtanojbajfgcjeaaGreatDoor

namespace Go.Proofs.YtanojbajfgcjeaaGreatDoor
open Go.Sha Go.RowKit
set_option maxRecDepth 100000
variable {g:List (Nat×Obj)}{n:Nat}
end Go.Proofs.YtanojbajfgcjeaaGreatDoor

namespace Go.Proofs.YtanojbajfgcjeaaGreatDoor
open Go.Sha
set_option maxRecDepth 100000
variable {g:List (Nat×Obj)}{n:Nat}
end Go.Proofs.YtanojbajfgcjeaaGreatDoor

namespace Go.Proofs.YtanojbajfgcjeaaGreatDoor
open Go.Sha
set_option maxRecDepth 10000
def B21_0:Cd:=(.g [.b 21 .lss 20 19] (.join [1,5,18,19,20] (.i 21 .skip (.exit [1,5] 0)) (.join [1,5,18,19,20] (.block 1 (.g [.r 22 4 18 20,.d 23 4 22,.s 7 (.alloc 116 [(.str []),.i 0,.i 0,.nils]),.w 4 7 23] (.z [7] (.reg [.m 24 5,.a 25 0 7,.l 26 25,.a 27 1 7,.l 28 27,.n (.act (.mset .s) [.t 24,.t 26,.t 28])])))) (.reg [.v 29 .add 20 1,.m 20 29]))))
def B21_1:Cd:=(.g [.b 37 .lss 36 35] (.join [5,8,34,35,36] (.i 37 .skip (.exit [8] 2)) (.join [5,8,34,35,36] (.block 3 (.g [.r 38 7 34 36,.d 39 7 38,.s 10 (.alloc 120 [.i 0,.i 0,(.str []),.i 0,.i 0,.i 0,(.str [])]),.w 7 10 39] (.z [10] (.greg [[],[],[],[],[],[],[],[],[],[],[],[],[false,false,false,true,true,true,true,true,true,true,true,true],[],[],[],[true],[],[true],[true],[false,false,false,false,false,false,false,false,false,false,false,false,false,false,false,false,false,false,false,true],[],[false,false,false,false,false,false,false,false,false,false,false,false,false,false,false,false,false,false,false,false,false,true],[false,false,false,false,false,false,false,false,false,false,false,false,false,false,false,false,false,false,false,false,false,false,false],[]] [.m 40 8,.a 41 3 10,.l 42 41,.f 43 58 42,.a 44 4 10,.l 45 44,.f 46 58 45,.a 47 4 10,.l 48 47,.m 49 5,.a 50 2 10,.l 51 50,.s 52 (.act (.look .s (.i 0) false) [.t 49,.t 51]),.b 53 .add 48 52,.v 54 .sub 53 1,.f 55 58 54,.d 56 7 10,.f 57 59 56,.a 58 2 10,.l 59 58,.s 60 (.bslice 9 1 [.t 43,.t 46,.t 55,.t 57,.t 59]),.f 61 55 60,.s 62 (.bslice 31 1 [.t 61]),.s 63 (.append 31 1 24 (.t 40) (.t 62)),.m 8 63])))) (.reg [.v 64 .add 36 1,.m 36 64]))))
theorem F21:compF Tryz.prog 21=some ⟨66,[.tmp 2,.tmp 3],(.g [.q 1 50 0,.s 2 (.mv (.c .nils)),.c 3 0] (.z [1] (.join [1] (.g [.d 11 9 1,.f 12 54 11,.m 4 12] (.g [.m 13 4,.v 14 .neq 13 0] (.i 14 (.g [.m 15 4,.s 2 (.mv (.c .nils)),.m 3 15] (.ret [2,3])) .skip))) (.g [.s 16 (.act .mkmap []),.m 5 16] (.join [1,5] (.g [.a 17 2 1,.l 18 17,.u 19 18,.c 20 0] (.block 0 (.loop [1,5,18,19,20] [] B21_0))) (.g [.s 30 (.bslice 9 1 [(.w [117,110,105,118,101,114,115,101]),(.w [102,114,111,109]),(.w [116,111]),(.w [99,104,97,110,110,101,108]),(.w [112,114,111,102,105,108,101])]),.f 31 55 30,.s 32 (.bslice 31 1 [.t 31]),.m 8 32] (.join [8] (.g [.d 33 9 1,.s 34 (.f 56 [.t 33,(.c (.fn (.func 57) [] []))]),.u 35 34,.c 36 0] (.block 2 (.loop [5,8,34,35,36] [(8,(31,1))] B21_1))) (.g [.m 65 8,.m 2 65,.c 3 0] (.ret [2,3])))))))))⟩:=by kernel_rfl
def B35_0:Cd:=(.g [.b 20 .lss 19 18] (.join [5,17,18,19] (.i 20 .skip (.exit [5] 0)) (.join [5,17,18,19] (.block 1 (.g [.r 21 7 17 19,.d 22 7 21,.s 7 (.alloc 120 [.i 0,.i 0,(.str []),.i 0,.i 0,.i 0,(.str [])]),.w 7 7 22] (.z [7] (.greg [[],[],[],[],[],[],[],[],[],[],[],[],[],[],[],[],[false,false,false,false,false,false,false,false,false,false,false,false,false,false,false,true],[],[false,false,false,false,false,false,false,false,false,false,false,false,false,false,false,false,false,true],[false,false,false,false,false,false,false,false,false,false,false,false,false,false,false,false,false,false,false],[]] [.m 23 5,.d 24 7 7,.f 25 59 24,.a 26 2 7,.l 27 26,.a 28 3 7,.l 29 28,.f 30 58 29,.a 31 4 7,.l 32 31,.f 33 58 32,.a 34 5 7,.l 35 34,.f 36 58 35,.a 37 6 7,.l 38 37,.s 39 (.bslice 9 1 [.t 25,.t 27,.t 30,.t 33,.t 36,.t 38]),.f 40 55 39,.s 41 (.bslice 31 1 [.t 40]),.s 42 (.append 31 1 24 (.t 23) (.t 41)),.m 5 42])))) (.reg [.v 43 .add 19 1,.m 19 43]))))
theorem F35:compF Tryz.prog 35=some ⟨45,[.tmp 2,.tmp 3],(.g [.q 1 50 0,.s 2 (.mv (.c .nils)),.c 3 0] (.z [1] (.join [1] (.g [.d 8 9 1,.f 9 54 8,.m 4 9] (.g [.m 10 4,.v 11 .neq 10 0] (.i 11 (.g [.m 12 4,.s 2 (.mv (.c .nils)),.m 3 12] (.ret [2,3])) .skip))) (.g [.s 13 (.bslice 9 1 [(.w [99,104,97,110,110,101,108]),(.w [112,114,111,102,105,108,101]),(.w [117,110,105,118,101,114,115,101]),(.w [97,100,100,114,101,115,115]),(.w [112,104,97,115,101]),(.w [99,97,98,108,101])]),.f 14 55 13,.s 15 (.bslice 31 1 [.t 14]),.m 5 15] (.join [5] (.g [.d 16 9 1,.s 17 (.f 56 [.t 16,(.c (.fn (.func 89) [] []))]),.u 18 17,.c 19 0] (.block 0 (.loop [5,17,18,19] [(5,(31,1))] B35_0))) (.g [.m 44 5,.m 2 44,.c 3 0] (.ret [2,3])))))))⟩:=by kernel_rfl
theorem F56:compF Tryz.prog 56=some ⟨13,[.tmp 4],(.g [.q 2 50 0,.q 3 121 1,.s 4 (.mv (.c .nils))] (.z [2,3] (.g [.a 6 3 2,.l 7 6,.f 8 121 7,.m 5 8] (.g [.m 9 5,.s 10 (.mkfn (.func 123) [] [.t 3]),.g' 11 122 9 10] (.g [.m 12 5,.m 4 12] (.ret [4]))))))⟩:=by kernel_rfl
theorem F57:compF Tryz.prog 57=some ⟨8,[.tmp 2,.tmp 3],(.g [.q 1 120 0,.c 2 0,.c 3 0] (.z [1] (.q (.dreg 6 [.a 4 3 1,.l 5 4,.a 6 4 1,.l 7 6,.m 2 5,.m 3 7]) (.ret [2,3]))))⟩:=by kernel_rfl
theorem F59:compF Tryz.prog 59=some ⟨17,[.tmp 2],(.g [.q 1 120 0,.s 2 (.mv (.w []))] (.z [1] (.join [1] (.g [.a 3 1 1,.l 4 3,.v 5 .eql 4 1] (.i 5 (.g [.a 6 0 1,.l 7 6,.f 8 58 7,.m 2 8] (.ret [2])) .skip)) (.q (.dreg 9 [.a 9 0 1,.l 10 9,.f 11 58 10,.s 12 (.bin .add (.t 11) (.w [46])),.a 13 1 1,.l 14 13,.f 15 58 14,.b 16 .add 12 15,.m 2 16]) (.ret [2])))))⟩:=by kernel_rfl
theorem F89:compF Tryz.prog 89=some ⟨8,[.tmp 2,.tmp 3],(.g [.q 1 120 0,.c 2 0,.c 3 0] (.z [1] (.q (.dreg 6 [.a 4 0 1,.l 5 4,.a 6 1 1,.l 7 6,.m 2 5,.m 3 7]) (.ret [2,3]))))⟩:=by kernel_rfl
theorem F121:compF Tryz.prog 121=some ⟨8,[.tmp 2],(.g [.s 2 (.mv (.c .nils))] (.join [0] (.g [.m 3 0,.s 4 (.nilk false (.t 3))] (.i 4 (.g [.s 2 (.mv (.c .nils))] (.ret [2])) .skip)) (.g [.s 5 (.bslice 120 7 []),.m 6 0,.s 7 (.append 120 7 72 (.t 5) (.t 6)),.m 2 7] (.ret [2]))))⟩:=by kernel_rfl
theorem F122:compF Tryz.prog 122=some ⟨9,[],(.reg [.m 4 0,.m 5 0,.u 6 5,.m 7 1,.s 8 (.f 197 [.t 4,.t 6,.t 7])])⟩:=by kernel_rfl
theorem F123:compF Tryz.prog 123=some ⟨30,[.tmp 5],(.g [.q 3 120 0,.q 4 120 1,.c 5 0] (.z [3,4] (.g [.l 11 2,.d 12 7 3,.s 13 (.call (.t 11) [.t 12]),.m 10 13,.j 14 0 10,.j 15 1 10,.m 6 14,.m 7 15] (.g [.l 17 2,.d 18 7 4,.s 19 (.call (.t 17) [.t 18]),.m 16 19,.j 20 0 16,.j 21 1 16,.m 8 20,.m 9 21] (.g [.m 22 6,.m 23 8,.g' 24 125 22 23,.m 25 7,.m 26 9,.g' 27 125 25 26,.s 28 (.bslice 3 1 [.t 24,.t 27]),.f 29 124 28,.m 5 29] (.ret [5]))))))⟩:=by kernel_rfl
def B124_0:Cd:=(.g [.b 9 .lss 8 7] (.join [3,6,7,8] (.i 9 .skip (.exit [3] 0)) (.join [3,6,7,8] (.block 1 (.g [.r 10 1 6 8,.l 11 10,.m 5 11] (.g [.m 12 5,.m 13 3,.b 14 .neq 12 13] (.i 14 (.g [.m 15 5,.m 2 15] (.ret [2])) .skip)))) (.reg [.v 16 .add 8 1,.m 8 16]))))
theorem F124:compF Tryz.prog 124=some ⟨18,[.tmp 2],(.g [.c 2 0] (.g [.c 3 0] (.join [3] (.g [.m 6 0,.u 7 6,.c 8 0] (.block 0 (.loop [3,6,7,8] [] B124_0))) (.g [.m 17 3,.m 2 17] (.ret [2])))))⟩:=by kernel_rfl
theorem F125:compF Tryz.prog 125=some ⟨20,[.tmp 4],(.g [.c 4 0] (.g [.m 7 0,.f 8 198 7,.m 5 8] (.g [.m 9 1,.f 10 198 9,.m 6 10] (.join [0,1,6] (.g [.m 11 5] (.i 11 (.join [] (.g [.m 12 6] (.i 12 (.g [.c 4 0] (.ret [4])) .skip)) (.g [.c 4 (-1)] (.ret [4]))) .skip)) (.join [0,1] (.g [.m 13 6] (.i 13 (.g [.c 4 1] (.ret [4])) .skip)) (.join [0,1] (.g [.m 14 0,.m 15 1,.b 16 .lss 14 15] (.i 16 (.g [.c 4 (-1)] (.ret [4])) .skip)) (.join [] (.g [.m 17 0,.m 18 1,.b 19 .gtr 17 18] (.i 19 (.g [.c 4 1] (.ret [4])) .skip)) (.g [.c 4 0] (.ret [4])))))))))⟩:=by kernel_rfl
def B197_0:Cd:=(.join [0,1,2,6,7,8] (.g [.m 11 8,.m 12 1,.b 13 .leq 11 12] (.i 13 .skip (.exit [0,1,2,6,7] 0))) (.block 1 (.g [.m 14 0,.m 15 7,.m 16 8,.m 17 2,.s 18 (.f 273 [.t 14,.t 15,.t 16,.t 17])] (.g [.m 19 8,.m 7 19] (.reg [.m 20 8,.m 21 6,.b 22 .add 20 21,.m 8 22])))))
def B197_1:Cd:=(.join [0,1,2,6,7,8] (.g [.m 33 8,.m 34 1,.b 35 .leq 33 34] (.i 35 .skip (.exit [0,1,2,6,7] 4))) (.block 5 (.g [.m 36 0,.m 37 7,.m 38 7,.m 39 6,.b 40 .add 38 39,.m 41 8,.m 42 2,.s 43 (.f 274 [.t 36,.t 37,.t 40,.t 41,.t 42])] (.g [.m 44 8,.m 7 44] (.reg [.m 45 8,.m 46 6,.s 47 (.bin .mul (.i 2) (.t 46)),.b 48 .add 45 47,.m 8 48])))))
def B197_2:Cd:=(.join [0,1,2,6] (.g [.m 28 6,.m 29 1,.b 30 .lss 28 29] (.i 30 .skip (.exit [] 2))) (.block 3 (.g [.m 31 6,.s 32 (.bin .mul (.i 2) (.t 31)),.c 7 0,.m 8 32] (.join [0,1,2,6,7] (.block 4 (.loop [0,1,2,6,7,8] [] B197_1)) (.join [0,1,2,6] (.g [.m 49 7,.m 50 6,.b 51 .add 49 50,.m 9 51] (.g [.m 52 9,.m 53 1,.b 54 .lss 52 53] (.i 54 (.reg [.m 55 0,.m 56 7,.m 57 9,.m 58 1,.m 59 2,.s 60 (.f 274 [.t 55,.t 56,.t 57,.t 58,.t 59])]) .skip))) (.reg [.m 61 6,.v 62 .mul 61 2,.m 6 62]))))))
theorem F197:compF Tryz.prog 197=some ⟨63,[],(.g [.c 6 20] (.g [.m 10 6,.c 7 0,.m 8 10] (.join [0,1,2,6,7] (.block 0 (.loop [0,1,2,6,7,8] [] B197_0)) (.g [.m 23 0,.m 24 7,.m 25 1,.m 26 2,.s 27 (.f 273 [.t 23,.t 24,.t 25,.t 26])] (.block 2 (.loop [0,1,2,6] [] B197_2))))))⟩:=by kernel_rfl
def B273_0:Cd:=(.join [0,1,2,3,8,9] (.join [0,1,2,3,8,9,34] (.dreg 17 [.m 18 9,.m 19 1,.b 20 .gtr 18 19,.m 21 20,.my 22 3 21,.my 23 0 21,.my 24 9 21,.ry 25 7 23 24 21,.y 26 (.load (some 7) (.t 25)) 21,.my 27 0 21,.my 28 9 21,.vy 29 .sub 28 1 21,.ry 30 7 27 29 21,.y 31 (.load (some 7) (.t 30)) 21,.y 32 (.call (.t 22) [.t 26,.t 31]) 21,.vy 33 .lss 32 0 21,.e 34 21 33]) (.i 34 .skip (.exit [0,1,2,3,8] 2))) (.join [0,1,2,3,8,9] (.block 3 (.greg [[],[],[],[],[],[],[],[],[],[],[],[],[],[],[],[false,false,false,false,false,false,false,false,false,false,true,true,true,false,false],[],[false,false,false,false,false,false,false,false,false,false,false,false,false,false,false,false,false]] [.m 37 0,.m 38 9,.m 39 0,.m 40 9,.v 41 .sub 40 1,.m 42 0,.m 43 9,.v 44 .sub 43 1,.r 45 7 42 44,.d 46 7 45,.m 47 0,.m 48 9,.r 49 7 47 48,.d 50 7 49,.r 51 7 37 38,.w 7 51 46,.r 52 7 39 41,.w 7 52 50])) (.reg [.m 35 9,.v 36 .sub 35 1,.m 9 36])))
def B273_1:Cd:=(.join [0,1,2,3,8] (.g [.m 12 8,.m 13 2,.b 14 .lss 12 13] (.i 14 .skip (.exit [] 0))) (.join [0,1,2,3,8] (.block 1 (.g [.m 17 8,.m 9 17] (.block 2 (.loop [0,1,2,3,8,9] [] B273_0)))) (.reg [.m 15 8,.v 16 .add 15 1,.m 8 16])))
theorem F273:compF Tryz.prog 273=some ⟨53,[],(.g [.m 10 1,.v 11 .add 10 1,.m 8 11] (.block 0 (.loop [0,1,2,3,8] [] B273_1)))⟩:=by kernel_rfl
theorem F198:compF Tryz.prog 198=some ⟨6,[.tmp 2],(.g [.k 2 false] (.g [.m 3 0,.m 4 0,.b 5 .neq 3 4,.m 2 5] (.ret [2])))⟩:=by kernel_rfl
end Go.Proofs.YtanojbajfgcjeaaGreatDoor

namespace Go.Proofs.YtanojbajfgcjeaaGreatDoor
open Go.Sha
set_option maxRecDepth 100000
variable {g:List (Nat×Obj)}{n:Nat}
def memC:List Nat:=[54,58]
noncomputable def HC:EvF:=⟨HH.raw,fun f args st=>bif Nat.beq f 121 then hClone 120 7 72 args st else bif memL f memC then run Tryz.prog HH f args st else none⟩
@[push_cast]theorem HC_raw:HC.raw=[81,122,197,273,274,343,376]:=idq rfl
theorem HC_ok (h1:ESound Tryz.prog HH):ESound Tryz.prog HC:=fun f args st r s h=>by
 simp only[HC]at h
 by_cases hf:f=121
 ·subst hf
  simp only[show Nat.beq 121 121=true from rfl,cond_true]at h
  exact clone_ok F121 h
 rw[show Nat.beq f 121=false from Bool.eq_false_iff.2 fun e=>hf (Nat.eq_of_beq_eq_true e),cond_false]at h
 cases hi:memL f memC with
 |false=>rw[hi]at h;cases h
 |true=>rw[hi]at h;exact run_sound mixed h1 _ _ _ _ _ h
theorem upC {k:Nat}{args:List V}{st:St}{r:VRes×St}(h:run Tryz.prog HH k args st=some r)(h1:Nat.beq k 121=false:=by rfl)(h2:memL k memC=true:=by rfl):run Tryz.prog HC k args st=some r:=by
 refine run_H ?_
 simp only[HC,h1,h2,cond_false,cond_true,h]
def cmpI (a b:Int):Int:=if a<b then -1 else if b<a then 1 else 0
def cmpK (key:Fixt→Int×Int)(x y:Fixt):Int:=if cmpI (key x).1 (key y).1=0 then cmpI (key x).2 (key y).2 else cmpI (key x).1 (key y).1
def ltK (key:Fixt→Int×Int)(x y:Fixt):Prop:=(key x).1<(key y).1∨(key x).1=(key y).1∧(key x).2<(key y).2
instance {key:Fixt→Int×Int}{x y:Fixt}:Decidable (ltK key x y):=by unfold ltK;exact inferInstance
theorem cmp_lt {key:Fixt→Int×Int}{x y:Fixt}:(cmpK key x y<0)=ltK key x y:=by
 unfold cmpK cmpI ltK
 rw[eq_iff_iff]
 split<;>(repeat' split)<;>omega
theorem f198 {a:Int}{st:St}:run Tryz.prog HC 198 [.int .i64 a] st=some (.ret (.bool false),st):=by
 rw[run_shut F198 rfl rfl (by simp)]
 push_cast
 all_goals first|with_reducible rfl|exact dn_eq (by omega) (by with_reducible rfl)|((repeat' split)<;>(try simp_all)<;>(try (with_reducible refine dn_eq ?_ ?_<;>first|trivial|omega|rfl))<;>(try omega))
theorem f125 {a b:Int}{st:St}:run Tryz.prog HC 125 [.int .i64 a,.int .i64 b] st=some (.ret (.int .i64 (cmpI a b)),st):=by
 rw[run_shut F125 rfl rfl (by simp)]
 push_cast[f198,cmpI]
 all_goals first|with_reducible rfl|exact dn_eq (by omega) (by with_reducible rfl)|((repeat' split)<;>(try simp_all)<;>(try (with_reducible refine dn_eq ?_ ?_<;>first|trivial|omega|rfl))<;>(try omega))
theorem f124 {a b:Int}{st:St}:run Tryz.prog HC 124 [.sl [.int .i64 a,.int .i64 b]] st=some (.ret (.int .i64 (if a=0 then b else a)),st):=by
 rw[run_shut F124 rfl rfl (by simp)]
 push_cast[runL_of B124_0.eq_1]
 all_goals first|with_reducible rfl|exact dn_eq (by omega) (by with_reducible rfl)|((repeat' split)<;>(try simp_all)<;>(try (with_reducible refine dn_eq ?_ ?_<;>first|trivial|omega|rfl))<;>(try omega))
def kAddr (x:Fixt):Int×Int:=(x.univ,x.addr)
def kChan (x:Fixt):Int×Int:=(x.chan,x.part)
theorem f57 {x:Fixt}{st:St}:run Tryz.prog HC 57 [x.v] st=some (.ret (.tup [.int .i64 (kAddr x).1,.int .i64 (kAddr x).2]),st):=by
 rw[run_shut F57 rfl rfl (by simp)]
 push_cast[Fixt.v,kAddr]
 all_goals first|with_reducible rfl|exact dn_eq (by omega) (by with_reducible rfl)|((repeat' split)<;>(try simp_all)<;>(try (with_reducible refine dn_eq ?_ ?_<;>first|trivial|omega|rfl))<;>(try omega))
theorem f89 {x:Fixt}{st:St}:run Tryz.prog HC 89 [x.v] st=some (.ret (.tup [.int .i64 (kChan x).1,.int .i64 (kChan x).2]),st):=by
 rw[run_shut F89 rfl rfl (by simp)]
 push_cast[Fixt.v,kChan]
 all_goals first|with_reducible rfl|exact dn_eq (by omega) (by with_reducible rfl)|((repeat' split)<;>(try simp_all)<;>(try (with_reducible refine dn_eq ?_ ?_<;>first|trivial|omega|rfl))<;>(try omega))
def KeyF (k:Nat)(key:Fixt→Int×Int):Prop:=∀x st,run Tryz.prog HC k [Fixt.v x] st=some (.ret (.tup [.int .i64 (key x).1,.int .i64 (key x).2]),st)
@[reducible] def keyV (k:Nat):V:=.ep (.agg [.fn (.func k) [] []]) 0
@[reducible] def cmpV (k:Nat):V:=.fn (.func 123) [] [keyV k]
theorem f123 {k:Nat}{key:Fixt→Int×Int}(hk:KeyF k key)(h0:memL k [81,122,197,273,274,343,376]=false){x y:Fixt}{st:St}:run Tryz.prog HC 123 [x.v,y.v,keyV k] st=some (.ret (.int .i64 (cmpK key x y)),st):=by
 have hk:=fun x st=>hk x st
 rw[run_shut F123 rfl rfl (by simp)]
 push_cast[Fixt.v]at hk
 push_cast[Fixt.v,hk,h0,f125,f124,cmpK]
def insW {α:Type}(lt:α→α→Prop)[∀x y,Decidable (lt x y)]:List α→α→List α→List α
 |[],x,s=>x::s
 |y::r,x,s=>if lt x y then insW lt r x (y::s) else r.reverse++y::x::s
def stK (g:List (Nat×Obj))(xs:List Fixt):St:=⟨3,[],[(2,⟨120,7,xs.map Fixt.v,true,false⟩)],⟨[],g,[]⟩⟩
@[push_cast]theorem stK_eq {xs:List Fixt}:stK g xs=⟨3,[],[(2,⟨120,7,xs.map Fixt.v,true,false⟩)],⟨[],g,[]⟩⟩:=idq rfl
theorem L273_0 {k:Nat}{key:Fixt→Int×Int}(hk:KeyF k key)(h0:memL k [81,122,197,273,274,343,376]=false){m i N:Nat}(hN:N<1000):∀(r:List Fixt) (x:Fixt) (s:List Fixt),r.length+1+s.length=N →
  runL Tryz.prog HC [0,1,2,3,8,9] 3 B273_0 [(0,.osl 2 N),(1,.int .i64 0),(2,.int .i64 m),(3,cmpV k),(8,.int .i64 i),(9,.int .i64 r.length)] (stK g (r.reverse++x::s))
   = some (.exit 2,[(0,.osl 2 N),(1,.int .i64 0),(2,.int .i64 m),(3,cmpV k),(8,.int .i64 i)],stK g (insW (ltK key) r x s)):=by
 have h123:=fun x y st=>f123 hk h0 (x:=x) (y:=y) (st:=st)
 intro r
 induction r with
 |nil =>
  intro x s hl
  rw[runL_of B273_0.eq_1]
  push_cast[List.length_nil,List.reverse_nil,List.nil_append,insW]
 |cons y r ih =>
  intro x s hl
  rw[List.length_cons]at hl
  have ih:=ih x (y::s) (by rw[List.length_cons];omega)
  have e1:((y::r).reverse++x::s).length=N:=by simp;omega
  have e2:∀d,((y::r).reverse++x::s).getD (r.length+1) d=x:=fun d=>by simp[List.getD_eq_getElem?_getD]
  have e3:∀d,((y::r).reverse++x::s).getD r.length d=y:=fun d=>by simp[List.getD_eq_getElem?_getD]
  have e4:(((y::r).reverse++x::s).map Fixt.v).getD (r.length+1) V.und=x.v:=by simp[List.getD_eq_getElem?_getD]
  have e5:(((y::r).reverse++x::s).map Fixt.v).getD r.length V.und=y.v:=by simp[List.getD_eq_getElem?_getD]
  have e6:((y::r).reverse++x::s)[r.length+1]?=some x:=by simp
  have e7:((((y::r).reverse++x::s).map Fixt.v).set (r.length+1) y.v)[r.length]?=some y.v:=by simp
  have e8:((((y::r).reverse++x::s).map Fixt.v).set (r.length+1) y.v).set r.length x.v=(r.reverse++x::y::s).map Fixt.v:=by simp
  have w1:IntKind.i64.wrap (((r.length:Nat):Int)+1-1)=r.length:=by rw[iwrap (by omega) (by omega)];omega
  have c1:(0:Int)<((r.length:Nat):Int)+1:=by omega
  have c2:((r.length:Nat):Int)+1<N:=by omega
  have c3:(r.length:Int)<N:=by omega
  have d2:r.length+1<N:=by omega
  have d3:r.length<N:=by omega
  rw[insW,List.length_cons]
  generalize hxs:(y::r).reverse++x::s=xs at *
  rw[runL_of B273_0.eq_1]
  push_cast[Fixt.v]at h123 ih
  simp only[Fixt.v]at e7 e8
  push_cast[e1,e2,e3,e4,e5,e6,e7,e8,w1,c1,c2,c3,d2,d3,Fixt.v,h123,stoB,V.cells,V.recell,cmp_lt]
  refine dn_eq (fun _=>by simp[e1]) ?_
  split
  ·exact ih
  ·simp[←hxs]
theorem insW_app {α:Type}{lt:α→α→Prop}[∀x y,Decidable (lt x y)]:∀{r:List α}{x:α}{s:List α},insW lt r x s=insW lt r x []++s
 |[],x,s=>rfl
 |y::r,x,s=>by
  rw[insW,insW]
  split
  ·rw[insW_app (s:=y::s),insW_app (s:=[y])];simp
  ·simp
theorem insW_len {α:Type}{lt:α→α→Prop}[∀x y,Decidable (lt x y)]:∀{r:List α}{x:α}{s:List α},(insW lt r x s).length=r.length+s.length+1
 |[],x,s=>by simp[insW]
 |y::r,x,s=>by
  rw[insW]
  split
  ·rw[insW_len];simp;omega
  ·simp;omega
def insS {α:Type}(lt:α→α→Prop)[∀x y,Decidable (lt x y)](out:List α)(x:α):List α:=insW lt out.reverse x []
def isort {α:Type}(lt:α→α→Prop)[∀x y,Decidable (lt x y)](l:List α):List α:=l.foldl (insS lt) []
theorem insS_len {α:Type}{lt:α→α→Prop}[∀x y,Decidable (lt x y)]{l:List α}{x:α}:(insS lt l x).length=l.length+1:=by
 rw[insS,insW_len];simp
theorem isort_len {α:Type}{lt:α→α→Prop}[∀x y,Decidable (lt x y)]{l:List α}:(isort lt l).length=l.length:=by
 suffices ∀o:List α,(l.foldl (insS lt) o).length=o.length+l.length by simpa [isort] using this []
 induction l with
 |nil=>intro o;rfl
 |cons x l ih=>intro o;rw[List.foldl_cons,ih,insS_len,List.length_cons];omega
theorem L273_1 {k:Nat}{key:Fixt→Int×Int}(hk:KeyF k key)(h0:memL k [81,122,197,273,274,343,376]=false){l:List Fixt}(hN:l.length<1000):∀(r:List Fixt) (j:Nat),l.drop j=r→∀out:List Fixt,out.length=j →
  runL Tryz.prog HC [0,1,2,3,8] 3 B273_1 [(0,.osl 2 l.length),(1,.int .i64 0),(2,.int .i64 l.length),(3,cmpV k),(8,.int .i64 j)] (stK g (out++r))
   = some (.exit 0,[],stK g (r.foldl (insS (ltK key)) out)):=by
 refine drop_ind (fun j h out ho=>?_) (fun q r j h hx hd ih out ho=>?_)
 all_goals rw[runL_of B273_1.eq_1]
 ·have h1:¬(j:Int)<l.length:=by omega
  push_cast[h1,List.foldl_nil,List.append_nil]
 ·have h1:(j:Int)<l.length:=by omega
  have hw:=iw1 (j:=j) (by omega)
  have hL:=L273_0 (g:=g) (m:=l.length) (i:=j) hk h0 hN out.reverse q r (by
   have:=congrArg List.length hd
   simp at this ⊢;omega)
  have ih:=ih (insS (ltK key) out q) (by rw[insS_len,ho])
  rw[insW_app,List.reverse_reverse,List.length_reverse,ho]at hL
  rw[List.foldl_cons]
  push_cast[insS]at ih hL
  push_cast[h1,hw,hL,insS]
  exact ih
theorem f273 {k:Nat}{key:Fixt→Int×Int}(hk:KeyF k key)(h0:memL k [81,122,197,273,274,343,376]=false){l:List Fixt}(hN:l.length<1000):run Tryz.prog HC 273 [.osl 2 l.length,.int .i64 0,.int .i64 l.length,cmpV k] (stK g l)=some (.ret (.tup []),stK g (isort (ltK key) l)):=by
 cases l with
 |nil =>
  rw[run_open F273 rfl rfl (by simp)]
  push_cast[runL_of B273_1.eq_1,isort,List.foldl_nil,List.length_nil]
 |cons x l =>
  have hL:=L273_1 (g:=g) hk h0 hN l 1 rfl [x] rfl
  have e:(x::l).foldl (insS (ltK key)) []=l.foldl (insS (ltK key)) [x]:=by simp[insS,insW]
  have hlen:(isort (ltK key) (x::l)).length=(x::l).length:=isort_len
  rw[isort,e]at hlen ⊢
  rw[List.singleton_append]at hL
  rw[run_open F273 rfl rfl (by simp)]
  generalize hxs:x::l=xs at *
  push_cast at hL
  push_cast[hL,hlen]
theorem f197 {k:Nat}{key:Fixt→Int×Int}(hk:KeyF k key)(h0:memL k [81,122,197,273,274,343,376]=false){l:List Fixt}(hN:l.length<20):run Tryz.prog HC 197 [.osl 2 l.length,.int .i64 l.length,cmpV k] (stK g l)=some (.ret (.tup []),stK g (isort (ltK key) l)):=by
 have h273:=f273 (g:=g) hk h0 (l:=l) (by omega)
 have hlen:(isort (ltK key) l).length=l.length:=isort_len
 have h1:¬(20:Int)≤l.length:=by omega
 have h2:¬(20:Int)<l.length:=by omega
 rw[run_open F197 rfl rfl (by simp)]
 push_cast at h273
 push_cast[runL_of B197_0.eq_1,runL_of B197_2.eq_1,h273,h1,h2,hlen]
theorem f122 {k:Nat}{key:Fixt→Int×Int}(hk:KeyF k key)(h0:memL k [81,122,197,273,274,343,376]=false){l:List Fixt}(hN:l.length<20):run Tryz.prog HC 122 [.osl 2 l.length,cmpV k] (stK g l)=some (.ret (.tup []),stK g (isort (ltK key) l)):=by
 have h197:=f197 (g:=g) hk h0 hN
 have hlen:(isort (ltK key) l).length=l.length:=isort_len
 rw[run_open F122 rfl rfl (by simp)]
 push_cast at h197
 push_cast[h197,hlen]
theorem f122n {k:Nat}{st:St}:run Tryz.prog HC 122 [.sl [],cmpV k] st=some (.ret (.tup []),st):=by
 have h197:∀st:St,run Tryz.prog HC 197 [.sl [],.int .i64 0,cmpV k] st=some (.ret (.tup []),st):=fun st=>by
  have h273:∀st:St,run Tryz.prog HC 273 [.sl [],.int .i64 0,.int .i64 0,cmpV k] st=some (.ret (.tup []),st):=fun st=>by
   rw[run_shut F273 rfl rfl (by simp)]
   push_cast[runL_of B273_1.eq_1]
  rw[run_shut F197 rfl rfl (by simp)]
  push_cast[runL_of B197_0.eq_1,runL_of B197_2.eq_1,h273]
 rw[run_shut F122 rfl rfl (by simp)]
 push_cast[h197]
theorem f56 {s:Sho}{k:Nat}{key:Fixt→Int×Int}(hk:KeyF k key)(h0:memL k [81,122,197,273,274,343,376]=false)(hN:s.fixts.length<20){st:St}:run Tryz.prog HC 56 [s.v,.fn (.func k) [] []] st=some (.ret (.sl ((isort (ltK key) s.fixts).map Fixt.v)),st):=by
 have hlen:(isort (ltK key) s.fixts).length=s.fixts.length:=isort_len
 rw[run_shut F56 rfl rfl (by simp[V.bdL,V.bd])]
 cases he:s.fixts with
 |nil =>
  have h1:∀st:St,run Tryz.prog HC 121 [.sl []] st=some (.ret (.sl []),st):=fun st=>run_H rfl
  push_cast[Sho.v,he,List.map_nil,h1,f122n,isort,List.foldl_nil]
 |cons x r =>
  rw[←he]
  have h1:run Tryz.prog HC 121 [.sl (s.fixts.map Fixt.v)] ⟨2,[],[],⟨[],st.x.gl,[]⟩⟩=some (.ret (.osl 2 s.fixts.length),stK st.x.gl s.fixts):=run_H (by
   have c1:((x::r).map Fixt.v).all fastA=true:=by rw[List.all_map,List.all_eq_true];exact fun y _=>rfl
   have c2:((x::r).map Fixt.v).all (fun y=>y.cells.length == 7)=true:=by rw[List.all_map,List.all_eq_true];exact fun y _=>rfl
   have c3:roomV ((x::r).map Fixt.v).length 72=true:=roomV_lit (by rw[List.length_map,←he];omega) (by rw[List.length_map,←he];omega)
   show hClone 120 7 72 [.sl (s.fixts.map Fixt.v)] _=_
   rw[he,List.map_cons]
   rw[List.map_cons]at c1 c2 c3
   rw[hClone,if_pos ⟨c1,c2,c3⟩,stK,List.map_cons];simp)
  have h2:=f122 (g:=st.x.gl) hk h0 hN
  push_cast at h1 h2
  push_cast[Sho.v,h1,h2,hlen]
end Go.Proofs.YtanojbajfgcjeaaGreatDoor

namespace Go.Proofs.YtanojbajfgcjeaaGreatDoor
open Go.Sha
set_option maxRecDepth 100000
variable {g:List (Nat×Obj)}{n:Nat}
theorem f58C {m:Int}(h0:-9223372036854775808≤m)(h1:m≤9223372036854775807){st:St}(hG:glB st.x.gl=true):run Tryz.prog HC 58 [.int .i64 m] st=some (.ret (.str (Lib.itoa m)),st):=upC (f58 h0 h1 hG)
theorem h66C {l:List V}(hb:V.bdL 0 l=true){st:St}:run Tryz.prog HC 55 [.sl l] st=some (.ret (.sl l),st):=by
 rw[run_shut F55 rfl rfl (by simpa [V.bdL,V.bd] using hb)]
 push_cast[hb]
def unitT (x:Fixt):List UInt8:=if x.part=1 then Lib.itoa x.chan else Lib.itoa x.chan++46::Lib.itoa x.part
theorem f59 {x:Fixt}(hx:rngC x=0){st:St}(hG:glB st.x.gl=true):run Tryz.prog HC 59 [x.v] st=some (.ret (.str (unitT x)),st):=by
 obtain⟨r1,r2,r3,r4,_⟩:=rng_ok hx
 have e1:=fun nx mem arr obj ty=>f58C (m:=x.chan) (st:=⟨nx,mem,arr,⟨obj,st.x.gl,ty⟩⟩) (by omega) (by omega) hG
 have e2:=fun nx mem arr obj ty=>f58C (m:=x.part) (st:=⟨nx,mem,arr,⟨obj,st.x.gl,ty⟩⟩) (by omega) (by omega) hG
 have l1:=Lib.itoa_length_le x.chan (by omega) (by omega)
 have l2:=Lib.itoa_length_le x.part (by omega) (by omega)
 rw[run_shut F59 rfl rfl (by simp)]
 by_cases h:x.part=1
 ·push_cast[Fixt.v,e1,h,unitT]
 ·push_cast[Fixt.v,e1,e2,h,unitT]
  exact dn_eq (by omega) rfl
def szE (l:List Prof):List (V×V):=l.map fun p=>(.str p.name,.int .i64 p.foot)
theorem find_szE {s:List UInt8}:∀{l:List Prof}{i:Nat},(pfx l s=none→findV (.str s) (szE l) i=some none)∧∀p,pfx l s=some p→∃j,findV (.str s) (szE l) i=some (some (j,.int .i64 p.foot))
 |[],i=>⟨fun _=>rfl,fun p h=>by simp[pfx]at h⟩
 |q::r,i=>by
  obtain⟨i1,i2⟩:=find_szE (s:=s) (l:=r) (i:=i+1)
  simp only[szE,List.map_cons,findV,sameV,pfx]at i1 i2 ⊢
  by_cases h:s=q.name
  ·refine⟨fun e=>by simp[h]at e,fun p e=>?_⟩
   simp[h]at e;subst e
   exact⟨i,by simp[h]⟩
  ·have h':¬q.name=s:=fun e=>h e.symm
   rw[show(s == q.name)=false by simp[h]]
   simp only[List.find?_cons,show(q.name == s)=false by simp[h']]
   exact⟨i1,i2⟩
theorem look_sz {st:St}{s:List UInt8}{l:List Prof}:lookB st (.int .i64 0) false (findV (.str s) (szE l) 0)=some (.int .i64 (((pfx l s).map Prof.foot).getD 0),st):=by
 cases h:pfx l s with
 |none=>rw[find_szE.1 h];rfl
 |some p=>obtain⟨j,hj⟩:=(find_szE (i:=0)).2 p h;rw[hj];rfl
theorem mset_sz {st:St}{i:Nat}{l:List Prof}{p:Prof}(h:pfx l p.name=none):msetB st i (szE l) (.str p.name) (.int .i64 p.foot) (findV (.str p.name) (szE l) 0)=some (.und,⟨st.nx,st.mem,st.arr,⟨updO st.x.obj i (.map (szE (l++[p]))),st.x.gl,st.x.ty⟩⟩):=by
 rw[find_szE.1 h];simp[msetB,putM,szE]
@[push_cast]theorem szE_all {l:List Prof}:((szE l).all fun p=>p.1.bd n&&p.2.bd n)=true:=by simp[szE,V.bd]
def stZa (g:List (Nat×Obj))(a:List Prof):St:=⟨2,[],[],⟨[(1,.map (szE a))],g,[]⟩⟩
@[push_cast]theorem stZa_eq {a:List Prof}:stZa g a=⟨2,[],[],⟨[(1,.map (szE a))],g,[]⟩⟩:=idq rfl
def Uniq (l:List Prof):Prop:=∀r q j,l.drop j=q::r→pfx (l.take j) q.name=none
theorem profsR_uniq {l:List Prof}{m:List (List Pt)}:∀{r:List Prof}{j:Nat},l.drop j=r→profsR l m r j=0→∀q r' i,j≤i→l.drop i=q::r'→pfx (l.take i) q.name=none
 |[],j,hd,_,q,r',i,hi,he=>by
  have h1:=congrArg List.length he
  have h2:=congrArg List.length hd
  simp at h1 h2;omega
 |z::r,j,hd,h,q,r',i,hi,he=>by
  rw[profsR]at h
  split at h
  ·rename_i a;exact absurd h a
  ·split at h
   ·cases h
   ·rename_i a
    by_cases e:i=j
    ·subst e
     rw[hd]at he;cases he
     rw[pfx,List.find?_eq_none]
     intro x hx hn
     exact a (List.any_eq_true.2 ⟨x,hx,hn⟩)
    ·refine profsR_uniq (r:=r) (j:=j+1) ?_ h q r' i (by omega) he
     rw[←List.drop_drop,hd];rfl
theorem uniq_of {s:Sho}(hs:shoC s=0):Uniq s.profs:=fun r q j h=>by
 have:=(shoC_parts hs).2.2.1
 unfold profsCR at this
 split at this
 ·cases this
 ·exact profsR_uniq (l:=s.profs) (r:=s.profs) (j:=0) rfl this q r j (Nat.zero_le _) h
theorem L21_0 {s:Sho}(hl:s.profs.length<140737488355328)(hu:Uniq s.profs):∀r j,s.profs.drop j=r →
  runL Tryz.prog HC [1,5,18,19,20] 2 B21_0 [(1,.ep s.v 0),(5,.mp 1),(18,.sl (s.profs.map Prof.v)),(19,.int .i64 s.profs.length),(20,.int .i64 j)] (stZa g (s.profs.take j))
   = some (.exit 0,[(1,.ep s.v 0),(5,.mp 1)],stZa g s.profs):=by
 refine drop_ind (fun j h=>?_) (fun q r j h hx hd ih=>?_)
 all_goals rw[runL_of B21_0.eq_1]
 ·have h1:¬(j:Int)<s.profs.length:=by omega
  have h2:s.profs.take j=s.profs:=List.take_of_length_le h
  push_cast[h1,h2]
 ·have h1:(j:Int)<s.profs.length:=by omega
  have hw:=iw1 (j:=j) (by omega)
  have h3:=fun(st:St) (i:Nat)=>mset_sz (st:=st) (i:=i) (hu r q j hd)
  rw[take_snoc hd]at ih
  push_cast[Sho.v,Prof.v]at ih
  push_cast[h1,hw,hx,Sho.v,Prof.v,h3]
  exact ih
def rowA (ps:List Prof)(x:Fixt):Row:=[Lib.itoa x.univ,Lib.itoa x.addr,Lib.itoa (x.addr+footS ps x-1),unitT x,x.prof]
def hdA:Row:=[[117,110,105,118,101,114,115,101],[102,114,111,109],[116,111],[99,104,97,110,110,101,108],[112,114,111,102,105,108,101]]
def stTA (g:List (Nat×Obj))(ps:List Prof)(tab:List Row):St:=⟨4,[],[(3,⟨31,1,tab.map rowV,false,false⟩),(2,⟨9,1,[.str [117,110,105,118,101,114,115,101],.str [102,114,111,109],.str [116,111],.str [99,104,97,110,110,101,108],.str [112,114,111,102,105,108,101]],false,false⟩)],⟨[(1,.map (szE ps))],g,[]⟩⟩
@[push_cast]theorem stTA_eq {ps:List Prof}{tab:List Row}:stTA g ps tab=⟨4,[],[(3,⟨31,1,tab.map rowV,false,false⟩),(2,⟨9,1,[.str [117,110,105,118,101,114,115,101],.str [102,114,111,109],.str [116,111],.str [99,104,97,110,110,101,108],.str [112,114,111,102,105,108,101]],false,false⟩)],⟨[(1,.map (szE ps))],g,[]⟩⟩:=idq rfl
theorem L21_1 {ps:List Prof}{l:List Fixt}(hG:glB g=true)(hl:l.length<1000)(hA:∀x∈l,aloC ps x=0):∀r j,l.drop j=r→∀tab:List Row,tab.length≤j+1 →
  runL Tryz.prog HC [5,8,34,35,36] 4 B21_1 [(5,.mp 1),(8,.osl 3 tab.length),(34,.sl (l.map Fixt.v)),(35,.int .i64 l.length),(36,.int .i64 j)] (stTA g ps tab)
   = some (.exit 2,[(8,.osl 3 (tab++r.map (rowA ps)).length)],stTA g ps (tab++r.map (rowA ps))):=by
 refine drop_ind (fun j h tab hc=>?_) (fun q r j hj hx hd ih tab hc=>?_)
 all_goals rw[runL_of B21_1.eq_1]
 ·have h1:¬(j:Int)<l.length:=by omega
  push_cast[h1,List.map_nil,List.append_nil]
 ·have h1:(j:Int)<l.length:=by omega
  have hw:=iw1 (j:=j) (by omega)
  have hq:=hA q (mem_at hd)
  have hr:=(aloC_ok hq).1
  obtain⟨⟨i1,i2,i3⟩,i4⟩:=aloC_in hq
  obtain⟨r1,r2,r3,r4,r5,r6,r7,r8,r9,r10⟩:=rng_ok hr
  have e1:=fun nx mem arr obj ty=>f58C (m:=q.univ) (st:=⟨nx,mem,arr,⟨obj,g,ty⟩⟩) (by omega) (by omega) hG
  have e2:=fun nx mem arr obj ty=>f58C (m:=q.addr) (st:=⟨nx,mem,arr,⟨obj,g,ty⟩⟩) (by omega) (by omega) hG
  have e3:=fun nx mem arr obj ty=>f58C (m:=q.addr+footS ps q-1) (st:=⟨nx,mem,arr,⟨obj,g,ty⟩⟩) (by omega) (by omega) hG
  have e4:=fun nx mem arr obj ty=>f59 (x:=q) (st:=⟨nx,mem,arr,⟨obj,g,ty⟩⟩) hr hG
  have e5:=fun(st:St)=>h66C (l:=(rowA ps q).map .str) (st:=st) (by simp[rowA,V.bdL,V.bd])
  have hm:=fun(st:St)=>look_sz (st:=st) (s:=q.prof) (l:=ps)
  have w1:IntKind.i64.wrap (q.addr+footS ps q)=q.addr+footS ps q:=iwrap (by omega) (by omega)
  have w2:IntKind.i64.wrap (q.addr+footS ps q-1)=q.addr+footS ps q-1:=iwrap (by omega) (by omega)
  have hro:roomV (tab.length+1) 24=true:=roomV_lit (by omega) (by omega)
  have ih:=ih (tab++[rowA ps q]) (by simp;omega)
  rw[←footS]at hm
  rw[List.map_cons]
  generalize hR:rowA ps q=R at *
  rw[rowA]at hR
  subst hR
  simp only[List.map_cons,List.map_nil]at e5
  push_cast[Fixt.v,List.map_nil,List.length_nil]at ih e4
  push_cast[h1,hw,hx,hm,w1,w2,e1,e2,e3,e4,e5,hro,Fixt.v,List.map_nil,List.length_nil,List.map_append,List.map_cons,List.append_assoc,List.singleton_append,rowV]at ih ⊢
  first|exact ih|exact dn_eq (by omega) ih
theorem insW_perm {α:Type}{lt:α→α→Prop}[∀x y,Decidable (lt x y)]:∀{r:List α}{x:α}{s:List α},(insW lt r x s).Perm (x::(r.reverse++s))
 |[],x,s=>.refl _
 |y::r,x,s=>by
  rw[insW]
  split
  ·refine insW_perm.trans (.cons _ ?_);simp
  ·have:=List.perm_middle (l₁:=r.reverse++[y]) (a:=x) (l₂:=s)
   simpa using this
theorem insS_perm {α:Type}{lt:α→α→Prop}[∀x y,Decidable (lt x y)]{l:List α}{x:α}:(insS lt l x).Perm (x::l):=by
 have:=insW_perm (lt:=lt) (r:=l.reverse) (x:=x) (s:=[])
 simpa [insS] using this
theorem isort_perm {α:Type}{lt:α→α→Prop}[∀x y,Decidable (lt x y)]{l:List α}:(isort lt l).Perm l:=by
 suffices ∀o:List α,(l.foldl (insS lt) o).Perm (o++l) by simpa [isort] using this []
 induction l with
 |nil=>intro o;simp
 |cons x l ih=>intro o;rw[List.foldl_cons];exact(ih _).trans ((insS_perm.append_right l).trans (by simpa using List.perm_middle.symm))
def sltT (s:Sho):List Row:=if shoC s=0 then hdA::(isort (ltK kAddr) s.fixts).map (rowA s.profs) else[]
theorem f54C {s:Sho}(h:s.ok){st:St}:run Tryz.prog HC 54 [s.v] st=some (.ret (.int .i64 (shoC s)),st):=upC (f54 h)
theorem f21 {s:Sho}(h:s.ok)(hF:shoC s=0→s.fixts.length<20){st:St}(hG:glB st.x.gl=true):run Tryz.prog HC 21 [s.v] st=some (.ret (.tup [.sl ((sltT s).map rowV),.int .i64 (shoC s)]),st):=by
 have h1:=fun st=>f54C (st:=st) h
 rw[run_shut F21 rfl rfl (by simp)]
 by_cases hs:shoC s=0
 ·have hL:=L21_0 (g:=st.x.gl) h.p.1 (uniq_of hs) _ 0 rfl
  have hp:=isort_perm (lt:=ltK kAddr) (l:=s.fixts)
  have hlen:(isort (ltK kAddr) s.fixts).length=s.fixts.length:=isort_len
  have hF:=hF hs
  have hL1:=L21_1 (g:=st.x.gl) (ps:=s.profs) hG (l:=isort (ltK kAddr) s.fixts) (by omega) (fun x hx=>(fix_ok (shoC_parts hs).2.2.2.1).2.2.2 x (hp.mem_iff.1 hx)) _ 0 rfl [hdA] (Nat.le_refl _)
  have h56:=fun st=>f56 (s:=s) (k:=57) (key:=kAddr) (fun x st=>f57) rfl hF (st:=st)
  have e4:=fun(st:St)=>h66C (l:=hdA.map .str) (st:=st) rfl
  rw[List.drop_zero]at hL1
  rw[List.take_zero]at hL
  simp only[hdA,List.map_cons,List.map_nil]at e4
  rw[hdA]at hL1
  rw[sltT,if_pos hs]
  generalize isort (ltK kAddr) s.fixts=so at *
  have e0:szE []=[]:=rfl
  push_cast[Sho.v,rowV,List.map_cons,List.map_nil,List.length_cons,List.length_nil,List.singleton_append,e0]at hL hL1 h1 h56
  push_cast[Sho.v,hL,hL1,h1,hs,h56,sltT,e4,e0,hdA,rowV,List.map_cons,List.map_nil,List.length_cons,List.length_nil,List.singleton_append]
 ·push_cast[Sho.v]at h1
  push_cast[Sho.v,h1,hs,sltT]
def rowH (x:Fixt):Row:=[unitT x,x.prof,Lib.itoa x.univ,Lib.itoa x.addr,Lib.itoa x.phase,x.cable]
def hdH:Row:=[[99,104,97,110,110,101,108],[112,114,111,102,105,108,101],[117,110,105,118,101,114,115,101],[97,100,100,114,101,115,115],[112,104,97,115,101],[99,97,98,108,101]]
def stTH (g:List (Nat×Obj))(tab:List Row):St:=⟨3,[],[(2,⟨31,1,tab.map rowV,false,false⟩),(1,⟨9,1,[.str [99,104,97,110,110,101,108],.str [112,114,111,102,105,108,101],.str [117,110,105,118,101,114,115,101],.str [97,100,100,114,101,115,115],.str [112,104,97,115,101],.str [99,97,98,108,101]],false,false⟩)],⟨[],g,[]⟩⟩
@[push_cast]theorem stTH_eq {tab:List Row}:stTH g tab=⟨3,[],[(2,⟨31,1,tab.map rowV,false,false⟩),(1,⟨9,1,[.str [99,104,97,110,110,101,108],.str [112,114,111,102,105,108,101],.str [117,110,105,118,101,114,115,101],.str [97,100,100,114,101,115,115],.str [112,104,97,115,101],.str [99,97,98,108,101]],false,false⟩)],⟨[],g,[]⟩⟩:=idq rfl
theorem L35 {l:List Fixt}(hG:glB g=true)(hl:l.length<1000)(hA:∀x∈l,rngC x=0):∀r j,l.drop j=r→∀tab:List Row,tab.length≤j+1 →
  runL Tryz.prog HC [5,17,18,19] 3 B35_0 [(5,.osl 2 tab.length),(17,.sl (l.map Fixt.v)),(18,.int .i64 l.length),(19,.int .i64 j)] (stTH g tab)
   = some (.exit 0,[(5,.osl 2 (tab++r.map rowH).length)],stTH g (tab++r.map rowH)):=by
 refine drop_ind (fun j h tab hc=>?_) (fun q r j hj hx hd ih tab hc=>?_)
 all_goals rw[runL_of B35_0.eq_1]
 ·have h1:¬(j:Int)<l.length:=by omega
  push_cast[h1,List.map_nil,List.append_nil]
 ·have h1:(j:Int)<l.length:=by omega
  have hw:=iw1 (j:=j) (by omega)
  have hr:=hA q (mem_at hd)
  obtain⟨r1,r2,r3,r4,r5,r6,r7,r8,r9,r10⟩:=rng_ok hr
  have e1:=fun nx mem arr obj ty=>f58C (m:=q.univ) (st:=⟨nx,mem,arr,⟨obj,g,ty⟩⟩) (by omega) (by omega) hG
  have e2:=fun nx mem arr obj ty=>f58C (m:=q.addr) (st:=⟨nx,mem,arr,⟨obj,g,ty⟩⟩) (by omega) (by omega) hG
  have e3:=fun nx mem arr obj ty=>f58C (m:=q.phase) (st:=⟨nx,mem,arr,⟨obj,g,ty⟩⟩) (by omega) (by omega) hG
  have e4:=fun nx mem arr obj ty=>f59 (x:=q) (st:=⟨nx,mem,arr,⟨obj,g,ty⟩⟩) hr hG
  have e5:=fun(st:St)=>h66C (l:=(rowH q).map .str) (st:=st) (by simp[rowH,V.bdL,V.bd])
  have hro:roomV (tab.length+1) 24=true:=roomV_lit (by omega) (by omega)
  have ih:=ih (tab++[rowH q]) (by simp;omega)
  rw[List.map_cons]
  generalize hR:rowH q=R at *
  rw[rowH]at hR
  subst hR
  simp only[List.map_cons,List.map_nil]at e5
  push_cast[Fixt.v,List.map_nil,List.length_nil]at ih e4
  push_cast[h1,hw,hx,e1,e2,e3,e4,e5,hro,Fixt.v,List.map_nil,List.length_nil,List.map_append,List.map_cons,List.append_assoc,List.singleton_append,rowV]at ih ⊢
  first|exact ih|exact dn_eq (by omega) ih
def hupT (s:Sho):List Row:=if shoC s=0 then hdH::(isort (ltK kChan) s.fixts).map rowH else[]
theorem f35 {s:Sho}(h:s.ok)(hF:shoC s=0→s.fixts.length<20){st:St}(hG:glB st.x.gl=true):run Tryz.prog HC 35 [s.v] st=some (.ret (.tup [.sl ((hupT s).map rowV),.int .i64 (shoC s)]),st):=by
 have h1:=fun st=>f54C (st:=st) h
 rw[run_shut F35 rfl rfl (by simp)]
 by_cases hs:shoC s=0
 ·have hp:=isort_perm (lt:=ltK kChan) (l:=s.fixts)
  have hlen:(isort (ltK kChan) s.fixts).length=s.fixts.length:=isort_len
  have hF:=hF hs
  have hL1:=L35 (g:=st.x.gl) hG (l:=isort (ltK kChan) s.fixts) (by omega) (fun x hx=>(aloC_ok ((fix_ok (shoC_parts hs).2.2.2.1).2.2.2 x (hp.mem_iff.1 hx))).1) _ 0 rfl [hdH] (Nat.le_refl _)
  have h56:=fun st=>f56 (s:=s) (k:=89) (key:=kChan) (fun x st=>f89) rfl hF (st:=st)
  have e4:=fun(st:St)=>h66C (l:=hdH.map .str) (st:=st) rfl
  rw[List.drop_zero]at hL1
  simp only[hdH,List.map_cons,List.map_nil]at e4
  rw[hdH]at hL1
  rw[hupT,if_pos hs]
  generalize isort (ltK kChan) s.fixts=so at *
  push_cast[Sho.v,rowV,List.map_cons,List.map_nil,List.length_cons,List.length_nil,List.singleton_append]at hL1 h1 h56
  push_cast[Sho.v,hL1,h1,hs,h56,hupT,e4,hdH,rowV,List.map_cons,List.map_nil,List.length_cons,List.length_nil,List.singleton_append]
 ·push_cast[Sho.v]at h1
  push_cast[Sho.v,h1,hs,hupT]
end Go.Proofs.YtanojbajfgcjeaaGreatDoor

namespace Go.Proofs.YtanojbajfgcjeaaGreatDoor
open Go.Sha
set_option maxRecDepth 100000
variable {g:List (Nat×Obj)}{n:Nat}
def numOk (n:Nat):Bool:=decide (Lib.itoa n≠[])&&(Lib.itoa n).all isD&&decide ((Lib.itoa n).length≤18)&&decide (natOf (Lib.itoa n)=n)
theorem numOk_all:(List.range 2100).all numOk=true:=by decide +kernel
theorem numOk_at {m:Int}(h0:0≤m)(h:m<2100):Lib.itoa m≠[]∧(Lib.itoa m).all isD=true∧(Lib.itoa m).length≤18∧(natOf (Lib.itoa m):Int)=m:=by
 have:=List.all_eq_true.1 numOk_all m.toNat (List.mem_range.2 (by omega))
 simp only[numOk,Bool.and_eq_true,decide_eq_true_eq,Int.toNat_of_nonneg h0]at this
 exact⟨this.1.1.1,this.1.1.2,this.1.2,by omega⟩
section
variable {α:Type}{lt:α→α→Prop} [∀x y,Decidable (lt x y)]
end
def Disj (ps:List Prof)(x y:Fixt):Prop:=x.univ=y.univ→x.addr+footS ps x≤y.addr∨y.addr+footS ps y≤x.addr
theorem Disj.symm {ps:List Prof}{x y:Fixt}(h:Disj ps x y):Disj ps y x:=fun e=>(h e.symm).symm
end Go.Proofs.YtanojbajfgcjeaaGreatDoor

namespace Go.Proofs.YtanojbajfgcjeaaGreatDoor
open Go.Sha
set_option maxRecDepth 100000
variable {g:List (Nat×Obj)}{n:Nat}
theorem f107n {l:List Fixt}{ps:List Prof}(h1:12<l.length)(h2:l.length≤64){st:St}:run Tryz.prog HH 107 [.sl (l.map Fixt.v),.sl (ps.map Prof.v)] st=some (.ret (.bool false),st):=by
 have a1:(12:Int)<l.length:=by omega
 have a2:(l.length:Int)≤64:=by omega
 rw[run_shut F107 rfl rfl (by simp)]
 push_cast[a1,a2]
theorem f52n {x:Sho}(h:x.ok)(h1:12<x.fixts.length)(h2:x.fixts.length≤64){st:St}:run Tryz.prog HH 52 [x.v] st=some (.ret (.bool false),st):=by
 obtain⟨b1,h1'⟩:=f106 h.c.1
 have h2':=fun(st:St)=>f107n (ps:=x.profs) (st:=st) h1 h2
 obtain⟨b3,h3⟩:=f108 h.g.1
 obtain⟨b4,h4⟩:=f109 h.l.1
 obtain⟨b5,h5⟩:=f110 h.s.1
 obtain⟨b6,h6⟩:=f111 (l:=x.effs)
 rw[run_shut F52 rfl rfl (by simp)]
 push_cast[Sho.v,h1',h2',h3,h4,h5,h6]
theorem f20' {s:Sho}(h:s.ok):∃b,(b=true→shoC s=0∧s.fixts.length≤12)∧∀st,run Tryz.prog HH 20 [s.v] st=some (.ret (.bool b),st):=by
 obtain⟨b,hb⟩:=f52 h
 refine⟨b&&shoC s == 0,fun e=>?_,fun st=>?_⟩
 ·simp only[Bool.and_eq_true,beq_iff_eq]at e
  refine⟨e.2,?_⟩
  have h2:=(fix_ok (shoC_parts e.2).2.2.2.1).2.1
  rcases Nat.lt_or_ge 12 s.fixts.length with h1|h1
  ·have:=f52n h h1 h2 (st:=stG [])
   rw[hb,e.1]at this
   cases this
  ·exact h1
 ·have h1:=fun st=>f53 (st:=st) h
  push_cast[Sho.v]at hb h1
  rw[run_shut F20 rfl rfl (by simp)]
  cases b<;>push_cast[Sho.v,hb,h1]
def memD1:List Nat:=[21,35]
def memD2:List Nat:=[13]
def memD3:List Nat:=[20,22,23,24,26,36,37]
noncomputable def HD:EvF:=⟨[],fun f args st=>bif Nat.beq f 10 then run Tryz.prog HA f args st else bif memL f memD1 then run Tryz.prog HC f args st else bif memL f memD2 then run Tryz.prog HK f args st else bif memL f memD3 then run Tryz.prog HH f args st else none⟩
@[push_cast]theorem HD_raw:HD.raw=[]:=idq rfl
theorem HD_ok (h1:ESound Tryz.prog HH)(h2:ESound Tryz.prog HK)(h3:ESound Tryz.prog HA):ESound Tryz.prog HD:=fun f args st r s h=>by
 simp only[HD]at h
 cases hf:Nat.beq f 10 with
 |true=>rw[hf]at h;exact run_sound mixed h3 _ _ _ _ _ h
 |false =>
  rw[hf,cond_false]at h
  cases hi:memL f memD1 with
  |true=>rw[hi]at h;exact run_sound mixed (HC_ok h1) _ _ _ _ _ h
  |false =>
   rw[hi,cond_false]at h
   cases hi:memL f memD2 with
   |true=>rw[hi]at h;exact run_sound mixed h2 _ _ _ _ _ h
   |false =>
    rw[hi,cond_false]at h
    cases hi:memL f memD3 with
    |true=>rw[hi]at h;exact run_sound mixed h1 _ _ _ _ _ h
    |false=>rw[hi]at h;cases h
theorem upD1 {k:Nat}{args:List V}{st:St}{r:VRes×St}(h:run Tryz.prog HC k args st=some r)(h1:Nat.beq k 10=false:=by rfl)(h2:memL k memD1=true:=by rfl):run Tryz.prog HD k args st=some r:=by
 refine run_H ?_
 simp only[HD,h1,h2,cond_false,cond_true,h]
theorem upD2 {k:Nat}{args:List V}{st:St}{r:VRes×St}(h:run Tryz.prog HK k args st=some r)(h1:Nat.beq k 10=false:=by rfl)(h2:memL k memD1=false:=by rfl)(h3:memL k memD2=true:=by rfl):run Tryz.prog HD k args st=some r:=by
 refine run_H ?_
 simp only[HD,h1,h2,h3,cond_false,cond_true,h]
theorem upD3 {k:Nat}{args:List V}{st:St}{r:VRes×St}(h:run Tryz.prog HH k args st=some r)(h1:Nat.beq k 10=false:=by rfl)(h2:memL k memD1=false:=by rfl)(h3:memL k memD2=false:=by rfl)(h4:memL k memD3=true:=by rfl):run Tryz.prog HD k args st=some r:=by
 refine run_H ?_
 simp only[HD,h1,h2,h3,h4,cond_false,cond_true,h]
theorem awkD {st:St}{v:GV}(hg:st.x.gl=glK v):run Tryz.prog HD 10 [] st=some (.ret (.bool true),st):=by
 refine run_H ?_
 simp only[HD,show Nat.beq 10 10=true from rfl,cond_true]
 obtain⟨nx,mem,arr,⟨obj,gl,ty⟩⟩:=st
 cases hg
 exact f10 (v:=v) _ _ _ _ _
end Go.Proofs.YtanojbajfgcjeaaGreatDoor

namespace Go.Proofs.YtanojbajfgcjeaaGreatDoor
open Go.Sha
set_option maxRecDepth 100000
variable {g:List (Nat×Obj)}{n:Nat}
end Go.Proofs.YtanojbajfgcjeaaGreatDoor

namespace Go.Proofs.YtanojbajfgcjeaaGreatDoor
open Go.Sha
set_option maxRecDepth 10000
def B8_0:Cd:=(.g [.b 122 .lss 121 120] (.join [1,11,14,94,95,96,119,120,121] (.i 122 .skip (.exit [1,11,14,94,95,96] 2)) (.join [1,11,14,94,95,96,119,120,121] (.block 3 (.g [.m 123 121,.r 124 9 119 121,.d 125 9 124,.s 17 (.alloc 73 [(.str []),(.str []),.nils,.nils,(.bool false),(.bool false),.i 0,(.str []),.i 0]),.m 16 123,.w 9 17 125] (.z [17] (.join [1,11,14,94,95,96,119,120,121,158] (.dreg 33 [.m 126 14,.m 127 16,.v 128 .add 127 1,.r 129 1 126 128,.l 130 129,.u 131 130,.v 132 .neq 131 9,.m 133 132,.mx 134 14 133,.mx 135 16 133,.vx 136 .add 135 1 133,.x 137 (.iadr 1 (.t 134) (.t 136)) 133,.lx 138 137 133,.x 139 (.iadr 1 (.t 138) (.i 0)) 133,.lx 140 139 133,.ax 141 0 17 133,.lx 142 141 133,.bx 143 .neq 140 142 133,.o 144 133 143,.m 145 144,.mx 146 14 145,.mx 147 16 145,.vx 148 .add 147 1 145,.x 149 (.iadr 1 (.t 146) (.t 148)) 145,.lx 150 149 145,.x 151 (.iadr 1 (.t 150) (.i 2)) 145,.lx 152 151 145,.ax 153 2 17 145,.lx 154 153 145,.x 155 (.len (.t 154)) 145,.x 156 (.f 26 [.t 155]) 145,.bx 157 .neq 152 156 145,.o 158 145 157]) (.i 158 (.g [.k 2 false] (.ret [2])) .skip))))) (.reg [.v 159 .add 121 1,.m 121 159]))))
def B8_1:Cd:=(.g [.b 97 .lss 96 95] (.join [1,11,94,95,96] (.i 97 .skip (.exit [11] 0)) (.join [1,11,94,95,96] (.block 1 (.g [.r 98 3 94 96,.d 99 3 98,.s 13 (.alloc 66 [.i 0,.i 0,.nils]),.w 3 13 99] (.z [13] (.g [.d 101 9 1,.a 102 0 13,.l 103 102,.g' 104 37 101 103,.m 100 104,.j 105 0 100,.j 106 1 100,.m 14 105,.m 15 106] (.join [1,11,13,14,94,95,96] (.join [1,11,13,14,94,95,96,117] (.reg [.m 107 15,.v 108 .neq 107 0,.m 109 108,.mx 110 14 109,.x 111 (.len (.t 110)) 109,.ax 112 2 13 109,.lx 113 112 109,.x 114 (.len (.t 113)) 109,.vx 115 .add 114 1 109,.bx 116 .neq 111 115 109,.o 117 109 116]) (.i 117 (.g [.k 2 false] (.ret [2])) .skip)) (.join [1,11,14,94,95,96] (.g [.a 118 2 13,.l 119 118,.u 120 119,.c 121 0] (.block 2 (.loop [1,11,14,94,95,96,119,120,121] [] B8_0))) (.reg [.m 160 11,.m 161 14,.s 162 (.bslice 22 1 [.t 161]),.s 163 (.append 22 1 24 (.t 160) (.t 162)),.m 11 163]))))))) (.reg [.v 164 .add 96 1,.m 96 164]))))
def B8_2:Cd:=(.g [.b 168 .lss 167 166] (.join [165,166,167] (.i 168 .skip (.exit [] 4)) (.join [165,166,167] (.block 5 (.g [.r 169 1 165 167,.l 170 169,.m 19 170] (.g [.m 172 19,.f 173 13 172,.m 171 173,.j 174 0 171,.j 175 1 171,.m 20 174,.m 21 175] (.g [.m 176 21,.v 177 .neq 176 0] (.i 177 (.g [.k 2 false] (.ret [2])) .skip))))) (.reg [.v 178 .add 167 1,.m 167 178]))))
theorem F8:compF Tryz.prog 8=some ⟨180,[.tmp 2],(.g [.q 1 50 0,.k 2 false] (.z [1] (.join [1] (.g [.d 22 9 1,.f 23 20 22,.z 24 23] (.i 24 (.g [.s 25 (.f 10 []),.m 2 25] (.ret [2])) .skip)) (.g [.d 27 9 1,.f 28 35 27,.m 26 28,.j 29 0 26,.j 30 1 26,.m 3 29,.m 4 30] (.g [.d 32 9 1,.f 33 21 32,.m 31 33,.j 34 0 31,.j 35 1 31,.m 5 34,.m 6 35] (.g [.d 37 9 1,.f 38 36 37,.m 36 38,.j 39 0 36,.j 40 1 36,.m 7 39,.m 8 40] (.g [.d 42 9 1,.f 43 24 42,.m 41 43,.j 44 0 41,.j 45 1 41,.m 9 44,.m 10 45] (.join [1,3,5,7,9] (.join [1,3,5,7,9,87] (.reg [.m 46 4,.m 47 6,.b 48 .add 46 47,.m 49 8,.b 50 .add 48 49,.m 51 10,.b 52 .add 50 51,.v 53 .neq 52 0,.m 54 53,.mx 55 3 54,.x 56 (.len (.t 55)) 54,.ax 57 3 1 54,.lx 58 57 54,.x 59 (.len (.t 58)) 54,.vx 60 .add 59 1 54,.bx 61 .neq 56 60 54,.o 62 54 61,.m 63 62,.mx 64 5 63,.x 65 (.len (.t 64)) 63,.mx 66 3 63,.x 67 (.len (.t 66)) 63,.bx 68 .neq 65 67 63,.o 69 63 68,.m 70 69,.mx 71 7 70,.x 72 (.len (.t 71)) 70,.ax 73 4 1 70,.lx 74 73 70,.x 75 (.len (.t 74)) 70,.vx 76 .add 75 1 70,.bx 77 .neq 72 76 70,.o 78 70 77,.m 79 78,.mx 80 9 79,.x 81 (.len (.t 80)) 79,.ax 82 5 1 79,.lx 83 82 79,.x 84 (.len (.t 83)) 79,.vx 85 .add 84 1 79,.bx 86 .neq 81 85 79,.o 87 79 86]) (.i 87 (.g [.k 2 false] (.ret [2])) .skip)) (.g [.m 88 3,.m 89 5,.m 90 7,.m 91 9,.s 92 (.bslice 22 1 [.t 88,.t 89,.t 90,.t 91]),.m 11 92] (.join [11] (.g [.a 93 6 1,.l 94 93,.u 95 94,.c 96 0] (.block 0 (.loop [1,11,94,95,96] [(11,(22,1))] B8_1))) (.join [] (.g [.m 165 11,.u 166 165,.c 167 0] (.block 4 (.loop [165,166,167] [] B8_2))) (.g [.s 179 (.f 10 []),.m 2 179] (.ret [2])))))))))))))⟩:=by kernel_rfl
def B36_0:Cd:=(.g [.b 24 .lss 23 22] (.join [5,21,22,23] (.i 24 .skip (.exit [5] 0)) (.join [5,21,22,23] (.block 1 (.g [.r 25 2 21 23,.d 26 2 25,.s 7 (.alloc 169 [.i 0,.nils]),.w 2 7 26] (.z [7] (.g [.a 28 1 7,.l 29 28,.f 30 90 29,.m 27 30,.j 31 0 27,.j 32 1 27,.m 8 31,.m 9 32] (.g [.m 34 8,.f 35 91 34,.m 33 35,.j 36 0 33,.j 37 1 33,.m 10 36,.m 11 37] (.reg [.m 38 5,.a 39 0 7,.l 40 39,.f 41 58 40,.m 42 10,.s 43 (.bslice 9 1 [.t 41,.t 42]),.f 44 55 43,.s 45 (.bslice 31 1 [.t 44]),.s 46 (.append 31 1 24 (.t 38) (.t 45)),.m 5 46])))))) (.reg [.v 47 .add 23 1,.m 23 47]))))
theorem F36:compF Tryz.prog 36=some ⟨49,[.tmp 2,.tmp 3],(.g [.q 1 50 0,.s 2 (.mv (.c .nils)),.c 3 0] (.z [1] (.join [1] (.g [.d 12 9 1,.f 13 54 12,.m 4 13] (.g [.m 14 4,.v 15 .neq 14 0] (.i 15 (.g [.m 16 4,.s 2 (.mv (.c .nils)),.m 3 16] (.ret [2,3])) .skip))) (.g [.s 17 (.bslice 9 1 [(.w [103,114,111,117,112]),(.w [99,104,97,110,110,101,108,115])]),.f 18 55 17,.s 19 (.bslice 31 1 [.t 18]),.m 5 19] (.join [5] (.g [.a 20 4 1,.l 21 20,.u 22 21,.c 23 0] (.block 0 (.loop [5,21,22,23] [(5,(31,1))] B36_0))) (.g [.m 48 5,.m 2 48,.c 3 0] (.ret [2,3])))))))⟩:=by kernel_rfl
def B37_0:Cd:=(.g [.b 30 .lss 29 28] (.join [8,27,28,29] (.i 30 .skip (.exit [8] 0)) (.join [8,27,28,29] (.block 1 (.g [.r 31 9 27 29,.d 32 9 31,.s 10 (.alloc 73 [(.str []),(.str []),.nils,.nils,(.bool false),(.bool false),.i 0,(.str []),.i 0]),.w 9 10 32] (.z [10] (.q (.dreg 4 [.a 33 7 10,.l 34 33,.s 11 (.mv (.w [])),.m 12 34]) (.join [8,10,11,12,27,28,29] (.g [.a 35 6 10,.l 36 35,.v 37 .geq 36 0] (.i 37 (.reg [.a 38 6 10,.l 39 38,.f 40 92 39,.m 11 40]) .skip)) (.join [8,10,11,12,27,28,29] (.g [.a 41 8 10,.l 42 41,.v 43 .gtr 42 0] (.i 43 (.reg [.m 44 12,.a 45 8 10,.l 46 45,.f 47 58 46,.s 48 (.bin .add (.w [32,120,32]) (.t 47)),.b 49 .add 44 48,.m 12 49]) .skip)) (.g [.a 50 3 10,.l 51 50,.s 52 (.iadr 6 (.t 51) (.i 0)),.d 53 6 52,.s 13 (.alloc 175 [.i 0,.i 0,.i 0,.i 0,.i 0,.i 0]),.w 6 13 53] (.z [13] (.greg [[],[],[],[],[],[],[],[],[],[],[],[],[],[],[],[],[],[],[],[],[],[],[false,false,false,false,false,false,false,false,false,false,false,false,false,false,false,false,false,false,false,false,false,true],[],[false,false,false,false,false,false,false,false,false,false,false,false,false,false,false,false,false,false,false,false,false,false,false,true],[false,false,false,false,false,false,false,false,false,false,false,false,false,false,false,false,false,false,false,false,false,false,false,false,false],[]] [.m 54 8,.a 55 0 10,.l 56 55,.a 57 1 10,.l 58 57,.a 59 2 10,.l 60 59,.u 61 60,.f 62 58 61,.a 63 0 13,.l 64 63,.f 65 92 64,.a 66 1 13,.l 67 66,.f 68 92 67,.a 69 5 13,.l 70 69,.f 71 92 70,.d 72 9 10,.f 73 93 72,.m 74 11,.m 75 12,.s 76 (.bslice 9 1 [.t 56,.t 58,.t 62,.t 65,.t 68,.t 71,.t 73,.t 74,.t 75]),.f 77 55 76,.s 78 (.bslice 31 1 [.t 77]),.s 79 (.append 31 1 24 (.t 54) (.t 78)),.m 8 79]))))))))) (.reg [.v 80 .add 29 1,.m 29 80]))))
theorem F37:compF Tryz.prog 37=some ⟨82,[.tmp 4,.tmp 5],(.g [.q 2 50 0,.s 4 (.mv (.c .nils)),.c 5 0] (.z [2] (.g [.d 15 9 2,.m 16 1,.g' 17 74 15 16,.m 14 17,.j 18 0 14,.j 19 1 14,.s 6 (.alloc 66 [.i 0,.i 0,.nils]),.w 3 6 18,.m 7 19] (.z [6] (.join [6] (.g [.m 20 7,.v 21 .neq 20 0] (.i 21 (.g [.m 22 7,.s 4 (.mv (.c .nils)),.m 5 22] (.ret [4,5])) .skip)) (.g [.s 23 (.bslice 9 1 [(.w [99,117,101]),(.w [108,97,98,101,108]),(.w [109,111,118,101,115]),(.w [117,112]),(.w [100,111,119,110]),(.w [100,101,108,97,121]),(.w [102,108,97,103,115]),(.w [102,111,108,108,111,119]),(.w [108,105,110,107])]),.f 24 55 23,.s 25 (.bslice 31 1 [.t 24]),.m 8 25] (.join [8] (.g [.a 26 2 6,.l 27 26,.u 28 27,.c 29 0] (.block 0 (.loop [8,27,28,29] [(8,(31,1))] B37_0))) (.g [.m 81 8,.m 4 81,.c 5 0] (.ret [4,5])))))))))⟩:=by kernel_rfl
def B90_0:Cd:=(.g [.b 14 .lss 13 12] (.join [4,11,12,13] (.i 14 .skip (.exit [4] 0)) (.join [4,11,12,13] (.block 1 (.g [.r 15 1 11 13,.l 16 15,.m 6 16] (.g [.m 17 6,.m 18 6,.s 19 (.build [.i 0,.i 0] [(0,1,(.t 17)),(1,1,(.t 18))]),.s 7 (.alloc 255 [.i 0,.i 0]),.w 2 7 19] (.z [7] (.join [4,7,11,12,13] (.g [.d 20 2 7,.f 21 163 20,.z 22 21] (.i 22 (.g [.s 2 (.mv (.c .nils)),.c 3 2] (.ret [2,3])) .skip)) (.reg [.d 23 2 7,.s 24 (.bslice 255 2 [.t 23]),.s 25 (.f 164 [.t 4,(.c (.bool true)),.t 24])])))))) (.reg [.v 26 .add 13 1,.m 13 26]))))
theorem F90:compF Tryz.prog 90=some ⟨28,[.tmp 2,.tmp 3],(.g [.s 2 (.mv (.c .nils)),.c 3 0] (.join [0] (.g [.m 8 0,.u 9 8,.v 10 .gtr 9 4096] (.i 10 (.g [.s 2 (.mv (.c .nils)),.c 3 5] (.ret [2,3])) .skip)) (.g [.s 4 (.alloc 253 (List.replicate 1001 (.bool false)))] (.join [4] (.g [.m 11 0,.u 12 11,.c 13 0] (.block 0 (.loop [4,11,12,13] [] B90_0))) (.g [.f 27 165 4,.m 2 27,.c 3 0] (.ret [2,3]))))))⟩:=by kernel_rfl
def B91_0:Cd:=(.g [.b 17 .lss 16 15] (.join [5,14,15,16] (.i 17 .skip (.exit [5] 0)) (.join [5,14,15,16] (.block 1 (.g [.r 18 2 14 16,.d 19 2 18,.s 7 (.alloc 255 [.i 0,.i 0]),.w 2 7 19] (.z [7] (.g [.a 20 0 7,.l 21 20,.f 22 26 21,.m 8 22] (.join [5,8,14,15,16] (.g [.a 23 1 7,.l 24 23,.a 25 0 7,.l 26 25,.b 27 .gtr 24 26] (.i 27 (.reg [.m 28 8,.a 29 1 7,.l 30 29,.f 31 26 30,.s 32 (.bin .add (.w [32,116,104,114,117,32]) (.t 31)),.b 33 .add 28 32,.m 8 33]) .skip)) (.reg [.m 34 5,.m 35 8,.s 36 (.bslice 9 1 [.t 35]),.s 37 (.append 9 1 16 (.t 34) (.t 36)),.m 5 37])))))) (.reg [.v 38 .add 16 1,.m 16 38]))))
theorem F91:compF Tryz.prog 91=some ⟨41,[.tmp 2,.tmp 3],(.g [.s 2 (.mv (.w [])),.c 3 0] (.join [0] (.g [.m 9 0,.f 10 166 9,.m 4 10] (.g [.m 11 4,.v 12 .neq 11 0] (.i 12 (.g [.m 13 4,.s 2 (.mv (.w [])),.m 3 13] (.ret [2,3])) .skip))) (.g [.s 5 (.mv (.c .nils))] (.join [5] (.g [.m 14 0,.u 15 14,.c 16 0] (.block 0 (.loop [5,14,15,16] [(5,(9,1))] B91_0))) (.g [.m 39 5,.s 40 (.f 64 [.t 39,(.w [32,43,32])]),.m 2 40,.c 3 0] (.ret [2,3]))))))⟩:=by kernel_rfl
theorem F163:compF Tryz.prog 163=some ⟨18,[.tmp 2],(.g [.q 1 255 0,.k 2 false] (.z [1] (.join [2] (.reg [.a 3 0 1,.l 4 3,.v 5 .geq 4 1,.m 6 5,.ay 7 0 1 6,.ly 8 7 6,.ay 9 1 1 6,.ly 10 9 6,.by' 11 .leq 8 10 6,.e 12 6 11,.m 13 12,.ay 14 1 1 13,.ly 15 14 13,.vy 16 .leq 15 999 13,.e 17 13 16,.m 2 17]) (.ret [2]))))⟩:=by kernel_rfl
def B164_0:Cd:=(.join [0,1,7,8,9,10,11] (.g [.m 17 8,.a 18 1 7,.l 19 18,.b 20 .leq 17 19] (.i 20 .skip (.exit [0,1,9,10,11] 2))) (.join [0,1,7,8,9,10,11] (.block 3 (.reg [.m 23 0,.m 24 8,.m 25 1,.s 26 (.k 23),.s 27 (.iadra 1001 1 (.t 26) (.t 24)),.w 1 27 25])) (.reg [.m 21 8,.v 22 .add 21 1,.m 8 22])))
def B164_1:Cd:=(.g [.b 12 .lss 11 10] (.join [0,1,9,10,11] (.i 12 .skip (.exit [] 0)) (.join [0,1,9,10,11] (.block 1 (.g [.r 13 2 9 11,.d 14 2 13,.s 7 (.alloc 255 [.i 0,.i 0]),.w 2 7 14] (.z [7] (.g [.a 15 0 7,.l 16 15,.m 8 16] (.block 2 (.loop [0,1,7,8,9,10,11] [] B164_0)))))) (.reg [.v 28 .add 11 1,.m 11 28]))))
theorem F164:compF Tryz.prog 164=some ⟨29,[],(.g [.m 9 2,.u 10 9,.c 11 0] (.block 0 (.loop [0,1,9,10,11] [] B164_1)))⟩:=by kernel_rfl
def B165_0:Cd:=(.join [0,3,4] (.g [.m 5 4,.v 6 .leq 5 999] (.i 6 .skip (.exit [3] 0))) (.join [0,3,4] (.block 1 (.join [0,3,4] (.g [.m 9 0,.m 10 4,.s 11 (.k 9),.s 12 (.iadra 1001 1 (.t 11) (.t 10)),.l 13 12,.z 14 13] (.i 14 (.exit [0,3,4] 1) .skip)) (.join [0,3,4] (.g [.m 15 0,.m 16 4,.v 17 .sub 16 1,.s 18 (.k 15),.s 19 (.iadra 1001 1 (.t 18) (.t 17)),.l 20 19,.z 21 20] (.i 21 (.reg [.m 22 3,.m 23 4,.m 24 4,.s 25 (.build [.i 0,.i 0] [(0,1,(.t 23)),(1,1,(.t 24))]),.s 26 (.bslice 255 2 [.t 25]),.s 27 (.append 255 2 16 (.t 22) (.t 26)),.m 3 27]) .skip)) (.reg [.m 28 3,.m 29 3,.u 30 29,.v 31 .sub 30 1,.m 32 4,.r 33 2 28 31,.a 34 1 33,.w 1 34 32])))) (.reg [.m 7 4,.v 8 .add 7 1,.m 4 8])))
theorem F165:compF Tryz.prog 165=some ⟨36,[.tmp 2],(.g [.s 2 (.mv (.c .nils))] (.g [.s 3 (.mv (.c .nils))] (.join [3] (.g [.c 4 1] (.block 0 (.loop [0,3,4] [(3,(255,4098))] B165_0))) (.g [.m 35 3,.m 2 35] (.ret [2])))))⟩:=by kernel_rfl
def B166_0:Cd:=(.g [.b 8 .lss 7 6] (.join [0,5,6,7] (.i 8 .skip (.exit [] 0)) (.join [0,5,6,7] (.block 1 (.g [.m 9 7,.r 10 2 5 7,.d 11 2 10,.s 4 (.alloc 255 [.i 0,.i 0]),.m 3 9,.w 2 4 11] (.z [4] (.join [0,3,4,5,6,7] (.g [.d 12 2 4,.f 13 163 12,.z 14 13] (.i 14 (.g [.c 2 2] (.ret [2])) .skip)) (.join [0,5,6,7,28] (.dreg 14 [.m 15 3,.v 16 .gtr 15 0,.m 17 16,.ay 18 0 4 17,.ly 19 18 17,.my 20 0 17,.my 21 3 17,.vy 22 .sub 21 1 17,.ry 23 2 20 22 17,.ay 24 1 23 17,.ly 25 24 17,.vy 26 .add 25 2 17,.by' 27 .lss 19 26 17,.e 28 17 27]) (.i 28 (.g [.c 2 9] (.ret [2])) .skip)))))) (.reg [.v 29 .add 7 1,.m 7 29]))))
theorem F166:compF Tryz.prog 166=some ⟨30,[.tmp 2],(.g [.c 2 0] (.join [] (.g [.m 5 0,.u 6 5,.c 7 0] (.block 0 (.loop [0,5,6,7] [] B166_0))) (.g [.c 2 0] (.ret [2]))))⟩:=by kernel_rfl
theorem F92:compF Tryz.prog 92=some ⟨11,[.tmp 2],(.g [.s 2 (.mv (.w []))] (.g [.m 6 0,.f 7 167 6,.m 5 7,.j 8 0 5,.j 9 1 5,.m 3 8,.m 4 9] (.g [.m 10 3,.m 2 10] (.ret [2]))))⟩:=by kernel_rfl
theorem F93:compF Tryz.prog 93=some ⟨16,[.tmp 2],(.g [.q 1 73 0,.s 2 (.mv (.w []))] (.z [1] (.g [.s 3 (.mv (.c .nils))] (.join [1,3] (.g [.a 4 4 1,.l 5 4] (.i 5 (.reg [.m 6 3,.s 7 (.bslice 9 1 [(.w [98,108,111,99,107])]),.s 8 (.append 9 1 16 (.t 6) (.t 7)),.m 3 8]) .skip)) (.join [3] (.g [.a 9 5 1,.l 10 9] (.i 10 (.reg [.m 11 3,.s 12 (.bslice 9 1 [(.w [109,97,114,107])]),.s 13 (.append 9 1 16 (.t 11) (.t 12)),.m 3 13]) .skip)) (.g [.m 14 3,.s 15 (.f 64 [.t 14,(.w [32])]),.m 2 15] (.ret [2])))))))⟩:=by kernel_rfl
theorem F74:compF Tryz.prog 74=some ⟨23,[.cell 4 (some 3),.tmp 5],(.g [.q 2 50 0,.s 4 (.alloc 66 [.i 0,.i 0,.nils]),.c 5 0] (.z [2] (.g [.d 9 9 2,.m 10 1,.g' 11 139 9 10,.m 8 11,.j 12 0 8,.j 13 1 8,.m 6 12,.m 7 13] (.join [2,4,6] (.g [.m 14 7,.v 15 .neq 14 0] (.i 15 (.g [.s 16 (.build [.i 0,.i 0,.nils] []),.m 17 7,.w 3 4 16,.m 5 17] (.ret [4,5])) .skip)) (.g [.a 18 6 2,.l 19 18,.m 20 6,.r 21 3 19 20,.d 22 3 21,.w 3 4 22,.c 5 0] (.ret [4,5]))))))⟩:=by kernel_rfl
theorem F250:compF Tryz.prog 250=some ⟨21,[.tmp 2],(.g [.s 2 (.mv (.w []))] (.g [.m 5 0,.v 6 .quo 5 1000,.f 7 26 6,.m 3 7] (.join [3] (.g [.m 8 0,.v 9 .rem 8 1000,.s 10 (.bin .add (.i 1000) (.t 9)),.f 11 26 10,.s 12 (.slices (.t 11) (some (.i 1)) none),.s 13 (.f 43 [.t 12,(.w [48])]),.m 4 13] (.g [.m 14 4,.s 15 (.bin .neq (.t 14) (.w []))] (.i 15 (.reg [.m 16 3,.m 17 4,.s 18 (.bin .add (.w [46]) (.t 17)),.b 19 .add 16 18,.m 3 19]) .skip))) (.g [.m 20 3,.m 2 20] (.ret [2])))))⟩:=by kernel_rfl
theorem F167:compF Tryz.prog 167=some ⟨12,[.tmp 2,.tmp 3],(.g [.s 2 (.mv (.w [])),.c 3 0] (.join [0] (.g [.m 5 0,.s 6 (.f 148 [.t 5,.i 0,.i 10000000]),.m 4 6] (.g [.m 7 4,.v 8 .neq 7 0] (.i 8 (.g [.m 9 4,.s 2 (.mv (.w [])),.m 3 9] (.ret [2,3])) .skip))) (.g [.m 10 0,.f 11 250 10,.m 2 11,.c 3 0] (.ret [2,3]))))⟩:=by kernel_rfl
theorem F148:compF Tryz.prog 148=some ⟨15,[.tmp 6],(.g [.c 6 0] (.join [] (.join [14] (.reg [.m 7 0,.m 8 1,.b 9 .lss 7 8,.m 10 9,.mx 11 0 10,.mx 12 2 10,.bx 13 .gtr 11 12 10,.o 14 10 13]) (.i 14 (.g [.c 6 2] (.ret [6])) .skip)) (.g [.c 6 0] (.ret [6]))))⟩:=by kernel_rfl
end Go.Proofs.YtanojbajfgcjeaaGreatDoor

namespace Go.Proofs.YtanojbajfgcjeaaGreatDoor
open Go.Sha
set_option maxRecDepth 100000
variable {g:List (Nat×Obj)}{n:Nat}
theorem itoaH {m:Int}(h0:-9223372036854775808≤m)(h1:m≤9223372036854775807){st:St}(hG:glB st.x.gl=true):run Tryz.prog HH 26 [.int .i64 m] st=some (.ret (.str (Lib.itoa m)),st):=run_H (by
 show(hItoa st.x.gl [.int .i64 m]).map (fun r=>(r,st))=_
 rw[hItoa,hG,decide_eq_true h0,decide_eq_true h1];rfl)
abbrev Rg:=Int×Int
@[reducible] def rgV (r:Rg):V:=.agg [.int .i64 r.1,.int .i64 r.2]
theorem f163 {r:Rg}{st:St}:run Tryz.prog HH 163 [rgV r] st=some (.ret (.bool (decide (1≤r.1∧r.1≤r.2∧r.2≤999))),st):=by
 rw[run_shut F163 rfl rfl (by simp)]
 push_cast[rgV]
 all_goals first|with_reducible rfl|exact dn_eq (by omega) (by with_reducible rfl)|((repeat' split)<;>(try simp_all)<;>(try (with_reducible refine dn_eq ?_ ?_<;>first|trivial|omega|rfl))<;>(try omega))
def setB (a:List Bool)(c:Nat):List Bool:=a.take c++true::a.drop (c+1)
def zB:List Bool:=List.replicate 1001 false
@[push_cast]theorem zB_eq:List.replicate 1001 (V.bool false)=zB.map V.bool:=by rw[zB,List.map_replicate]
theorem map_setB {a:List Bool}{c:Nat}:(a.take c).map V.bool++V.bool true::(a.drop (c+1)).map V.bool=(setB a c).map V.bool:=by simp[setB]
theorem setB_len {a:List Bool}{c:Nat}(h:c<a.length):(setB a c).length=a.length:=by simp[setB];omega
def stB0 (g:List (Nat×Obj))(k c:Nat)(a:List Bool):St:=⟨k,[(0,a.map V.bool)],[(2,⟨255,2,[rgV (c,c)],false,false⟩)],⟨[],g,[]⟩⟩
@[push_cast]theorem stB0_eq {k c:Nat}{a:List Bool}:stB0 g k c a=⟨k,[(0,a.map V.bool)],[(2,⟨255,2,[rgV (c,c)],false,false⟩)],⟨[],g,[]⟩⟩:=idq rfl
theorem L164_0 {v9 v10 v11:V}{m:Nat}{c:Nat}(hc:c<1001):∀a:List Bool,a.length=1001 →
  runL Tryz.prog HH [0,1,7,8,9,10,11] m B164_0 [(0,.ptr 0 0),(1,.bool true),(7,.ep (rgV (c,c)) 0),(8,.int .i64 c),(9,v9),(10,v10),(11,v11)] (stB0 g m c a)
   = some (.exit 2,[(0,.ptr 0 0),(1,.bool true),(9,v9),(10,v10),(11,v11)],stB0 g m c (setB a c)):=by
 intro a ha
 have hs:=setB_len (a:=a) (c:=c) (by omega)
 have w1:IntKind.i64.wrap ((c:Int)+1)=(c:Int)+1:=iwrap (by omega) (by omega)
 have e2:runL Tryz.prog HH [0,1,7,8,9,10,11] m B164_0 [(0,.ptr 0 0),(1,.bool true),(7,.ep (rgV (c,c)) 0),(8,.int .i64 ((c:Int)+1)),(9,v9),(10,v10),(11,v11)] (stB0 g m c (setB a c))
   = some (.exit 2,[(0,.ptr 0 0),(1,.bool true),(9,v9),(10,v10),(11,v11)],stB0 g m c (setB a c)):=by
  rw[runL_of B164_0.eq_1]
  have h1:¬((c:Int)+1≤c):=by omega
  push_cast[h1,rgV]
 rw[runL_of B164_0.eq_1]
 have h0:(c:Int)≤c:=by omega
 push_cast[rgV]at e2
 push_cast[rgV,w1,ha,map_setB,Nat.mul_one,e2,h0]
 exact dn_eq ⟨hc,by omega⟩ rfl
theorem f164 {c:Nat}(hc:c<1001){a:List Bool}(ha:a.length=1001):run Tryz.prog HH 164 [.ptr 0 0,.bool true,.sl [rgV (c,c)]] (stB0 g 3 c a)=some (.ret (.tup []),stB0 g 3 c (setB a c)):=by
 have h0:=fun v9 v10 v11=>L164_0 (g:=g) (v9:=v9) (v10:=v10) (v11:=v11) (m:=4) hc a ha
 rw[run_open F164 rfl rfl (by simp)]
 push_cast[rgV]at h0
 push_cast[runL_of B164_1.eq_1,h0,rgV]
def stB1 (g:List (Nat×Obj))(a:List Bool):St:=⟨1,[(0,a.map V.bool)],[],⟨[],g,[]⟩⟩
@[push_cast]theorem stB1_eq {a:List Bool}:stB1 g a=⟨1,[(0,a.map V.bool)],[],⟨[],g,[]⟩⟩:=idq rfl
def memB0 (l:List Int)(a:List Bool):List Bool:=l.foldl (fun a c=>setB a c.toNat) a
theorem memB0_len:∀{l:List Int}{a:List Bool},(∀c∈l,1≤c∧c≤999)→a.length=1001→(memB0 l a).length=1001
 |[],_,_,h=>h
 |c::r,a,hl,h=>by
  have:=hl c (List.mem_cons_self ..)
  exact memB0_len (l:=r) (fun x hx=>hl x (List.mem_cons_of_mem _ hx)) (by rw[setB_len (by omega)];exact h)
theorem L90 {l:List Int}(hl:l.length<140737488355328)(hr:∀c∈l,1≤c∧c≤999):∀r j,l.drop j=r→∀a:List Bool,a.length=1001 →
  runL Tryz.prog HH [4,11,12,13] 1 B90_0 [(4,.ptr 0 0),(11,.sl (l.map (.int .i64))),(12,.int .i64 l.length),(13,.int .i64 j)] (stB1 g a)
   = some (.exit 0,[(4,.ptr 0 0)],stB1 g (memB0 r a)):=by
 refine drop_ind (fun j h a ha=>?_) (fun q r j h hx hd ih a ha=>?_)
 all_goals rw[runL_of B90_0.eq_1]
 ·have h1:¬(j:Int)<l.length:=by omega
  push_cast[h1,memB0,List.foldl_nil]
 ·have h1:(j:Int)<l.length:=by omega
  have hw:=iw1 (j:=j) (by omega)
  obtain⟨c,rfl⟩:=Int.eq_ofNat_of_zero_le (a:=q) (by have:=hr q (mem_at hd);omega)
  obtain⟨r1,r2⟩:=hr c (mem_at hd)
  have h164:=f164 (g:=g) (c:=c) (by omega) ha
  have h163:=fun(st:St)=>f163 (r:=(c,c)) (st:=st)
  have ih:=ih (setB a c) (by rw[setB_len (by omega)];exact ha)
  rw[memB0,List.foldl_cons,←memB0]
  push_cast[rgV]at h163 h164 ih
  have r3:(c:Int)≤c:=Int.le_refl _
  push_cast[h1,hw,hx,h163,h164,rgV,r1,r2,r3,Int.toNat_natCast]at ih ⊢
  exact ih
def rgSet (l:List Rg)(c:Int):List Rg:=l.set (l.length-1) ((l.getD (l.length-1) default).1,c)
def rgStep (a:List Bool)(c:Nat)(out:List Rg):List Rg:=if a.getD c false=true then rgSet (if a.getD (c-1) false=true then out else out++[((c:Int),(c:Int))]) c else out
def rgAll (a:List Bool):Nat→Nat→List Rg→List Rg
 |0,_,out=>out
 |m+1,c,out=>rgAll a m (c+1) (rgStep a c out)
def stB2 (g:List (Nat×Obj))(a:List Bool)(out:List Rg):St:=⟨2,[(0,a.map V.bool)],[(1,⟨255,2,out.map rgV,true,false⟩)],⟨[],g,[]⟩⟩
@[push_cast]theorem stB2_eq {a:List Bool}{out:List Rg}:stB2 g a out=⟨2,[(0,a.map V.bool)],[(1,⟨255,2,out.map rgV,true,false⟩)],⟨[],g,[]⟩⟩:=idq rfl
theorem rgSet_len {l:List Rg}{c:Int}:(rgSet l c).length=l.length:=by simp[rgSet]
theorem L165 {a:List Bool}(ha:a.length=1001):∀m c:Nat,c+m=1000→1≤c→∀out:List Rg,(a.getD (c-1) false=true→out≠[])→out.length<c →
  runL Tryz.prog HH [0,3,4] 2 B165_0 [(0,.ptr 0 0),(3,.osl 1 out.length),(4,.int .i64 c)] (stB2 g a out)
   = some (.exit 0,[(3,.osl 1 (rgAll a m c out).length)],stB2 g a (rgAll a m c out)):=by
 intro m
 induction m with
 |zero =>
  intro c hc h0 out hi hl
  rw[runL_of B165_0.eq_1]
  have h1:¬(c:Int)≤999:=by omega
  push_cast[h1,rgAll]
 |succ m ih =>
  intro c hc h0 out hi hl
  rw[runL_of B165_0.eq_1]
  have h1:(c:Int)≤999:=by omega
  have hw:IntKind.i64.wrap ((c:Int)+1)=((c+1:Nat):Int):=iwrap (by omega) (by omega)
  have hw2:IntKind.i64.wrap ((c:Int)-1)=((c-1:Nat):Int):=by rw[iwrap (by omega) (by omega)];omega
  have g1:a[c]?=some (a.getD c false):=by rw[List.getD_eq_getElem?_getD,List.getElem?_eq_getElem (by omega)];rfl
  have g2:a[c-1]?=some (a.getD (c-1) false):=by rw[List.getD_eq_getElem?_getD,List.getElem?_eq_getElem (by omega)];rfl
  have ih:=ih (c+1) (by omega) (by omega) (rgStep a c out)
  rw[rgAll]
  have c1:c<1001:=by omega
  have c2:c-1<1001:=by omega
  cases b1:a.getD c false with
  |false =>
   have e:rgStep a c out=out:=by rw[rgStep,b1];rfl
   rw[e]at ih ⊢
   have ih:=ih (by rw[Nat.add_sub_cancel,b1];intro h;cases h) (by omega)
   rw[b1]at g1
   push_cast[h1,hw,hw2,ha,g1,g2,c1,c2,Nat.mul_one]at ih ⊢
   exact ih
  |true =>
   rw[b1]at g1
   have hro:roomV (out.length+1) 16=true:=roomV_lit (by omega) (by omega)
   cases b2:a.getD (c-1) false with
   |false =>
    rw[b2]at g2
    have e:rgStep a c out=out++[((c:Int),(c:Int))]:=by rw[rgStep,b1,b2];simp[rgSet]
    have p1:(out++[((c:Int),(c:Int))])[out.length]?=some ((c:Int),(c:Int)):=by simp
    have p2:((out.map rgV)++[V.agg [.int .i64 c,.int .i64 c]])[out.length]?=some (V.agg [.int .i64 c,.int .i64 c]):=by rw[List.getElem?_append_right (by simp)];simp
    have p3:((out.map rgV)++[V.agg [.int .i64 c,.int .i64 c]]).set out.length (V.agg [.int .i64 c,.int .i64 c])=(out++[((c:Int),(c:Int))]).map rgV:=by rw[List.set_append_right _ _ (by simp)];simp
    have w3:IntKind.i64.wrap ((out.length:Int)+1-1)=out.length:=by rw[iwrap (by omega) (by omega)];omega
    rw[e]at ih ⊢
    have ih:=ih (by simp) (by simp;omega)
    push_cast[rgV]at p2 p3
    push_cast[List.length_append,List.length_cons,List.length_nil]at ih
    push_cast[h1,hw,hw2,ha,g1,g2,c1,c2,Nat.mul_one,hro,p2,p3,w3,stoB,V.cells,V.recell]
    exact ih
   |true =>
    rw[b2]at g2
    obtain⟨k,hk⟩:∃k,out.length=k+1:=⟨out.length-1,by have:=List.length_pos_iff.2 (hi b2);omega⟩
    have e:rgStep a c out=out.set k ((out.getD k default).1,c):=by rw[rgStep,b1,b2];simp[rgSet,hk]
    have p1:out[k]?=some (out.getD k default):=by rw[List.getD_eq_getElem?_getD,List.getElem?_eq_getElem (by omega)];rfl
    have p3:(out.map rgV).set k (V.agg [.int .i64 (out.getD k default).1,.int .i64 c])=(out.set k ((out.getD k default).1,(c:Int))).map rgV:=by simp[List.map_set]
    have hk2:(k:Int)+1-1=k:=by omega
    have hk3:k<100000:=by omega
    have w3:IntKind.i64.wrap ((k:Int)+1-1)=k:=by rw[hk2];exact iwrap (by omega) (by omega)
    rw[e]at ih ⊢
    have ih:=ih (by intro _ h;have:=congrArg List.length h;rw[List.length_set,hk]at this;cases this) (by simp;omega)
    push_cast[rgV]at p3
    push_cast[List.length_set]at ih
    push_cast[h1,hw,hw2,ha,g1,g2,c1,c2,Nat.mul_one,hk,p1,p3,w3,stoB,V.cells,V.recell]
    rw[hk]at ih
    exact ih
theorem rgAll_len {a:List Bool}:∀{m c:Nat}{out:List Rg},(rgAll a m c out).length≤out.length+m
 |0,_,_=>Nat.le_refl _
 |m+1,c,out=>by
  rw[rgAll]
  have:=rgAll_len (a:=a) (m:=m) (c:=c+1) (out:=rgStep a c out)
  have:(rgStep a c out).length≤out.length+1:=by unfold rgStep;repeat' split<;>simp[rgSet_len]
  omega
def rgs (a:List Bool):List Rg:=rgAll a 999 1 []
theorem f165 {a:List Bool}(ha:a.length=1001)(h0:a.getD 0 false=false):run Tryz.prog HH 165 [.ptr 0 0] (stB1 g a)=some (.ret (.osl 1 (rgs a).length),stB2 g a (rgs a)):=by
 have hL:=L165 (g:=g) ha 999 1 rfl (Nat.le_refl _) [] (by rw[h0];intro h;cases h) (by decide)
 rw[←rgs]at hL
 rw[run_open F165 rfl rfl (by simp)]
 push_cast[List.map_nil,List.length_nil]at hL
 push_cast[hL]
theorem memB0_zero:∀{l:List Int}{a:List Bool},(∀c∈l,1≤c∧c≤999)→a.length=1001→a.getD 0 false=false→(memB0 l a).getD 0 false=false
 |[],_,_,_,h=>h
 |c::r,a,hl,h,h0=>by
  have:=hl c (List.mem_cons_self ..)
  refine memB0_zero (l:=r) (fun x hx=>hl x (List.mem_cons_of_mem _ hx)) (by rw[setB_len (by omega)];exact h) ?_
  show(setB a c.toNat).getD 0 false=false
  rw[setB,List.getD_eq_getElem?_getD,List.getElem?_append_left (by simp;omega),List.getElem?_take,if_pos (by omega),←List.getD_eq_getElem?_getD];exact h0
def setC (l:List Int):List Rg:=rgs (memB0 l zB)
theorem f90 {l:List Int}(hl:l.length≤4096)(hr:∀c∈l,1≤c∧c≤999){st:St}:run Tryz.prog HH 90 [.sl (l.map (.int .i64))] st=some (.ret (.tup [.sl ((setC l).map rgV),.int .i64 0]),st):=by
 have z1:zB.length=1001:=by rw[zB,List.length_replicate]
 have z2:zB.getD 0 false=false:=by decide +kernel
 have h0:=L90 (g:=st.x.gl) (by omega) hr _ 0 rfl zB z1
 have h165:=f165 (g:=st.x.gl) (memB0_len hr z1) (memB0_zero hr z1 z2)
 have h1:¬(4096:Int)<l.length:=by omega
 rw[List.drop_zero]at h0
 rw[setC]
 generalize memB0 l zB=a at *
 rw[run_shut F90 rfl rfl (by simp)]
 push_cast at h0 h165
 push_cast[h0,h165,h1]
def chkR (l:List Rg):List Rg→Nat→Int
 |[],_=>0
 |q::r,j=>if ¬(1≤q.1∧q.1≤q.2∧q.2≤999) then 2 else if 0<j∧q.1<(l.getD (j-1) default).2+2 then 9 else chkR l r (j+1)
theorem L166 {l:List Rg}(hl:l.length<10000)(hb:∀q∈l,0≤q.2∧q.2≤1000):∀r j,l.drop j=r→runL Tryz.prog HH [0,5,6,7] n B166_0 [(0,.sl (l.map rgV)),(5,.sl (l.map rgV)),(6,.int .i64 l.length),(7,.int .i64 j)] (stN g n)=lpE (stN g n) [] 2 (chkR l r j):=by
 refine drop_ind (fun j h=>?_) (fun q r j h hx hd ih=>?_)
 all_goals rw[runL_of B166_0.eq_1]
 ·have h1:¬(j:Int)<l.length:=by omega
  push_cast[h1,chkR]
 ·have h1:(j:Int)<l.length:=by omega
  have hw:=iw1 (j:=j) (by omega)
  have h163:=fun(st:St)=>f163 (r:=q) (st:=st)
  rw[chkR]
  push_cast[rgV]at h163
  cases j with
  |zero =>
   have h0:(0:Int)<l.length:=by omega
   push_cast[h0,hx,h163,rgV]at ih ⊢
   simp only[false_and,if_false,ih]
  |succ j =>
   have w2:IntKind.i64.wrap ((j:Int)+1-1)=j:=by rw[show(j:Int)+1-1=j by omega];exact iwrap (by omega) (by omega)
   have w4:IntKind.i64.wrap ((j:Int)+1+1)=(j:Int)+1+1:=iwrap (by omega) (by omega)
   have h2:(j:Int)<l.length:=by omega
   have h4:(j:Int)+1<l.length:=by omega
   have h5:(0:Int)≤(j:Int)+1:=by omega
   have h6:(0:Int)<(j:Int)+1:=by omega
   have h7:0<j+1:=by omega
   have hj:l[j]?=some (l.getD j default):=by rw[List.getD_eq_getElem?_getD,List.getElem?_eq_getElem (by omega)];rfl
   have hb:=hb _ (List.mem_of_getElem? hj)
   have w3:IntKind.i64.wrap ((l.getD j default).2+2)=(l.getD j default).2+2:=iwrap (by omega) (by omega)
   push_cast[h4,h5,h6,w4,hx,h163,rgV,w2,w3,h2,Int.toNat_natCast_add_one]at ih ⊢
   simp only[ih,h7,true_and]
def chkS (l:List Rg):Int:=chkR l l 0
theorem f166 {l:List Rg}(hl:l.length<10000)(hb:∀q∈l,0≤q.2∧q.2≤1000){st:St}:run Tryz.prog HH 166 [.sl (l.map rgV)] st=some (.ret (.int .i64 (chkS l)),st):=by
 rw[run_shut F166 rfl rfl (by simp)]
 have hL0:=fun n=>L166 (g:=st.x.gl) (n:=n) hl hb _ 0 rfl
 push_cast[chkS]at hL0
 push_cast[chkS,hL0,lpE,lpX,lpI,lpB]
 all_goals first|with_reducible rfl|exact dn_eq (by omega) (by with_reducible rfl)|((repeat' split)<;>(try simp_all)<;>(try (with_reducible refine dn_eq ?_ ?_<;>first|trivial|omega|rfl))<;>(try omega))
def rgT (q:Rg):List UInt8:=if q.1<q.2 then Lib.itoa q.1++([32,116,104,114,117,32]++Lib.itoa q.2) else Lib.itoa q.1
def stR1 (g:List (Nat×Obj))(n:Nat)(out:Row):St:=⟨n+1,[],[(n,⟨9,1,out.map .str,false,false⟩)],⟨[],g,[]⟩⟩
@[push_cast]theorem stR1_eq {out:Row}:stR1 g n out=⟨n+1,[],[(n,⟨9,1,out.map .str,false,false⟩)],⟨[],g,[]⟩⟩:=idq rfl
theorem L91 {l:List Rg}(hG:glB g=true)(hl:l.length<10000)(hb:∀q∈l,(0≤q.1∧q.1≤1000)∧0≤q.2∧q.2≤1000):∀r j,l.drop j=r→∀out:Row,out.length≤j →
  runL Tryz.prog HH [5,14,15,16] (n+1) B91_0 [(5,.osl n out.length),(14,.sl (l.map rgV)),(15,.int .i64 l.length),(16,.int .i64 j)] (stR1 g n out)
   = some (.exit 0,[(5,.osl n (out++r.map rgT).length)],stR1 g n (out++r.map rgT)):=by
 refine drop_ind (fun j h out ho=>?_) (fun q r j h hx hd ih out ho=>?_)
 all_goals rw[runL_of B91_0.eq_1]
 ·have h1:¬(j:Int)<l.length:=by omega
  push_cast[h1,List.map_nil,List.append_nil]
 ·have h1:(j:Int)<l.length:=by omega
  have hw:=iw1 (j:=j) (by omega)
  obtain⟨q1,q2⟩:=hb q (mem_at hd)
  have e1:=fun nx mem arr obj ty=>itoaH (m:=q.1) (st:=⟨nx,mem,arr,⟨obj,g,ty⟩⟩) (by omega) (by omega) hG
  have e2:=fun nx mem arr obj ty=>itoaH (m:=q.2) (st:=⟨nx,mem,arr,⟨obj,g,ty⟩⟩) (by omega) (by omega) hG
  have l1:=Lib.itoa_length_le q.1 (by omega) (by omega)
  have l2:=Lib.itoa_length_le q.2 (by omega) (by omega)
  have hro:roomV (out.length+1) 16=true:=roomV_lit (by omega) (by omega)
  have ih:=ih (out++[rgT q]) (by simp;omega)
  rw[List.map_cons]
  by_cases h2:q.1<q.2
  ·have h3:q.2>q.1:=h2
   rw[show rgT q=Lib.itoa q.1++([32,116,104,114,117,32]++Lib.itoa q.2) by rw[rgT,if_pos h2]]at ih ⊢
   generalize rgT=tt at *
   push_cast[h1,hw,hx,rgV,e1,e2,h2,h3,hro,List.map_append,List.map_cons,List.map_nil,List.append_assoc,List.singleton_append]at ih ⊢
   exact dn_eq (by omega) ih
  ·rw[show rgT q=Lib.itoa q.1 by rw[rgT,if_neg h2]]at ih ⊢
   generalize rgT=tt at *
   push_cast[h1,hw,hx,rgV,e1,e2,h2,hro,List.map_append,List.map_cons,List.map_nil,List.append_assoc,List.singleton_append]at ih ⊢
   first|exact ih|exact dn_eq (by omega) ih
theorem itoa3_all:(List.range 1001).all (fun n=>decide ((Lib.itoa n).length≤4))=true:=by decide +kernel
theorem itoa3 {m:Int}(h0:0≤m)(h1:m≤1000):(Lib.itoa m).length≤4:=by
 have:=List.all_eq_true.1 itoa3_all m.toNat (List.mem_range.2 (by omega))
 simpa [Int.toNat_of_nonneg h0] using this
theorem rgT_le {q:Rg}(h:(0≤q.1∧q.1≤1000)∧0≤q.2∧q.2≤1000):(rgT q).length≤14:=by
 have l1:=itoa3 h.1.1 h.1.2
 have l2:=itoa3 h.2.1 h.2.2
 unfold rgT
 split
 ·simp only[List.length_append,List.length_cons,List.length_nil];omega
 ·omega
theorem setT_le {l:List Rg}(hb:∀q∈l,(0≤q.1∧q.1≤1000)∧0≤q.2∧q.2≤1000):(Lib.join (l.map rgT) [32,43,32]).length≤17*l.length:=by
 cases l with
 |nil=>simp[Lib.join_nil]
 |cons x r =>
  rw[List.map_cons,Lib.join_length]
  have h1:=lens_le (B:=14) (ss:=(x::r).map rgT) fun s hs=>by
   obtain⟨q,hq,rfl⟩:=List.mem_map.1 hs
   exact rgT_le (hb q hq)
  rw[List.map_cons]at h1
  simp only[List.length_cons,List.length_map,List.length_nil]at h1 ⊢
  omega
def setT (l:List Rg):List UInt8:=if chkS l=0 then Lib.join (l.map rgT) [32,43,32] else[]
theorem f91 {l:List Rg}(hl:l.length≤1000)(hb:∀q∈l,(0≤q.1∧q.1≤1000)∧0≤q.2∧q.2≤1000){st:St}(hG:glB st.x.gl=true):run Tryz.prog HH 91 [.sl (l.map rgV)] st=some (.ret (.tup [.str (setT l),.int .i64 (chkS l)]),st):=by
 have h166:=fun(st:St)=>f166 (st:=st) (by omega) (fun q hq=>(hb q hq).2)
 rw[run_shut F91 rfl rfl (by simp)]
 by_cases hc:chkS l=0
 ·have hL:=L91 (g:=st.x.gl) (n:=0) hG (by omega) hb _ 0 rfl [] (Nat.le_refl _)
  have hj:(Lib.join (l.map rgT) [32,43,32]).length≤100000000000:=by
   have:=setT_le (fun q hq=>⟨(hb q hq).1,(hb q hq).2⟩)
   omega
  have e3:=fun(st:St)=>h100 (ss:=l.map rgT) (t:=[32,43,32]) (st:=st) (by rw[List.length_map];omega) hj
  rw[List.drop_zero,List.nil_append]at hL
  rw[setT,if_pos hc]
  generalize l.map rgT=tt at *
  push_cast[rgV,List.map_nil,List.length_nil]at hL h166
  push_cast[h166,hc,rgV,hL,e3]
 ·push_cast[h166,hc,rgV,setT]
end Go.Proofs.YtanojbajfgcjeaaGreatDoor

namespace Go.Proofs.YtanojbajfgcjeaaGreatDoor
open Go.Sha
set_option maxRecDepth 100000
variable {g:List (Nat×Obj)}{n:Nat}
theorem chansL_rng {l:List Int}:∀{r:List Int}{j:Nat},chansL l r j=0→∀c∈r,1≤c∧c≤999
 |[],_,_,c,hc=>by simp at hc
 |q::r,j,h,c,hc=>by
  rw[chansL]at h
  split at h
  ·cases h
  ·split at h
   ·cases h
   ·rcases List.mem_cons.1 hc with rfl|hc
    ·omega
    ·exact chansL_rng h c hc
theorem grp_parts {x:Grp}(h:grpC x=0):1≤x.num∧x.num≤1048576∧x.chans.length≤256∧∀c∈x.chans,1≤c∧c≤999:=by
 unfold grpC at h
 split at h
 ·cases h
 ·split at h
  ·cases h
  ·exact⟨by omega,by omega,by omega,chansL_rng h⟩
theorem grpsL_all {l:List Grp}:∀{r:List Grp}{j:Nat},grpsL l r j=0→∀c∈r,grpC c=0
 |[],_,_,c,hc=>by simp at hc
 |q::r,j,h,c,hc=>by
  rw[grpsL]at h
  repeat' split at h
  all_goals first|(rename_i a;exact absurd h a)|cases h|skip
  rename_i a _
  rcases List.mem_cons.1 hc with rfl|hc
  ·exact a
  ·exact grpsL_all h c hc
theorem grps_parts {s:Sho}(h:shoC s=0):s.grps.length≤32∧∀x∈s.grps,grpC x=0:=by
 have:=(shoC_parts h).2.2.2.2.1
 unfold grpsC at this
 split at this
 ·cases this
 ·exact⟨by omega,grpsL_all this⟩
def RgOk (l:List Rg):Prop:=∀q∈l,(0≤q.1∧q.1≤1000)∧0≤q.2∧q.2≤1000
theorem rgStep_ok {a:List Bool}{c:Nat}{out:List Rg}(hc:c≤1000)(h:RgOk out):RgOk (rgStep a c out):=by
 have hs:∀{o:List Rg},RgOk o→o≠[]→RgOk (rgSet o c):=fun {o} ho hn q hq=>by
  rw[rgSet]at hq
  rcases List.mem_or_eq_of_mem_set hq with hq|rfl
  ·exact ho q hq
  ·have hm:o.getD (o.length-1) default∈o:=by
    have:=List.length_pos_iff.2 hn
    rw[List.getD_eq_getElem?_getD,List.getElem?_eq_getElem (by omega)];simp
   exact⟨(ho _ hm).1,by omega,by omega⟩
 unfold rgStep
 split
 ·split
  ·by_cases hn:out=[]
   ·subst hn;intro q hq;simp[rgSet]at hq
   ·exact hs h hn
  ·refine hs (fun q hq=>?_) (by simp)
   rcases List.mem_append.1 hq with hq|hq
   ·exact h q hq
   ·rw[List.mem_singleton.1 hq];exact⟨⟨by omega,by omega⟩,by omega,by omega⟩
 ·exact h
theorem rgAll_ok {a:List Bool}:∀{m c:Nat}{out:List Rg},c+m≤1000→RgOk out→RgOk (rgAll a m c out)
 |0,_,_,_,h=>h
 |m+1,c,out,hc,h=>by rw[rgAll];exact rgAll_ok (by omega) (rgStep_ok (by omega) h)
theorem setC_ok {l:List Int}:RgOk (setC l):=rgAll_ok (by decide) (by intro q hq;simp at hq)
theorem setC_len {l:List Int}:(setC l).length≤999:=by
 have:=rgAll_len (a:=memB0 l zB) (m:=999) (c:=1) (out:=[])
 simpa [setC,rgs] using this
def rowG (x:Grp):Row:=[Lib.itoa x.num,setT (setC x.chans)]
def hdG:Row:=[[103,114,111,117,112],[99,104,97,110,110,101,108,115]]
def stTG (g:List (Nat×Obj))(tab:List Row):St:=⟨3,[],[(2,⟨31,1,tab.map rowV,false,false⟩),(1,⟨9,1,[.str [103,114,111,117,112],.str [99,104,97,110,110,101,108,115]],false,false⟩)],⟨[],g,[]⟩⟩
@[push_cast]theorem stTG_eq {tab:List Row}:stTG g tab=⟨3,[],[(2,⟨31,1,tab.map rowV,false,false⟩),(1,⟨9,1,[.str [103,114,111,117,112],.str [99,104,97,110,110,101,108,115]],false,false⟩)],⟨[],g,[]⟩⟩:=idq rfl
theorem L36 {l:List Grp}(hG:glB g=true)(hl:l.length<1000)(hA:∀x∈l,grpC x=0):∀r j,l.drop j=r→∀tab:List Row,tab.length≤j+1 →
  runL Tryz.prog HH [5,21,22,23] 3 B36_0 [(5,.osl 2 tab.length),(21,.sl (l.map Grp.v)),(22,.int .i64 l.length),(23,.int .i64 j)] (stTG g tab)
   = some (.exit 0,[(5,.osl 2 (tab++r.map rowG).length)],stTG g (tab++r.map rowG)):=by
 refine drop_ind (fun j h tab hc=>?_) (fun q r j hj hx hd ih tab hc=>?_)
 all_goals rw[runL_of B36_0.eq_1]
 ·have h1:¬(j:Int)<l.length:=by omega
  push_cast[h1,List.map_nil,List.append_nil]
 ·have h1:(j:Int)<l.length:=by omega
  have hw:=iw1 (j:=j) (by omega)
  obtain⟨r1,r2,r3,r4⟩:=grp_parts (hA q (mem_at hd))
  have e1:=fun nx mem arr obj ty=>f58 (m:=q.num) (st:=⟨nx,mem,arr,⟨obj,g,ty⟩⟩) (by omega) (by omega) hG
  have e2:=fun(st:St)=>f90 (l:=q.chans) (st:=st) (by omega) r4
  have hsl:=setC_len (l:=q.chans)
  have hso:=setC_ok (l:=q.chans)
  have e3:=fun nx mem arr obj ty=>f91 (l:=setC q.chans) (st:=⟨nx,mem,arr,⟨obj,g,ty⟩⟩) (by omega) hso hG
  have e5:=fun(st:St)=>h66 (l:=(rowG q).map .str) (st:=st) (by simp[rowG,V.bdL,V.bd])
  have hro:roomV (tab.length+1) 24=true:=roomV_lit (by omega) (by omega)
  have ih:=ih (tab++[rowG q]) (by simp;omega)
  rw[List.map_cons]
  generalize hR:rowG q=R at *
  rw[rowG]at hR
  generalize hss:setC q.chans=ss at *
  subst hR
  simp only[List.map_cons,List.map_nil]at e5
  push_cast[Grp.v,rgV,List.map_nil,List.length_nil]at ih e2 e3
  push_cast[h1,hw,hx,e1,e2,e3,e5,hro,Grp.v,List.map_nil,List.length_nil,List.map_append,List.map_cons,List.append_assoc,List.singleton_append,rowV]at ih ⊢
  first|exact ih|exact dn_eq (by omega) ih
def grpT (s:Sho):List Row:=if shoC s=0 then hdG::s.grps.map rowG else[]
theorem f36 {s:Sho}(h:s.ok){st:St}(hG:glB st.x.gl=true):run Tryz.prog HH 36 [s.v] st=some (.ret (.tup [.sl ((grpT s).map rowV),.int .i64 (shoC s)]),st):=by
 have h1:=fun st=>f54 (st:=st) h
 rw[run_shut F36 rfl rfl (by simp)]
 by_cases hs:shoC s=0
 ·obtain⟨p1,p2⟩:=grps_parts hs
  have hL1:=L36 (g:=st.x.gl) hG (l:=s.grps) (by omega) p2 _ 0 rfl [hdG] (Nat.le_refl _)
  have e4:=fun(st:St)=>h66 (l:=hdG.map .str) (st:=st) rfl
  rw[List.drop_zero]at hL1
  simp only[hdG,List.map_cons,List.map_nil]at e4
  rw[hdG]at hL1
  rw[grpT,if_pos hs]
  generalize s.grps.map rowG=so at *
  push_cast[Sho.v,rowV,List.map_cons,List.map_nil,List.length_cons,List.length_nil,List.singleton_append]at hL1 h1
  push_cast[Sho.v,hL1,h1,hs,e4,hdG,rowV,List.map_cons,List.map_nil,List.length_cons,List.length_nil,List.singleton_append]
 ·push_cast[Sho.v]at h1
  push_cast[Sho.v,h1,hs,grpT]
end Go.Proofs.YtanojbajfgcjeaaGreatDoor

namespace Go.Proofs.YtanojbajfgcjeaaGreatDoor
open Go.Sha
set_option maxRecDepth 100000
variable {g:List (Nat×Obj)}{n:Nat}
def trB (c:UInt8)(s:List UInt8):List UInt8:=(s.reverse.dropWhile (· == c)).reverse
theorem trB_c {c b:UInt8}{r:List UInt8}:trB c (b::r).reverse=if b=c then trB c r.reverse else(b::r).reverse:=by
 simp only[trB,List.reverse_reverse,List.dropWhile_cons]
 by_cases h:b=c<;>simp[h]
theorem bC {b c:UInt8}:((b.toNat:Int)=c.toNat)=(b=c):=by
 rw[eq_iff_iff]
 exact⟨fun h=>UInt8.toNat_inj.1 (by simpa using Int.ofNat_inj.1 h),fun h=>by rw[h]⟩
theorem L98z {c:UInt8}:∀r:List UInt8,r.length<140737488355328→runL Tryz.prog HH [0,1] n B98_0 [(0,.str r.reverse),(1,.int .u8 c.toNat)] (stN g n)=some (.exit 0,[(0,.str (trB c r.reverse))],stN g n):=by
 intro r
 induction r with
 |nil =>
  intro _
  rw[runL_of B98_0.eq_1]
  push_cast[List.reverse_nil,trB,List.dropWhile_nil]
 |cons b r ih =>
  intro hl
  have ih:=ih (by simp at hl;omega)
  rw[runL_of B98_0.eq_1]
  have h1:(0:Int)<(b::r).reverse.length:=by simp
  have h2:IntKind.i64.wrap (((b::r).reverse.length:Int)-1)=(r.length:Nat):=by rw[List.length_reverse,List.length_cons,iwrap (by omega) (by simp at hl;omega)];omega
  have h3:(b::r).reverse.getD r.length 0=b:=by simp
  have h4:(b::r).reverse.take r.length=r.reverse:=by simp
  have h5:(r.length:Int)<(b::r).reverse.length:=by rw[List.length_reverse,List.length_cons];omega
  rw[trB_c]
  generalize (b::r).reverse=s at *
  push_cast at ih
  by_cases h:b=c
  ·subst h
   push_cast[h1,h2,h3,h4,h5,ih]
   exact dn_eq (by omega) rfl
  ·push_cast[h1,h2,h3,h4,h5,bC,h]
theorem f43z {s:List UInt8}(hl:s.length<140737488355328){c:UInt8}(hc:(c.toNat:Int)<128){st:St}:run Tryz.prog HH 43 [.str s,.str [c]] st=some (.ret (.str (trB c s)),st):=by
 have h:∀st:St,run Tryz.prog HH 98 [.str s,.int .u8 c.toNat] st=some (.ret (.str (trB c s)),st):=fun st=>by
  have hL:=fun n=>L98z (g:=st.x.gl) (n:=n) (c:=c) s.reverse (by simpa using hl)
  simp only[List.reverse_reverse]at hL
  rw[run_shut F98 rfl rfl (by simp)]
  push_cast at hL
  push_cast[hL]
 rw[run_shut F43 rfl rfl (by simp)]
 by_cases h0:s=[]
 ·subst h0
  push_cast[show trB c []=[] from rfl]
 ·push_cast[h,h0,hc,List.getD_cons_zero]
def secR (ms:Int):List UInt8:=trB 48 ((Lib.itoa (1000+ms % 1000)).drop 1)
def secT (ms:Int):List UInt8:=Lib.itoa (ms / 1000)++(if secR ms=[] then[] else 46::secR ms)
theorem trB_len {c:UInt8}{s:List UInt8}:(trB c s).length≤s.length:=by
 rw[trB,List.length_reverse]
 exact Nat.le_trans (List.dropWhile_sublist _).length_le (by rw[List.length_reverse];exact Nat.le_refl _)
theorem f250 {ms:Int}(h0:0≤ms)(h1:ms≤10000000){st:St}(hG:glB st.x.gl=true):run Tryz.prog HH 250 [.int .i64 ms] st=some (.ret (.str (secT ms)),st):=by
 have e1:=fun nx mem arr obj ty=>itoaH (m:=ms / 1000) (st:=⟨nx,mem,arr,⟨obj,st.x.gl,ty⟩⟩) (by omega) (by omega) hG
 have e2:=fun nx mem arr obj ty=>itoaH (m:=1000+ms % 1000) (st:=⟨nx,mem,arr,⟨obj,st.x.gl,ty⟩⟩) (by omega) (by omega) hG
 have l1:=Lib.itoa_length_le (ms / 1000) (by omega) (by omega)
 have l2:=Lib.itoa_length_le (1000+ms % 1000) (by omega) (by omega)
 have t1:ms.tdiv 1000=ms / 1000:=Int.tdiv_eq_ediv_of_nonneg h0
 have t2:ms.tmod 1000=ms % 1000:=Int.tmod_eq_emod_of_nonneg h0
 have w1:IntKind.i64.wrap (ms / 1000)=ms / 1000:=iwrap (by omega) (by omega)
 have w2:IntKind.i64.wrap (1000+ms % 1000)=1000+ms % 1000:=iwrap (by omega) (by omega)
 have w4:IntKind.i64.wrap (ms % 1000)=ms % 1000:=iwrap (by omega) (by omega)
 have e3:=fun(st:St)=>f43z (s:=(Lib.itoa (1000+ms % 1000)).drop 1) (c:=48) (st:=st) (by rw[List.length_drop];omega) (by decide)
 have l3:(secR ms).length≤21:=by
  have:=trB_len (c:=48) (s:=(Lib.itoa (1000+ms % 1000)).drop 1)
  rw[List.length_drop]at this
  rw[secR];omega
 rw[←secR]at e3
 have n1:(1:Int)≤(Lib.itoa (1000+ms % 1000)).length:=by
  have:=List.length_pos_iff.2 (numOk_at (m:=1000+ms % 1000) (by omega) (by omega)).1
  omega
 have tk:(Lib.itoa (1000+ms % 1000)).take (Lib.itoa (1000+ms % 1000)).length=Lib.itoa (1000+ms % 1000):=List.take_length
 rw[run_shut F250 rfl rfl (by simp)]
 by_cases hr:secR ms=[]
 ·push_cast[e1,e2,e3,t1,t2,w1,w2,w4,hr,n1,tk,secT,List.append_nil]
 ·push_cast[e1,e2,e3,t1,t2,w1,w2,w4,hr,n1,tk,secT]
  exact dn_eq (by omega) rfl
theorem f92 {ms:Int}(h0:0≤ms)(h1:ms≤10000000){st:St}(hG:glB st.x.gl=true):run Tryz.prog HH 92 [.int .i64 ms] st=some (.ret (.str (secT ms)),st):=by
 have e1:=fun nx mem arr obj ty=>f250 (st:=⟨nx,mem,arr,⟨obj,st.x.gl,ty⟩⟩) h0 h1 hG
 have a1:¬ms<0:=by omega
 have a2:¬10000000<ms:=by omega
 have e2:∀nx mem arr obj ty,run Tryz.prog HH 167 [.int .i64 ms] ⟨nx,mem,arr,⟨obj,st.x.gl,ty⟩⟩=some (.ret (.tup [.str (secT ms),.int .i64 0]),⟨nx,mem,arr,⟨obj,st.x.gl,ty⟩⟩):=fun nx mem arr obj ty=>by
  have e0:∀st:St,run Tryz.prog HH 148 [.int .i64 ms,.int .i64 0,.int .i64 10000000] st=some (.ret (.int .i64 0),st):=fun st=>by
   rw[run_shut F148 rfl rfl (by simp)]
   push_cast[a1,a2]
  rw[run_shut F167 rfl rfl (by simp)]
  push_cast[e0,e1]
 rw[run_shut F92 rfl rfl (by simp)]
 push_cast[e2]
def flgT (c:Cu):List UInt8:=if c.block=true then if c.mark=true then[98,108,111,99,107,32,109,97,114,107] else[98,108,111,99,107] else if c.mark=true then[109,97,114,107] else[]
theorem f93 {c:Cu}{st:St}:run Tryz.prog HH 93 [c.v] st=some (.ret (.str (flgT c)),st):=by
 have j0:=fun(st:St)=>h100 (ss:=[]) (t:=[32]) (st:=st) (by decide) (by decide)
 have j1:=fun(st:St)=>h100 (ss:=[[98,108,111,99,107]]) (t:=[32]) (st:=st) (by decide) (by decide)
 have j2:=fun(st:St)=>h100 (ss:=[[109,97,114,107]]) (t:=[32]) (st:=st) (by decide) (by decide)
 have j3:=fun(st:St)=>h100 (ss:=[[98,108,111,99,107],[109,97,114,107]]) (t:=[32]) (st:=st) (by decide) (by decide)
 have k0:Lib.join [] [32]=[]:=rfl
 have k1:Lib.join [[98,108,111,99,107]] [32]=[98,108,111,99,107]:=rfl
 have k2:Lib.join [[109,97,114,107]] [32]=[109,97,114,107]:=rfl
 have k3:Lib.join [[98,108,111,99,107],[109,97,114,107]] [32]=[98,108,111,99,107,32,109,97,114,107]:=rfl
 rw[k0]at j0
 rw[k1]at j1
 rw[k2]at j2
 rw[k3]at j3
 simp only[List.map_cons,List.map_nil]at j0 j1 j2 j3
 rw[run_shut F93 rfl rfl (by simp)]
 cases hb:c.block<;>cases hm:c.mark<;>push_cast[Cu.v,hb,hm,j0,j1,j2,j3,flgT,show roomV 1 16=true from rfl,show roomV 2 16=true from rfl]
theorem cue_parts {x:Cu}(h:cueP x=0):numC x.num=0∧labC x.label=0∧movCP x.moves=0∧parC x=0∧nxtC x=0:=by
 unfold cueP at h
 repeat' split at h
 all_goals first|(rename_i a;exact absurd h a)|skip
 rename_i a1 a2 a3 a4
 exact⟨Classical.not_not.1 a1,Classical.not_not.1 a2,Classical.not_not.1 a3,Classical.not_not.1 a4,h⟩
theorem timL_all:∀{l:List Tim},timL l=0→∀q∈l,tim q.up∧tim q.down∧tim q.delay
 |[],_,q,hq=>by simp at hq
 |x::r,h,q,hq=>by
  rw[timL]at h
  split at h
  ·cases h
  ·rename_i a
   rcases List.mem_cons.1 hq with rfl|hq
   ·simp only[timB,not_or,Classical.not_not]at a
    exact⟨a.1,a.2.1,a.2.2.2.2.2⟩
   ·exact timL_all h q hq
structure CuR (x:Cu):Prop where
 num:numC x.num=0
 label:labC x.label=0
 moves:x.moves.length≤128
 part:∃t r,x.parts=t::r∧tim t.up∧tim t.down∧tim t.delay
 follow:x.follow=-1∨(25≤x.follow∧x.follow≤10000000)
 link:x.link=[]∨numC x.link=0
 loops:0≤x.loops∧x.loops≤100
theorem cueR_of {x:Cu}(h:cueP x=0):CuR x:=by
 obtain⟨h1,h2,h3,h4,h5⟩:=cue_parts h
 refine⟨h1,h2,?_,?_,?_,?_,?_⟩
 ·unfold movCP at h3;split at h3
  ·cases h3
  ·omega
 ·unfold parC at h4
  split at h4
  ·cases h4
  ·split at h4
   ·cases h4
   ·split at h4
    ·rename_i a1 a2 a3
     cases hp:x.parts with
     |nil=>rw[hp]at a1;exact absurd rfl a1
     |cons t r=>exact⟨t,r,rfl,timL_all a3 t (by rw[hp];simp)⟩
    ·rename_i a;exact absurd h4 a
 all_goals
  unfold nxtC at h5
  split at h5
  ·cases h5
  ·split at h5
   ·rename_i a;exact absurd h5 a.2
   ·split at h5
    ·cases h5
    ·rename_i a1 a2 a3
     first|omega|(by_cases hl:x.link=[];exact .inl hl;right;exact Classical.not_not.1 fun e=>a2 ⟨hl,e⟩)
def lnkT (c:Cu):List UInt8:=if 0<c.loops then c.link++([32,120,32]++Lib.itoa c.loops) else c.link
def folT (c:Cu):List UInt8:=if 0≤c.follow then secT c.follow else[]
def tim0 (c:Cu):Tim:=c.parts.getD 0 default
def rowC (c:Cu):Row:=[c.num,c.label,Lib.itoa c.moves.length,secT (tim0 c).up,secT (tim0 c).down,secT (tim0 c).delay,flgT c,folT c,lnkT c]
def hdC:Row:=[[99,117,101],[108,97,98,101,108],[109,111,118,101,115],[117,112],[100,111,119,110],[100,101,108,97,121],[102,108,97,103,115],[102,111,108,108,111,119],[108,105,110,107]]
def stTC (g:List (Nat×Obj))(tab:List Row):St:=⟨4,[],[(3,⟨31,1,tab.map rowV,false,false⟩),(2,⟨9,1,[.str [99,117,101],.str [108,97,98,101,108],.str [109,111,118,101,115],.str [117,112],.str [100,111,119,110],.str [100,101,108,97,121],.str [102,108,97,103,115],.str [102,111,108,108,111,119],.str [108,105,110,107]],false,false⟩)],⟨[],g,[]⟩⟩
@[push_cast]theorem stTC_eq {tab:List Row}:stTC g tab=⟨4,[],[(3,⟨31,1,tab.map rowV,false,false⟩),(2,⟨9,1,[.str [99,117,101],.str [108,97,98,101,108],.str [109,111,118,101,115],.str [117,112],.str [100,111,119,110],.str [100,101,108,97,121],.str [102,108,97,103,115],.str [102,111,108,108,111,119],.str [108,105,110,107]],false,false⟩)],⟨[],g,[]⟩⟩:=idq rfl
theorem L37 {l:List Cu}(hG:glB g=true)(hl:l.length<1000)(hA:∀x∈l,CuR x):∀r j,l.drop j=r→∀tab:List Row,tab.length≤j+1 →
  runL Tryz.prog HH [8,27,28,29] 4 B37_0 [(8,.osl 3 tab.length),(27,.sl (l.map Cu.v)),(28,.int .i64 l.length),(29,.int .i64 j)] (stTC g tab)
   = some (.exit 0,[(8,.osl 3 (tab++r.map rowC).length)],stTC g (tab++r.map rowC)):=by
 refine drop_ind (fun j h tab hc=>?_) (fun q r j hj hx hd ih tab hc=>?_)
 all_goals rw[runL_of B37_0.eq_1]
 ·have h1:¬(j:Int)<l.length:=by omega
  push_cast[h1,List.map_nil,List.append_nil]
 ·have h1:(j:Int)<l.length:=by omega
  have hw:=iw1 (j:=j) (by omega)
  have hq:=hA q (mem_at hd)
  obtain⟨t,tr,hp,t1,t2,t3⟩:=hq.part
  obtain⟨l1,l2⟩:=hq.loops
  have ht0:tim0 q=t:=by rw[tim0,hp];rfl
  have e1:=fun nx mem arr obj ty=>f58 (m:=(q.moves.length:Nat)) (st:=⟨nx,mem,arr,⟨obj,g,ty⟩⟩) (by omega) (by have:=hq.moves;omega) hG
  have e2:=fun nx mem arr obj ty=>f92 (ms:=t.up) (st:=⟨nx,mem,arr,⟨obj,g,ty⟩⟩) t1.1 t1.2 hG
  have e3:=fun nx mem arr obj ty=>f92 (ms:=t.down) (st:=⟨nx,mem,arr,⟨obj,g,ty⟩⟩) t2.1 t2.2 hG
  have e4:=fun nx mem arr obj ty=>f92 (ms:=t.delay) (st:=⟨nx,mem,arr,⟨obj,g,ty⟩⟩) t3.1 t3.2 hG
  have e5:=fun(st:St)=>h66 (l:=(rowC q).map .str) (st:=st) (by simp[rowC,V.bdL,V.bd])
  have e6:=fun nx mem arr obj ty=>f58 (m:=q.loops) (st:=⟨nx,mem,arr,⟨obj,g,ty⟩⟩) (by omega) (by omega) hG
  have e7:=fun(st:St)=>f93 (c:=q) (st:=st)
  have l3:=Lib.itoa_length_le q.loops (by omega) (by omega)
  have hro:roomV (tab.length+1) 24=true:=roomV_lit (by omega) (by omega)
  have p0:∀d,q.parts.getD 0 d=t:=fun d=>by rw[hp];rfl
  have p1:(0:Int)<q.parts.length:=by rw[hp,List.length_cons];omega
  have ih:=ih (tab++[rowC q]) (by simp;omega)
  rw[List.map_cons]
  generalize hR:rowC q=R at *
  rw[rowC,ht0]at hR
  have hlk:(q.link.length:Int)≤1000000:=by
   rcases hq.link with h|h
   ·rw[h];simp
   ·have:=(num_chars h).1;omega
  by_cases hf:0≤q.follow
  ·have e8:=fun nx mem arr obj ty=>f92 (ms:=q.follow) (st:=⟨nx,mem,arr,⟨obj,g,ty⟩⟩) hf (by have:=hq.follow;omega) hG
   have ef:folT q=secT q.follow:=by rw[folT,if_pos hf]
   by_cases hl0:0<q.loops
   ·have el:lnkT q=q.link++([32,120,32]++Lib.itoa q.loops):=by rw[lnkT,if_pos hl0]
    rw[ef,el]at hR
    subst hR
    simp only[List.map_cons,List.map_nil]at e5
    clear ht0 ef el
    generalize rowC=rc at *
    generalize flgT q=fl at *
    push_cast at e5
    push_cast[Cu.v,Tim.v,List.map_nil,List.length_nil]at ih e7
    push_cast[h1,hw,hx,hf,hl0,p0,p1,e1,e2,e3,e4,e5,e6,e7,e8,hro,Cu.v,Tim.v,List.map_nil,List.length_nil,List.map_append,List.map_cons,List.append_assoc,List.singleton_append,rowV]at ih ⊢
    first|exact ih|exact dn_eq (by omega) ih
   ·have el:lnkT q=q.link:=by rw[lnkT,if_neg hl0]
    rw[ef,el]at hR
    subst hR
    simp only[List.map_cons,List.map_nil]at e5
    clear ht0 ef el
    generalize rowC=rc at *
    generalize flgT q=fl at *
    push_cast at e5
    push_cast[Cu.v,Tim.v,List.map_nil,List.length_nil]at ih e7
    push_cast[h1,hw,hx,hf,hl0,p0,p1,e1,e2,e3,e4,e5,e6,e7,e8,hro,Cu.v,Tim.v,List.map_nil,List.length_nil,List.map_append,List.map_cons,List.append_assoc,List.singleton_append,rowV]at ih ⊢
    first|exact ih|exact dn_eq (by omega) ih
  ·have ef:folT q=[]:=by rw[folT,if_neg hf]
   by_cases hl0:0<q.loops
   ·have el:lnkT q=q.link++([32,120,32]++Lib.itoa q.loops):=by rw[lnkT,if_pos hl0]
    rw[ef,el]at hR
    subst hR
    simp only[List.map_cons,List.map_nil]at e5
    clear ht0 ef el
    generalize rowC=rc at *
    generalize flgT q=fl at *
    push_cast at e5
    push_cast[Cu.v,Tim.v,List.map_nil,List.length_nil]at ih e7
    push_cast[h1,hw,hx,hf,hl0,p0,p1,e1,e2,e3,e4,e5,e6,e7,hro,Cu.v,Tim.v,List.map_nil,List.length_nil,List.map_append,List.map_cons,List.append_assoc,List.singleton_append,rowV]at ih ⊢
    first|exact ih|exact dn_eq (by omega) ih
   ·have el:lnkT q=q.link:=by rw[lnkT,if_neg hl0]
    rw[ef,el]at hR
    subst hR
    simp only[List.map_cons,List.map_nil]at e5
    clear ht0 ef el
    generalize rowC=rc at *
    generalize flgT q=fl at *
    push_cast at e5
    push_cast[Cu.v,Tim.v,List.map_nil,List.length_nil]at ih e7
    push_cast[h1,hw,hx,hf,hl0,p0,p1,e1,e2,e3,e4,e5,e6,e7,hro,Cu.v,Tim.v,List.map_nil,List.length_nil,List.map_append,List.map_cons,List.append_assoc,List.singleton_append,rowV]at ih ⊢
    first|exact ih|exact dn_eq (by omega) ih
theorem cuesP_R {l:List Cu}:∀{r:List Cu}{j:Nat},cuesP l r j=0→∀c∈r,CuR c
 |[],_,_,c,hc=>by simp at hc
 |q::r,j,h,c,hc=>by
  rw[cuesP]at h
  repeat' split at h
  all_goals first|(rename_i a;exact absurd h a)|cases h|skip
  rename_i a _
  rcases List.mem_cons.1 hc with rfl|hc
  ·exact cueR_of (Classical.not_not.1 a)
  ·exact cuesP_R h c hc
theorem lst_R {x:Lst}(h:lstP x=0):∀c∈x.cues,CuR c:=by
 unfold lstP lstB at h
 split at h
 ·cases h
 ·split at h
  ·cases h
  ·exact cuesP_R h
def cueT (x:Lst):List Row:=hdC::x.cues.map rowC
theorem f74 {s:Sho}{v:Int}{i:Nat}{x:Lst}(h:s.ok)(hs:shoC s=0)(hi:ix (fun x=>x.num == v) s.lsts 0=i)(hlt:i<s.lsts.length)(hx:∀d,s.lsts.getD i d=x){st:St}:run Tryz.prog HH 74 [s.v,.int .i64 v] st=some (.ret (.tup [x.v,.int .i64 0]),st):=by
 have h1:=fun(st:St)=>f139 (v:=v) (st:=st) h
 have hlt':(i:Int)<s.lsts.length:=by omega
 have e1:fndI' (shoC s) (ix (fun x=>x.num == v) s.lsts 0)=i:=by rw[fndI',if_neg (by simp[hs]),hi,if_neg (by omega)]
 have e2:fndE (shoC s) (ix (fun x=>x.num == v) s.lsts 0)=0:=by rw[fndE,if_neg (by simp[hs]),hi,if_neg (by omega)]
 rw[e1,e2]at h1
 rw[run_shut F74 rfl rfl (by simp)]
 push_cast[Sho.v,Lst.v]at h1
 push_cast[Sho.v,Lst.v,h1,hlt',hx]
theorem f37 {s:Sho}{v:Int}{i:Nat}{x:Lst}(h:s.ok)(hs:shoC s=0)(hi:ix (fun x=>x.num == v) s.lsts 0=i)(hlt:i<s.lsts.length)(hx:∀d,s.lsts.getD i d=x){st:St}(hG:glB st.x.gl=true):run Tryz.prog HH 37 [s.v,.int .i64 v] st=some (.ret (.tup [.sl ((cueT x).map rowV),.int .i64 0]),st):=by
 have h1:=fun(st:St)=>f74 (st:=st) h hs hi hlt hx
 have hm:x∈s.lsts:=by
  rw[←hx default,List.getD_eq_getElem?_getD,List.getElem?_eq_getElem hlt];simp
 have hp:=(sho_parts hs).2.1 x hm
 have hL1:=L37 (g:=st.x.gl) hG (l:=x.cues) (by have:=(lst_parts hp).2.2.1;omega) (lst_R hp) _ 0 rfl [hdC] (Nat.le_refl _)
 have e4:=fun(st:St)=>h66 (l:=hdC.map .str) (st:=st) rfl
 rw[List.drop_zero]at hL1
 simp only[hdC,List.map_cons,List.map_nil]at e4
 rw[hdC]at hL1
 rw[cueT]
 generalize x.cues.map rowC=so at *
 rw[run_shut F37 rfl rfl (by simp)]
 push_cast[Sho.v,Lst.v,rowV,List.map_cons,List.map_nil,List.length_cons,List.length_nil,List.singleton_append]at hL1 h1
 push_cast[Sho.v,Lst.v,hL1,h1,e4,hdC,rowV,List.map_cons,List.map_nil,List.length_cons,List.length_nil,List.singleton_append]
end Go.Proofs.YtanojbajfgcjeaaGreatDoor

namespace Go.Proofs.YtanojbajfgcjeaaGreatDoor
open Go.Sha
set_option maxRecDepth 100000
variable {g:List (Nat×Obj)}{n:Nat}
theorem asc_gen {α:Type}[Inhabited α]{num:α→Int}{l:List α}{F:List α→Nat→Int}(hF:∀q r j,F (q::r) j=0→¬(0<j∧num q≤num (l.getD (j-1) default))∧F r (j+1)=0) :
  ∀{r:List α}{j:Nat},l.drop j=r→F r j=0→(l.take j).Pairwise (fun a b=>num a<num b)→l.Pairwise fun a b=>num a<num b
 |[],j,hd,_,hp=>by
  have:l.length≤j:=List.drop_eq_nil_iff.1 hd
  rwa [List.take_of_length_le this]at hp
 |q::r,j,hd,h,hp=>by
  obtain⟨h2,h3⟩:=hF q r j h
  refine asc_gen hF (drop_succ hd) h3 ?_
  rw[take_snoc hd]
  refine List.pairwise_append.2 ⟨hp,List.pairwise_singleton ..,fun y hy z hz=>?_⟩
  rw[List.mem_singleton.1 hz]
  obtain⟨k,hk⟩:=List.mem_iff_getElem?.1 hy
  have hj:=drop_le hd
  rw[List.getElem?_take]at hk
  split at hk
  ·rename_i hkj
   have e:l.getD (j-1) default=l[j-1]:=by rw[List.getD_eq_getElem?_getD,List.getElem?_eq_getElem (by omega)];rfl
   rw[e]at h2
   rw[List.getElem?_eq_getElem (by omega)]at hk
   rw[←Option.some.inj hk]
   rcases Nat.lt_or_ge k (j-1) with hk2|hk2
   ·have hm:=List.pairwise_iff_getElem.1 hp k (j-1) (by simp;omega) (by simp;omega) hk2
    rw[List.getElem_take,List.getElem_take]at hm
    omega
   ·have:k=j-1:=by omega
    subst this
    omega
  ·cases hk
theorem lsts_asc {l:List Lst}(h:lstsC l=0):l.Pairwise fun a b=>a.num<b.num:=by
 unfold lstsC at h
 split at h
 ·cases h
 ·refine asc_gen (num:=Lst.num) (F:=lstsL l) (fun q r j h=>?_) (j:=0) rfl h List.Pairwise.nil
  rw[lstsL]at h
  repeat' split at h
  all_goals first|(rename_i a;exact absurd h a)|cases h|exact⟨by assumption,h⟩
theorem ix_at {α:Type}{num:α→Int}:∀{l:List α}{k j:Nat}{q:α},l.Pairwise (fun a b=>num a<num b)→l[k]?=some q→ix (fun x=>num x == num q) l j=((j+k:Nat):Int)
 |[],k,j,q,_,h=>by cases h
 |x::r,0,j,q,_,h=>by
  cases h;simp[ix]
 |x::r,k+1,j,q,hp,h=>by
  have h1:=List.pairwise_cons.1 hp
  have h2:num x<num q:=h1.1 q (List.mem_of_getElem? h)
  rw[ix,if_neg (by simp;omega),ix_at h1.2 h,show j+1+k=j+(k+1) by omega]
def Pl (s:List UInt8):Prop:=(∀b∈s,plainB b=true)∧s.length≤20000
theorem Pl.nil:Pl []:=⟨fun _ h=>by simp at h,by simp⟩
theorem Pl.app {s t:List UInt8}(h:Pl s)(k:Pl t)(hl:s.length+t.length≤20000):Pl (s++t) :=
 ⟨fun b hb=>(List.mem_append.1 hb).elim (h.1 b) (k.1 b),by rw[List.length_append];exact hl⟩
theorem Pl.cons {c:UInt8}{t:List UInt8}(hc:plainB c=true)(k:Pl t)(hl:t.length<20000):Pl (c::t) :=
 ⟨fun b hb=>(List.mem_cons.1 hb).elim (fun e=>by rw[e];exact hc) (k.1 b),by rw[List.length_cons];omega⟩
theorem isD_plain {b:UInt8}(h:isD b=true):plainB b=true:=by
 unfold isD at h;unfold plainB
 simp only[Bool.and_eq_true,decide_eq_true_eq]at h ⊢;omega
theorem Pl.itoa {m:Int}(h0:0≤m)(h1:m≤9223372036854775807):Pl (Lib.itoa m) :=
 ⟨fun b hb=>isD_plain (itoa_digs h0 b hb),by have:=Lib.itoa_length_le m (by omega) h1;omega⟩
theorem Pl.num {s:List UInt8}(h:numC s=0):Pl s:=by
 obtain⟨h1,h2⟩:=num_chars h
 refine⟨fun b hb=>?_,by omega⟩
 rcases h2 b hb with h|rfl
 ·exact isD_plain h
 ·rfl
theorem labL_plain:∀{s:List UInt8},labL s=0→∀b∈s,plainB b=true
 |[],_,b,hb=>by simp at hb
 |q::r,h,b,hb=>by
  rw[labL]at h
  split at h
  ·cases h
  ·rename_i a
   rcases List.mem_cons.1 hb with rfl|hb
   ·unfold plainB;simp only[Bool.and_eq_true,decide_eq_true_eq];omega
   ·exact labL_plain h b hb
theorem Pl.label {s:List UInt8}(h:labC s=0):Pl s:=by
 unfold labC at h
 split at h
 ·cases h
 ·exact⟨labL_plain h,by omega⟩
theorem Pl.name {s:List UInt8}(h:nameS s=true):Pl s:=by
 unfold nameS at h
 simp only[Bool.and_eq_true,decide_eq_true_eq]at h
 obtain⟨⟨⟨h1,h2⟩,h3⟩,h4⟩:=h
 refine⟨fun b hb=>?_,by omega⟩
 have:=List.all_eq_true.1 h4 b hb
 unfold nmC isL at this
 unfold plainB
 simp only[Bool.or_eq_true,Bool.and_eq_true,decide_eq_true_eq]at this ⊢
 omega
theorem Pl.sub {s t:List UInt8}(h:Pl s)(hs:∀b∈t,b∈s)(hl:t.length≤20000):Pl t:=⟨fun b hb=>h.1 b (hs b hb),hl⟩
theorem secT_len {ms:Int}(h0:0≤ms)(h1:ms≤10000000):(secT ms).length≤50:=by
 have l1:=Lib.itoa_length_le (ms / 1000) (by omega) (by omega)
 have l2:=Lib.itoa_length_le (1000+ms % 1000) (by omega) (by omega)
 have l3:=trB_len (c:=48) (s:=(Lib.itoa (1000+ms % 1000)).drop 1)
 rw[List.length_drop]at l3
 rw[secT]
 split
 ·simp;omega
 ·rw[List.length_append,List.length_cons,secR];omega
theorem Pl.sec {ms:Int}(h0:0≤ms)(h1:ms≤10000000):Pl (secT ms):=by
 have hl:=secT_len h0 h1
 refine⟨fun b hb=>?_,by omega⟩
 rw[secT]at hb
 have hr:∀b∈secR ms,plainB b=true:=fun b hb=>by
  rw[secR,trB,List.mem_reverse]at hb
  have:=(List.dropWhile_sublist _).subset hb
  rw[List.mem_reverse]at this
  exact isD_plain (itoa_digs (m:=1000+ms % 1000) (by omega) b (List.mem_of_mem_drop this))
 rcases List.mem_append.1 hb with hb|hb
 ·exact isD_plain (itoa_digs (by omega) b hb)
 ·split at hb
  ·simp at hb
  ·rcases List.mem_cons.1 hb with rfl|hb
   ·rfl
   ·exact hr b hb
theorem Pl.join {l:List (List UInt8)}{t:List UInt8}(h:∀s∈l,Pl s)(ht:∀b∈t,plainB b=true)(hl:(Lib.join l t).length≤20000):Pl (Lib.join l t):=by
 refine⟨?_,hl⟩
 clear hl
 induction l with
 |nil=>intro b hb;simp[Lib.join_nil]at hb
 |cons x r ih =>
  intro b hb
  cases r with
  |nil=>rw[Lib.join_one]at hb;exact(h x (by simp)).1 b hb
  |cons y r =>
   rw[join_two]at hb
   rcases List.mem_append.1 hb with hb|hb
   ·exact(h x (by simp)).1 b hb
   ·rcases List.mem_append.1 hb with hb|hb
    ·exact ht b hb
    ·exact ih (fun s hs=>h s (List.mem_cons_of_mem _ hs)) b hb
theorem rowsE_ok {k:Nat}:∀{l:List Row},(∀r∈l,r.length=k∧∀s∈r,Pl s)→rowsE k l=0
 |[],_=>rfl
 |r::l,h=>by
  obtain⟨h1,h2⟩:=h r (List.mem_cons_self ..)
  have h3:celE r=0:=by
   rw[celE_ok,if_pos]
   rw[List.all_eq_true];intro s hs
   rw[List.all_eq_true];exact(h2 s hs).1
  rw[rowsE,if_pos h1,if_pos h3]
  exact rowsE_ok fun r hr=>h r (List.mem_cons_of_mem _ hr)
structure Tb (l:List Row):Prop where
 e:tabE l=0
 n:Nice l
 t:Tok l
theorem Tb.of {k:Nat}{hd:Row}{l:List Row}(hk:k≤40)(hl:l.length≤4000)(h0:hd.length=k∧∀s∈hd,Pl s)(h:∀r∈l,r.length=k∧∀s∈r,Pl s):Tb (hd::l):=by
 have h':∀r∈hd::l,r.length=k∧∀s∈r,Pl s:=fun r hr=>(List.mem_cons.1 hr).elim (fun e=>by rw[e];exact h0) (h r)
 have hg:(hd::l).getD 0 default=hd:=rfl
 refine⟨?_,⟨by rw[List.length_cons];omega,by rw[hg];omega,fun c hc s hs=>((h' c hc).2 s hs).2⟩,⟨by rw[List.length_cons];omega,fun r hr=>⟨by have:=(h' r hr).1;omega,fun s hs=>by have:=((h' r hr).2 s hs).2;omega⟩⟩⟩
 rw[tabE,if_neg (by rw[List.length_cons];omega),hg,h0.1]
 exact rowsE_ok h'
theorem allPl {l:List (List UInt8)}(h:(l.all fun s=>s.all plainB&&decide (s.length≤100))=true):∀s∈l,Pl s:=fun s hs=>by
 have:=List.all_eq_true.1 h s hs
 rw[Bool.and_eq_true,List.all_eq_true,decide_eq_true_eq]at this
 exact⟨this.1,by omega⟩
theorem prof_name {ps:List Prof}{m:List (List Pt)}:∀{r:List Prof}{j:Nat},profsR ps m r j=0→∀p∈r,nameS p.name=true
 |[],_,_,p,hp=>by simp at hp
 |q::r,j,h,p,hp=>by
  rw[profsR]at h
  split at h
  ·rename_i a;exact absurd h a
  ·rename_i a
   split at h
   ·cases h
   ·rcases List.mem_cons.1 hp with rfl|hp
    ·have a:=Classical.not_not.1 a
     unfold profR at a
     split at a
     ·rename_i b;exact absurd a b
     ·split at a
      ·cases a
      ·rename_i b;simpa using b
    ·exact prof_name h p hp
theorem fix_cells {s:Sho}(hs:shoC s=0):∀x∈s.fixts,Pl x.prof∧Pl x.cable∧Pl (unitT x)∧0≤x.univ∧0≤x.addr∧0≤x.phase∧x.univ≤8∧x.addr≤512∧x.phase≤3∧0≤x.addr+footS s.profs x-1∧x.addr+footS s.profs x≤513:=fun x hx=>by
 have hA:=(fix_ok (shoC_parts hs).2.2.2.1).2.2.2 x hx
 obtain⟨h1,p,hp,h2,h3⟩:=aloC_ok hA
 obtain⟨⟨i1,i2,i3⟩,i4⟩:=aloC_in hA
 obtain⟨r1,r2,r3,r4,r5,r6,r7,r8,r9,r10⟩:=rng_ok h1
 have hpc:=(shoC_parts hs).2.2.1
 refine⟨?_,?_,?_,by omega,by omega,by omega,by omega,by omega,by omega,by omega,by omega⟩
 ·have hn:=List.find?_some hp
  have hm:=List.mem_of_find?_eq_some hp
  rw[←(by simpa using hn:p.name=x.prof)]
  unfold profsCR at hpc
  split at hpc
  ·cases hpc
  ·exact Pl.name (prof_name hpc p hm)
 ·unfold aloC at hA
  rw[if_neg (by simp[h1])]at hA
  split at hA
  ·cases hA
  ·rename_i a
   by_cases hc:x.cable=[]
   ·rw[hc];exact Pl.nil
   ·refine Pl.name ?_
    cases e:nameS x.cable with
    |true=>rfl
    |false=>exact absurd ⟨hc,e⟩ a
 ·have p1:=Pl.itoa (m:=x.chan) (by omega) (by omega)
  have p2:=Pl.itoa (m:=x.part) (by omega) (by omega)
  have l1:=Lib.itoa_length_le x.chan (by omega) (by omega)
  have l2:=Lib.itoa_length_le x.part (by omega) (by omega)
  unfold unitT
  split
  ·exact p1
  ·exact p1.app (Pl.cons rfl p2 (by omega)) (by rw[List.length_cons];omega)
theorem tb_hup {s:Sho}(hs:shoC s=0):Tb (hupT s):=by
 have hp:=isort_perm (lt:=ltK kChan) (l:=s.fixts)
 have hlen:(isort (ltK kChan) s.fixts).length=s.fixts.length:=isort_len
 have h64:=(fix_ok (shoC_parts hs).2.2.2.1).2.1
 rw[hupT,if_pos hs]
 refine Tb.of (k:=6) (by decide) (by rw[List.length_map];omega) ⟨rfl,allPl (by decide)⟩ fun r hr=>?_
 obtain⟨x,hx,rfl⟩:=List.mem_map.1 hr
 obtain⟨c1,c2,c3,c4,c5,c6,c7,c8,c9,_⟩:=fix_cells hs x (hp.mem_iff.1 hx)
 refine⟨rfl,fun t ht=>?_⟩
 simp only[rowH,List.mem_cons,List.not_mem_nil,or_false]at ht
 rcases ht with rfl|rfl|rfl|rfl|rfl|rfl
 ·exact c3
 ·exact c1
 ·exact Pl.itoa c4 (by omega)
 ·exact Pl.itoa c5 (by omega)
 ·exact Pl.itoa c6 (by omega)
 ·exact c2
theorem tb_slt {s:Sho}(hs:shoC s=0):Tb (sltT s):=by
 have hp:=isort_perm (lt:=ltK kAddr) (l:=s.fixts)
 have hlen:(isort (ltK kAddr) s.fixts).length=s.fixts.length:=isort_len
 have h64:=(fix_ok (shoC_parts hs).2.2.2.1).2.1
 rw[sltT,if_pos hs]
 refine Tb.of (k:=5) (by decide) (by rw[List.length_map];omega) ⟨rfl,allPl (by decide)⟩ fun r hr=>?_
 obtain⟨x,hx,rfl⟩:=List.mem_map.1 hr
 obtain⟨c1,c2,c3,c4,c5,c6,c7,c8,c9,c10,c11⟩:=fix_cells hs x (hp.mem_iff.1 hx)
 refine⟨rfl,fun t ht=>?_⟩
 simp only[rowA,List.mem_cons,List.not_mem_nil,or_false]at ht
 rcases ht with rfl|rfl|rfl|rfl|rfl
 ·exact Pl.itoa c4 (by omega)
 ·exact Pl.itoa c5 (by omega)
 ·exact Pl.itoa c10 (by omega)
 ·exact c3
 ·exact c1
theorem Pl.rg {q:Rg}(h:(0≤q.1∧q.1≤1000)∧0≤q.2∧q.2≤1000):Pl (rgT q):=by
 have l:=rgT_le h
 have p1:=Pl.itoa (m:=q.1) (by omega) (by omega)
 have p2:=Pl.itoa (m:=q.2) (by omega) (by omega)
 refine⟨?_,by omega⟩
 unfold rgT
 split
 ·intro b hb
  rcases List.mem_append.1 hb with hb|hb
  ·exact p1.1 b hb
  ·rcases List.mem_append.1 hb with hb|hb
   ·exact(allPl (l:=[[32,116,104,114,117,32]]) (by decide) _ (by simp)).1 b hb
   ·exact p2.1 b hb
 ·exact p1.1
theorem tb_grp {s:Sho}(hs:shoC s=0):Tb (grpT s):=by
 obtain⟨g1,g2⟩:=grps_parts hs
 rw[grpT,if_pos hs]
 refine Tb.of (k:=2) (by decide) (by rw[List.length_map];omega) ⟨rfl,allPl (by decide)⟩ fun r hr=>?_
 obtain⟨x,hx,rfl⟩:=List.mem_map.1 hr
 obtain⟨r1,r2,r3,r4⟩:=grp_parts (g2 x hx)
 refine⟨rfl,fun t ht=>?_⟩
 simp only[rowG,List.mem_cons,List.not_mem_nil,or_false]at ht
 rcases ht with rfl|rfl
 ·exact Pl.itoa (by omega) (by omega)
 ·have hok:=setC_ok (l:=x.chans)
  have hl:=setC_len (l:=x.chans)
  have:=setT_le hok
  unfold setT
  split
  ·refine Pl.join (fun s hs=>?_) (allPl (l:=[[32,43,32]]) (by decide) _ (by simp)).1 (by omega)
   obtain⟨q,hq,rfl⟩:=List.mem_map.1 hs
   exact Pl.rg (hok q hq)
  ·exact Pl.nil
end Go.Proofs.YtanojbajfgcjeaaGreatDoor

namespace Go.Proofs.YtanojbajfgcjeaaGreatDoor
open Go.Sha
set_option maxRecDepth 100000
variable {g:List (Nat×Obj)}{n:Nat}
theorem uses_of2 {s:Sho}{p:Int}(hs:shoC s=0):(s.lsts.flatMap (usesL p)).length≤512∧∀q∈s.lsts.flatMap (usesL p),Pl q∧q.length≤32:=by
 obtain⟨hn,hp,-,-⟩:=sho_parts hs
 constructor
 ·have:∀(l:List Lst),(∀x∈l,lstP x=0)→(l.flatMap (usesL p)).length≤l.length*64:=by
   intro l hl
   induction l with
   |nil=>simp
   |cons x r ih =>
    have h1:=ih fun y hy=>hl y (List.mem_cons_of_mem _ hy)
    have h2:=(refs_le (p:=p) (hl x (List.mem_cons_self ..))).1
    rw[List.flatMap_cons,List.length_append,List.length_cons,Nat.succ_mul,usesL,List.length_map]
    omega
  have:=this s.lsts hp
  omega
 ·intro q hq
  obtain⟨x,hx,hq⟩:=List.mem_flatMap.1 hq
  obtain⟨z,hz,rfl⟩:=List.mem_map.1 hq
  have hz:=(refs_le (hp x hx)).2 z hz
  have h1:=(num_chars hz).1
  obtain⟨p1,p2,-,-⟩:=lst_parts (hp x hx)
  have h2:=Lib.itoa_length_le x.num (by omega) (by omega)
  have hl:(useT x.num z).length≤32:=by
   simp only[useT,List.length_append,List.length_cons,List.length_nil]
   omega
  refine⟨⟨fun b hb=>?_,by omega⟩,hl⟩
  simp only[useT,List.append_assoc]at hb
  rcases List.mem_append.1 hb with hb|hb
  ·exact(Pl.itoa (m:=x.num) (by omega) (by omega)).1 b hb
  ·rcases List.mem_append.1 hb with hb|hb
   ·exact(allPl (l:=[[32,47,32]]) (by decide) _ (by simp)).1 b hb
   ·exact(Pl.num hz).1 b hb
theorem tb_pal {s:Sho}(h:s.ok)(hs:shoC s=0):Tb (palT s):=by
 obtain⟨_,_,g1,g2⟩:=sho_parts hs
 rw[palT,if_pos hs]
 refine Tb.of (k:=3) (by decide) (by rw[List.length_map];omega) ⟨rfl,allPl (by decide)⟩ fun r hr=>?_
 obtain⟨x,hx,rfl⟩:=List.mem_map.1 hr
 obtain⟨r1,r2⟩:=g2 x hx
 have hh:=h.l.2 x hx
 refine⟨rfl,fun t ht=>?_⟩
 simp only[rowP,List.mem_cons,List.not_mem_nil,or_false]at ht
 rcases ht with rfl|rfl|rfl
 ·exact Pl.itoa (by omega) (by omega)
 ·exact Pl.itoa (by omega) (by omega)
 ·obtain⟨u1,u2⟩:=uses_of2 (p:=x.num) hs
  generalize s.lsts.flatMap (usesL x.num)=us at *
  refine Pl.join (fun q hq=>(u2 q hq).1) (allPl (l:=[[44,32]]) (by decide) _ (by simp)).1 ?_
  cases us with
  |nil=>simp[Lib.join_nil]
  |cons z r =>
   rw[Lib.join_length]
   have h1:=lens_le (B:=32) (ss:=z::r) fun q hq=>(u2 q hq).2
   simp only[List.length_cons,List.length_nil]at h1 u1 ⊢
   omega
theorem tb_cue {x:Lst}(hx:lstP x=0):Tb (cueT x):=by
 have hR:=lst_R hx
 have hl:=(lst_parts hx).2.2.1
 rw[cueT]
 refine Tb.of (k:=9) (by decide) (by rw[List.length_map];omega) ⟨rfl,allPl (by decide)⟩ fun r hr=>?_
 obtain⟨c,hc,rfl⟩:=List.mem_map.1 hr
 have hq:=hR c hc
 obtain⟨t,tr,hp,t1,t2,t3⟩:=hq.part
 obtain⟨l1,l2⟩:=hq.loops
 have hm:=hq.moves
 have ht0:tim0 c=t:=by rw[tim0,hp];rfl
 have hlk:Pl c.link:=by
  rcases hq.link with h|h
  ·rw[h];exact Pl.nil
  ·exact Pl.num h
 have hlk2:c.link.length≤8:=by
  rcases hq.link with h|h
  ·rw[h];simp
  ·exact(num_chars h).1
 refine⟨rfl,fun t ht=>?_⟩
 simp only[rowC,ht0,List.mem_cons,List.not_mem_nil,or_false]at ht
 rcases ht with rfl|rfl|rfl|rfl|rfl|rfl|rfl|rfl|rfl
 ·exact Pl.num hq.num
 ·exact Pl.label hq.label
 ·exact Pl.itoa (by omega) (by omega)
 ·exact Pl.sec t1.1 t1.2
 ·exact Pl.sec t2.1 t2.2
 ·exact Pl.sec t3.1 t3.2
 ·unfold flgT
  repeat' split
  all_goals exact allPl (l:=[[98,108,111,99,107,32,109,97,114,107],[98,108,111,99,107],[109,97,114,107],[]]) (by decide) _ (by simp)
 ·unfold folT
  split
  ·exact Pl.sec (by omega) (by have:=hq.follow;omega)
  ·exact Pl.nil
 ·have pi:=Pl.itoa (m:=c.loops) (by omega) (by omega)
  have li:=Lib.itoa_length_le c.loops (by omega) (by omega)
  unfold lnkT
  split
  ·refine hlk.app ((allPl (l:=[[32,120,32]]) (by decide) _ (by simp)).app pi ?_) ?_
   ·simp only[List.length_cons,List.length_nil];omega
   ·simp only[List.length_append,List.length_cons,List.length_nil];omega
  ·exact hlk
theorem itoaD {m:Int}(h0:-9223372036854775808≤m)(h1:m≤9223372036854775807){st:St}(hG:glB st.x.gl=true):run Tryz.prog HD 26 [.int .i64 m] st=some (.ret (.str (Lib.itoa m)),st):=upD3 (itoaH h0 h1 hG)
def stTs (g:List (Nat×Obj))(n:Nat)(ts:List (List Row)):St:=⟨n,[],[(1,⟨22,1,ts.map tabV,false,false⟩)],⟨[],g,[]⟩⟩
@[push_cast]theorem stTs_eq {n:Nat}{ts:List (List Row)}:stTs g n ts=⟨n,[],[(1,⟨22,1,ts.map tabV,false,false⟩)],⟨[],g,[]⟩⟩:=idq rfl
theorem L8_0 {v1:V}{x:Lst}{s:Sho}{j:Nat}{ts:List (List Row)}(b1:V.bd 3 v1=true)(hG:glB g=true)(hl:x.cues.length<1000)(hA:∀c∈x.cues,CuR c):∀r k,x.cues.drop k=r →
  runL Tryz.prog HD [1,11,14,94,95,96,119,120,121] 3 B8_0 [(1,v1),(11,.osl 1 ts.length),(14,.sl ((cueT x).map rowV)),(94,.sl (s.lsts.map Lst.v)),(95,.int .i64 s.lsts.length),(96,.int .i64 j),(119,.sl (x.cues.map Cu.v)),(120,.int .i64 x.cues.length),(121,.int .i64 k)] (stTs g 3 ts)
   = some (.exit 2,[(1,v1),(11,.osl 1 ts.length),(14,.sl ((cueT x).map rowV)),(94,.sl (s.lsts.map Lst.v)),(95,.int .i64 s.lsts.length),(96,.int .i64 j)],stTs g 3 ts):=by
 have htl:(cueT x).length=x.cues.length+1:=by rw[cueT];simp
 have htg:∀k q r,x.cues.drop k=q::r→∀d,(cueT x).getD (k+1) d=rowC q:=fun k q r hd d=>by
  have hx:x.cues[k]?=some q:=by
   have:=congrArg (fun l=>l[0]?) hd
   simpa [List.getElem?_drop] using this
  rw[cueT,List.getD_eq_getElem?_getD,List.getElem?_cons_succ,List.getElem?_map,hx];rfl
 generalize cueT x=tab at *
 refine drop_ind (fun k h=>?_) (fun q r k hk hx hd ih=>?_)
 all_goals rw[runL_of B8_0.eq_1]
 ·have h1:¬(k:Int)<x.cues.length:=by omega
  push_cast[h1,b1,Lst.v,Cu.v,rowV]
 ·have h1:(k:Int)<x.cues.length:=by omega
  have h2:(k:Int)+1<x.cues.length+1:=by omega
  have h3:(0:Int)≤k+1:=by omega
  have hw:=iw1 (j:=k) (by omega)
  have hq:=hA q (mem_at hd)
  have hgd:=htg k q r hd
  have e1:=fun nx mem arr obj ty=>itoaD (m:=(q.moves.length:Nat)) (st:=⟨nx,mem,arr,⟨obj,g,ty⟩⟩) (by omega) (by have:=hq.moves;omega) hG
  rw[rowC]at hgd
  push_cast[Cu.v,Lst.v,rowV]at ih
  push_cast[h1,h2,h3,hw,hx,hgd,htl,e1,b1,Cu.v,Lst.v,rowV,Int.toNat_natCast_add_one,List.map_cons,List.map_nil,List.length_cons,List.length_nil]at ih ⊢
  exact ih
theorem L8_1 {s:Sho}(hG:glB g=true)(h:s.ok)(hs:shoC s=0):∀r j,s.lsts.drop j=r→∀ts:List (List Row),ts.length≤j+4 →
  runL Tryz.prog HD [1,11,94,95,96] 2 B8_1 [(1,.ep s.v 0),(11,.osl 1 ts.length),(94,.sl (s.lsts.map Lst.v)),(95,.int .i64 s.lsts.length),(96,.int .i64 j)] (stTs g 2 ts)
   = some (.exit 0,[(11,.osl 1 (ts++r.map cueT).length)],stTs g 2 (ts++r.map cueT)):=by
 obtain⟨hn,hp,-,-⟩:=sho_parts hs
 have hasc:=lsts_asc (shoC_parts hs).2.2.2.2.2.2.1
 refine drop_ind (fun j hj ts ht=>?_) (fun q r j hj hx hd ih ts ht=>?_)
 all_goals rw[runL_of B8_1.eq_1]
 ·have h1:¬(j:Int)<s.lsts.length:=by omega
  push_cast[h1,List.map_nil,List.append_nil]
 ·have h1:(j:Int)<s.lsts.length:=by omega
  have hw:=iw1 (j:=j) (by omega)
  have hm:=mem_at hd
  have hq:=hp q hm
  have hc:=(lst_parts hq).2.2.1
  have hi:ix (fun x=>x.num == q.num) s.lsts 0=j:=by
   have:s.lsts[j]?=some q:=by
    have:=congrArg (·[0]?) hd
    simpa using this
   have:=ix_at (j:=0) hasc this
   simpa using this
  have e1:=fun nx mem arr obj ty=>upD3 (f37 (st:=⟨nx,mem,arr,⟨obj,g,ty⟩⟩) h hs hi hj hx hG)
  have hL:=L8_0 (g:=g) (v1:=.ep s.v 0) (s:=s) (j:=j) (ts:=ts) (by simp[V.bd,V.bdL]) hG (x:=q) (by omega) (lst_R hq) _ 0 rfl
  have hlen:(cueT q).length=q.cues.length+1:=by rw[cueT];simp
  have hro:roomV (ts.length+1) 24=true:=roomV_lit (by omega) (by omega)
  have w1:IntKind.i64.wrap ((q.cues.length:Int)+1)=(q.cues.length:Int)+1:=iwrap (by omega) (by omega)
  have ih:=ih (ts++[cueT q]) (by simp;omega)
  rw[List.map_cons]
  generalize cueT q=tab at *
  generalize cueT=ct at *
  push_cast[Sho.v,Lst.v,tabV,List.map_append,List.map_cons,List.map_nil]at ih hL e1
  push_cast[h1,hw,hx,hL,e1,hlen,w1,hro,Sho.v,Lst.v,tabV,List.map_append,List.map_cons,List.map_nil,List.append_assoc,List.singleton_append]at ih ⊢
  exact ih
theorem L8_2 {ts:List (List Row)}(hl:ts.length<1000)(hT:∀t∈ts,Tb t):∀r j,ts.drop j=r →
  runL Tryz.prog HD [165,166,167] 2 B8_2 [(165,.osl 1 ts.length),(166,.int .i64 ts.length),(167,.int .i64 j)] (stTs g 2 ts)=some (.exit 4,[],stTs g 2 ts):=by
 refine drop_ind (fun j hj=>?_) (fun q r j hj hx hd ih=>?_)
 all_goals rw[runL_of B8_2.eq_1]
 ·have h1:¬(j:Int)<ts.length:=by omega
  push_cast[h1]
 ·have h1:(j:Int)<ts.length:=by omega
  have h2:j<ts.length:=hj
  have hw:=iw1 (j:=j) (by omega)
  have hq:=hT q (mem_at hd)
  have e1:=fun(st:St)=>upD2 (f13 (st:=st) hq.t (fun _=>hq.n))
  rw[hq.e]at e1
  have hx2:(ts.map tabV).getD j V.und=tabV q:=by
   have:=congrArg (·[0]?) hd
   simp at this
   rw[List.getD_eq_getElem?_getD,List.getElem?_map,this];rfl
  push_cast[tabV]at ih hx2
  push_cast[h1,h2,hw,hx,hx2,e1,tabV]at ih ⊢
  exact ih
theorem l11 {s:Sho}(h:s.ok){v:GV}{st:St}(hg:st.x.gl=glK v)(hG:glB st.x.gl=true):run Tryz.prog HD 8 [s.v] st=some (.ret (.bool true),st):=by
 obtain⟨b,hb0,hb⟩:=f20' h
 have h31:=fun st=>upD3 (hb st)
 have hA:=fun nx mem arr obj ty=>awkD (st:=⟨nx,mem,arr,⟨obj,st.x.gl,ty⟩⟩) hg
 rw[run_shut F8 rfl rfl (by simp)]
 cases b with
 |true =>
  obtain⟨hs,h12⟩:=hb0 rfl
  obtain⟨hn,-,hpl,-⟩:=sho_parts hs
  obtain⟨hgl,-⟩:=grps_parts hs
  have e1:=fun nx mem arr obj ty=>upD1 (f35 (st:=⟨nx,mem,arr,⟨obj,st.x.gl,ty⟩⟩) h (fun _=>by omega) hG)
  have e2:=fun nx mem arr obj ty=>upD1 (f21 (st:=⟨nx,mem,arr,⟨obj,st.x.gl,ty⟩⟩) h (fun _=>by omega) hG)
  have e3:=fun nx mem arr obj ty=>upD3 (f36 (st:=⟨nx,mem,arr,⟨obj,st.x.gl,ty⟩⟩) h hG)
  have e4:=fun nx mem arr obj ty=>upD3 (f24 (st:=⟨nx,mem,arr,⟨obj,st.x.gl,ty⟩⟩) h hG)
  have n1:(hupT s).length=s.fixts.length+1:=by rw[hupT,if_pos hs,List.length_cons,List.length_map,isort_len]
  have n2:(sltT s).length=s.fixts.length+1:=by rw[sltT,if_pos hs,List.length_cons,List.length_map,isort_len]
  have n3:(grpT s).length=s.grps.length+1:=by rw[grpT,if_pos hs,List.length_cons,List.length_map]
  have n4:(palT s).length=s.pals.length+1:=by rw[palT,if_pos hs,List.length_cons,List.length_map]
  have hL1:=L8_1 (g:=st.x.gl) hG h hs _ 0 rfl [hupT s,sltT s,grpT s,palT s] (Nat.le_refl _)
  have hT:∀t∈[hupT s,sltT s,grpT s,palT s]++s.lsts.map cueT,Tb t:=fun t ht=>by
   rcases List.mem_append.1 ht with ht|ht
   ·simp only[List.mem_cons,List.not_mem_nil,or_false]at ht
    rcases ht with rfl|rfl|rfl|rfl
    ·exact tb_hup hs
    ·exact tb_slt hs
    ·exact tb_grp hs
    ·exact tb_pal h hs
   ·obtain⟨x,hx,rfl⟩:=List.mem_map.1 ht
    exact tb_cue ((sho_parts hs).2.1 x hx)
  have hL2:=L8_2 (g:=st.x.gl) (ts:=[hupT s,sltT s,grpT s,palT s]++s.lsts.map cueT) (by simp;omega) hT _ 0 rfl
  have w1:IntKind.i64.wrap ((s.fixts.length:Int)+1)=(s.fixts.length:Int)+1:=iwrap (by omega) (by omega)
  have w3:IntKind.i64.wrap ((s.grps.length:Int)+1)=(s.grps.length:Int)+1:=iwrap (by omega) (by omega)
  have w4:IntKind.i64.wrap ((s.pals.length:Int)+1)=(s.pals.length:Int)+1:=iwrap (by omega) (by omega)
  rw[List.drop_zero]at hL1
  rw[hs]at e1 e2 e3 e4
  generalize [hupT s,sltT s,grpT s,palT s]++s.lsts.map cueT=ts at *
  generalize hupT s=t1 at *
  generalize sltT s=t2 at *
  generalize grpT s=t3 at *
  generalize palT s=t4 at *
  push_cast[Sho.v,tabV,List.map_cons,List.map_nil,List.length_cons,List.length_nil]at hL1 hL2 h31 e1 e2 e3 e4
  push_cast[Sho.v,h31,e1,e2,e3,e4,n1,n2,n3,n4,w1,w3,w4,hL1,hL2,hA,tabV,List.map_cons,List.map_nil,List.length_cons,List.length_nil]
 |false =>
  push_cast[Sho.v]at h31
  push_cast[Sho.v,h31,hA]
end Go.Proofs.YtanojbajfgcjeaaGreatDoor

namespace Go.Proofs.YtanojbajfgcjeaaGreatDoor
open Go.Sha
def Pt.sh:List CSh:=[.int .i64,.int .i64]
structure Pt.Dk (z:Pt):Prop where
 x:-9223372036854775808≤z.x∧z.x≤9223372036854775807
 y:-9223372036854775808≤z.y∧z.y≤9223372036854775807
theorem Pt.rd {vs:List V}(h:OkCs Pt.sh vs):∃x:Pt,V.agg vs=x.v∧x.Dk:=by
 obtain⟨v0,r0,rfl,h0,t0⟩:=h.cons_inv
 obtain⟨v1,r1,rfl,h1,t1⟩:=t0.cons_inv
 obtain rfl:=t1.nil_inv
 obtain⟨y0,rfl,b0⟩:=h0.i64_inv
 obtain⟨y1,rfl,b1⟩:=h1.i64_inv
 exact⟨⟨y0,y1⟩,rfl,⟨b0,b1⟩⟩
def Slt.sh:List CSh:=[.str,.int .i64,.int .i64]
structure Slt.Dk (z:Slt):Prop where
 name:z.name.length≤140737488351232
 fr:-9223372036854775808≤z.fr∧z.fr≤9223372036854775807
 to_:-9223372036854775808≤z.to_∧z.to_≤9223372036854775807
theorem Slt.rd {vs:List V}(h:OkCs Slt.sh vs):∃x:Slt,V.agg vs=x.v∧x.Dk:=by
 obtain⟨v0,r0,rfl,h0,t0⟩:=h.cons_inv
 obtain⟨v1,r1,rfl,h1,t1⟩:=t0.cons_inv
 obtain⟨v2,r2,rfl,h2,t2⟩:=t1.cons_inv
 obtain rfl:=t2.nil_inv
 obtain⟨y0,rfl,b0⟩:=h0.str_inv
 obtain⟨y1,rfl,b1⟩:=h1.i64_inv
 obtain⟨y2,rfl,b2⟩:=h2.i64_inv
 exact⟨⟨y0,y1,y2⟩,rfl,⟨b0,b1,b2⟩⟩
def Ftr.sh:List CSh:=[.int .i64,.int .i64,.int .i64,.int .i64,.int .i64,.int .i64,.int .i64,.int .i64,.bool,.sl true 32 Slt.sh]
structure Ftr.Dk (z:Ftr):Prop where
 attr:-9223372036854775808≤z.attr∧z.attr≤9223372036854775807
 bits:-9223372036854775808≤z.bits∧z.bits≤9223372036854775807
 coarse:-9223372036854775808≤z.coarse∧z.coarse≤9223372036854775807
 fine:-9223372036854775808≤z.fine∧z.fine≤9223372036854775807
 curve:-9223372036854775808≤z.curve∧z.curve≤9223372036854775807
 home:-9223372036854775808≤z.home∧z.home≤9223372036854775807
 low:-9223372036854775808≤z.low∧z.low≤9223372036854775807
 high:-9223372036854775808≤z.high∧z.high≤9223372036854775807
 snap:True
 wheel:z.wheel.length≤140737488351232∧∀q∈z.wheel,q.Dk
theorem Ftr.rd {vs:List V}(h:OkCs Ftr.sh vs):∃x:Ftr,V.agg vs=x.v∧x.Dk:=by
 obtain⟨v0,r0,rfl,h0,t0⟩:=h.cons_inv
 obtain⟨v1,r1,rfl,h1,t1⟩:=t0.cons_inv
 obtain⟨v2,r2,rfl,h2,t2⟩:=t1.cons_inv
 obtain⟨v3,r3,rfl,h3,t3⟩:=t2.cons_inv
 obtain⟨v4,r4,rfl,h4,t4⟩:=t3.cons_inv
 obtain⟨v5,r5,rfl,h5,t5⟩:=t4.cons_inv
 obtain⟨v6,r6,rfl,h6,t6⟩:=t5.cons_inv
 obtain⟨v7,r7,rfl,h7,t7⟩:=t6.cons_inv
 obtain⟨v8,r8,rfl,h8,t8⟩:=t7.cons_inv
 obtain⟨v9,r9,rfl,h9,t9⟩:=t8.cons_inv
 obtain rfl:=t9.nil_inv
 obtain⟨y0,rfl,b0⟩:=h0.i64_inv
 obtain⟨y1,rfl,b1⟩:=h1.i64_inv
 obtain⟨y2,rfl,b2⟩:=h2.i64_inv
 obtain⟨y3,rfl,b3⟩:=h3.i64_inv
 obtain⟨y4,rfl,b4⟩:=h4.i64_inv
 obtain⟨y5,rfl,b5⟩:=h5.i64_inv
 obtain⟨y6,rfl,b6⟩:=h6.i64_inv
 obtain⟨y7,rfl,b7⟩:=h7.i64_inv
 obtain⟨y8,rfl⟩:=h8.bool_inv
 have b8:=trivial
 obtain⟨y9,rfl,b9⟩:=h9.agg_inv (f:=Slt.v) (by decide) (fun _=>Slt.rd)
 exact⟨⟨y0,y1,y2,y3,y4,y5,y6,y7,y8,y9⟩,rfl,⟨b0,b1,b2,b3,b4,b5,b6,b7,b8,b9⟩⟩
def Prof.sh:List CSh:=[.str,.int .i64,.int .i64,.sl true 96 Ftr.sh]
structure Prof.Dk (z:Prof):Prop where
 name:z.name.length≤140737488351232
 foot:-9223372036854775808≤z.foot∧z.foot≤9223372036854775807
 watts:-9223372036854775808≤z.watts∧z.watts≤9223372036854775807
 feats:z.feats.length≤140737488351232∧∀q∈z.feats,q.Dk
theorem Prof.rd {vs:List V}(h:OkCs Prof.sh vs):∃x:Prof,V.agg vs=x.v∧x.Dk:=by
 obtain⟨v0,r0,rfl,h0,t0⟩:=h.cons_inv
 obtain⟨v1,r1,rfl,h1,t1⟩:=t0.cons_inv
 obtain⟨v2,r2,rfl,h2,t2⟩:=t1.cons_inv
 obtain⟨v3,r3,rfl,h3,t3⟩:=t2.cons_inv
 obtain rfl:=t3.nil_inv
 obtain⟨y0,rfl,b0⟩:=h0.str_inv
 obtain⟨y1,rfl,b1⟩:=h1.i64_inv
 obtain⟨y2,rfl,b2⟩:=h2.i64_inv
 obtain⟨y3,rfl,b3⟩:=h3.agg_inv (f:=Ftr.v) (by decide) (fun _=>Ftr.rd)
 exact⟨⟨y0,y1,y2,y3⟩,rfl,⟨b0,b1,b2,b3⟩⟩
def Fixt.sh:List CSh:=[.int .i64,.int .i64,.str,.int .i64,.int .i64,.int .i64,.str]
structure Fixt.Dk (z:Fixt):Prop where
 chan:-9223372036854775808≤z.chan∧z.chan≤9223372036854775807
 part:-9223372036854775808≤z.part∧z.part≤9223372036854775807
 prof:z.prof.length≤140737488351232
 univ:-9223372036854775808≤z.univ∧z.univ≤9223372036854775807
 addr:-9223372036854775808≤z.addr∧z.addr≤9223372036854775807
 phase:-9223372036854775808≤z.phase∧z.phase≤9223372036854775807
 cable:z.cable.length≤140737488351232
theorem Fixt.rd {vs:List V}(h:OkCs Fixt.sh vs):∃x:Fixt,V.agg vs=x.v∧x.Dk:=by
 obtain⟨v0,r0,rfl,h0,t0⟩:=h.cons_inv
 obtain⟨v1,r1,rfl,h1,t1⟩:=t0.cons_inv
 obtain⟨v2,r2,rfl,h2,t2⟩:=t1.cons_inv
 obtain⟨v3,r3,rfl,h3,t3⟩:=t2.cons_inv
 obtain⟨v4,r4,rfl,h4,t4⟩:=t3.cons_inv
 obtain⟨v5,r5,rfl,h5,t5⟩:=t4.cons_inv
 obtain⟨v6,r6,rfl,h6,t6⟩:=t5.cons_inv
 obtain rfl:=t6.nil_inv
 obtain⟨y0,rfl,b0⟩:=h0.i64_inv
 obtain⟨y1,rfl,b1⟩:=h1.i64_inv
 obtain⟨y2,rfl,b2⟩:=h2.str_inv
 obtain⟨y3,rfl,b3⟩:=h3.i64_inv
 obtain⟨y4,rfl,b4⟩:=h4.i64_inv
 obtain⟨y5,rfl,b5⟩:=h5.i64_inv
 obtain⟨y6,rfl,b6⟩:=h6.str_inv
 exact⟨⟨y0,y1,y2,y3,y4,y5,y6⟩,rfl,⟨b0,b1,b2,b3,b4,b5,b6⟩⟩
def Prm.sh:List CSh:=[.int .i64,.int .i64]
structure Prm.Dk (z:Prm):Prop where
 chan:-9223372036854775808≤z.chan∧z.chan≤9223372036854775807
 attr:-9223372036854775808≤z.attr∧z.attr≤9223372036854775807
theorem Prm.rd {vs:List V}(h:OkCs Prm.sh vs):∃x:Prm,V.agg vs=x.v∧x.Dk:=by
 obtain⟨v0,r0,rfl,h0,t0⟩:=h.cons_inv
 obtain⟨v1,r1,rfl,h1,t1⟩:=t0.cons_inv
 obtain rfl:=t1.nil_inv
 obtain⟨y0,rfl,b0⟩:=h0.i64_inv
 obtain⟨y1,rfl,b1⟩:=h1.i64_inv
 exact⟨⟨y0,y1⟩,rfl,⟨b0,b1⟩⟩
def Val.sh:List CSh:=[.int .i64,.int .i64]
structure Val.Dk (z:Val):Prop where
 pal:-9223372036854775808≤z.pal∧z.pal≤9223372036854775807
 lev:-9223372036854775808≤z.lev∧z.lev≤9223372036854775807
theorem Val.rd {vs:List V}(h:OkCs Val.sh vs):∃x:Val,V.agg vs=x.v∧x.Dk:=by
 obtain⟨v0,r0,rfl,h0,t0⟩:=h.cons_inv
 obtain⟨v1,r1,rfl,h1,t1⟩:=t0.cons_inv
 obtain rfl:=t1.nil_inv
 obtain⟨y0,rfl,b0⟩:=h0.i64_inv
 obtain⟨y1,rfl,b1⟩:=h1.i64_inv
 exact⟨⟨y0,y1⟩,rfl,⟨b0,b1⟩⟩
def Grp.sh:List CSh:=[.int .i64,.sl false 8 [.int .i64]]
structure Grp.Dk (z:Grp):Prop where
 num:-9223372036854775808≤z.num∧z.num≤9223372036854775807
 chans:z.chans.length≤140737488351232∧∀q∈z.chans,-9223372036854775808≤q∧q≤9223372036854775807
theorem Grp.rd {vs:List V}(h:OkCs Grp.sh vs):∃x:Grp,V.agg vs=x.v∧x.Dk:=by
 obtain⟨v0,r0,rfl,h0,t0⟩:=h.cons_inv
 obtain⟨v1,r1,rfl,h1,t1⟩:=t0.cons_inv
 obtain rfl:=t1.nil_inv
 obtain⟨y0,rfl,b0⟩:=h0.i64_inv
 obtain⟨y1,rfl,b1⟩:=h1.one_inv (f:=V.int .i64) (by decide) (fun v h=>h.i64_inv)
 exact⟨⟨y0,y1⟩,rfl,⟨b0,b1⟩⟩
def Hue.sh:List CSh:=[.int .i64,.int .i64,.int .i64]
structure Hue.Dk (z:Hue):Prop where
 chan:-9223372036854775808≤z.chan∧z.chan≤9223372036854775807
 attr:-9223372036854775808≤z.attr∧z.attr≤9223372036854775807
 lev:-9223372036854775808≤z.lev∧z.lev≤9223372036854775807
theorem Hue.rd {vs:List V}(h:OkCs Hue.sh vs):∃x:Hue,V.agg vs=x.v∧x.Dk:=by
 obtain⟨v0,r0,rfl,h0,t0⟩:=h.cons_inv
 obtain⟨v1,r1,rfl,h1,t1⟩:=t0.cons_inv
 obtain⟨v2,r2,rfl,h2,t2⟩:=t1.cons_inv
 obtain rfl:=t2.nil_inv
 obtain⟨y0,rfl,b0⟩:=h0.i64_inv
 obtain⟨y1,rfl,b1⟩:=h1.i64_inv
 obtain⟨y2,rfl,b2⟩:=h2.i64_inv
 exact⟨⟨y0,y1,y2⟩,rfl,⟨b0,b1,b2⟩⟩
def Pal.sh:List CSh:=[.int .i64,.sl true 24 Hue.sh]
structure Pal.Dk (z:Pal):Prop where
 num:-9223372036854775808≤z.num∧z.num≤9223372036854775807
 hues:z.hues.length≤140737488351232∧∀q∈z.hues,q.Dk
theorem Pal.rd {vs:List V}(h:OkCs Pal.sh vs):∃x:Pal,V.agg vs=x.v∧x.Dk:=by
 obtain⟨v0,r0,rfl,h0,t0⟩:=h.cons_inv
 obtain⟨v1,r1,rfl,h1,t1⟩:=t0.cons_inv
 obtain rfl:=t1.nil_inv
 obtain⟨y0,rfl,b0⟩:=h0.i64_inv
 obtain⟨y1,rfl,b1⟩:=h1.agg_inv (f:=Hue.v) (by decide) (fun _=>Hue.rd)
 exact⟨⟨y0,y1⟩,rfl,⟨b0,b1⟩⟩
def Tim.sh:List CSh:=[.int .i64,.int .i64,.int .i64,.int .i64,.int .i64,.int .i64]
structure Tim.Dk (z:Tim):Prop where
 up:-9223372036854775808≤z.up∧z.up≤9223372036854775807
 down:-9223372036854775808≤z.down∧z.down≤9223372036854775807
 posi:-9223372036854775808≤z.posi∧z.posi≤9223372036854775807
 colour:-9223372036854775808≤z.colour∧z.colour≤9223372036854775807
 beam:-9223372036854775808≤z.beam∧z.beam≤9223372036854775807
 delay:-9223372036854775808≤z.delay∧z.delay≤9223372036854775807
theorem Tim.rd {vs:List V}(h:OkCs Tim.sh vs):∃x:Tim,V.agg vs=x.v∧x.Dk:=by
 obtain⟨v0,r0,rfl,h0,t0⟩:=h.cons_inv
 obtain⟨v1,r1,rfl,h1,t1⟩:=t0.cons_inv
 obtain⟨v2,r2,rfl,h2,t2⟩:=t1.cons_inv
 obtain⟨v3,r3,rfl,h3,t3⟩:=t2.cons_inv
 obtain⟨v4,r4,rfl,h4,t4⟩:=t3.cons_inv
 obtain⟨v5,r5,rfl,h5,t5⟩:=t4.cons_inv
 obtain rfl:=t5.nil_inv
 obtain⟨y0,rfl,b0⟩:=h0.i64_inv
 obtain⟨y1,rfl,b1⟩:=h1.i64_inv
 obtain⟨y2,rfl,b2⟩:=h2.i64_inv
 obtain⟨y3,rfl,b3⟩:=h3.i64_inv
 obtain⟨y4,rfl,b4⟩:=h4.i64_inv
 obtain⟨y5,rfl,b5⟩:=h5.i64_inv
 exact⟨⟨y0,y1,y2,y3,y4,y5⟩,rfl,⟨b0,b1,b2,b3,b4,b5⟩⟩
def Mov.sh:List CSh:=[.int .i64,.int .i64,.int .i64,.int .i64,.int .i64]
structure Mov.Dk (z:Mov):Prop where
 prm:z.prm.Dk
 val:z.val.Dk
 part:-9223372036854775808≤z.part∧z.part≤9223372036854775807
theorem Mov.rd {vs:List V}(h:OkCs Mov.sh vs):∃x:Mov,V.agg vs=x.v∧x.Dk:=by
 obtain⟨v0,r0,rfl,h0,t0⟩:=h.cons_inv
 obtain⟨v1,r1,rfl,h1,t1⟩:=t0.cons_inv
 obtain⟨v2,r2,rfl,h2,t2⟩:=t1.cons_inv
 obtain⟨v3,r3,rfl,h3,t3⟩:=t2.cons_inv
 obtain⟨v4,r4,rfl,h4,t4⟩:=t3.cons_inv
 obtain rfl:=t4.nil_inv
 obtain⟨y0,rfl,b0⟩:=h0.i64_inv
 obtain⟨y1,rfl,b1⟩:=h1.i64_inv
 obtain⟨y2,rfl,b2⟩:=h2.i64_inv
 obtain⟨y3,rfl,b3⟩:=h3.i64_inv
 obtain⟨y4,rfl,b4⟩:=h4.i64_inv
 exact⟨⟨⟨y0,y1⟩,⟨y2,y3⟩,y4⟩,rfl,⟨⟨b0,b1⟩,⟨b2,b3⟩,b4⟩⟩
def Cu.sh:List CSh:=[.str,.str,.sl true 40 Mov.sh,.sl true 48 Tim.sh,.bool,.bool,.int .i64,.str,.int .i64]
structure Cu.Dk (z:Cu):Prop where
 num:z.num.length≤140737488351232
 label:z.label.length≤140737488351232
 moves:z.moves.length≤140737488351232∧∀q∈z.moves,q.Dk
 parts:z.parts.length≤140737488351232∧∀q∈z.parts,q.Dk
 block:True
 mark:True
 follow:-9223372036854775808≤z.follow∧z.follow≤9223372036854775807
 link:z.link.length≤140737488351232
 loops:-9223372036854775808≤z.loops∧z.loops≤9223372036854775807
theorem Cu.rd {vs:List V}(h:OkCs Cu.sh vs):∃x:Cu,V.agg vs=x.v∧x.Dk:=by
 obtain⟨v0,r0,rfl,h0,t0⟩:=h.cons_inv
 obtain⟨v1,r1,rfl,h1,t1⟩:=t0.cons_inv
 obtain⟨v2,r2,rfl,h2,t2⟩:=t1.cons_inv
 obtain⟨v3,r3,rfl,h3,t3⟩:=t2.cons_inv
 obtain⟨v4,r4,rfl,h4,t4⟩:=t3.cons_inv
 obtain⟨v5,r5,rfl,h5,t5⟩:=t4.cons_inv
 obtain⟨v6,r6,rfl,h6,t6⟩:=t5.cons_inv
 obtain⟨v7,r7,rfl,h7,t7⟩:=t6.cons_inv
 obtain⟨v8,r8,rfl,h8,t8⟩:=t7.cons_inv
 obtain rfl:=t8.nil_inv
 obtain⟨y0,rfl,b0⟩:=h0.str_inv
 obtain⟨y1,rfl,b1⟩:=h1.str_inv
 obtain⟨y2,rfl,b2⟩:=h2.agg_inv (f:=Mov.v) (by decide) (fun _=>Mov.rd)
 obtain⟨y3,rfl,b3⟩:=h3.agg_inv (f:=Tim.v) (by decide) (fun _=>Tim.rd)
 obtain⟨y4,rfl⟩:=h4.bool_inv
 have b4:=trivial
 obtain⟨y5,rfl⟩:=h5.bool_inv
 have b5:=trivial
 obtain⟨y6,rfl,b6⟩:=h6.i64_inv
 obtain⟨y7,rfl,b7⟩:=h7.str_inv
 obtain⟨y8,rfl,b8⟩:=h8.i64_inv
 exact⟨⟨y0,y1,y2,y3,y4,y5,y6,y7,y8⟩,rfl,⟨b0,b1,b2,b3,b4,b5,b6,b7,b8⟩⟩
def Lst.sh:List CSh:=[.int .i64,.int .i64,.sl true 120 Cu.sh]
structure Lst.Dk (z:Lst):Prop where
 num:-9223372036854775808≤z.num∧z.num≤9223372036854775807
 prio:-9223372036854775808≤z.prio∧z.prio≤9223372036854775807
 cues:z.cues.length≤140737488351232∧∀q∈z.cues,q.Dk
theorem Lst.rd {vs:List V}(h:OkCs Lst.sh vs):∃x:Lst,V.agg vs=x.v∧x.Dk:=by
 obtain⟨v0,r0,rfl,h0,t0⟩:=h.cons_inv
 obtain⟨v1,r1,rfl,h1,t1⟩:=t0.cons_inv
 obtain⟨v2,r2,rfl,h2,t2⟩:=t1.cons_inv
 obtain rfl:=t2.nil_inv
 obtain⟨y0,rfl,b0⟩:=h0.i64_inv
 obtain⟨y1,rfl,b1⟩:=h1.i64_inv
 obtain⟨y2,rfl,b2⟩:=h2.agg_inv (f:=Cu.v) (by decide) (fun _=>Cu.rd)
 exact⟨⟨y0,y1,y2⟩,rfl,⟨b0,b1,b2⟩⟩
def Gan.sh:List CSh:=[.int .i64,.int .i64,.int .i64]
structure Gan.Dk (z:Gan):Prop where
 prm:z.prm.Dk
 lev:-9223372036854775808≤z.lev∧z.lev≤9223372036854775807
theorem Gan.rd {vs:List V}(h:OkCs Gan.sh vs):∃x:Gan,V.agg vs=x.v∧x.Dk:=by
 obtain⟨v0,r0,rfl,h0,t0⟩:=h.cons_inv
 obtain⟨v1,r1,rfl,h1,t1⟩:=t0.cons_inv
 obtain⟨v2,r2,rfl,h2,t2⟩:=t1.cons_inv
 obtain rfl:=t2.nil_inv
 obtain⟨y0,rfl,b0⟩:=h0.i64_inv
 obtain⟨y1,rfl,b1⟩:=h1.i64_inv
 obtain⟨y2,rfl,b2⟩:=h2.i64_inv
 exact⟨⟨⟨y0,y1⟩,y2⟩,rfl,⟨⟨b0,b1⟩,b2⟩⟩
def Sb.sh:List CSh:=[.int .i64,.int .i64,.bool,.sl true 24 Gan.sh]
structure Sb.Dk (z:Sb):Prop where
 num:-9223372036854775808≤z.num∧z.num≤9223372036854775807
 prio:-9223372036854775808≤z.prio∧z.prio≤9223372036854775807
 inh:True
 gains:z.gains.length≤140737488351232∧∀q∈z.gains,q.Dk
theorem Sb.rd {vs:List V}(h:OkCs Sb.sh vs):∃x:Sb,V.agg vs=x.v∧x.Dk:=by
 obtain⟨v0,r0,rfl,h0,t0⟩:=h.cons_inv
 obtain⟨v1,r1,rfl,h1,t1⟩:=t0.cons_inv
 obtain⟨v2,r2,rfl,h2,t2⟩:=t1.cons_inv
 obtain⟨v3,r3,rfl,h3,t3⟩:=t2.cons_inv
 obtain rfl:=t3.nil_inv
 obtain⟨y0,rfl,b0⟩:=h0.i64_inv
 obtain⟨y1,rfl,b1⟩:=h1.i64_inv
 obtain⟨y2,rfl⟩:=h2.bool_inv
 have b2:=trivial
 obtain⟨y3,rfl,b3⟩:=h3.agg_inv (f:=Gan.v) (by decide) (fun _=>Gan.rd)
 exact⟨⟨y0,y1,y2,y3⟩,rfl,⟨b0,b1,b2,b3⟩⟩
def Eff.sh:List CSh:=[.int .i64,.int .i64,.sl true 16 Pt.sh,.int .i64,.int .i64,.int .i64]
structure Eff.Dk (z:Eff):Prop where
 num:-9223372036854775808≤z.num∧z.num≤9223372036854775807
 attr:-9223372036854775808≤z.attr∧z.attr≤9223372036854775807
 wave:z.wave.length≤140737488351232∧∀q∈z.wave,q.Dk
 period:-9223372036854775808≤z.period∧z.period≤9223372036854775807
 spread:-9223372036854775808≤z.spread∧z.spread≤9223372036854775807
 size:-9223372036854775808≤z.size∧z.size≤9223372036854775807
theorem Eff.rd {vs:List V}(h:OkCs Eff.sh vs):∃x:Eff,V.agg vs=x.v∧x.Dk:=by
 obtain⟨v0,r0,rfl,h0,t0⟩:=h.cons_inv
 obtain⟨v1,r1,rfl,h1,t1⟩:=t0.cons_inv
 obtain⟨v2,r2,rfl,h2,t2⟩:=t1.cons_inv
 obtain⟨v3,r3,rfl,h3,t3⟩:=t2.cons_inv
 obtain⟨v4,r4,rfl,h4,t4⟩:=t3.cons_inv
 obtain⟨v5,r5,rfl,h5,t5⟩:=t4.cons_inv
 obtain rfl:=t5.nil_inv
 obtain⟨y0,rfl,b0⟩:=h0.i64_inv
 obtain⟨y1,rfl,b1⟩:=h1.i64_inv
 obtain⟨y2,rfl,b2⟩:=h2.agg_inv (f:=Pt.v) (by decide) (fun _=>Pt.rd)
 obtain⟨y3,rfl,b3⟩:=h3.i64_inv
 obtain⟨y4,rfl,b4⟩:=h4.i64_inv
 obtain⟨y5,rfl,b5⟩:=h5.i64_inv
 exact⟨⟨y0,y1,y2,y3,y4,y5⟩,rfl,⟨b0,b1,b2,b3,b4,b5⟩⟩
def Sho.sh:List CSh:=[.str,.sl false 24 [.sl true 16 Pt.sh],.sl true 56 Prof.sh,.sl true 72 Fixt.sh,.sl true 32 Grp.sh,.sl true 32 Pal.sh,.sl true 40 Lst.sh,.sl true 48 Sb.sh,.sl true 64 Eff.sh]
structure Sho.Dk (z:Sho):Prop where
 title:z.title.length≤140737488351232
 curves:z.curves.length≤140737488351232∧∀l∈z.curves,l.length≤140737488351232∧∀q∈l,q.Dk
 profs:z.profs.length≤140737488351232∧∀q∈z.profs,q.Dk
 fixts:z.fixts.length≤140737488351232∧∀q∈z.fixts,q.Dk
 grps:z.grps.length≤140737488351232∧∀q∈z.grps,q.Dk
 pals:z.pals.length≤140737488351232∧∀q∈z.pals,q.Dk
 lsts:z.lsts.length≤140737488351232∧∀q∈z.lsts,q.Dk
 subs:z.subs.length≤140737488351232∧∀q∈z.subs,q.Dk
 effs:z.effs.length≤140737488351232∧∀q∈z.effs,q.Dk
theorem Sho.rd {vs:List V}(h:OkCs Sho.sh vs):∃x:Sho,V.agg vs=x.v∧x.Dk:=by
 obtain⟨v0,r0,rfl,h0,t0⟩:=h.cons_inv
 obtain⟨v1,r1,rfl,h1,t1⟩:=t0.cons_inv
 obtain⟨v2,r2,rfl,h2,t2⟩:=t1.cons_inv
 obtain⟨v3,r3,rfl,h3,t3⟩:=t2.cons_inv
 obtain⟨v4,r4,rfl,h4,t4⟩:=t3.cons_inv
 obtain⟨v5,r5,rfl,h5,t5⟩:=t4.cons_inv
 obtain⟨v6,r6,rfl,h6,t6⟩:=t5.cons_inv
 obtain⟨v7,r7,rfl,h7,t7⟩:=t6.cons_inv
 obtain⟨v8,r8,rfl,h8,t8⟩:=t7.cons_inv
 obtain rfl:=t8.nil_inv
 obtain⟨y0,rfl,b0⟩:=h0.str_inv
 obtain⟨y1,rfl,b1⟩:=h1.one_inv (f:=Pt.vs) (by decide) (fun v h=>h.agg_inv (f:=Pt.v) (by decide) (fun _=>Pt.rd))
 obtain⟨y2,rfl,b2⟩:=h2.agg_inv (f:=Prof.v) (by decide) (fun _=>Prof.rd)
 obtain⟨y3,rfl,b3⟩:=h3.agg_inv (f:=Fixt.v) (by decide) (fun _=>Fixt.rd)
 obtain⟨y4,rfl,b4⟩:=h4.agg_inv (f:=Grp.v) (by decide) (fun _=>Grp.rd)
 obtain⟨y5,rfl,b5⟩:=h5.agg_inv (f:=Pal.v) (by decide) (fun _=>Pal.rd)
 obtain⟨y6,rfl,b6⟩:=h6.agg_inv (f:=Lst.v) (by decide) (fun _=>Lst.rd)
 obtain⟨y7,rfl,b7⟩:=h7.agg_inv (f:=Sb.v) (by decide) (fun _=>Sb.rd)
 obtain⟨y8,rfl,b8⟩:=h8.agg_inv (f:=Eff.v) (by decide) (fun _=>Eff.rd)
 exact⟨⟨y0,y1,y2,y3,y4,y5,y6,y7,y8⟩,rfl,⟨b0,b1,b2,b3,b4,b5,b6,b7,b8⟩⟩
theorem Pt.inj {x y:Pt}(h:x.v=y.v):x=y:=by
 obtain⟨x0,x1⟩:=x;obtain⟨y0,y1⟩:=y
 simp only[Pt.v,V.agg.injEq,List.cons.injEq,V.int.injEq,V.str.injEq,V.bool.injEq,V.sl.injEq,true_and,and_true]at h
 obtain⟨h0,h1⟩:=h
 cases h0
 cases h1
 rfl
theorem Slt.inj {x y:Slt}(h:x.v=y.v):x=y:=by
 obtain⟨x0,x1,x2⟩:=x;obtain⟨y0,y1,y2⟩:=y
 simp only[Slt.v,V.agg.injEq,List.cons.injEq,V.int.injEq,V.str.injEq,V.bool.injEq,V.sl.injEq,true_and,and_true]at h
 obtain⟨h0,h1,h2⟩:=h
 cases h0
 cases h1
 cases h2
 rfl
theorem Ftr.inj {x y:Ftr}(h:x.v=y.v):x=y:=by
 obtain⟨x0,x1,x2,x3,x4,x5,x6,x7,x8,x9⟩:=x;obtain⟨y0,y1,y2,y3,y4,y5,y6,y7,y8,y9⟩:=y
 simp only[Ftr.v,V.agg.injEq,List.cons.injEq,V.int.injEq,V.str.injEq,V.bool.injEq,V.sl.injEq,true_and,and_true]at h
 obtain⟨h0,h1,h2,h3,h4,h5,h6,h7,h8,h9⟩:=h
 cases h0
 cases h1
 cases h2
 cases h3
 cases h4
 cases h5
 cases h6
 cases h7
 cases h8
 cases map_inj Slt.inj h9
 rfl
theorem Prof.inj {x y:Prof}(h:x.v=y.v):x=y:=by
 obtain⟨x0,x1,x2,x3⟩:=x;obtain⟨y0,y1,y2,y3⟩:=y
 simp only[Prof.v,V.agg.injEq,List.cons.injEq,V.int.injEq,V.str.injEq,V.bool.injEq,V.sl.injEq,true_and,and_true]at h
 obtain⟨h0,h1,h2,h3⟩:=h
 cases h0
 cases h1
 cases h2
 cases map_inj Ftr.inj h3
 rfl
theorem Fixt.inj {x y:Fixt}(h:x.v=y.v):x=y:=by
 obtain⟨x0,x1,x2,x3,x4,x5,x6⟩:=x;obtain⟨y0,y1,y2,y3,y4,y5,y6⟩:=y
 simp only[Fixt.v,V.agg.injEq,List.cons.injEq,V.int.injEq,V.str.injEq,V.bool.injEq,V.sl.injEq,true_and,and_true]at h
 obtain⟨h0,h1,h2,h3,h4,h5,h6⟩:=h
 cases h0
 cases h1
 cases h2
 cases h3
 cases h4
 cases h5
 cases h6
 rfl
theorem Prm.inj {x y:Prm}(h:x.v=y.v):x=y:=by
 obtain⟨x0,x1⟩:=x;obtain⟨y0,y1⟩:=y
 simp only[Prm.v,V.agg.injEq,List.cons.injEq,V.int.injEq,V.str.injEq,V.bool.injEq,V.sl.injEq,true_and,and_true]at h
 obtain⟨h0,h1⟩:=h
 cases h0
 cases h1
 rfl
theorem Val.inj {x y:Val}(h:x.v=y.v):x=y:=by
 obtain⟨x0,x1⟩:=x;obtain⟨y0,y1⟩:=y
 simp only[Val.v,V.agg.injEq,List.cons.injEq,V.int.injEq,V.str.injEq,V.bool.injEq,V.sl.injEq,true_and,and_true]at h
 obtain⟨h0,h1⟩:=h
 cases h0
 cases h1
 rfl
theorem Grp.inj {x y:Grp}(h:x.v=y.v):x=y:=by
 obtain⟨x0,x1⟩:=x;obtain⟨y0,y1⟩:=y
 simp only[Grp.v,V.agg.injEq,List.cons.injEq,V.int.injEq,V.str.injEq,V.bool.injEq,V.sl.injEq,true_and,and_true]at h
 obtain⟨h0,h1⟩:=h
 cases h0
 cases map_inj (f:=V.int .i64) (fun h=>(V.int.inj h).2) h1
 rfl
theorem Hue.inj {x y:Hue}(h:x.v=y.v):x=y:=by
 obtain⟨x0,x1,x2⟩:=x;obtain⟨y0,y1,y2⟩:=y
 simp only[Hue.v,V.agg.injEq,List.cons.injEq,V.int.injEq,V.str.injEq,V.bool.injEq,V.sl.injEq,true_and,and_true]at h
 obtain⟨h0,h1,h2⟩:=h
 cases h0
 cases h1
 cases h2
 rfl
theorem Pal.inj {x y:Pal}(h:x.v=y.v):x=y:=by
 obtain⟨x0,x1⟩:=x;obtain⟨y0,y1⟩:=y
 simp only[Pal.v,V.agg.injEq,List.cons.injEq,V.int.injEq,V.str.injEq,V.bool.injEq,V.sl.injEq,true_and,and_true]at h
 obtain⟨h0,h1⟩:=h
 cases h0
 cases map_inj Hue.inj h1
 rfl
theorem Tim.inj {x y:Tim}(h:x.v=y.v):x=y:=by
 obtain⟨x0,x1,x2,x3,x4,x5⟩:=x;obtain⟨y0,y1,y2,y3,y4,y5⟩:=y
 simp only[Tim.v,V.agg.injEq,List.cons.injEq,V.int.injEq,V.str.injEq,V.bool.injEq,V.sl.injEq,true_and,and_true]at h
 obtain⟨h0,h1,h2,h3,h4,h5⟩:=h
 cases h0
 cases h1
 cases h2
 cases h3
 cases h4
 cases h5
 rfl
theorem Mov.inj {x y:Mov}(h:x.v=y.v):x=y:=by
 obtain⟨⟨x0,x1⟩,⟨x2,x3⟩,x4⟩:=x;obtain⟨⟨y0,y1⟩,⟨y2,y3⟩,y4⟩:=y
 simp only[Mov.v,V.agg.injEq,List.cons.injEq,V.int.injEq,V.str.injEq,V.bool.injEq,V.sl.injEq,true_and,and_true]at h
 obtain⟨h0,h1,h2,h3,h4⟩:=h
 cases h0
 cases h1
 cases h2
 cases h3
 cases h4
 rfl
theorem Cu.inj {x y:Cu}(h:x.v=y.v):x=y:=by
 obtain⟨x0,x1,x2,x3,x4,x5,x6,x7,x8⟩:=x;obtain⟨y0,y1,y2,y3,y4,y5,y6,y7,y8⟩:=y
 simp only[Cu.v,V.agg.injEq,List.cons.injEq,V.int.injEq,V.str.injEq,V.bool.injEq,V.sl.injEq,true_and,and_true]at h
 obtain⟨h0,h1,h2,h3,h4,h5,h6,h7,h8⟩:=h
 cases h0
 cases h1
 cases map_inj Mov.inj h2
 cases map_inj Tim.inj h3
 cases h4
 cases h5
 cases h6
 cases h7
 cases h8
 rfl
theorem Lst.inj {x y:Lst}(h:x.v=y.v):x=y:=by
 obtain⟨x0,x1,x2⟩:=x;obtain⟨y0,y1,y2⟩:=y
 simp only[Lst.v,V.agg.injEq,List.cons.injEq,V.int.injEq,V.str.injEq,V.bool.injEq,V.sl.injEq,true_and,and_true]at h
 obtain⟨h0,h1,h2⟩:=h
 cases h0
 cases h1
 cases map_inj Cu.inj h2
 rfl
theorem Gan.inj {x y:Gan}(h:x.v=y.v):x=y:=by
 obtain⟨⟨x0,x1⟩,x2⟩:=x;obtain⟨⟨y0,y1⟩,y2⟩:=y
 simp only[Gan.v,V.agg.injEq,List.cons.injEq,V.int.injEq,V.str.injEq,V.bool.injEq,V.sl.injEq,true_and,and_true]at h
 obtain⟨h0,h1,h2⟩:=h
 cases h0
 cases h1
 cases h2
 rfl
theorem Sb.inj {x y:Sb}(h:x.v=y.v):x=y:=by
 obtain⟨x0,x1,x2,x3⟩:=x;obtain⟨y0,y1,y2,y3⟩:=y
 simp only[Sb.v,V.agg.injEq,List.cons.injEq,V.int.injEq,V.str.injEq,V.bool.injEq,V.sl.injEq,true_and,and_true]at h
 obtain⟨h0,h1,h2,h3⟩:=h
 cases h0
 cases h1
 cases h2
 cases map_inj Gan.inj h3
 rfl
theorem Eff.inj {x y:Eff}(h:x.v=y.v):x=y:=by
 obtain⟨x0,x1,x2,x3,x4,x5⟩:=x;obtain⟨y0,y1,y2,y3,y4,y5⟩:=y
 simp only[Eff.v,V.agg.injEq,List.cons.injEq,V.int.injEq,V.str.injEq,V.bool.injEq,V.sl.injEq,true_and,and_true]at h
 obtain⟨h0,h1,h2,h3,h4,h5⟩:=h
 cases h0
 cases h1
 cases map_inj Pt.inj h2
 cases h3
 cases h4
 cases h5
 rfl
theorem Sho.inj {x y:Sho}(h:x.v=y.v):x=y:=by
 obtain⟨x0,x1,x2,x3,x4,x5,x6,x7,x8⟩:=x;obtain⟨y0,y1,y2,y3,y4,y5,y6,y7,y8⟩:=y
 simp only[Sho.v,V.agg.injEq,List.cons.injEq,V.int.injEq,V.str.injEq,V.bool.injEq,V.sl.injEq,true_and,and_true]at h
 obtain⟨h0,h1,h2,h3,h4,h5,h6,h7,h8⟩:=h
 cases h0
 cases map_inj (f:=Pt.vs) (fun h=>map_inj Pt.inj (V.sl.inj h)) h1
 cases map_inj Prof.inj h2
 cases map_inj Fixt.inj h3
 cases map_inj Grp.inj h4
 cases map_inj Pal.inj h5
 cases map_inj Lst.inj h6
 cases map_inj Sb.inj h7
 cases map_inj Eff.inj h8
 rfl
end Go.Proofs.YtanojbajfgcjeaaGreatDoor

namespace Go.Proofs.YtanojbajfgcjeaaGreatDoor
open Go.Sha
set_option maxRecDepth 100000
theorem Cu.Dk.ok {x:Cu}(h:x.Dk):x.ok:=⟨by have:=h.num;omega,by have:=h.label;omega,by have:=h.moves.1;omega,by have:=h.parts.1;omega,by have:=h.link;omega⟩
theorem Lst.Dk.ok {x:Lst}(h:x.Dk):x.ok:=⟨by have:=h.cues.1;omega,fun q hq=>(h.cues.2 q hq).ok⟩
theorem Prof.Dk.ok {x:Prof}(h:x.Dk):x.ok∧x.okR:=⟨⟨by have:=h.feats.1;omega,fun q hq=>by have:=(h.feats.2 q hq).wheel.1;omega,by have:=h.name;omega⟩,
 by have:=h.feats.1;omega,fun q hq=>⟨by have:=(h.feats.2 q hq).wheel.1;omega,fun z hz=>by have:=((h.feats.2 q hq).wheel.2 z hz).name;omega⟩,by have:=h.name;omega⟩
theorem Sho.Dk.ok {x : Sho}(h : x.Dk) : x.ok :=
  ⟨by have := h.title; omega, ⟨by have := h.curves.1; omega, fun q hq => by have := (h.curves.2 q hq).1; omega⟩, ⟨by have := h.profs.1; omega, fun q hq => (h.profs.2 q hq).ok.1, fun q hq => (h.profs.2 q hq).ok.2⟩,
   ⟨by have := h.fixts.1; omega, fun q hq => by have := (h.fixts.2 q hq).cable; omega⟩, ⟨by have := h.grps.1; omega, fun q hq => by have := (h.grps.2 q hq).chans.1; omega⟩, ⟨by have := h.pals.1; omega, fun q hq => by have := (h.pals.2 q hq).hues.1; omega⟩,
   ⟨by have := h.lsts.1; omega, fun q hq => (h.lsts.2 q hq).ok⟩, ⟨by have := h.subs.1; omega, fun q hq => by have := (h.subs.2 q hq).gains.1; omega⟩, ⟨by have := h.effs.1; omega, fun q hq => by have := (h.effs.2 q hq).wave.1; omega⟩⟩
end Go.Proofs.YtanojbajfgcjeaaGreatDoor

namespace Go.Proofs.YtanojbajfgcjeaaGreatDoor
open Go.ChangeShapes Go.WideShapes Go.ChangeAt Go.RowKit Go.Sha
theorem soundA:ESound Tryz.prog HA:=HA_ok HK_ok
theorem soundD:ESound Tryz.prog HD:=HD_ok HH_ok HK_ok soundA
theorem glB_K {v:GV}:glB (stG (glK v)).x.gl=true:=by kernel_rfl
theorem sk1:(laidOutB Tryz.prog)=true:=by kernel_rfl
theorem sk2:(mapsRowed Tryz.prog)=true:=by kernel_rfl
theorem sk6:(Tryz.prog.stops == [])=true:=by kernel_rfl
theorem sk8:(Tryz.prog.stopKnobs == [])=true:=by kernel_rfl
theorem sk22:(Rows.paperworkTablesRow.plainKeys == Tryz.prog.plainKeys)=true:=by kernel_rfl
theorem sk24:(Tryz.prog.stopsHeard)=true:=by kernel_rfl
theorem sk25:(Tryz.prog.mayEnter)=true:=by kernel_rfl
theorem sk26:(Rows.paperworkTablesRow.lifted == Tryz.prog.liftsFinal)=true:=by kernel_rfl
theorem sk27:(Tryz.prog.make == some Rows.paperworkTablesRow.make)=true:=by kernel_rfl
theorem sk15:(Rows.paperworkTablesRow.mapsOut == Tryz.prog.mapsAmong Tryz.f3.resultTypes.toList)=true:=by kernel_rfl
theorem sown:ownKnob Tryz.prog.godebug=none:=by kernel_rfl
theorem smain:Tryz.prog.mainIs=some (Rows.paperworkTablesCard.stood.harness.1,Rows.paperworkTablesCard.stood.harness.2.toList):=by kernel_rfl
theorem slooks:Rows.paperworkTablesCard.stood.looks=Tryz.prog.looks []:=by kernel_rfl
end Go.Proofs.YtanojbajfgcjeaaGreatDoor

