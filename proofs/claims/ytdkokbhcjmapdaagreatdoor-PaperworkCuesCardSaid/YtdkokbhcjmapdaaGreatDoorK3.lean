/- tracking.value: its contract in worlds. tracking.value's contract over shadow values. The contracts of this seat's table hold. The contracts with the examples' show hold. From what a card lists of the .. -/
import Derived.Test.YtdkokbhcjmapdaaGreatDoorK2
import Derived.Test.YtdkokbhcjmapdaaGreatDoorK1
import Derived.Test.YtdkokbhcjmapdaaGreatDoorKShbT
import Derived.Test.YtdkokbhcjmapdaaGreatDoorKShbZ
import Derived.Lib.AppendIntMem
import Derived.Test.YtdkokbhcjmapdaaGreatDoorKShbXH
import Derived.Test.YtdkokbhcjmapdaaGreatDoorRows
import Derived.Test.YtdkokbhcjmapdaaGreatDoorKShbAE
import Derived.Test.YtdkokbhcjmapdaaGreatDoorKShbYB
import Derived.Test.YtdkokbhcjmapdaaGreatDoorProg
import Derived.KernelRfl
import Derived.Lib.ItoaLen
import Derived.Test.YtdkokbhcjmapdaaGreatDoorKShbXI
import Derived.Test.YtdkokbhcjmapdaaGreatDoorKShbXJ
import Derived.Lib.CountLaws
import Derived.Lib.IndexLaws
import Derived.Test.YtdkokbhcjmapdaaGreatDoorKShbAC
import Derived.Test.YtdkokbhcjmapdaaGreatDoorCards
import Derived.SizedLaws
import Derived.WalkKit
import Derived.ProofKit
import Derived.OpenShut
import Derived.ChangeMaps5
import Derived.LaidLaws
import Derived.LaidHandle
import Derived.Lay
import Derived.SevenTiedAt
set_option linter.unusedSimpArgs false
set_option linter.unusedVariables false
namespace Go.Proofs.YtdkokbhcjmapdaaGreatDoor
open Go.RowKit Go.Shelf
attribute [local go_sem] Oper.semAt_some
def Box9 (c0 c1 c2 c3:Nat→Value)(bl:Nat→Bool)(c5 c6 c7 c8:Nat→Value)(W:World)(b o x:Nat):Prop :=
 W.cell? ⟨b,o,none⟩=some (c0 x)∧W.cell? ⟨b,o+1,none⟩=some (c1 x)∧W.cell? ⟨b,o+2,none⟩=some (c2 x)∧W.cell? ⟨b,o+3,none⟩=some (c3 x) ∧
   W.cell? ⟨b,o+4,none⟩=some (.bool (bl x))∧W.cell? ⟨b,o+5,none⟩=some (c5 x)∧W.cell? ⟨b,o+6,none⟩=some (c6 x)∧W.cell? ⟨b,o+7,none⟩=some (c7 x)∧W.cell? ⟨b,o+8,none⟩=some (c8 x)
theorem back_stops (F:Fence)(n:Nat)(h7:F.fn 311)(hro:F.round=none)(hn:1≤n)(Ba Bl n₀ b off len cap a:Nat)(c0 c1 c2 c3 c5 c6 c7 c8:Nat→Value)(bl:Nat→Bool)(hlen:len*144≤140737488351232)(hb:b<n₀)(ha:a<len)
  (w:World) (hn0:n₀≤w.heap.size) (hBa:w.cell? ⟨Ba,0,none⟩=some (.int .i64 a)) (hBa0:Ba<w.heap.size) (hBl:w.cell? ⟨Bl,2,none⟩=some (.slice (some ⟨b,off,none⟩) len cap)) (hBl0:Bl<n₀)
  (hc:∀j,j<len→Box9 c0 c1 c2 c3 bl c5 c6 c7 c8 w b (off+j*9) j) :
  SeqStopsK F n Tryz.prog 311 #[.pointer (some ⟨Ba,0,none⟩),.pointer (some ⟨Bl,0,none⟩)] (fun x:Nat=>#[.agg #[c0 x,c1 x,c2 x,c3 x,.bool (bl x),c5 x,c6 x,c7 x,c8 x]]) (Below n₀)
   (fun xs=>∃k,k≤a+1∧xs=dnL a k∧(k=a+1∨0<k∧bl (a+1-k)=true)∧∀j,0<j→j<k→bl (a+1-j)=false)
   (fun xs=>∃k,k≤a+1∧xs=dnL a k∧∀j,0<j→j<k→bl (a+1-j)=false) (a+1) w:=fun l J Jx W hW _ _ hY h0=>by
 have hB:=hW.mono hn0
 refine(back1_in F n h7 hro hn l Ba Bl n₀ b off len cap a c0 c1 c2 c3 c5 c6 c7 c8 bl hlen hb ha J Jx hY W ((hW.cell (p:=⟨Ba,0,none⟩) hBa0).trans hBa) ((hB.cell (p:=⟨Bl,2,none⟩) hBl0).trans hBl) hBl0 (fun j hj=>?_) h0).mono ?_
 ·obtain⟨d0,d1,d2,d3,d4,d5,d6,d7,d8⟩:=hc j hj
  exact⟨(hB.cell (p:=⟨b,_,none⟩) hb).trans d0,(hB.cell (p:=⟨b,_,none⟩) hb).trans d1,(hB.cell (p:=⟨b,_,none⟩) hb).trans d2,(hB.cell (p:=⟨b,_,none⟩) hb).trans d3,(hB.cell (p:=⟨b,_,none⟩) hb).trans d4,(hB.cell (p:=⟨b,_,none⟩) hb).trans d5,(hB.cell (p:=⟨b,_,none⟩) hb).trans d6,(hB.cell (p:=⟨b,_,none⟩) hb).trans d7,(hB.cell (p:=⟨b,_,none⟩) hb).trans d8⟩
 ·rintro e W' ⟨he,⟨k,h1,h2,h3,h4⟩|⟨k,h1,h2,h3⟩⟩
  ·exact⟨he,.inl ⟨_,⟨k,h1,rfl,h3,h4⟩,h2⟩⟩
  ·exact⟨he,.inr ⟨_,⟨k,h1,rfl,h3⟩,h2⟩⟩
theorem heap5 (w:World)(o1 o2 o3 o4 o5:Obj):(((((w.alloc o1).alloc o2).alloc o3).alloc o4).alloc o5).heap[w.heap.size+1]?=some o2∧(((((w.alloc o1).alloc o2).alloc o3).alloc o4).alloc o5).heap[w.heap.size+1+1]?=some o3 ∧
  (((((w.alloc o1).alloc o2).alloc o3).alloc o4).alloc o5).heap[w.heap.size+1+1+1]?=some o4∧(((((w.alloc o1).alloc o2).alloc o3).alloc o4).alloc o5).heap[w.heap.size+1+1+1+1]?=some o5:=by
 have e:(((((w.alloc o1).alloc o2).alloc o3).alloc o4).alloc o5).heap=((((w.heap.push o1).push o2).push o3).push o4).push o5:=rfl
 rw[e]
 simp only[Array.getElem?_push,Array.size_push]
 refine⟨?_,?_,?_,?_⟩
 ·rw[if_neg (by omega),if_neg (by omega),if_neg (by omega),if_pos trivial]
 ·rw[if_neg (by omega),if_neg (by omega),if_pos trivial]
 ·rw[if_neg (by omega),if_pos trivial]
 ·rw[if_pos trivial]
theorem cell_at {W:World}{k i:Nat}{cs:Array Value}{T:TypeId}{fz:Nat×Nat}(h:W.heap[k]?=some (.cells cs T fz)):W.cell? ⟨k,i,none⟩=cs[i]?:=by simp[World.cell?,h]
theorem froz_below {n:Nat}{A B:World}(h:Below n A B){p:Addr}(hp:p.block<n):B.frozen? p=A.frozen? p:=by unfold World.frozen?;rw[h.block _ hp]
theorem keeps_below {A B:World}(h:Below A.heap.size A B):KeepsOthers A B:=⟨h.size,fun k o hk _=>by rw[h.block k (Array.getElem?_eq_some_iff.1 hk).1];exact hk⟩
theorem froz_at {W:World}{k i:Nat}{cs:Array Value}{T:TypeId}(h:W.heap[k]?=some (.cells cs T (0,0))):W.frozen? ⟨k,i,none⟩=false:=by simp[World.frozen?,h]
set_option maxRecDepth 100000 in
set_option maxHeartbeats 4000000 in
theorem value_calls (w : World)(b off len cap a : Nat)(s0 s1 s7 : Nat → ByteArray)(a2 a3 : Nat → Option Addr)(n2 k2 n3 k3 : Nat → Nat)(b5 : Nat → Bool)(i6 i8 : Nat → Int)(bl : Nat → Bool)(v0 v1 p0 p1 : Value)(m1 m2 : Nat → Int)(ok : Nat → Bool)(hlen : len * 144 ≤ 140737488351232)(hb : b < w.heap.size)(ha : a < len)
    (hc : ∀ j, j < len → Box9 (fun x => .string (s0 x)) (fun x => .string (s1 x)) (fun x => .slice (a2 x) (n2 x) (k2 x)) (fun x => .slice (a3 x) (n3 x) (k3 x)) bl (fun x => .bool (b5 x)) (fun x => .int .i64 (i6 x)) (fun x => .string (s7 x)) (fun x => .int .i64 (i8 x)) w b (off + j * 9) j)
    (hmove : ∀ x W, Below w.heap.size w W → Calls Tryz.prog 248 #[.agg #[.string (s0 x), .string (s1 x), .slice (a2 x) (n2 x) (k2 x), .slice (a3 x) (n3 x) (k3 x), .bool (bl x), .bool (b5 x), .int .i64 (i6 x), .string (s7 x), .int .i64 (i8 x)], .agg #[p0, p1]] W fun e W' => e = .returned (.tuple #[.agg #[.int .i64 (m1 x), .int .i64 (m2 x)], .bool (ok x)]) ∧ Below W.heap.size W W')
    (hhome : ∀ W, Calls Tryz.prog 249 #[] W fun e W' => e = .returned (.agg #[.int .i64 (-1), .int .i64 0]) ∧ Below W.heap.size W W') :
    Calls Tryz.prog 191 #[.agg #[v0, v1, .slice (some ⟨b, off, none⟩) len cap], .int .i64 a, .agg #[p0, p1]] w fun e W' =>
      ((∃ k, k ≤ a + 1 ∧ (∀ x ∈ dnL a k, ok x = false) ∧ (k = a + 1 ∨ 0 < k ∧ bl (a + 1 - k) = true) ∧ (∀ j, 0 < j → j < k → bl (a + 1 - j) = false) ∧ e = .returned (.agg #[.int .i64 (-1), .int .i64 0])) ∨
       (∃ k, k < a + 1 ∧ (∀ x ∈ dnL a k, ok x = false) ∧ ok (a - k) = true ∧ (∀ j, 0 < j → j ≤ k → bl (a + 1 - j) = false) ∧ e = .returned (.agg #[.int .i64 (m1 (a - k)), .int .i64 (m2 (a - k))]))) ∧ Below w.heap.size w W' := by
  refine (callsIn_wide (n := 3)).1 ?_
  refine callsIn_of_wp_marks Tryz.func191 rfl trivial ?_ rfl
  simp only [Tryz.ntmps191, List.size_toArray, List.length_cons, List.length_nil, Nat.reduceAdd, Nat.reduceSub, Array.replicate_succ, Array.replicate_zero, List.push_toArray, List.append_toArray, List.nil_append, List.cons_append]
  gi_wp2_with (refine ⟨trivial, ?_⟩; gi_at_call 247; refine (back_in Fence.wide _ trivial rfl _ _ _ _ _).mono ?_; rintro e w' ⟨rfl, rfl⟩)
  have hB0 : Below w.heap.size w (((((w.alloc (.cells #[v0, v1, .slice (some ⟨b, off, none⟩) len cap] 57)).alloc (.cells #[p0, p1] 120)).alloc (.cells #[.int .i64 0, .int .i64 0] 122)).alloc (.cells #[v0, v1, .slice (some ⟨b, off, none⟩) len cap] 57)).alloc (.cells #[.int .i64 a] 3)) :=
    (((((Below.refl _ w).alloc (Nat.le_refl _) _).alloc (by simp) _).alloc (by simp; omega) _).alloc (by simp; omega) _).alloc (by simp; omega) _
  have hs0 : (((((w.alloc (.cells #[v0, v1, .slice (some ⟨b, off, none⟩) len cap] 57)).alloc (.cells #[p0, p1] 120)).alloc (.cells #[.int .i64 0, .int .i64 0] 122)).alloc (.cells #[v0, v1, .slice (some ⟨b, off, none⟩) len cap] 57)).alloc (.cells #[.int .i64 a] 3)).heap.size = w.heap.size + 1 + 1 + 1 + 1 + 1 := by simp
  obtain ⟨g2, g3, g4, g5⟩ := heap5 w (.cells #[v0, v1, .slice (some ⟨b, off, none⟩) len cap] 57) (.cells #[p0, p1] 120) (.cells #[.int .i64 0, .int .i64 0] 122) (.cells #[v0, v1, .slice (some ⟨b, off, none⟩) len cap] 57) (.cells #[.int .i64 a] 3)
  generalize hW0 : (((((w.alloc (.cells #[v0, v1, .slice (some ⟨b, off, none⟩) len cap] 57)).alloc (.cells #[p0, p1] 120)).alloc (.cells #[.int .i64 0, .int .i64 0] 122)).alloc (.cells #[v0, v1, .slice (some ⟨b, off, none⟩) len cap] 57)).alloc (.cells #[.int .i64 a] 3)) = W0 at *
  have f0 : W0.cell? ⟨w.heap.size + 1 + 1 + 1 + 1, 0, none⟩ = some (.int .i64 a) := cell_at g5
  have fq1 : W0.cell? ⟨w.heap.size + 1 + 1 + 1, 2, none⟩ = some (.slice (some ⟨b, off, none⟩) len cap) := cell_at g4
  have fq3 : W0.cell? ⟨w.heap.size + 1, 0, none⟩ = some p0 := cell_at g2
  have fq4 : W0.cell? ⟨w.heap.size + 1, 1, none⟩ = some p1 := cell_at g2
  have fq5 : W0.cell? ⟨w.heap.size + 1 + 1, 0, none⟩ = some (.int .i64 0) := cell_at g3
  have fq6 : W0.cell? ⟨w.heap.size + 1 + 1, 1, none⟩ = some (.int .i64 0) := cell_at g3
  have fq7 : W0.frozen? ⟨w.heap.size + 1 + 1, 0, none⟩ = false := froz_at g3
  have fq8 : W0.frozen? ⟨w.heap.size + 1 + 1, 1, none⟩ = false := froz_at g3
  have hc0 : ∀ j, j < len → Box9 (fun x => .string (s0 x)) (fun x => .string (s1 x)) (fun x => .slice (a2 x) (n2 x) (k2 x)) (fun x => .slice (a3 x) (n3 x) (k3 x)) bl (fun x => .bool (b5 x)) (fun x => .int .i64 (i6 x)) (fun x => .string (s7 x)) (fun x => .int .i64 (i8 x)) W0 b (off + j * 9) j := fun j hj => by
    obtain ⟨d0, d1, d2, d3, d4, d5, d6, d7, d8⟩ := hc j hj
    exact ⟨(hB0.cell (p := ⟨b, _, none⟩) hb).trans d0, (hB0.cell (p := ⟨b, _, none⟩) hb).trans d1, (hB0.cell (p := ⟨b, _, none⟩) hb).trans d2, (hB0.cell (p := ⟨b, _, none⟩) hb).trans d3, (hB0.cell (p := ⟨b, _, none⟩) hb).trans d4, (hB0.cell (p := ⟨b, _, none⟩) hb).trans d5, (hB0.cell (p := ⟨b, _, none⟩) hb).trans d6, (hB0.cell (p := ⟨b, _, none⟩) hb).trans d7, (hB0.cell (p := ⟨b, _, none⟩) hb).trans d8⟩
  refine wpIn_rangeFunc_ownH rfl (by decide) (gf := 311) (lb := #[.pointer (some ⟨w.heap.size + 1 + 1 + 1 + 1, 0, none⟩), .pointer (some ⟨w.heap.size + 1 + 1 + 1, 0, none⟩)]) rfl trivial (enters_of Tryz.func311 (by kernel_rfl) rfl)
    (back_stops Fence.wide _ trivial rfl (by decide) (w.heap.size + 1 + 1 + 1 + 1) (w.heap.size + 1 + 1 + 1) W0.heap.size b off len cap a (fun x => .string (s0 x)) (fun x => .string (s1 x)) (fun x => .slice (a2 x) (n2 x) (k2 x)) (fun x => .slice (a3 x) (n3 x) (k3 x)) (fun x => .bool (b5 x)) (fun x => .int .i64 (i6 x)) (fun x => .string (s7 x)) (fun x => .int .i64 (i8 x)) bl hlen (by omega) ha W0 (Nat.le_refl _) f0 (by omega) fq1 (by omega) hc0)
    belowK_t (belowK_b (Nat.le_refl _)) (Below.refl _ _) (fun _ => rfl)
    (fun pre W => (∀ x ∈ pre, ok x = false) ∧ Below W0.heap.size W0 W)
    (fun c pre W => (c = .ret ∧ ∃ ini last, pre = ini ++ [last] ∧ (∀ x ∈ ini, ok x = false) ∧ ok last = true ∧ W.cell? ⟨w.heap.size + 1 + 1, 0, none⟩ = some (.int .i64 (m1 last)) ∧ W.cell? ⟨w.heap.size + 1 + 1, 1, none⟩ = some (.int .i64 (m2 last))) ∧ Below w.heap.size w W)
    (OwnFrom.and (Own.from (fun s A B row hs hg hr => hs) _) (ownFrom_below (Nat.le_refl _) (Nat.le_refl _)))
    (fun c => OwnFrom.and (Own.from (fun s A B row hs hg hr => by obtain ⟨hc, ini, last, e1, e2, e3, e4, e5⟩ := hs; exact ⟨hc, ini, last, e1, e2, e3, cell_kept e4 hg hr, cell_kept e5 hg hr⟩) _) (ownFrom_below (Nat.le_refl _) (by omega)))
    ⟨by simp, Below.refl _ _⟩
    (fun x a' W => ∃ Bx, w.heap.size + 1 + 1 + 1 + 1 + 1 ≤ Bx ∧ Box9 (fun x => .string (s0 x)) (fun x => .string (s1 x)) (fun x => .slice (a2 x) (n2 x) (k2 x)) (fun x => .slice (a3 x) (n3 x) (k3 x)) bl (fun x => .bool (b5 x)) (fun x => .int .i64 (i6 x)) (fun x => .string (s7 x)) (fun x => .int .i64 (i8 x)) W Bx 0 x ∧ a' = { tmps := #[.agg #[v0, v1, .slice (some ⟨b, off, none⟩) len cap], .int .i64 a, .agg #[p0, p1], .pointer (some ⟨w.heap.size, 0, none⟩), undef, .pointer (some ⟨w.heap.size + 1, 0, none⟩), .pointer (some ⟨w.heap.size + 1 + 1, 0, none⟩), .pointer (some ⟨Bx, 0, none⟩), undef, undef, .agg #[v0, v1, .slice (some ⟨b, off, none⟩) len cap], .int .i64 a, .func (.func 311) #[] #[.pointer (some ⟨w.heap.size + 1 + 1 + 1 + 1, 0, none⟩), .pointer (some ⟨w.heap.size + 1 + 1 + 1, 0, none⟩)], .agg #[.string (s0 x), .string (s1 x), .slice (a2 x) (n2 x) (k2 x), .slice (a3 x) (n3 x) (k3 x), .bool (bl x), .bool (b5 x), .int .i64 (i6 x), .string (s7 x), .int .i64 (i8 x)], undef, undef, undef, undef, undef, undef, undef, undef, undef], defers := [] })
    (fun x a' => Own.from (fun s A B row hs hg hr => by
      obtain ⟨Bx, h1, ⟨d0, d1, d2, d3, d4, d5, d6, d7, d8⟩, h3⟩ := hs
      exact ⟨Bx, h1, ⟨cell_kept d0 hg hr, cell_kept d1 hg hr, cell_kept d2 hg hr, cell_kept d3 hg hr, cell_kept d4 hg hr, cell_kept d5 hg hr, cell_kept d6 hg hr, cell_kept d7 hg hr, cell_kept d8 hg hr⟩, h3⟩) _) ?assign ?body ?done ?stop
  case assign =>
    rintro l pre x W K hi hK
    gi_wp2
    refine hK _ _ ((KeepsOthers.alloc _ _).from _) ((Below.refl _ W).alloc hi.2.size _) ⟨hi.1, hi.2.alloc hi.2.size _⟩ ⟨W.heap.size, by have := hi.2.size; omega, ?_, rfl⟩
    have hn := World.alloc_heap_new W (.cells #[.string (s0 x), .string (s1 x), .slice (a2 x) (n2 x) (k2 x), .slice (a3 x) (n3 x) (k3 x), .bool (bl x), .bool (b5 x), .int .i64 (i6 x), .string (s7 x), .int .i64 (i8 x)] 70)
    exact ⟨cell_at hn, cell_at hn, cell_at hn, cell_at hn, cell_at hn, cell_at hn, cell_at hn, cell_at hn, cell_at hn⟩
  case body =>
    rintro l pre x a' W hl ⟨r, hr⟩ ⟨hp, hB⟩ ⟨Bx, hBx, ⟨d0, d1, d2, d3, d4, d5, d6, d7, d8⟩, rfl⟩ hlt
    simp only [Nat.zero_add] at d1 d2 d3 d4 d5 d6 d7 d8
    have hBw : Below w.heap.size w W := hB0.trans (hB.mono (by omega))
    have q3 := (hB.cell (p := ⟨w.heap.size + 1, 0, none⟩) (by show w.heap.size + 1 < _; omega)).trans fq3
    have q4 := (hB.cell (p := ⟨w.heap.size + 1, 1, none⟩) (by show w.heap.size + 1 < _; omega)).trans fq4
    gi_wp2_with (refine ⟨trivial, ?_⟩; gi_at_call 248; refine (CallsIn.inRound l (callsIn_wide.2 (hmove x W hBw))).mono ?_; rintro e w' ⟨rfl, hBm⟩; have hs3 := hB.size; have hs4 := hBm.size; have hB3 : Below W0.heap.size W0 w' := hB.trans (hBm.mono hs3); have q5 : ∀ o, (w'.alloc o).cell? ⟨w.heap.size + 1 + 1, 0, none⟩ = some (.int .i64 0) := fun o => ((hB3.alloc (by omega) o).cell (p := ⟨w.heap.size + 1 + 1, 0, none⟩) (by show w.heap.size + 1 + 1 < _; omega)).trans fq5; have q6 : ∀ o, (w'.alloc o).cell? ⟨w.heap.size + 1 + 1, 1, none⟩ = some (.int .i64 0) := fun o => ((hB3.alloc (by omega) o).cell (p := ⟨w.heap.size + 1 + 1, 1, none⟩) (by show w.heap.size + 1 + 1 < _; omega)).trans fq6; have q7 : ∀ o, (w'.alloc o).frozen? ⟨w.heap.size + 1 + 1, 0, none⟩ = false := fun o => (froz_below (hB3.alloc (by omega) o) (by show w.heap.size + 1 + 1 < _; omega)).trans fq7; have q8 : ∀ o, (w'.alloc o).frozen? ⟨w.heap.size + 1 + 1, 1, none⟩ = false := fun o => (froz_below (hB3.alloc (by omega) o) (by show w.heap.size + 1 + 1 < _; omega)).trans fq8)
    all_goals first
      | (have hx : ok x = false := by first | assumption | simpa using (by assumption : ¬ ok x = true)
         exact ⟨((keeps_below hBm).trans (KeepsOthers.alloc _ _)).from _, (hBm.mono hs3).alloc (by omega) _, ⟨fun y hy => (List.mem_append.1 hy).elim (hp y) (fun e => by rw [List.mem_singleton.1 e]; exact hx), hB3.alloc (by omega) _⟩⟩)
      | skip
    have hx : ok x = true := by first | assumption | simpa using (by assumption : ¬ ok x = false)
    refine ⟨(((keeps_below hBm).trans (KeepsOthers.alloc _ _)).trans ((KeepsOthers.setCell _ _ _).trans (KeepsOthers.setCell _ _ _))).from _, ⟨rfl, pre, x, rfl, hp, hx, ?_, ?_⟩, ?_⟩
    · exact (World.cell?_setCell_other _ _ _ _ (by simp)).trans (World.cell?_setCell_same' _ _ _ (by rw [q5]; rfl))
    · exact World.cell?_setCell_same' _ _ _ (by rw [World.cell?_setCell_other _ _ _ _ (by simp), q6]; rfl)
    · exact (((hBw.trans (hBm.mono hBw.size)).alloc (by omega) _).setCell (p := ⟨w.heap.size + 1 + 1, 0, none⟩) (by show _ ≤ w.heap.size + 1 + 1; omega) _).setCell (p := ⟨w.heap.size + 1 + 1, 1, none⟩) (by show _ ≤ w.heap.size + 1 + 1; omega) _
  case done =>
    rintro D ys W hD ⟨k, h1, rfl, h2, h3⟩ ⟨hp, hB⟩ hK
    gi_wp2_with (refine ⟨trivial, ?_⟩; gi_at_call 249; refine (callsIn_wide.2 (hhome W)).mono ?_; rintro e w' ⟨rfl, hBh⟩; have hs3 := hB.size; have hs4 := hBh.size; have hB3 : Below W0.heap.size W0 w' := hB.trans (hBh.mono hs3); have q5 : w'.cell? ⟨w.heap.size + 1 + 1, 0, none⟩ = some (.int .i64 0) := (hB3.cell (p := ⟨w.heap.size + 1 + 1, 0, none⟩) (by show w.heap.size + 1 + 1 < _; omega)).trans fq5; have q6 : w'.cell? ⟨w.heap.size + 1 + 1, 1, none⟩ = some (.int .i64 0) := (hB3.cell (p := ⟨w.heap.size + 1 + 1, 1, none⟩) (by show w.heap.size + 1 + 1 < _; omega)).trans fq6; have q7 : w'.frozen? ⟨w.heap.size + 1 + 1, 0, none⟩ = false := (froz_below hB3 (by show w.heap.size + 1 + 1 < _; omega)).trans fq7; have q8 : w'.frozen? ⟨w.heap.size + 1 + 1, 1, none⟩ = false := (froz_below hB3 (by show w.heap.size + 1 + 1 < _; omega)).trans fq8)
    have hKh : w'.heap[D]? = some (.deferred (some [])) := (hBh.block D (Array.getElem?_eq_some_iff.1 hK).1).trans hK
    have hK' := (KeepsOthers.setCell (w'.setCell ⟨w.heap.size + 1 + 1, 0, none⟩ (.int .i64 (-1))) ⟨w.heap.size + 1 + 1, 1, none⟩ (.int .i64 0)).same D _ ((KeepsOthers.setCell w' ⟨w.heap.size + 1 + 1, 0, none⟩ (.int .i64 (-1))).same D _ hKh rfl) rfl
    refine ⟨by simp, .inl ⟨_, _, rfl, run_takeDeferred hK', ?_⟩⟩
    have k0 : ((w'.setCell ⟨w.heap.size + 1 + 1, 0, none⟩ (.int .i64 (-1))).setCell ⟨w.heap.size + 1 + 1, 1, none⟩ (.int .i64 0)).cell? ⟨w.heap.size + 1 + 1, 0, none⟩ = some (.int .i64 (-1)) :=
      (World.cell?_setCell_other _ _ _ _ (by simp)).trans (World.cell?_setCell_same' _ _ _ (by rw [q5]; rfl))
    have k1 : ((w'.setCell ⟨w.heap.size + 1 + 1, 0, none⟩ (.int .i64 (-1))).setCell ⟨w.heap.size + 1 + 1, 1, none⟩ (.int .i64 0)).cell? ⟨w.heap.size + 1 + 1, 1, none⟩ = some (.int .i64 0) :=
      World.cell?_setCell_same' _ _ _ (by rw [World.cell?_setCell_other _ _ _ _ (by simp), q6]; rfl)
    have hc5 := cell_kept k0 (grownBy_putObj' _ D (.deferred none)) (fun r e => by cases e; exact ⟨_, hK', rfl⟩)
    have hc6 := cell_kept k1 (grownBy_putObj' _ D (.deferred none)) (fun r e => by cases e; exact ⟨_, hK', rfl⟩)
    refine ⟨.agg #[.int .i64 (-1), .int .i64 0], ?_, .inl ⟨k, h1, hp, h2, h3, rfl⟩, (((hB0.trans (hB3.mono (by omega))).setCell (p := ⟨w.heap.size + 1 + 1, 0, none⟩) (by show _ ≤ w.heap.size + 1 + 1; omega) _).setCell (p := ⟨w.heap.size + 1 + 1, 1, none⟩) (by show _ ≤ w.heap.size + 1 + 1; omega) _).trans (belowK_b (w := w) (Nat.le_refl _) _ D _ _ (by omega) hK' rfl rfl)⟩
    simp [results, Tryz.f191, go_sem, hc5, hc6]
  case stop =>
    rintro D c pre W hD ⟨k, h1, rfl, h2⟩ ⟨⟨rfl, ini, last, e1, e2, e3, e4, e5⟩, hB⟩ hK
    gi_wp2
    obtain ⟨k', rfl⟩ : ∃ k', k = k' + 1 := by
      cases k with
      | zero => simp [dnL] at e1
      | succ k' => exact ⟨k', rfl⟩
    rw [dnL_succ] at e1
    obtain ⟨rfl, e6⟩ := List.append_inj' e1 rfl
    obtain rfl : a - k' = last := by simpa using e6
    refine ⟨by simp, .inl ⟨_, _, rfl, run_takeDeferred hK, ?_⟩⟩
    have hc5 := cell_kept e4 (grownBy_putObj' _ D (.deferred none)) (fun r e => by cases e; exact ⟨_, hK, rfl⟩)
    have hc6 := cell_kept e5 (grownBy_putObj' _ D (.deferred none)) (fun r e => by cases e; exact ⟨_, hK, rfl⟩)
    refine ⟨.agg #[.int .i64 (m1 (a - k')), .int .i64 (m2 (a - k'))], ?_, .inr ⟨k', by omega, e2, e3, fun j h3 h4 => h2 j h3 (by omega), rfl⟩, hB.trans (belowK_b (w := w) (Nat.le_refl _) W D _ _ (by omega) hK rfl rfl)⟩
    simp [results, Tryz.f191, go_sem, hc5, hc6]
end Go.Proofs.YtdkokbhcjmapdaaGreatDoor

namespace Go.Proofs.YtdkokbhcjmapdaaGreatDoor
open Go.Sha Go.RowKit
set_option maxRecDepth 100000
theorem calls_of {P:Program}{f:FuncId}{fn:Func}(hf:P.funcs[f]?=some fn)(hname:(fn.name == "runtime.NumGoroutine")=false)(hb:fn.body.isNone=false){ds:List V}{st':St}{r:V}(h:VRet P f ds st0 r st'){w:World}{vs:List Value}(ha:Reps w (abs0 w) vs ds) :
  Calls P f vs.toArray w fun e w'=>(∃v A',e=.returned v∧Rep w' A' v r)∧Below w.heap.size w w':=by
 refine(VCalls.calls hf hname hb h (sim0 w) ha).mono fun e w' ⟨r',A',s,⟨hr,_⟩,he,_,hx⟩=>?_
 subst hr
 cases e with
 |returned v=>exact⟨⟨v,A',rfl,he⟩,⟨hx.os,hx.tape,hx.output,hx.size,fun i hi=>hx.fr i hi rfl⟩⟩
 |panicked ch=>exact he.elim
 |outgrown=>exact he.elim
theorem rdL_map {α:Type}{f:V→Option α}{g:α→V}(h:∀v x,f v=some x→v=g x):∀{l:List V}{xs:List α},rdL f l=some xs→l=xs.map g
 |[],xs,e=>by cases e;rfl
 |v::r,xs,e=>by
  rw[rdL]at e
  split at e
  ·rename_i x l h1 h2
   cases e
   rw[List.map_cons,←rdL_map h h2,←h v x h1]
  ·cases e
theorem rdMov_v (v:V)(x:Mov)(h:rdMov v=some x):v=x.v:=by
 unfold rdMov at h;split at h
 ·cases h;rfl
 ·cases h
theorem rdTim_v (v:V)(x:Tim)(h:rdTim v=some x):v=x.v:=by
 unfold rdTim at h;split at h
 ·cases h;rfl
 ·cases h
theorem rdCu_v (v:V)(x:Cu)(h:rdCu v=some x):v=x.v:=by
 unfold rdCu at h;split at h
 ·split at h
  ·rename_i h1 h2
   cases h
   rw[rdL_map rdMov_v h1,rdL_map rdTim_v h2]
  ·cases h
 ·cases h
theorem rep_sl {w:World}{A:Abs}{v:Value}{l:List V}(h:Rep w A v (.sl l)):∃a n k,v=.slice a n k:=by
 cases h with
 |sl=>exact⟨_,_,_,rfl⟩
 |slnil a=>exact⟨_,_,_,rfl⟩
theorem cues_at {w:World}{A:Abs}{v:Value}{l:List Cu}(h:Rep w A v (.sl (l.map Cu.v)))(hne:l≠[]) :
  ∃b o cap,∃cell:Nat→Nat→Value,v=.slice (some ⟨b,o,none⟩) l.length cap∧∀j x,l[j]?=some x→∀k c,x.v.cells[k]?=some c→A.C b (o+(j*9+k))∧w.cell? ⟨b,o+(j*9+k),none⟩=some (cell j k)∧Rep w A (cell j k) c:=by
 generalize hd:V.sl (l.map Cu.v)=d at h
 cases h with
 |sl ys b o cap es cell hes hcap hm hC hr =>
  cases hd
  have e1:es=9:=by
   obtain⟨x,hx⟩:=List.exists_mem_of_ne_nil _ hne
   exact(hes x.v (List.mem_map.2 ⟨x,hx,rfl⟩)).symm.trans rfl
  subst e1
  refine⟨b,o,cap,cell,by rw[List.length_map],fun j x hj k c hk=>?_⟩
  have hj':(l.map Cu.v)[j]?=some x.v:=by rw[List.getElem?_map,hj];rfl
  obtain⟨g1,g2,_⟩:=hC j k _ c hj' hk
  exact⟨g1,g2,hr j k _ c hj' hk⟩
 |slnil a=>cases l with|nil=>exact absurd rfl hne|cons x l=>cases hd
 |_=>cases hd
theorem agg9 {w:World}{A:Abs}{c:Cu}{a2 a3:Option Addr}{n2 k2 n3 k3:Nat}(h2:Rep w A (.slice a2 n2 k2) (.sl (c.moves.map Mov.v)))(h3:Rep w A (.slice a3 n3 k3) (.sl (c.parts.map Tim.v))) :
  Rep w A (.agg #[.string ⟨c.num.toArray⟩,.string ⟨c.label.toArray⟩,.slice a2 n2 k2,.slice a3 n3 k3,.bool c.block,.bool c.mark,.int .i64 c.follow,.string ⟨c.link.toArray⟩,.int .i64 c.loops]) c.v:=by
 refine Rep.agg [.string ⟨c.num.toArray⟩,.string ⟨c.label.toArray⟩,.slice a2 n2 k2,.slice a3 n3 k3,.bool c.block,.bool c.mark,.int .i64 c.follow,.string ⟨c.link.toArray⟩,.int .i64 c.loops] _ rfl (fun v hv=>?_) (fun i v d h4 h5=>?_)
 ·simp at hv;rcases hv with rfl|rfl|rfl|rfl|rfl|rfl|rfl|rfl|rfl<;>rfl
 ·match i,h4,h5 with
  |0,h4,h5=>simp at h4 h5;subst h4 h5;exact .str _
  |1,h4,h5=>simp at h4 h5;subst h4 h5;exact .str _
  |2,h4,h5=>simp at h4 h5;subst h4 h5;exact h2
  |3,h4,h5=>simp at h4 h5;subst h4 h5;exact h3
  |4,h4,h5=>simp at h4 h5;subst h4 h5;exact .bool _
  |5,h4,h5=>simp at h4 h5;subst h4 h5;exact .bool _
  |6,h4,h5=>simp at h4 h5;subst h4 h5;exact .int _ _
  |7,h4,h5=>simp at h4 h5;subst h4 h5;exact .str _
  |8,h4,h5=>simp at h4 h5;subst h4 h5;exact .int _ _
  |n+9,h4,h5=>simp at h4
theorem prm_inv {w:World}{A:Abs}{v:Value}{a b:Int}(h:Rep w A v (.agg [.int .i64 a,.int .i64 b])):v=.agg #[.int .i64 a,.int .i64 b]:=by
 obtain⟨vs,rfl,hl,_,hr⟩:=h.agg_inv
 match vs,hl,hr with
 |[x,y],_,hr =>
  have e1:=(hr 0 x _ rfl rfl).int_inv
  have e2:=(hr 1 y _ rfl rfl).int_inv
  subst e1 e2;rfl
theorem prm_rep {w:World}{A:Abs}{a b:Int}:Rep w A (.agg #[.int .i64 a,.int .i64 b]) (.agg [.int .i64 a,.int .i64 b]):=by
 refine Rep.agg [.int .i64 a,.int .i64 b] _ rfl (fun v hv=>?_) (fun i v d h4 h5=>?_)
 ·simp at hv;rcases hv with rfl|rfl<;>rfl
 ·match i,h4,h5 with
  |0,h4,h5=>simp at h4 h5;subst h4 h5;exact .int _ _
  |1,h4,h5=>simp at h4 h5;subst h4 h5;exact .int _ _
  |n+2,h4,h5=>simp at h4
theorem valF_at {l:List Cu}{q:Prm}:∀{a k:Nat},k≤a→(∀j,j<k→movF (l.getD (a-j) default).moves q=none∧(l.getD (a-j) default).block=false)→valF l q a=valF l q (a-k)
 |a,0,_,_=>rfl
 |0,k+1,h,_=>by omega
 |a+1,k+1,h,hj=>by
  obtain⟨h1,h2⟩:=hj 0 (by omega)
  simp only[Nat.sub_zero]at h1 h2
  rw[valF,h1,h2]
  simp only[Bool.false_eq_true,if_false]
  rw[valF_at (a:=a) (k:=k) (by omega) (fun j hjk=>by have:=hj (j+1) (by omega);rwa [show a+1-(j+1)=a-j by omega]at this)]
  congr 1;omega
theorem callable191:Callable Tryz.prog 191:=⟨_,Tryz.func191,by kernel_rfl,by kernel_rfl⟩
theorem v191 (x y:Int)(l:List Cu)(a:Nat)(q:Prm)(st:St)(ha:a<l.length)(hl:l.length≤1000000)(hq:okP q=true)(hm:∀c∈l,okMs c.moves=true)(hml:∀c∈l,c.moves.length<140737488355328) :
  VRet Tryz.prog 191 [.agg [.int .i64 x,.int .i64 y,.sl (l.map Cu.v)],.int .i64 a,.agg [.int .i64 q.chan,.int .i64 q.attr]] st (valF l q a).v st:=by
 refine VRet_of_below callable191 (fun w A vs hw hv=>?_)
 obtain⟨u0,u1,u2,rfl,r0,r1,r2⟩:∃u0 u1 u2,vs=[u0,u1,u2]∧Rep w A u0 (.agg [.int .i64 x,.int .i64 y,.sl (l.map Cu.v)])∧Rep w A u1 (.int .i64 a)∧Rep w A u2 (.agg [.int .i64 q.chan,.int .i64 q.attr]):=by
  obtain⟨hlen,hr⟩:=hv
  match vs,hlen,hr with
  |[u0,u1,u2],_,hr=>exact⟨u0,u1,u2,rfl,hr 0 _ _ rfl rfl,hr 1 _ _ rfl rfl,hr 2 _ _ rfl rfl⟩
 obtain rfl:=r1.int_inv
 obtain rfl:=prm_inv r2
 obtain⟨us,rfl,hus,_,hur⟩:=r0.agg_inv
 obtain⟨t0,t1,t2,rfl⟩:∃t0 t1 t2,us=[t0,t1,t2]:=by
  match us,hus with
  |[t0,t1,t2],_=>exact⟨t0,t1,t2,rfl⟩
 have hne:l≠[]:=by intro e;rw[e]at ha;simp at ha
 obtain⟨b,o,cap,cell,rfl,hc⟩:=cues_at (hur 2 _ _ rfl rfl) hne
 have hget:∀j,j<l.length→l[j]?=some (l.getD j default):=fun j hj=>by rw[List.getD_eq_getElem?_getD,List.getElem?_eq_getElem hj];rfl
 have hb:b<w.heap.size:=hw.Clt _ _ (hc a _ (hget a ha) 0 _ rfl).1
 have hs:∀j,∃a2:Option Addr,∃n2 k2:Nat,∃a3:Option Addr,∃n3 k3:Nat,(j<l.length→w.cell? ⟨b,o+j*9+2,none⟩=some (.slice a2 n2 k2)∧w.cell? ⟨b,o+j*9+3,none⟩=some (.slice a3 n3 k3))∧Rep w A (.slice a2 n2 k2) (.sl ((l.getD j default).moves.map Mov.v))∧Rep w A (.slice a3 n3 k3) (.sl ((l.getD j default).parts.map Tim.v)):=fun j=>by
  by_cases hj:j<l.length
  ·obtain⟨_,g2,g3⟩:=hc j _ (hget j hj) 2 _ rfl
   obtain⟨_,g4,g5⟩:=hc j _ (hget j hj) 3 _ rfl
   obtain⟨a2,n2,k2,e2⟩:=rep_sl g3
   obtain⟨a3,n3,k3,e3⟩:=rep_sl g5
   rw[e2]at g2 g3
   rw[e3]at g4 g5
   exact⟨a2,n2,k2,a3,n3,k3,fun _=>⟨by rw[Nat.add_assoc];exact g2,by rw[Nat.add_assoc];exact g4⟩,g3,g5⟩
  ·have e:l.getD j default=default:=by rw[List.getD_eq_getElem?_getD,List.getElem?_eq_none (by omega)];rfl
   rw[e]
   exact⟨none,0,0,none,0,0,fun h=>absurd h hj,.slnil _,.slnil _⟩
 obtain⟨a2,hs⟩:=Classical.axiomOfChoice hs
 obtain⟨n2,hs⟩:=Classical.axiomOfChoice hs
 obtain⟨k2,hs⟩:=Classical.axiomOfChoice hs
 obtain⟨a3,hs⟩:=Classical.axiomOfChoice hs
 obtain⟨n3,hs⟩:=Classical.axiomOfChoice hs
 obtain⟨k3,hs⟩:=Classical.axiomOfChoice hs
 have hok:∀j,okMs (l.getD j default).moves=true∧(l.getD j default).moves.length<140737488355328:=fun j=>by
  by_cases hj:j<l.length
  ·have:=List.mem_of_getElem? (hget j hj)
   exact⟨hm _ this,hml _ this⟩
  ·have e:l.getD j default=default:=by rw[List.getD_eq_getElem?_getD,List.getElem?_eq_none (by omega)];rfl
   rw[e];exact⟨rfl,by decide⟩
 have hmove:∀j W,Below w.heap.size w W→Calls Tryz.prog 248 #[.agg #[.string ⟨(l.getD j default).num.toArray⟩,.string ⟨(l.getD j default).label.toArray⟩,.slice (a2 j) (n2 j) (k2 j),.slice (a3 j) (n3 j) (k3 j),.bool (l.getD j default).block,.bool (l.getD j default).mark,.int .i64 (l.getD j default).follow,.string ⟨(l.getD j default).link.toArray⟩,.int .i64 (l.getD j default).loops],.agg #[.int .i64 q.chan,.int .i64 q.attr]] W fun e W' =>
   e=.returned (.tuple #[.agg #[.int .i64 ((movF (l.getD j default).moves q).getD ⟨-1,0⟩).pal,.int .i64 ((movF (l.getD j default).moves q).getD ⟨-1,0⟩).lev],.bool (movF (l.getD j default).moves q).isSome])∧Below W.heap.size W W':=fun j W hB=>by
  obtain⟨_,g2,g3⟩:=hs j
  have hx:=Ext.below hw hB
  have hwW:=hw.below hB
  have h0:Reps W A [.agg #[.string ⟨(l.getD j default).num.toArray⟩,.string ⟨(l.getD j default).label.toArray⟩,.slice (a2 j) (n2 j) (k2 j),.slice (a3 j) (n3 j) (k3 j),.bool (l.getD j default).block,.bool (l.getD j default).mark,.int .i64 (l.getD j default).follow,.string ⟨(l.getD j default).link.toArray⟩,.int .i64 (l.getD j default).loops],.agg #[.int .i64 q.chan,.int .i64 q.attr]] [(l.getD j default).v,q.v] :=
   ⟨rfl,fun i v c h1 h2=>by
    match i,h1,h2 with
    |0,h1,h2=>simp at h1 h2;subst h1 h2;exact agg9 (g2.mono hx) (g3.mono hx)
    |1,h1,h2=>simp at h1 h2;subst h1 h2;exact prm_rep
    |n+2,h1,h2=>simp at h1⟩
  have h1:=h0.data (B:=abs0 W) (fun b o h=>hwW.Clt b o h) (by simp[V.bdL,Cu.bd,Prm.bd])
  have hV:VRet Tryz.prog 248 [(l.getD j default).v,q.v] st0 (.tup [((movF (l.getD j default).moves q).getD ⟨-1,0⟩).v,.bool (movF (l.getD j default).moves q).isSome]) st0:=run_sound mixed HN0_ok _ _ _ _ _ (f248 (hok j).1 hq (hok j).2)
  refine(calls_of Tryz.func248 (by kernel_rfl) (by kernel_rfl) hV h1).mono fun e W' ⟨⟨v,A',he,hr⟩,hb⟩=>⟨?_,hb⟩
  obtain⟨ws,rfl,hws,hwr⟩:=hr.tup_inv
  obtain⟨y0,y1,rfl⟩:∃y0 y1,ws=[y0,y1]:=by
   match ws,hws with
   |[y0,y1],_=>exact⟨y0,y1,rfl⟩
  obtain rfl:=prm_inv (hwr 0 _ _ rfl rfl)
  obtain rfl:=(hwr 1 _ _ rfl rfl).bool_inv
  exact he
 have hhome:∀W,Calls Tryz.prog 249 #[] W fun e W'=>e=.returned (.agg #[.int .i64 (-1),.int .i64 0])∧Below W.heap.size W W':=fun W=>by
  have hV:VRet Tryz.prog 249 [] st0 (.agg [.int .i64 (-1),.int .i64 0]) st0:=run_sound mixed HN0_ok _ _ _ _ _ f249
  refine(calls_of (vs:=[]) (w:=W) Tryz.func249 (by kernel_rfl) (by kernel_rfl) hV ⟨rfl,fun i v c h1 h2=>by simp at h1⟩).mono fun e W' ⟨⟨v,A',he,hr⟩,hb⟩=>⟨?_,hb⟩
  rw[prm_inv hr]at he;exact he
 have hbox:∀j,j<l.length→Box9 (fun x=>.string ⟨(l.getD x default).num.toArray⟩) (fun x=>.string ⟨(l.getD x default).label.toArray⟩) (fun x=>.slice (a2 x) (n2 x) (k2 x)) (fun x=>.slice (a3 x) (n3 x) (k3 x)) (fun x=>(l.getD x default).block) (fun x=>.bool (l.getD x default).mark) (fun x=>.int .i64 (l.getD x default).follow) (fun x=>.string ⟨(l.getD x default).link.toArray⟩) (fun x=>.int .i64 (l.getD x default).loops) w b (o+j*9) j:=fun j hj=>by
  have hg:=hget j hj
  obtain⟨_,e0,d0⟩:=hc j _ hg 0 _ rfl
  obtain⟨_,e1,d1⟩:=hc j _ hg 1 _ rfl
  obtain⟨_,e4,d4⟩:=hc j _ hg 4 _ rfl
  obtain⟨_,e5,d5⟩:=hc j _ hg 5 _ rfl
  obtain⟨_,e6,d6⟩:=hc j _ hg 6 _ rfl
  obtain⟨_,e7,d7⟩:=hc j _ hg 7 _ rfl
  obtain⟨_,e8,d8⟩:=hc j _ hg 8 _ rfl
  rw[d0.str_inv]at e0
  rw[d1.str_inv]at e1
  rw[d4.bool_inv]at e4
  rw[d5.bool_inv]at e5
  rw[d6.int_inv]at e6
  rw[d7.str_inv]at e7
  rw[d8.int_inv]at e8
  obtain⟨e2,e3⟩:=(hs j).1 hj
  simp only[←Nat.add_assoc,Nat.add_zero]at e0 e1 e4 e5 e6 e7 e8
  exact⟨e0,e1,e2,e3,e4,e5,e6,e7,e8⟩
 refine(value_calls w b o l.length cap a (fun x=>⟨(l.getD x default).num.toArray⟩) (fun x=>⟨(l.getD x default).label.toArray⟩) (fun x=>⟨(l.getD x default).link.toArray⟩) a2 a3 n2 k2 n3 k3 (fun x=>(l.getD x default).mark) (fun x=>(l.getD x default).follow) (fun x=>(l.getD x default).loops) (fun x=>(l.getD x default).block) t0 t1 (.int .i64 q.chan) (.int .i64 q.attr)
  (fun x=>((movF (l.getD x default).moves q).getD ⟨-1,0⟩).pal) (fun x=>((movF (l.getD x default).moves q).getD ⟨-1,0⟩).lev) (fun x=>(movF (l.getD x default).moves q).isSome) (by omega) hb ha hbox hmove hhome).mono fun e W' ⟨he,hB⟩=>?_
 have hmem:∀{k j:Nat},j<k→(a-j)∈dnL a k:=fun {k j} hj=>by unfold dnL;exact List.mem_map.2 ⟨j,List.mem_range.2 hj,rfl⟩
 rcases he with⟨k,h1,h2,h3,h4,rfl⟩|⟨k,h1,h2,h3,h4,rfl⟩
 ·refine⟨_,rfl,fun w' A'=>?_,hB⟩
  have hk0:0<k:=by rcases h3 with h3|h3<;>omega
  have hn:∀j,j<k→movF (l.getD (a-j) default).moves q=none:=fun j hj=>by
   have:=h2 _ (hmem hj)
   cases hx:movF (l.getD (a-j) default).moves q with
   |none=>rfl
   |some v=>rw[hx]at this;simp at this
  have e1:=valF_at (l:=l) (q:=q) (a:=a) (k:=k-1) (by omega) (fun j hj=>⟨hn j (by omega),by have:=h4 (j+1) (by omega) (by omega);rwa [show a+1-(j+1)=a-j by omega]at this⟩)
  have e2:valF l q (a-(k-1))=⟨-1,0⟩:=by
   have hz:=hn (k-1) (by omega)
   cases hy:a-(k-1) with
   |zero=>rw[valF];rw[hy]at hz;rw[hz];rfl
   |succ y =>
    rw[hy]at hz
    rw[valF,hz]
    rcases h3 with h3|⟨_,h3⟩
    ·omega
    ·rw[show a+1-k=y+1 by omega]at h3
     simp only[h3,if_true]
  rw[e1,e2]
  exact prm_rep
 ·refine⟨_,rfl,fun w' A'=>?_,hB⟩
  have hn:∀j,j<k→movF (l.getD (a-j) default).moves q=none:=fun j hj=>by
   have:=h2 _ (hmem hj)
   cases hx:movF (l.getD (a-j) default).moves q with
   |none=>rfl
   |some v=>rw[hx]at this;simp at this
  have e1:=valF_at (l:=l) (q:=q) (a:=a) (k:=k) (by omega) (fun j hj=>⟨hn j hj,by have:=h4 (j+1) (by omega) (by omega);rwa [show a+1-(j+1)=a-j by omega]at this⟩)
  rw[e1]
  obtain⟨v,hv⟩:=Option.isSome_iff_exists.1 h3
  have e2:valF l q (a-k)=v:=by
   cases hy:a-k with
   |zero=>rw[valF];rw[hy]at hv;rw[hv];rfl
   |succ y=>rw[hy]at hv;rw[valF,hv]
  rw[e2]
  simp only[hv,Option.getD_some]
  exact prm_rep
end Go.Proofs.YtdkokbhcjmapdaaGreatDoor

namespace Go.Proofs.YtdkokbhcjmapdaaGreatDoor
open Go.Sha Go.RowKit
open Go.Lib (below_grow)
set_option maxRecDepth 100000
variable {g:List (Nat×Obj)}{n:Nat}
theorem intsB_eq {k:IntKind}:∀{zs:List Int}{vs:List Value},intsB k zs vs=true→vs=zs.map fun z=>Value.int k z
 |[],[],_=>rfl
 |[],_::_,h=>by cases h
 |z::zs,v::vs,h=>by
  unfold intsB at h
  split at h
  ·rename_i h1 h2;cases h1
  ·rename_i z' zs' j n' r h1 h2
   cases h1;cases h2
   simp only[Bool.and_eq_true,decide_eq_true_eq]at h
   obtain⟨⟨h3,h4⟩,h5⟩:=h
   subst h3;subst h4
   rw[intsB_eq h5];rfl
  ·cases h
 |z::zs,[],h=>by unfold intsB at h;cases h
theorem tab_at {gl:List (Nat×Obj)}{v:Nat}{k:IntKind}{zs:List Int}(h:gl.any (tabB v k zs)=true):∃T fz,(v,Obj.cells (zs.map fun z=>Value.int k z).toArray T fz)∈gl:=by
 obtain⟨p,hp,hh⟩:=List.any_eq_true.1 h
 obtain⟨i,o⟩:=p
 simp only[tabB,Bool.and_eq_true,decide_eq_true_eq]at hh
 obtain⟨hi,hh⟩:=hh
 subst hi
 split at hh
 ·rename_i cs T fz
  have:=intsB_eq hh
  refine⟨T,fz,?_⟩
  rw[←this]
  exact hp
 ·cases hh
theorem tab_is {w:World}{A:Abs}{st:St}(hw:Sim w A st){v:Nat}{name:String}{k:IntKind}{zs:List Int}(hn:Tryz.prog.globalNamed name=some v)(h:st.x.gl.any (tabB v k zs)=true):Lib.TabIs Tryz.prog w name k zs:=by
 obtain⟨T,fz,hm⟩:=tab_at h
 have:=(hw.x.gl _ hm).1
 simp only[Lib.TabIs,World.var?,hn,Option.bind_some,this]
theorem callable73:Callable Tryz.prog 73:=⟨_,Tryz.func73,by kernel_rfl,by kernel_rfl⟩
theorem v73 {n:Int}(h0:-9223372036854775808≤n)(h1:n≤9223372036854775807){st:St}(hG:glB st.x.gl=true):VRet Tryz.prog 73 [.int .i64 n] st (.str (Lib.itoa n)) st:=by
 simp only[glB,Bool.and_eq_true]at hG
 refine VRet_of_below callable73 (fun w A vs hw ha=>?_)
 obtain⟨u,rfl,h2⟩:=ha.one
 have e1:=h2.int_inv
 subst e1
 refine(Tryz.strconv_Itoa n h0 h1 w (tab_is hw (by kernel_rfl) hG.1)).mono fun e w' ⟨he,k,os,hw'⟩=>?_
 subst he
 exact⟨_,rfl,fun _ _=>.str _,by rw[hw'];exact below_grow _ w (Nat.le_refl _) k os⟩
theorem callable62:Callable Tryz.prog 62:=⟨_,Tryz.func62,by kernel_rfl,by kernel_rfl⟩
theorem v62 {s:List UInt8}{n:Int}(h0:0≤n)(hn:n≤1000000)(h1:s.length*n.toNat≤1000000){st:St}:VRet Tryz.prog 62 [.str s,.int .i64 n] st (.str (Lib.repeatL s n.toNat)) st:=by
 refine VRet_of_below callable62 (fun w A vs hw ha=>?_)
 obtain⟨hl,ha⟩:=ha
 match vs,hl with
 |[u,v],_ =>
 have e1:=(ha 0 u _ rfl rfl).str_inv
 have e2:=(ha 1 v _ rfl rfl).int_inv
 subst e1;subst e2
 obtain⟨m,rfl⟩:∃m:Nat,n=m:=⟨n.toNat,by omega⟩
 rw[Int.toNat_natCast]at h1 ⊢
 refine(Tryz.strings_Repeat ⟨s.toArray⟩ m w (by omega) (by simp[ByteArray.size];omega)).mono fun e w' ⟨he,hb⟩=>?_
 subst he
 exact⟨_,rfl,fun _ _=>.str _,hb⟩
theorem callable54:Callable Tryz.prog 54:=⟨_,Tryz.func54,by kernel_rfl,by kernel_rfl⟩
theorem strsV_map:∀{l:List V}{ss:List (List UInt8)},strsV l=some ss→l=ss.map .str
 |[],ss,h=>by cases h;rfl
 |v::r,ss,h=>by
  unfold strsV at h
  split at h
  ·rename_i h1;cases h1
  ·rename_i s r' h1
   cases h1
   obtain⟨x,hx,rfl⟩:=Option.map_eq_some_iff.1 h
   rw[strsV_map hx];rfl
  ·cases h
theorem v54 {ss:List (List UInt8)}{t:List UInt8}(hn:ss.length≤1000000)(hl:(Lib.join ss t).length≤100000000000){st:St}:VRet Tryz.prog 54 [.sl (ss.map .str),.str t] st (.str (Lib.join ss t)) st:=by
 refine VRet_of_below callable54 (fun w A vs hw ha=>?_)
 obtain⟨hlen,ha⟩:=ha
 match vs,hlen with
 |[u,v],_ =>
 have h1:=ha 0 u _ rfl rfl
 have e2:=(ha 1 v _ rfl rfl).str_inv
 subst e2
 have hbytes:(ss.map fun l=>(⟨l.toArray⟩:ByteArray)).map (·.data.toList)=ss:=by simp[Function.comp_def]
 generalize hd:V.sl (ss.map .str)=d at h1
 cases h1 with
 |sl ys b o cap es cell hes hcap hm hC hr =>
  cases hd
  cases hss:ss with
  |nil =>
   subst hss
   refine(Tryz.strings_Join_none _ cap ⟨t.toArray⟩ w).mono fun e w' ⟨he,hb⟩=>?_
   subst he;subst hb
   exact⟨_,rfl,fun _ _=>.str _,Below.refl _ _⟩
  |cons x r =>
   rw[←hss]
   have e1:es=1:=(hes (.str x) (by rw[hss];simp)).symm.trans rfl
   subst e1
   have hbk:b<w.heap.size:=by
    have hx0:(ss.map V.str)[0]?=some (.str x):=by rw[hss];rfl
    exact hw.Clt _ _ (hC 0 0 _ _ hx0 rfl).1
   have:=Tryz.strings_Join b o cap (ss.map fun l=>(⟨l.toArray⟩:ByteArray)) ⟨t.toArray⟩ w (fun j y hj=>?_) hbk (by rw[List.length_map];omega) (by rw[List.length_map];rw[List.length_map]at hcap;exact hcap) (by rw[hbytes];show(Lib.join ss t).length≤_;omega)
   ·rw[hbytes,List.length_map]at this
    rw[List.length_map]
    refine this.mono fun e w' ⟨he,hb⟩=>?_
    subst he
    exact⟨_,rfl,fun _ _=>.str _,hb⟩
   ·rw[List.getElem?_map]at hj
    obtain⟨l,hl1,rfl⟩:=Option.map_eq_some_iff.1 hj
    have hjx:(ss.map V.str)[j]?=some (.str l):=by rw[List.getElem?_map,hl1];rfl
    obtain⟨_,g2,_⟩:=hC j 0 _ _ hjx rfl
    have g3:=hr j 0 _ _ hjx rfl
    rw[g3.str_inv]at g2
    simpa using g2
 |slnil a =>
  have hss:ss=[]:=by
   cases ss with
   |nil=>rfl
   |cons x r=>cases hd
  subst hss
  refine(Tryz.strings_Join_none _ _ ⟨t.toArray⟩ w).mono fun e w' ⟨he,hb⟩=>?_
  subst he;subst hb
  exact⟨_,rfl,fun _ _=>.str _,Below.refl _ _⟩
 |_=>cases hd
theorem weak_back {st:St}(h:st.Wf){a:Arr}:Weak st.nx ⟨st.nx+1,st.mem,(st.nx,a)::st.arr,st.x⟩ st where
 nx:=rfl
 le:=Nat.le_succ _
 mem id cs hl:=⟨(h.mem id cs hl).1,hl⟩
 arr id a' hl:=⟨(h.arr id a' hl).1,by
  have:=(h.arr id a' hl).1
  simp only[Sha.look];rw[if_neg (by omega)];exact hl⟩
 bdm id cs hl:=(h.mem id cs hl).2
 bda id a' hl:=(h.arr id a' hl).2
 x:=⟨fun id o hl=>⟨(h.x id o hl).1,hl⟩,rfl,fun id T hl=>⟨h.t id T hl,hl⟩⟩
 bdx id o hl:=(h.x id o hl).2
theorem fresh_sl {w:World}{A:Abs}{st:St}(hw:Sim w A st)(l:List (List UInt8))(hl:l.length≤1000000):∃r A' st',(r=.ret (.sl (l.map .str))∧st'=st)∧EndRel (w.alloc (.cells (l.map fun l=>Value.string ⟨l.toArray⟩).toArray 9)) A' (.returned (.slice (some ⟨w.heap.size,0,none⟩) l.length l.length)) r∧Sim (w.alloc (.cells (l.map fun l=>Value.string ⟨l.toArray⟩).toArray 9)) A' st'∧Ext w A (w.alloc (.cells (l.map fun l=>Value.string ⟨l.toArray⟩).toArray 9)) A':=by
 have h1:=Sim.newArr (w0:=w) (cur:=(l.map fun l=>Value.string ⟨l.toArray⟩).toArray) (xs:=l.map V.str) (e:=9) (es:=1) (cap:=l.length) (wr:=false) (fz:=false) hw ⟨rfl,rfl,rfl,rfl⟩ (fun x hx=>by obtain⟨y,_,rfl⟩:=List.mem_map.1 hx;rfl) (by rw[List.length_map];exact Nat.le_refl _) (by unfold maxLen;omega) (by simp) (fun i j x c hi hj=>by
  rw[List.getElem?_map]at hi
  obtain⟨y,hy,rfl⟩:=Option.map_eq_some_iff.1 hi
  cases j with
  |zero=>simp[V.cells]at hj;subst hj;exact⟨_,by simp[hy],rfl,.str _⟩
  |succ j=>simp[V.cells]at hj)
 have hx:=Ext.newArr (w0:=w) hw ⟨rfl,rfl,rfl,rfl⟩ (.cells (l.map fun l=>Value.string ⟨l.toArray⟩).toArray 9) (l.map V.str).length (.slice (some ⟨w.heap.size,0,none⟩) (l.map V.str).length l.length) (!false) ((l.map V.str).length*1)
 have hR:Rep (w.alloc (.cells (l.map fun l=>Value.string ⟨l.toArray⟩).toArray 9)) (A.newArr w.heap.size (l.map V.str).length (.slice (some ⟨w.heap.size,0,none⟩) (l.map V.str).length l.length) (!false) ((l.map V.str).length*1)) (.slice (some ⟨w.heap.size,0,none⟩) (l.map V.str).length l.length) (.osl A.nx (l.map V.str).length):=Rep.newArr
 have hS:=snapA_rep h1 hR (d':=.sl (l.map V.str)) (by rw[←hw.nx];simp[snapA_osl,Sha.look,snapO])
 have hown0:∀b id,A.own b=some id→id<A.nx:=fun b id h=>(hw.ownlt b id h).2
 refine⟨_,_,_,⟨rfl,rfl⟩,?_,h1.cut (weak_back hw.wf),hx.cut hown0 (by rw[←hw.nx];exact Nat.le_refl _)⟩
 have:=hS.cut (n:=st.nx) (by simp[V.bd,bdL_map'])
 rw[List.length_map]at this ⊢
 exact this
theorem cntF_le:∀(l:List UInt8) (b:Bool),Lib.cntF b l≤l.length
 |[],_=>Nat.le_refl _
 |x::l,b=>by
  have:=cntF_le l (Lib.isSp x)
  unfold Lib.cntF
  rw[List.length_cons]
  split<;>omega
theorem callable201:Callable Tryz.prog 201:=⟨_,Tryz.func201,by kernel_rfl,by kernel_rfl⟩
theorem v201 {s:List UInt8}(h1:s.length≤1000)(h2:∀b∈s,b.toNat<128){st:St}(hG:glB st.x.gl=true):VRet Tryz.prog 201 [.str s] st (.sl ((Lib.fields s).map .str)) st:=by
 simp only[glB,Bool.and_eq_true]at hG
 refine .inl ⟨callable201,fun w A vs hw ha=>?_⟩
 obtain⟨u,rfl,h3⟩:=ha.one
 have e1:=h3.str_inv
 subst e1
 refine(Tryz.strings_Fields ⟨s.toArray⟩ w (by simp[ByteArray.size];omega) (fun j b hj=>h2 b (List.mem_of_getElem? hj)) (tab_is hw (by kernel_rfl) hG.2)).mono fun e w' ⟨he,hb⟩=>?_
 subst he
 change w'=w.alloc (.cells ((Lib.fields s).map fun l=>Value.string ⟨l.toArray⟩).toArray 9) at hb
 subst hb
 exact fresh_sl hw (Lib.fields s) (by rw[Lib.fields_length];have:=cntF_le s true;omega)
def oddR (r:Nat):Bool:=decide (r<32)||decide (126<r)
theorem pred129 (w:World):PredAt Tryz.prog 176 #[] encR oddR w:=fun W r _=>by
 unfold FnGives
 by_cases h1:r<32<;>by_cases h2:126<r
 all_goals
  have z1:(r:Int)<32↔r<32:=by omega
  have z2:(126:Int)<(r:Int)↔126<r:=by omega
  go_enter Tryz.func176,Tryz.ntmps176
  go_wp2
  all_goals first|(exfalso;omega)|(go_ret;exact⟨by simp[oddR,h1,h2],0,rfl⟩)
theorem v239' (s:List UInt8)(st:St):VRet Tryz.prog 239 [.str s,.fn (.func 176) [] [],.bool true] st (.int .i64 (Lib.idxFunc oddR true ⟨s.toArray⟩)) st:=by
 refine VRet_of_below callable239 (fun w A vs hw ha=>?_)
 obtain⟨hl,ha⟩:=ha
 match vs,hl with
 |[v0,v1,v2],_ =>
 have e0:=(ha 0 v0 _ rfl rfl).str_inv
 have r1:=ha 1 v1 _ rfl rfl
 have e2:=(ha 2 v2 _ rfl rfl).bool_inv
 have e1:v1=.func (.func 176) #[] #[]:=by
  cases r1 with
  |fn _ vs us _ _ e1 e2 _ _ =>
   have h1:vs=[]:=List.eq_nil_of_length_eq_zero e1
   have h2:us=[]:=List.eq_nil_of_length_eq_zero e2
   rw[h1,h2]
 subst e0;subst e1;subst e2
 refine(Tryz.strings_indexFunc 176 #[] (enters_of Tryz.func176 (by kernel_rfl) rfl) oddR true ⟨s.toArray⟩ w (pred129 w)).mono fun e w' ⟨he,hb⟩=>?_
 subst he
 exact⟨_,rfl,fun w' A'=>.int _ _,hb⟩
theorem odd_from (s:ByteArray):∀(f pos:Nat),s.size≤pos+f→Lib.idxFuncFrom oddR true s f pos=match(s.data.toList.drop pos).findIdx? (fun b=>!plainB b) with|some i=>((pos+i:Nat):Int)|none=>-1
 |0,pos,h=>by
  rw[List.drop_eq_nil_of_le (by rw[Array.length_toList];exact h)];rfl
 |f+1,pos,h=>by
  unfold Lib.idxFuncFrom
  by_cases hp:pos<s.size
  ·have hp':pos<s.data.toList.length:=by rw[Array.length_toList];exact hp
   have hb:s.data.toList[pos]'hp'=s[pos]'hp:=rfl
   rw[if_pos hp,List.drop_eq_getElem_cons hp',List.findIdx?_cons,hb]
   by_cases ha:(s[pos]'hp).toNat<128
   ·rw[decode_ascii s pos hp ha]
    have ih:=odd_from s f (pos+1) (by omega)
    cases hd:plainB (s[pos]'hp) with
    |true =>
     have:¬oddR (s[pos]'hp).toNat=true:=by
      simp only[plainB,Bool.and_eq_true,decide_eq_true_eq]at hd
      simp only[oddR,Bool.or_eq_true,decide_eq_true_eq];omega
     rw[if_neg this,ih]
     simp only[Bool.not_true,Bool.false_eq_true,if_false]
     cases(s.data.toList.drop (pos+1)).findIdx? (fun b=>!plainB b) with
     |none=>rfl
     |some i=>show((pos+1+i:Nat):Int)=((pos+(i+1):Nat):Int);rw[show pos+1+i=pos+(i+1) by omega]
    |false =>
     have:oddR (s[pos]'hp).toNat=true:=by
      simp only[plainB,Bool.and_eq_false_iff,decide_eq_false_iff_not]at hd
      simp only[oddR,Bool.or_eq_true,decide_eq_true_eq];omega
     rw[if_pos this]
     simp
   ·obtain⟨h1,h2⟩:=decode_high s pos hp (by omega)
    have:oddR (Utf8.decode s pos).1=true:=by
     simp only[oddR,Bool.or_eq_true,decide_eq_true_eq];omega
    have hd:plainB (s[pos]'hp)=false:=by
     simp only[plainB,Bool.and_eq_false_iff,decide_eq_false_iff_not];omega
    rw[if_pos this,hd]
    simp
  ·rw[if_neg hp,List.drop_eq_nil_of_le (by rw[Array.length_toList];exact Nat.le_of_not_lt hp)];rfl
theorem odd_idx (s:List UInt8):Lib.idxFunc oddR true ⟨s.toArray⟩=oddI s:=by
 have:=odd_from ⟨s.toArray⟩ s.length 0 (by simp[ByteArray.size])
 have e:Lib.idxFunc oddR true ⟨s.toArray⟩=Lib.idxFuncFrom oddR true ⟨s.toArray⟩ s.length 0:=by simp[Lib.idxFunc,ByteArray.size]
 rw[e,this]
 unfold oddI
 simp only[List.drop_zero]
 cases s.findIdx? (fun b=>!plainB b) with
 |none=>rfl
 |some i=>simp
def q239':List V→Option VRes
 |[.str s,.fn (.func 176) [] [],.bool true]=>some (.ret (.int .i64 (Lib.idxFunc oddR true ⟨s.toArray⟩)))
 |_=>none
def HL1:EvF:=⟨[],fun f args st=>(bif Nat.beq f 239 then q239' args else none).map fun r=>(r,st)⟩
@[push_cast]theorem HL1_raw:HL1.raw=[]:=idq rfl
theorem HL1_ok:ESound Tryz.prog HL1:=fun f args st r s h=>by
 obtain⟨z,hz,e⟩:=Option.map_eq_some_iff.1 h
 cases e
 by_cases h3:f=239
 ·subst h3
  rw[show Nat.beq 239 239=true from rfl,cond_true]at hz
  unfold q239' at hz
  split at hz<;>cases hz
  exact v239' _ _
 rw[show Nat.beq f 239=false from Bool.eq_false_iff.2 fun e=>h3 (Nat.eq_of_beq_eq_true e),cond_false]at hz
 cases hz
theorem v177 {s:List UInt8}{st:St}:VRet Tryz.prog 177 [.str s,.fn (.func 176) [] []] st (.int .i64 (oddI s)) st:=by
 have h:∀st,run Tryz.prog HL1 239 [.str s,.fn (.func 176) [] [],.bool true] st=some (.ret (.int .i64 (Lib.idxFunc oddR true ⟨s.toArray⟩)),st):=fun st=>run_H rfl
 have h2:run Tryz.prog HL1 177 [.str s,.fn (.func 176) [] []] st=some (.ret (.int .i64 (oddI s)),st):=by
  rw[run_shut F177 rfl rfl rfl]
  push_cast[h,odd_idx]
 exact run_sound mixed HL1_ok _ _ _ _ _ h2
theorem HH_ok:ESound Tryz.prog HH:=fun f args st r s h=>by
 simp only[HH]at h
 by_cases h1:f=126
 ·subst h1
  rw[show Nat.beq 126 126=true from rfl,cond_true]at h
  unfold hSort at h
  split at h
  ·rename_i id n
   unfold hSortA at h
   split at h
   ·rename_i r0 hr
    split at h
    ·rename_i hc
     cases h
     obtain⟨c1,c2,c3,c4,c5⟩:=hc
     subst c1
     exact v126 hr c3 c4 c2 c5
    ·cases h
   ·cases h
  ·cases h
 rw[show Nat.beq f 126=false from Bool.eq_false_iff.2 fun e=>h1 (Nat.eq_of_beq_eq_true e),cond_false]at h
 obtain⟨z,hz,e⟩:=Option.map_eq_some_iff.1 h
 cases e
 by_cases h1:f=117
 ·subst h1
  rw[show Nat.beq 117 117=true from rfl,cond_true]at hz
  unfold hCut at hz
  split at hz
  ·split at hz
   ·rename_i hl;cases hz;exact run_sound mixed HL0_ok _ _ _ _ _ (k117 hl)
   ·cases hz
  ·cases hz
 rw[show Nat.beq f 117=false from Bool.eq_false_iff.2 fun e=>h1 (Nat.eq_of_beq_eq_true e),cond_false]at hz
 by_cases h1:f=121
 ·subst h1
  rw[show Nat.beq 121 121=true from rfl,cond_true]at hz
  unfold hSuf at hz
  split at hz
  ·split at hz
   ·rename_i hl;cases hz;exact run_sound mixed HL0_ok _ _ _ _ _ (k121 hl.1 hl.2)
   ·cases hz
  ·cases hz
 rw[show Nat.beq f 121=false from Bool.eq_false_iff.2 fun e=>h1 (Nat.eq_of_beq_eq_true e),cond_false]at hz
 by_cases h1:f=186
 ·subst h1
  rw[show Nat.beq 186 186=true from rfl,cond_true]at hz
  unfold hAny at hz
  split at hz
  ·cases hz;exact run_sound mixed HL0_ok _ _ _ _ _ k186
  ·cases hz
 rw[show Nat.beq f 186=false from Bool.eq_false_iff.2 fun e=>h1 (Nat.eq_of_beq_eq_true e),cond_false]at hz
 by_cases h1:f=378
 ·subst h1
  rw[show Nat.beq 378 378=true from rfl,cond_true]at hz
  unfold hAtoi at hz
  split at hz
  ·split at hz
   ·rename_i hl;cases hz;exact v378 _ _ hl.1 hl.2.1 hl.2.2
   ·cases hz
  ·cases hz
 rw[show Nat.beq f 378=false from Bool.eq_false_iff.2 fun e=>h1 (Nat.eq_of_beq_eq_true e),cond_false]at hz
 by_cases h1:f=327
 ·subst h1
  rw[show Nat.beq 327 327=true from rfl,cond_true]at hz
  unfold hTrim at hz
  split at hz
  ·split at hz
   ·rename_i hl
    obtain⟨e1,e2⟩:=hl
    subst e1
    cases hz;exact run_sound mixed HL0_ok _ _ _ _ _ (k327 e2)
   ·cases hz
  ·cases hz
 rw[show Nat.beq f 327=false from Bool.eq_false_iff.2 fun e=>h1 (Nat.eq_of_beq_eq_true e),cond_false]at hz
 by_cases h1:f=73
 ·subst h1
  rw[show Nat.beq 73 73=true from rfl,cond_true]at hz
  unfold hItoa at hz
  split at hz
  ·split at hz
   ·rename_i hl
    simp only[Bool.and_eq_true,decide_eq_true_eq]at hl
    cases hz;exact v73 hl.1.1 hl.1.2 hl.2
   ·cases hz
  ·cases hz
 rw[show Nat.beq f 73=false from Bool.eq_false_iff.2 fun e=>h1 (Nat.eq_of_beq_eq_true e),cond_false]at hz
 by_cases h1:f=62
 ·subst h1
  rw[show Nat.beq 62 62=true from rfl,cond_true]at hz
  unfold hRep at hz
  split at hz
  ·split at hz
   ·rename_i hl
    simp only[Bool.and_eq_true,decide_eq_true_eq]at hl
    cases hz;exact v62 hl.1.1 hl.1.2 hl.2
   ·cases hz
  ·cases hz
 rw[show Nat.beq f 62=false from Bool.eq_false_iff.2 fun e=>h1 (Nat.eq_of_beq_eq_true e),cond_false]at hz
 by_cases h1:f=54
 ·subst h1
  rw[show Nat.beq 54 54=true from rfl,cond_true]at hz
  unfold hJoin at hz
  split at hz
  ·split at hz
   ·rename_i ss hs
    split at hz
    ·rename_i hl
     simp only[Bool.and_eq_true,decide_eq_true_eq]at hl
     cases hz;exact strsV_map hs▸v54 hl.1 hl.2
    ·cases hz
   ·cases hz
  ·cases hz
 rw[show Nat.beq f 54=false from Bool.eq_false_iff.2 fun e=>h1 (Nat.eq_of_beq_eq_true e),cond_false]at hz
 by_cases h1:f=201
 ·subst h1
  rw[show Nat.beq 201 201=true from rfl,cond_true]at hz
  unfold hFields at hz
  split at hz
  ·split at hz
   ·rename_i hl
    simp only[Bool.and_eq_true,decide_eq_true_eq,List.all_eq_true]at hl
    cases hz;exact v201 hl.1.1 hl.1.2 hl.2
   ·cases hz
  ·cases hz
 rw[show Nat.beq f 201=false from Bool.eq_false_iff.2 fun e=>h1 (Nat.eq_of_beq_eq_true e),cond_false]at hz
 by_cases h1:f=243
 ·subst h1
  rw[show Nat.beq 243 243=true from rfl,cond_true]at hz
  unfold hIdx at hz
  split at hz
  ·cases hz;exact v243 _ _ _
  ·cases hz
 rw[show Nat.beq f 243=false from Bool.eq_false_iff.2 fun e=>h1 (Nat.eq_of_beq_eq_true e),cond_false]at hz
 by_cases h1:f=177
 ·subst h1
  rw[show Nat.beq 177 177=true from rfl,cond_true]at hz
  unfold hOdd at hz
  split at hz
  ·cases hz;exact v177
  ·cases hz
 rw[show Nat.beq f 177=false from Bool.eq_false_iff.2 fun e=>h1 (Nat.eq_of_beq_eq_true e),cond_false]at hz
 by_cases h1:f=191
 ·subst h1
  rw[show Nat.beq 191 191=true from rfl,cond_true]at hz
  unfold hVal at hz
  split at hz
  ·rename_i x y cs a c d
   split at hz
   ·rename_i l hl
    split at hz
    ·rename_i hc
     simp only[Bool.and_eq_true,decide_eq_true_eq,List.all_eq_true]at hc
     obtain⟨⟨⟨⟨c1,c2⟩,c3⟩,c4⟩,c5⟩:=hc
     cases hz
     have ea:a=(a.toNat:Int):=by omega
     have:=v191 x y l a.toNat ⟨c,d⟩ st (by omega) c3 c4 (fun z hz=>(c5 z hz).1) (fun z hz=>by have:=(c5 z hz).2;omega)
     rw[←ea,←rdL_map rdCu_v hl]at this
     exact this
    ·cases hz
   ·cases hz
  ·cases hz
 rw[show Nat.beq f 191=false from Bool.eq_false_iff.2 fun e=>h1 (Nat.eq_of_beq_eq_true e),cond_false]at hz
 cases hz
end Go.Proofs.YtdkokbhcjmapdaaGreatDoor

namespace Go.Proofs.YtdkokbhcjmapdaaGreatDoor
open Go.Sha
set_option maxRecDepth 100000
theorem thS_C:shoC thS=0:=by kernel_rfl
theorem thS_par:parS thS=[⟨1,0⟩,⟨1,1⟩,⟨2,0⟩,⟨2,1⟩]:=by
 rw[parS,if_pos thS_C,par_eq (fix_chan thS_C)];kernel_rfl
theorem thS_ok:thS.ok:=by
 refine⟨by decide,⟨by decide,by simp[thS,theatre]⟩,⟨by decide,?_,?_⟩,⟨by decide,?_⟩,⟨by decide,by simp[thS,theatre]⟩,⟨by decide,?_⟩,⟨by decide,?_⟩,⟨by decide,by simp[thS,theatre]⟩,⟨by decide,by simp[thS,theatre]⟩⟩
 ·intro q hq;simp[thS,theatre]at hq;subst hq;exact⟨by decide,by simp,by decide⟩
 ·intro q hq;simp[thS,theatre]at hq;subst hq;exact⟨by decide,fun z hz=>by simp at hz;rcases hz with rfl|rfl<;>exact⟨by decide,by simp⟩,by decide⟩
 ·intro q hq;simp[thS,theatre]at hq;rcases hq with rfl|rfl<;>decide
 ·intro q hq;simp[thS,theatre]at hq;subst hq;decide
 ·intro q hq;simp[thS]at hq;subst hq;exact⟨by decide,fun z hz=>by simp at hz;subst hz;exact⟨by decide,by decide,by decide,by decide,by decide⟩⟩
theorem HK_ok:ESound Tryz.prog HK:=fun f args st r s h=>by
 simp only[HK]at h
 by_cases h1:f=178
 ·subst h1
  rw[show Nat.beq 178 178=true from rfl,cond_true]at h
  obtain⟨z,hz,e⟩:=Option.map_eq_some_iff.1 h
  cases e
  unfold hNoE at hz
  split at hz
  ·cases hz;exact noEscape_v Tryz.func178 (by kernel_rfl) (by kernel_rfl) (by kernel_rfl) (by kernel_rfl) _ _
  ·cases hz
 rw[show Nat.beq f 178=false from Bool.eq_false_iff.2 fun e=>h1 (Nat.eq_of_beq_eq_true e),cond_false]at h
 by_cases h1:f=67
 ·subst h1
  rw[show Nat.beq 67 67=true from rfl,cond_true]at h
  obtain⟨z,hz,e⟩:=Option.map_eq_some_iff.1 h
  cases e
  unfold hPar at hz
  split at hz
  ·split at hz
   ·rename_i hb
    cases V.beq_eq _ _ hb
    cases hz
    have:=v67 HH_ok thS_ok (st:=st)
    rw[thS_par,thS_C]at this
    exact this
   ·cases hz
  ·cases hz
 rw[show Nat.beq f 67=false from Bool.eq_false_iff.2 fun e=>h1 (Nat.eq_of_beq_eq_true e),cond_false]at h
 exact HH_ok _ _ _ _ _ h
end Go.Proofs.YtdkokbhcjmapdaaGreatDoor

namespace Go.Proofs.YtdkokbhcjmapdaaGreatDoor
set_option maxRecDepth 100000
open Go.Sha Go.ChangeShapes Go.WideShapes Go.ChangeAt Go.RowKit
theorem laid_glK {laid:List (String×DataW Unit)}{W:World}(hn:(laid.all fun x=>x.2.handleName?.isNone)=true)(m2:("strings.asciiSpace",Rows.laid_strings_asciiSpace)∈laid)(m3:("internal/strconv.uint64pow10",Rows.laid_internal_strconv_uint64pow10)∈laid)
  (h:laidMetH Tryz.prog laid W) (hs:W.ShapedOpen Tryz.prog):∃v,∀p∈glK v,W.heap[p.1]?=some p.2:=by
 rw[MakeChecks.laidMetH_plain _ _ _ hn]at h
 obtain⟨ps,hv,_⟩:=h
 obtain⟨g2,t2,cs2,T2,fz2,f2,p2,a2,b2,c2,d2⟩:=vars_read hv _ _ m2
 obtain⟨g3,t3,cs3,T3,fz3,f3,p3,a3,b3,c3,d3⟩:=vars_read hv _ _ m3
 obtain⟨m,hm⟩:=int_of_shape (zero:=#[.int .i64 0]) (g:=1) (t:=3) (k:=.i64) hs (of_decide_eq_true (by kernel_rfl)) (by kernel_rfl) rfl (by kernel_rfl) (by kernel_rfl) Tryz.underlying3
 have q2:(Rows.laid_strings_asciiSpace:DataW Unit)=Lib.tabData .u8 Lib.asciiSpaceTab:=by kernel_rfl
 have q3:(Rows.laid_internal_strconv_uint64pow10:DataW Unit)=Lib.tabData .u64 Lib.pow10Tab:=by kernel_rfl
 rw[q2]at d2
 rw[q3]at d3
 have k2:Tryz.prog.globalNamed "strings.asciiSpace"=some 0:=by kernel_rfl
 have k3:Tryz.prog.globalNamed "internal/strconv.uint64pow10"=some 3:=by kernel_rfl
 obtain rfl:=Option.some.inj (k2.symm.trans a2)
 obtain rfl:=Option.some.inj (k3.symm.trans a3)
 have u2:(match(Tryz.prog.globals[0]?).map (·.type) with|some t=>(match Tryz.prog.underlying t with|some (.array m e)=>decide (m=256)&&(match Tryz.prog.underlying e with|some (.int k')=>decide (k'=.u8)|_=>false)&&decide (Tryz.prog.cellsOf e=1)&&decide (Tryz.prog.cellsOf t=256)|_=>false)|none=>false)=true:=by kernel_rfl
 have u3:(match(Tryz.prog.globals[3]?).map (·.type) with|some t=>(match Tryz.prog.underlying t with|some (.array m e)=>decide (m=20)&&(match Tryz.prog.underlying e with|some (.int k')=>decide (k'=.u64)|_=>false)&&decide (Tryz.prog.cellsOf e=1)&&decide (Tryz.prog.cellsOf t=20)|_=>false)|none=>false)=true:=by kernel_rfl
 rw[b2]at u2
 rw[b3]at u3
 have e2:=tab_read u2 d2
 have e3:=tab_read u3 d3
 subst e2;subst e3
 refine⟨⟨T3,T2,3,fz3,fz2,(0,0),m⟩,fun p hp=>?_⟩
 simp only[glK,List.mem_cons,List.not_mem_nil,or_false]at hp
 rcases hp with rfl|rfl|rfl
 ·exact c3
 ·exact c2
 ·exact hm
end Go.Proofs.YtdkokbhcjmapdaaGreatDoor

namespace Go.Proofs.YtdkokbhcjmapdaaGreatDoor
open Go.Sha
set_option maxRecDepth 100000
variable {g:List (Nat×Obj)}{n:Nat}
end Go.Proofs.YtdkokbhcjmapdaaGreatDoor

namespace Go.Proofs.YtdkokbhcjmapdaaGreatDoor
open Go.Sha
set_option maxRecDepth 10000
theorem F33:compF Tryz.prog 33=some ⟨5,[.tmp 2],(.g [.s 2 (.mv (.w []))] (.g [.m 3 0,.f 4 73 3,.m 2 4] (.ret [2])))⟩:=by kernel_rfl
end Go.Proofs.YtdkokbhcjmapdaaGreatDoor

namespace Go.Proofs.YtdkokbhcjmapdaaGreatDoor
open Go.Sha
set_option maxRecDepth 100000
variable {g:List (Nat×Obj)}{n:Nat}
theorem f33 {m:Int}(h0:-9223372036854775808≤m)(h1:m≤9223372036854775807){st:St}(hG:glB st.x.gl=true):run Tryz.prog HH 33 [.int .i64 m] st=some (.ret (.str (Lib.itoa m)),st):=by
 have hI:∀st':St,st'.x.gl=st.x.gl→run Tryz.prog HH 73 [.int .i64 m] st'=some (.ret (.str (Lib.itoa m)),st'):=fun st' e=>run_H (by
  show(hItoa st'.x.gl [.int .i64 m]).map (fun r=>(r,st'))=_
  rw[hItoa,e,hG,decide_eq_true h0,decide_eq_true h1];rfl)
 rw[run_shut F33 rfl rfl (by simp)]
 push_cast[hI]
end Go.Proofs.YtdkokbhcjmapdaaGreatDoor

namespace Go.Proofs.YtdkokbhcjmapdaaGreatDoor
open Go.Sha
set_option maxRecDepth 100000
variable {g:List (Nat×Obj)}{n:Nat}
theorem h66 {l:List V}(hb:V.bdL 0 l=true){st:St}:run Tryz.prog HH 31 [.sl l] st=some (.ret (.sl l),st):=by
 rw[run_shut F31 rfl rfl (by simpa [V.bdL,V.bd] using hb)]
 push_cast[hb]
theorem num_chars {s:List UInt8}(h:numC s=0):s.length≤8∧∀b∈s,isD b=true∨b=46:=by
 obtain⟨a1,a2,a3,a4⟩:=numC_parts h
 have e:s=nW s++s.dropWhile (· != 46):=(List.takeWhile_append_dropWhile ..).symm
 have e2:s.dropWhile (· != 46)=[]∨s.dropWhile (· != 46)=46::nR s:=by
  unfold nR
  cases hd:s.dropWhile (· != 46) with
  |nil=>exact .inl rfl
  |cons b r =>
   have:(b != 46)=false:=by
    have:=List.head_dropWhile_not (p:=(· != (46:UInt8))) (l:=s) (by rw[hd];simp)
    simpa [hd] using this
   have hb:b=46:=by simpa using this
   rw[hb];exact .inr rfl
 rcases e2 with e2|e2
 ·rw[e2,List.append_nil]at e
  exact⟨by rw[e];omega,fun b hb=>.inl (a1 b (by rw[←e];exact hb))⟩
 ·rw[e2]at e
  refine⟨by rw[e,List.length_append,List.length_cons];omega,fun b hb=>?_⟩
  rw[e]at hb
  rcases List.mem_append.1 hb with hb|hb
  ·exact .inl (a1 b hb)
  ·rcases List.mem_cons.1 hb with hb|hb
   ·exact .inr hb
   ·exact .inl (a2 b hb)
theorem cuesP_all {l:List Cu}:∀{r:List Cu}{j:Nat},cuesP l r j=0→∀c∈r,numC c.num=0
 |[],_,_,c,hc=>by simp at hc
 |q::r,j,h,c,hc=>by
  rw[cuesP]at h
  repeat' split at h
  all_goals first|(rename_i a;exact absurd h a)|cases h|skip
  rename_i a _
  rw[cue_eq]at a
  rcases List.mem_cons.1 hc with rfl|hc
  ·exact cueP_num (Classical.not_not.1 a)
  ·exact cuesP_all h c hc
theorem lst_parts {x:Lst}(h:lstP x=0):1≤x.num∧x.num≤1048576∧x.cues.length≤64∧∀c∈x.cues,numC c.num=0:=by
 unfold lstP lstB at h
 split at h
 ·cases h
 ·split at h
  ·cases h
  ·exact⟨by omega,by omega,by omega,cuesP_all h⟩
theorem lstsL_all {l:List Lst}:∀{r:List Lst}{j:Nat},lstsL l r j=0→∀c∈r,lstP c=0
 |[],_,_,c,hc=>by simp at hc
 |q::r,j,h,c,hc=>by
  rw[lstsL]at h
  repeat' split at h
  all_goals first|(rename_i a;exact absurd h a)|cases h|skip
  rename_i a _
  rcases List.mem_cons.1 hc with rfl|hc
  ·rw[lst_eq];exact Classical.not_not.1 a
  ·exact lstsL_all h c hc
theorem sho_parts {s:Sho}(h:shoC s=0):s.lsts.length≤8∧(∀x∈s.lsts,lstP x=0)∧s.pals.length≤32∧∀x∈s.pals,1≤x.num∧x.num≤1048576:=by
 obtain⟨_,_,_,_,_,h1,h2,_⟩:=shoC_parts h
 unfold lstsC at h2
 unfold palsCR at h1
 split at h1
 ·cases h1
 ·split at h2
  ·cases h2
  ·exact⟨by omega,lstsL_all h2,by omega,fun x hx=>have:=(palsR_all (j:=0) rfl h1).1 x hx;⟨this.1,this.2.1⟩⟩
theorem strsV_str:∀{ss:List (List UInt8)},strsV (ss.map .str)=some ss
 |[]=>rfl
 |s::r=>by rw[List.map_cons,strsV,strsV_str];rfl
theorem h100 {ss:List (List UInt8)}{t:List UInt8}(hn:ss.length≤1000000)(hl:(Lib.join ss t).length≤100000000000){st:St}:run Tryz.prog HH 54 [.sl (ss.map .str),.str t] st=some (.ret (.str (Lib.join ss t)),st):=run_H (by
 show(hJoin [.sl (ss.map .str),.str t]).map _=_
 rw[hJoin,strsV_str]
 simp only[hn,hl,decide_true,Bool.and_self,if_true,Option.map_some])
end Go.Proofs.YtdkokbhcjmapdaaGreatDoor

namespace Go.Proofs.YtdkokbhcjmapdaaGreatDoor
open Go.Sha
set_option maxRecDepth 10000
def B7_0:Cd:=(.g [.b 30 .lss 29 28] (.join [8,27,28,29] (.i 30 .skip (.exit [8] 0)) (.join [8,27,28,29] (.block 1 (.g [.r 31 9 27 29,.d 32 9 31,.s 10 (.alloc 70 [(.str []),(.str []),.nils,.nils,(.bool false),(.bool false),.i 0,(.str []),.i 0]),.w 9 10 32] (.z [10] (.q (.dreg 4 [.a 33 7 10,.l 34 33,.s 11 (.mv (.w [])),.m 12 34]) (.join [8,10,11,12,27,28,29] (.g [.a 35 6 10,.l 36 35,.v 37 .geq 36 0] (.i 37 (.reg [.a 38 6 10,.l 39 38,.f 40 32 39,.m 11 40]) .skip)) (.join [8,10,11,12,27,28,29] (.g [.a 41 8 10,.l 42 41,.v 43 .gtr 42 0] (.i 43 (.reg [.m 44 12,.a 45 8 10,.l 46 45,.f 47 33 46,.s 48 (.bin .add (.w [32,120,32]) (.t 47)),.b 49 .add 44 48,.m 12 49]) .skip)) (.g [.a 50 3 10,.l 51 50,.s 52 (.iadr 6 (.t 51) (.i 0)),.d 53 6 52,.s 13 (.alloc 73 [.i 0,.i 0,.i 0,.i 0,.i 0,.i 0]),.w 6 13 53] (.z [13] (.greg [[],[],[],[],[],[],[],[],[],[],[],[],[],[],[],[],[],[],[],[],[],[],[false,false,false,false,false,false,false,false,false,false,false,false,false,false,false,false,false,false,false,false,false,true],[],[false,false,false,false,false,false,false,false,false,false,false,false,false,false,false,false,false,false,false,false,false,false,false,true],[false,false,false,false,false,false,false,false,false,false,false,false,false,false,false,false,false,false,false,false,false,false,false,false,false],[]] [.m 54 8,.a 55 0 10,.l 56 55,.a 57 1 10,.l 58 57,.a 59 2 10,.l 60 59,.u 61 60,.f 62 33 61,.a 63 0 13,.l 64 63,.f 65 32 64,.a 66 1 13,.l 67 66,.f 68 32 67,.a 69 5 13,.l 70 69,.f 71 32 70,.d 72 9 10,.f 73 34 72,.m 74 11,.m 75 12,.s 76 (.bslice 9 1 [.t 56,.t 58,.t 62,.t 65,.t 68,.t 71,.t 73,.t 74,.t 75]),.f 77 31 76,.s 78 (.bslice 59 1 [.t 77]),.s 79 (.append 59 1 24 (.t 54) (.t 78)),.m 8 79]))))))))) (.reg [.v 80 .add 29 1,.m 29 80]))))
theorem F7:compF Tryz.prog 7=some ⟨82,[.tmp 4,.tmp 5],(.g [.q 2 31 0,.s 4 (.mv (.c .nils)),.c 5 0] (.z [2] (.g [.d 15 9 2,.m 16 1,.g' 17 30 15 16,.m 14 17,.j 18 0 14,.j 19 1 14,.s 6 (.alloc 57 [.i 0,.i 0,.nils]),.w 3 6 18,.m 7 19] (.z [6] (.join [6] (.g [.m 20 7,.v 21 .neq 20 0] (.i 21 (.g [.m 22 7,.s 4 (.mv (.c .nils)),.m 5 22] (.ret [4,5])) .skip)) (.g [.s 23 (.bslice 9 1 [(.w [99,117,101]),(.w [108,97,98,101,108]),(.w [109,111,118,101,115]),(.w [117,112]),(.w [100,111,119,110]),(.w [100,101,108,97,121]),(.w [102,108,97,103,115]),(.w [102,111,108,108,111,119]),(.w [108,105,110,107])]),.f 24 31 23,.s 25 (.bslice 59 1 [.t 24]),.m 8 25] (.join [8] (.g [.a 26 2 6,.l 27 26,.u 28 27,.c 29 0] (.block 0 (.loop [8,27,28,29] [(8,(59,1))] B7_0))) (.g [.m 81 8,.m 4 81,.c 5 0] (.ret [4,5])))))))))⟩:=by kernel_rfl
theorem F32:compF Tryz.prog 32=some ⟨11,[.tmp 2],(.g [.s 2 (.mv (.w []))] (.g [.m 6 0,.f 7 72 6,.m 5 7,.j 8 0 5,.j 9 1 5,.m 3 8,.m 4 9] (.g [.m 10 3,.m 2 10] (.ret [2]))))⟩:=by kernel_rfl
theorem F34:compF Tryz.prog 34=some ⟨16,[.tmp 2],(.g [.q 1 70 0,.s 2 (.mv (.w []))] (.z [1] (.g [.s 3 (.mv (.c .nils))] (.join [1,3] (.g [.a 4 4 1,.l 5 4] (.i 5 (.reg [.m 6 3,.s 7 (.bslice 9 1 [(.w [98,108,111,99,107])]),.s 8 (.append 9 1 16 (.t 6) (.t 7)),.m 3 8]) .skip)) (.join [3] (.g [.a 9 5 1,.l 10 9] (.i 10 (.reg [.m 11 3,.s 12 (.bslice 9 1 [(.w [109,97,114,107])]),.s 13 (.append 9 1 16 (.t 11) (.t 12)),.m 3 13]) .skip)) (.g [.m 14 3,.s 15 (.f 54 [.t 14,(.w [32])]),.m 2 15] (.ret [2])))))))⟩:=by kernel_rfl
theorem F30:compF Tryz.prog 30=some ⟨23,[.cell 4 (some 3),.tmp 5],(.g [.q 2 31 0,.s 4 (.alloc 57 [.i 0,.i 0,.nils]),.c 5 0] (.z [2] (.g [.d 9 9 2,.m 10 1,.g' 11 71 9 10,.m 8 11,.j 12 0 8,.j 13 1 8,.m 6 12,.m 7 13] (.join [2,4,6] (.g [.m 14 7,.v 15 .neq 14 0] (.i 15 (.g [.s 16 (.build [.i 0,.i 0,.nils] []),.m 17 7,.w 3 4 16,.m 5 17] (.ret [4,5])) .skip)) (.g [.a 18 6 2,.l 19 18,.m 20 6,.r 21 3 19 20,.d 22 3 21,.w 3 4 22,.c 5 0] (.ret [4,5]))))))⟩:=by kernel_rfl
theorem F139:compF Tryz.prog 139=some ⟨21,[.tmp 2],(.g [.s 2 (.mv (.w []))] (.g [.m 5 0,.v 6 .quo 5 1000,.f 7 73 6,.m 3 7] (.join [3] (.g [.m 8 0,.v 9 .rem 8 1000,.s 10 (.bin .add (.i 1000) (.t 9)),.f 11 73 10,.s 12 (.slices (.t 11) (some (.i 1)) none),.s 13 (.f 63 [.t 12,(.w [48])]),.m 4 13] (.g [.m 14 4,.s 15 (.bin .neq (.t 14) (.w []))] (.i 15 (.reg [.m 16 3,.m 17 4,.s 18 (.bin .add (.w [46]) (.t 17)),.b 19 .add 16 18,.m 3 19]) .skip))) (.g [.m 20 3,.m 2 20] (.ret [2])))))⟩:=by kernel_rfl
theorem F72:compF Tryz.prog 72=some ⟨12,[.tmp 2,.tmp 3],(.g [.s 2 (.mv (.w [])),.c 3 0] (.join [0] (.g [.m 5 0,.s 6 (.f 135 [.t 5,.i 0,.i 10000000]),.m 4 6] (.g [.m 7 4,.v 8 .neq 7 0] (.i 8 (.g [.m 9 4,.s 2 (.mv (.w [])),.m 3 9] (.ret [2,3])) .skip))) (.g [.m 10 0,.f 11 139 10,.m 2 11,.c 3 0] (.ret [2,3]))))⟩:=by kernel_rfl
theorem F135:compF Tryz.prog 135=some ⟨15,[.tmp 6],(.g [.c 6 0] (.join [] (.join [14] (.reg [.m 7 0,.m 8 1,.b 9 .lss 7 8,.m 10 9,.mx 11 0 10,.mx 12 2 10,.bx 13 .gtr 11 12 10,.o 14 10 13]) (.i 14 (.g [.c 6 2] (.ret [6])) .skip)) (.g [.c 6 0] (.ret [6]))))⟩:=by kernel_rfl
end Go.Proofs.YtdkokbhcjmapdaaGreatDoor

namespace Go.Proofs.YtdkokbhcjmapdaaGreatDoor
open Go.Sha
set_option maxRecDepth 100000
variable {g:List (Nat×Obj)}{n:Nat}
theorem itoaH {m:Int}(h0:-9223372036854775808≤m)(h1:m≤9223372036854775807){st:St}(hG:glB st.x.gl=true):run Tryz.prog HH 73 [.int .i64 m] st=some (.ret (.str (Lib.itoa m)),st):=run_H (by
 show(hItoa st.x.gl [.int .i64 m]).map (fun r=>(r,st))=_
 rw[hItoa,hG,decide_eq_true h0,decide_eq_true h1];rfl)
abbrev Rg:=Int×Int
end Go.Proofs.YtdkokbhcjmapdaaGreatDoor

namespace Go.Proofs.YtdkokbhcjmapdaaGreatDoor
open Go.Sha
set_option maxRecDepth 100000
variable {g:List (Nat×Obj)}{n:Nat}
end Go.Proofs.YtdkokbhcjmapdaaGreatDoor

namespace Go.Proofs.YtdkokbhcjmapdaaGreatDoor
open Go.Sha
set_option maxRecDepth 10000
def B12_1:Cd:=(.g [.b 37 .lss 36 35] (.join [5,8,34,35,36] (.i 37 .skip (.exit [8] 2)) (.join [5,8,34,35,36] (.block 3 (.g [.r 38 7 34 36,.d 39 7 38,.s 10 (.alloc 81 [.i 0,.i 0,(.str []),.i 0,.i 0,.i 0,(.str [])]),.w 7 10 39] (.z [10] (.greg [[],[],[],[],[],[],[],[],[],[],[],[],[false,false,false,true,true,true,true,true,true,true,true,true],[],[],[],[true],[],[true],[true],[false,false,false,false,false,false,false,false,false,false,false,false,false,false,false,false,false,false,false,true],[],[false,false,false,false,false,false,false,false,false,false,false,false,false,false,false,false,false,false,false,false,false,true],[false,false,false,false,false,false,false,false,false,false,false,false,false,false,false,false,false,false,false,false,false,false,false],[]] [.m 40 8,.a 41 3 10,.l 42 41,.f 43 33 42,.a 44 4 10,.l 45 44,.f 46 33 45,.a 47 4 10,.l 48 47,.m 49 5,.a 50 2 10,.l 51 50,.s 52 (.act (.look .s (.i 0) false) [.t 49,.t 51]),.b 53 .add 48 52,.v 54 .sub 53 1,.f 55 33 54,.d 56 7 10,.f 57 40 56,.a 58 2 10,.l 59 58,.s 60 (.bslice 9 1 [.t 43,.t 46,.t 55,.t 57,.t 59]),.f 61 31 60,.s 62 (.bslice 59 1 [.t 61]),.s 63 (.append 59 1 24 (.t 40) (.t 62)),.m 8 63])))) (.reg [.v 64 .add 36 1,.m 36 64]))))
def B9_0:Cd:=(.g [.b 20 .lss 19 18] (.join [5,17,18,19] (.i 20 .skip (.exit [5] 0)) (.join [5,17,18,19] (.block 1 (.g [.r 21 7 17 19,.d 22 7 21,.s 7 (.alloc 81 [.i 0,.i 0,(.str []),.i 0,.i 0,.i 0,(.str [])]),.w 7 7 22] (.z [7] (.greg [[],[],[],[],[],[],[],[],[],[],[],[],[],[],[],[],[false,false,false,false,false,false,false,false,false,false,false,false,false,false,false,true],[],[false,false,false,false,false,false,false,false,false,false,false,false,false,false,false,false,false,true],[false,false,false,false,false,false,false,false,false,false,false,false,false,false,false,false,false,false,false],[]] [.m 23 5,.d 24 7 7,.f 25 40 24,.a 26 2 7,.l 27 26,.a 28 3 7,.l 29 28,.f 30 33 29,.a 31 4 7,.l 32 31,.f 33 33 32,.a 34 5 7,.l 35 34,.f 36 33 35,.a 37 6 7,.l 38 37,.s 39 (.bslice 9 1 [.t 25,.t 27,.t 30,.t 33,.t 36,.t 38]),.f 40 31 39,.s 41 (.bslice 59 1 [.t 40]),.s 42 (.append 59 1 24 (.t 23) (.t 41)),.m 5 42])))) (.reg [.v 43 .add 19 1,.m 19 43]))))
theorem F9:compF Tryz.prog 9=some ⟨45,[.tmp 2,.tmp 3],(.g [.q 1 31 0,.s 2 (.mv (.c .nils)),.c 3 0] (.z [1] (.join [1] (.g [.d 8 9 1,.f 9 37 8,.m 4 9] (.g [.m 10 4,.v 11 .neq 10 0] (.i 11 (.g [.m 12 4,.s 2 (.mv (.c .nils)),.m 3 12] (.ret [2,3])) .skip))) (.g [.s 13 (.bslice 9 1 [(.w [99,104,97,110,110,101,108]),(.w [112,114,111,102,105,108,101]),(.w [117,110,105,118,101,114,115,101]),(.w [97,100,100,114,101,115,115]),(.w [112,104,97,115,101]),(.w [99,97,98,108,101])]),.f 14 31 13,.s 15 (.bslice 59 1 [.t 14]),.m 5 15] (.join [5] (.g [.d 16 9 1,.s 17 (.f 38 [.t 16,(.c (.fn (.func 39) [] []))]),.u 18 17,.c 19 0] (.block 0 (.loop [5,17,18,19] [(5,(59,1))] B9_0))) (.g [.m 44 5,.m 2 44,.c 3 0] (.ret [2,3])))))))⟩:=by kernel_rfl
theorem F38:compF Tryz.prog 38=some ⟨13,[.tmp 4],(.g [.q 2 31 0,.q 3 82 1,.s 4 (.mv (.c .nils))] (.z [2,3] (.g [.a 6 3 2,.l 7 6,.f 8 79 7,.m 5 8] (.g [.m 9 5,.s 10 (.mkfn (.func 81) [] [.t 3]),.g' 11 80 9 10] (.g [.m 12 5,.m 4 12] (.ret [4]))))))⟩:=by kernel_rfl
theorem F40:compF Tryz.prog 40=some ⟨17,[.tmp 2],(.g [.q 1 81 0,.s 2 (.mv (.w []))] (.z [1] (.join [1] (.g [.a 3 1 1,.l 4 3,.v 5 .eql 4 1] (.i 5 (.g [.a 6 0 1,.l 7 6,.f 8 33 7,.m 2 8] (.ret [2])) .skip)) (.q (.dreg 9 [.a 9 0 1,.l 10 9,.f 11 33 10,.s 12 (.bin .add (.t 11) (.w [46])),.a 13 1 1,.l 14 13,.f 15 33 14,.b 16 .add 12 15,.m 2 16]) (.ret [2])))))⟩:=by kernel_rfl
theorem F39:compF Tryz.prog 39=some ⟨8,[.tmp 2,.tmp 3],(.g [.q 1 81 0,.c 2 0,.c 3 0] (.z [1] (.q (.dreg 6 [.a 4 0 1,.l 5 4,.a 6 1 1,.l 7 6,.m 2 5,.m 3 7]) (.ret [2,3]))))⟩:=by kernel_rfl
theorem F79:compF Tryz.prog 79=some ⟨8,[.tmp 2],(.g [.s 2 (.mv (.c .nils))] (.join [0] (.g [.m 3 0,.s 4 (.nilk false (.t 3))] (.i 4 (.g [.s 2 (.mv (.c .nils))] (.ret [2])) .skip)) (.g [.s 5 (.bslice 81 7 []),.m 6 0,.s 7 (.append 81 7 72 (.t 5) (.t 6)),.m 2 7] (.ret [2]))))⟩:=by kernel_rfl
theorem F80:compF Tryz.prog 80=some ⟨9,[],(.reg [.m 4 0,.m 5 0,.u 6 5,.m 7 1,.s 8 (.f 155 [.t 4,.t 6,.t 7])])⟩:=by kernel_rfl
theorem F81:compF Tryz.prog 81=some ⟨30,[.tmp 5],(.g [.q 3 81 0,.q 4 81 1,.c 5 0] (.z [3,4] (.g [.l 11 2,.d 12 7 3,.s 13 (.call (.t 11) [.t 12]),.m 10 13,.j 14 0 10,.j 15 1 10,.m 6 14,.m 7 15] (.g [.l 17 2,.d 18 7 4,.s 19 (.call (.t 17) [.t 18]),.m 16 19,.j 20 0 16,.j 21 1 16,.m 8 20,.m 9 21] (.g [.m 22 6,.m 23 8,.g' 24 83 22 23,.m 25 7,.m 26 9,.g' 27 83 25 26,.s 28 (.bslice 3 1 [.t 24,.t 27]),.f 29 82 28,.m 5 29] (.ret [5]))))))⟩:=by kernel_rfl
def B82_0:Cd:=(.g [.b 9 .lss 8 7] (.join [3,6,7,8] (.i 9 .skip (.exit [3] 0)) (.join [3,6,7,8] (.block 1 (.g [.r 10 1 6 8,.l 11 10,.m 5 11] (.g [.m 12 5,.m 13 3,.b 14 .neq 12 13] (.i 14 (.g [.m 15 5,.m 2 15] (.ret [2])) .skip)))) (.reg [.v 16 .add 8 1,.m 8 16]))))
theorem F82:compF Tryz.prog 82=some ⟨18,[.tmp 2],(.g [.c 2 0] (.g [.c 3 0] (.join [3] (.g [.m 6 0,.u 7 6,.c 8 0] (.block 0 (.loop [3,6,7,8] [] B82_0))) (.g [.m 17 3,.m 2 17] (.ret [2])))))⟩:=by kernel_rfl
theorem F83:compF Tryz.prog 83=some ⟨20,[.tmp 4],(.g [.c 4 0] (.g [.m 7 0,.f 8 156 7,.m 5 8] (.g [.m 9 1,.f 10 156 9,.m 6 10] (.join [0,1,6] (.g [.m 11 5] (.i 11 (.join [] (.g [.m 12 6] (.i 12 (.g [.c 4 0] (.ret [4])) .skip)) (.g [.c 4 (-1)] (.ret [4]))) .skip)) (.join [0,1] (.g [.m 13 6] (.i 13 (.g [.c 4 1] (.ret [4])) .skip)) (.join [0,1] (.g [.m 14 0,.m 15 1,.b 16 .lss 14 15] (.i 16 (.g [.c 4 (-1)] (.ret [4])) .skip)) (.join [] (.g [.m 17 0,.m 18 1,.b 19 .gtr 17 18] (.i 19 (.g [.c 4 1] (.ret [4])) .skip)) (.g [.c 4 0] (.ret [4])))))))))⟩:=by kernel_rfl
def B155_0:Cd:=(.join [0,1,2,6,7,8] (.g [.m 11 8,.m 12 1,.b 13 .leq 11 12] (.i 13 .skip (.exit [0,1,2,6,7] 0))) (.block 1 (.g [.m 14 0,.m 15 7,.m 16 8,.m 17 2,.s 18 (.f 215 [.t 14,.t 15,.t 16,.t 17])] (.g [.m 19 8,.m 7 19] (.reg [.m 20 8,.m 21 6,.b 22 .add 20 21,.m 8 22])))))
def B155_1:Cd:=(.join [0,1,2,6,7,8] (.g [.m 33 8,.m 34 1,.b 35 .leq 33 34] (.i 35 .skip (.exit [0,1,2,6,7] 4))) (.block 5 (.g [.m 36 0,.m 37 7,.m 38 7,.m 39 6,.b 40 .add 38 39,.m 41 8,.m 42 2,.s 43 (.f 216 [.t 36,.t 37,.t 40,.t 41,.t 42])] (.g [.m 44 8,.m 7 44] (.reg [.m 45 8,.m 46 6,.s 47 (.bin .mul (.i 2) (.t 46)),.b 48 .add 45 47,.m 8 48])))))
def B155_2:Cd:=(.join [0,1,2,6] (.g [.m 28 6,.m 29 1,.b 30 .lss 28 29] (.i 30 .skip (.exit [] 2))) (.block 3 (.g [.m 31 6,.s 32 (.bin .mul (.i 2) (.t 31)),.c 7 0,.m 8 32] (.join [0,1,2,6,7] (.block 4 (.loop [0,1,2,6,7,8] [] B155_1)) (.join [0,1,2,6] (.g [.m 49 7,.m 50 6,.b 51 .add 49 50,.m 9 51] (.g [.m 52 9,.m 53 1,.b 54 .lss 52 53] (.i 54 (.reg [.m 55 0,.m 56 7,.m 57 9,.m 58 1,.m 59 2,.s 60 (.f 216 [.t 55,.t 56,.t 57,.t 58,.t 59])]) .skip))) (.reg [.m 61 6,.v 62 .mul 61 2,.m 6 62]))))))
theorem F155:compF Tryz.prog 155=some ⟨63,[],(.g [.c 6 20] (.g [.m 10 6,.c 7 0,.m 8 10] (.join [0,1,2,6,7] (.block 0 (.loop [0,1,2,6,7,8] [] B155_0)) (.g [.m 23 0,.m 24 7,.m 25 1,.m 26 2,.s 27 (.f 215 [.t 23,.t 24,.t 25,.t 26])] (.block 2 (.loop [0,1,2,6] [] B155_2))))))⟩:=by kernel_rfl
def B215_0:Cd:=(.join [0,1,2,3,8,9] (.join [0,1,2,3,8,9,34] (.dreg 17 [.m 18 9,.m 19 1,.b 20 .gtr 18 19,.m 21 20,.my 22 3 21,.my 23 0 21,.my 24 9 21,.ry 25 7 23 24 21,.y 26 (.load (some 7) (.t 25)) 21,.my 27 0 21,.my 28 9 21,.vy 29 .sub 28 1 21,.ry 30 7 27 29 21,.y 31 (.load (some 7) (.t 30)) 21,.y 32 (.call (.t 22) [.t 26,.t 31]) 21,.vy 33 .lss 32 0 21,.e 34 21 33]) (.i 34 .skip (.exit [0,1,2,3,8] 2))) (.join [0,1,2,3,8,9] (.block 3 (.greg [[],[],[],[],[],[],[],[],[],[],[],[],[],[],[],[false,false,false,false,false,false,false,false,false,false,true,true,true,false,false],[],[false,false,false,false,false,false,false,false,false,false,false,false,false,false,false,false,false]] [.m 37 0,.m 38 9,.m 39 0,.m 40 9,.v 41 .sub 40 1,.m 42 0,.m 43 9,.v 44 .sub 43 1,.r 45 7 42 44,.d 46 7 45,.m 47 0,.m 48 9,.r 49 7 47 48,.d 50 7 49,.r 51 7 37 38,.w 7 51 46,.r 52 7 39 41,.w 7 52 50])) (.reg [.m 35 9,.v 36 .sub 35 1,.m 9 36])))
def B215_1:Cd:=(.join [0,1,2,3,8] (.g [.m 12 8,.m 13 2,.b 14 .lss 12 13] (.i 14 .skip (.exit [] 0))) (.join [0,1,2,3,8] (.block 1 (.g [.m 17 8,.m 9 17] (.block 2 (.loop [0,1,2,3,8,9] [] B215_0)))) (.reg [.m 15 8,.v 16 .add 15 1,.m 8 16])))
theorem F215:compF Tryz.prog 215=some ⟨53,[],(.g [.m 10 1,.v 11 .add 10 1,.m 8 11] (.block 0 (.loop [0,1,2,3,8] [] B215_1)))⟩:=by kernel_rfl
theorem F156:compF Tryz.prog 156=some ⟨6,[.tmp 2],(.g [.k 2 false] (.g [.m 3 0,.m 4 0,.b 5 .neq 3 4,.m 2 5] (.ret [2])))⟩:=by kernel_rfl
end Go.Proofs.YtdkokbhcjmapdaaGreatDoor

namespace Go.Proofs.YtdkokbhcjmapdaaGreatDoor
open Go.Sha
set_option maxRecDepth 100000
variable {g:List (Nat×Obj)}{n:Nat}
def memC:List Nat:=[37,33]
noncomputable def HC:EvF:=⟨HH.raw,fun f args st=>bif Nat.beq f 79 then hClone 81 7 72 args st else bif memL f memC then run Tryz.prog HH f args st else none⟩
@[push_cast]theorem HC_raw:HC.raw=[126,80,155,215,216,292,348]:=idq rfl
theorem HC_ok (h1:ESound Tryz.prog HH):ESound Tryz.prog HC:=fun f args st r s h=>by
 simp only[HC]at h
 by_cases hf:f=79
 ·subst hf
  simp only[show Nat.beq 79 79=true from rfl,cond_true]at h
  exact clone_ok F79 h
 rw[show Nat.beq f 79=false from Bool.eq_false_iff.2 fun e=>hf (Nat.eq_of_beq_eq_true e),cond_false]at h
 cases hi:memL f memC with
 |false=>rw[hi]at h;cases h
 |true=>rw[hi]at h;exact run_sound mixed h1 _ _ _ _ _ h
theorem upC {k:Nat}{args:List V}{st:St}{r:VRes×St}(h:run Tryz.prog HH k args st=some r)(h1:Nat.beq k 79=false:=by rfl)(h2:memL k memC=true:=by rfl):run Tryz.prog HC k args st=some r:=by
 refine run_H ?_
 simp only[HC,h1,h2,cond_false,cond_true,h]
def cmpI (a b:Int):Int:=if a<b then -1 else if b<a then 1 else 0
def cmpK (key:Fixt→Int×Int)(x y:Fixt):Int:=if cmpI (key x).1 (key y).1=0 then cmpI (key x).2 (key y).2 else cmpI (key x).1 (key y).1
def ltK (key:Fixt→Int×Int)(x y:Fixt):Prop:=(key x).1<(key y).1∨(key x).1=(key y).1∧(key x).2<(key y).2
instance {key:Fixt→Int×Int}{x y:Fixt}:Decidable (ltK key x y):=by unfold ltK;exact inferInstance
theorem cmp_lt {key:Fixt→Int×Int}{x y:Fixt}:(cmpK key x y<0)=ltK key x y:=by
 unfold cmpK cmpI ltK
 rw[eq_iff_iff]
 split<;>(repeat' split)<;>omega
theorem f156 {a:Int}{st:St}:run Tryz.prog HC 156 [.int .i64 a] st=some (.ret (.bool false),st):=by
 rw[run_shut F156 rfl rfl (by simp)]
 push_cast
 all_goals first|with_reducible rfl|exact dn_eq (by omega) (by with_reducible rfl)|((repeat' split)<;>(try simp_all)<;>(try (with_reducible refine dn_eq ?_ ?_<;>first|trivial|omega|rfl))<;>(try omega))
theorem f83 {a b:Int}{st:St}:run Tryz.prog HC 83 [.int .i64 a,.int .i64 b] st=some (.ret (.int .i64 (cmpI a b)),st):=by
 rw[run_shut F83 rfl rfl (by simp)]
 push_cast[f156,cmpI]
 all_goals first|with_reducible rfl|exact dn_eq (by omega) (by with_reducible rfl)|((repeat' split)<;>(try simp_all)<;>(try (with_reducible refine dn_eq ?_ ?_<;>first|trivial|omega|rfl))<;>(try omega))
theorem f82 {a b:Int}{st:St}:run Tryz.prog HC 82 [.sl [.int .i64 a,.int .i64 b]] st=some (.ret (.int .i64 (if a=0 then b else a)),st):=by
 rw[run_shut F82 rfl rfl (by simp)]
 push_cast[runL_of B82_0.eq_1]
 all_goals first|with_reducible rfl|exact dn_eq (by omega) (by with_reducible rfl)|((repeat' split)<;>(try simp_all)<;>(try (with_reducible refine dn_eq ?_ ?_<;>first|trivial|omega|rfl))<;>(try omega))
def kAddr (x:Fixt):Int×Int:=(x.univ,x.addr)
def kChan (x:Fixt):Int×Int:=(x.chan,x.part)
theorem f39 {x:Fixt}{st:St}:run Tryz.prog HC 39 [x.v] st=some (.ret (.tup [.int .i64 (kChan x).1,.int .i64 (kChan x).2]),st):=by
 rw[run_shut F39 rfl rfl (by simp)]
 push_cast[Fixt.v,kChan]
 all_goals first|with_reducible rfl|exact dn_eq (by omega) (by with_reducible rfl)|((repeat' split)<;>(try simp_all)<;>(try (with_reducible refine dn_eq ?_ ?_<;>first|trivial|omega|rfl))<;>(try omega))
def KeyF (k:Nat)(key:Fixt→Int×Int):Prop:=∀x st,run Tryz.prog HC k [Fixt.v x] st=some (.ret (.tup [.int .i64 (key x).1,.int .i64 (key x).2]),st)
@[reducible] def keyV (k:Nat):V:=.ep (.agg [.fn (.func k) [] []]) 0
@[reducible] def cmpV (k:Nat):V:=.fn (.func 81) [] [keyV k]
theorem f81 {k:Nat}{key:Fixt→Int×Int}(hk:KeyF k key)(h0:memL k [126,80,155,215,216,292,348]=false){x y:Fixt}{st:St}:run Tryz.prog HC 81 [x.v,y.v,keyV k] st=some (.ret (.int .i64 (cmpK key x y)),st):=by
 have hk:=fun x st=>hk x st
 rw[run_shut F81 rfl rfl (by simp)]
 push_cast[Fixt.v]at hk
 push_cast[Fixt.v,hk,h0,f83,f82,cmpK]
def insW {α:Type}(lt:α→α→Prop)[∀x y,Decidable (lt x y)]:List α→α→List α→List α
 |[],x,s=>x::s
 |y::r,x,s=>if lt x y then insW lt r x (y::s) else r.reverse++y::x::s
def stK (g:List (Nat×Obj))(xs:List Fixt):St:=⟨3,[],[(2,⟨81,7,xs.map Fixt.v,true,false⟩)],⟨[],g,[]⟩⟩
@[push_cast]theorem stK_eq {xs:List Fixt}:stK g xs=⟨3,[],[(2,⟨81,7,xs.map Fixt.v,true,false⟩)],⟨[],g,[]⟩⟩:=idq rfl
theorem L215_0 {k:Nat}{key:Fixt→Int×Int}(hk:KeyF k key)(h0:memL k [126,80,155,215,216,292,348]=false){m i N:Nat}(hN:N<1000):∀(r:List Fixt) (x:Fixt) (s:List Fixt),r.length+1+s.length=N →
  runL Tryz.prog HC [0,1,2,3,8,9] 3 B215_0 [(0,.osl 2 N),(1,.int .i64 0),(2,.int .i64 m),(3,cmpV k),(8,.int .i64 i),(9,.int .i64 r.length)] (stK g (r.reverse++x::s))
   = some (.exit 2,[(0,.osl 2 N),(1,.int .i64 0),(2,.int .i64 m),(3,cmpV k),(8,.int .i64 i)],stK g (insW (ltK key) r x s)):=by
 have h123:=fun x y st=>f81 hk h0 (x:=x) (y:=y) (st:=st)
 intro r
 induction r with
 |nil =>
  intro x s hl
  rw[runL_of B215_0.eq_1]
  push_cast[List.length_nil,List.reverse_nil,List.nil_append,insW]
 |cons y r ih =>
  intro x s hl
  rw[List.length_cons]at hl
  have ih:=ih x (y::s) (by rw[List.length_cons];omega)
  have e1:((y::r).reverse++x::s).length=N:=by simp;omega
  have e2:∀d,((y::r).reverse++x::s).getD (r.length+1) d=x:=fun d=>by simp[List.getD_eq_getElem?_getD]
  have e3:∀d,((y::r).reverse++x::s).getD r.length d=y:=fun d=>by simp[List.getD_eq_getElem?_getD]
  have e4:(((y::r).reverse++x::s).map Fixt.v).getD (r.length+1) V.und=x.v:=by simp[List.getD_eq_getElem?_getD]
  have e5:(((y::r).reverse++x::s).map Fixt.v).getD r.length V.und=y.v:=by simp[List.getD_eq_getElem?_getD]
  have e6:((y::r).reverse++x::s)[r.length+1]?=some x:=by simp
  have e7:((((y::r).reverse++x::s).map Fixt.v).set (r.length+1) y.v)[r.length]?=some y.v:=by simp
  have e8:((((y::r).reverse++x::s).map Fixt.v).set (r.length+1) y.v).set r.length x.v=(r.reverse++x::y::s).map Fixt.v:=by simp
  have w1:IntKind.i64.wrap (((r.length:Nat):Int)+1-1)=r.length:=by rw[iwrap (by omega) (by omega)];omega
  have c1:(0:Int)<((r.length:Nat):Int)+1:=by omega
  have c2:((r.length:Nat):Int)+1<N:=by omega
  have c3:(r.length:Int)<N:=by omega
  have d2:r.length+1<N:=by omega
  have d3:r.length<N:=by omega
  rw[insW,List.length_cons]
  generalize hxs:(y::r).reverse++x::s=xs at *
  rw[runL_of B215_0.eq_1]
  push_cast[Fixt.v]at h123 ih
  simp only[Fixt.v]at e7 e8
  push_cast[e1,e2,e3,e4,e5,e6,e7,e8,w1,c1,c2,c3,d2,d3,Fixt.v,h123,stoB,V.cells,V.recell,cmp_lt]
  refine dn_eq (fun _=>by simp[e1]) ?_
  split
  ·exact ih
  ·simp[←hxs]
theorem insW_app {α:Type}{lt:α→α→Prop}[∀x y,Decidable (lt x y)]:∀{r:List α}{x:α}{s:List α},insW lt r x s=insW lt r x []++s
 |[],x,s=>rfl
 |y::r,x,s=>by
  rw[insW,insW]
  split
  ·rw[insW_app (s:=y::s),insW_app (s:=[y])];simp
  ·simp
theorem insW_len {α:Type}{lt:α→α→Prop}[∀x y,Decidable (lt x y)]:∀{r:List α}{x:α}{s:List α},(insW lt r x s).length=r.length+s.length+1
 |[],x,s=>by simp[insW]
 |y::r,x,s=>by
  rw[insW]
  split
  ·rw[insW_len];simp;omega
  ·simp;omega
def insS {α:Type}(lt:α→α→Prop)[∀x y,Decidable (lt x y)](out:List α)(x:α):List α:=insW lt out.reverse x []
def isort {α:Type}(lt:α→α→Prop)[∀x y,Decidable (lt x y)](l:List α):List α:=l.foldl (insS lt) []
theorem insS_len {α:Type}{lt:α→α→Prop}[∀x y,Decidable (lt x y)]{l:List α}{x:α}:(insS lt l x).length=l.length+1:=by
 rw[insS,insW_len];simp
theorem isort_len {α:Type}{lt:α→α→Prop}[∀x y,Decidable (lt x y)]{l:List α}:(isort lt l).length=l.length:=by
 suffices ∀o:List α,(l.foldl (insS lt) o).length=o.length+l.length by simpa [isort] using this []
 induction l with
 |nil=>intro o;rfl
 |cons x l ih=>intro o;rw[List.foldl_cons,ih,insS_len,List.length_cons];omega
theorem L215_1 {k:Nat}{key:Fixt→Int×Int}(hk:KeyF k key)(h0:memL k [126,80,155,215,216,292,348]=false){l:List Fixt}(hN:l.length<1000):∀(r:List Fixt) (j:Nat),l.drop j=r→∀out:List Fixt,out.length=j →
  runL Tryz.prog HC [0,1,2,3,8] 3 B215_1 [(0,.osl 2 l.length),(1,.int .i64 0),(2,.int .i64 l.length),(3,cmpV k),(8,.int .i64 j)] (stK g (out++r))
   = some (.exit 0,[],stK g (r.foldl (insS (ltK key)) out)):=by
 refine drop_ind (fun j h out ho=>?_) (fun q r j h hx hd ih out ho=>?_)
 all_goals rw[runL_of B215_1.eq_1]
 ·have h1:¬(j:Int)<l.length:=by omega
  push_cast[h1,List.foldl_nil,List.append_nil]
 ·have h1:(j:Int)<l.length:=by omega
  have hw:=iw1 (j:=j) (by omega)
  have hL:=L215_0 (g:=g) (m:=l.length) (i:=j) hk h0 hN out.reverse q r (by
   have:=congrArg List.length hd
   simp at this ⊢;omega)
  have ih:=ih (insS (ltK key) out q) (by rw[insS_len,ho])
  rw[insW_app,List.reverse_reverse,List.length_reverse,ho]at hL
  rw[List.foldl_cons]
  push_cast[insS]at ih hL
  push_cast[h1,hw,hL,insS]
  exact ih
theorem f215 {k:Nat}{key:Fixt→Int×Int}(hk:KeyF k key)(h0:memL k [126,80,155,215,216,292,348]=false){l:List Fixt}(hN:l.length<1000):run Tryz.prog HC 215 [.osl 2 l.length,.int .i64 0,.int .i64 l.length,cmpV k] (stK g l)=some (.ret (.tup []),stK g (isort (ltK key) l)):=by
 cases l with
 |nil =>
  rw[run_open F215 rfl rfl (by simp)]
  push_cast[runL_of B215_1.eq_1,isort,List.foldl_nil,List.length_nil]
 |cons x l =>
  have hL:=L215_1 (g:=g) hk h0 hN l 1 rfl [x] rfl
  have e:(x::l).foldl (insS (ltK key)) []=l.foldl (insS (ltK key)) [x]:=by simp[insS,insW]
  have hlen:(isort (ltK key) (x::l)).length=(x::l).length:=isort_len
  rw[isort,e]at hlen ⊢
  rw[List.singleton_append]at hL
  rw[run_open F215 rfl rfl (by simp)]
  generalize hxs:x::l=xs at *
  push_cast at hL
  push_cast[hL,hlen]
theorem f155 {k:Nat}{key:Fixt→Int×Int}(hk:KeyF k key)(h0:memL k [126,80,155,215,216,292,348]=false){l:List Fixt}(hN:l.length<20):run Tryz.prog HC 155 [.osl 2 l.length,.int .i64 l.length,cmpV k] (stK g l)=some (.ret (.tup []),stK g (isort (ltK key) l)):=by
 have h273:=f215 (g:=g) hk h0 (l:=l) (by omega)
 have hlen:(isort (ltK key) l).length=l.length:=isort_len
 have h1:¬(20:Int)≤l.length:=by omega
 have h2:¬(20:Int)<l.length:=by omega
 rw[run_open F155 rfl rfl (by simp)]
 push_cast at h273
 push_cast[runL_of B155_0.eq_1,runL_of B155_2.eq_1,h273,h1,h2,hlen]
theorem f80 {k:Nat}{key:Fixt→Int×Int}(hk:KeyF k key)(h0:memL k [126,80,155,215,216,292,348]=false){l:List Fixt}(hN:l.length<20):run Tryz.prog HC 80 [.osl 2 l.length,cmpV k] (stK g l)=some (.ret (.tup []),stK g (isort (ltK key) l)):=by
 have h197:=f155 (g:=g) hk h0 hN
 have hlen:(isort (ltK key) l).length=l.length:=isort_len
 rw[run_open F80 rfl rfl (by simp)]
 push_cast at h197
 push_cast[h197,hlen]
theorem f122n {k:Nat}{st:St}:run Tryz.prog HC 80 [.sl [],cmpV k] st=some (.ret (.tup []),st):=by
 have h197:∀st:St,run Tryz.prog HC 155 [.sl [],.int .i64 0,cmpV k] st=some (.ret (.tup []),st):=fun st=>by
  have h273:∀st:St,run Tryz.prog HC 215 [.sl [],.int .i64 0,.int .i64 0,cmpV k] st=some (.ret (.tup []),st):=fun st=>by
   rw[run_shut F215 rfl rfl (by simp)]
   push_cast[runL_of B215_1.eq_1]
  rw[run_shut F155 rfl rfl (by simp)]
  push_cast[runL_of B155_0.eq_1,runL_of B155_2.eq_1,h273]
 rw[run_shut F80 rfl rfl (by simp)]
 push_cast[h197]
theorem f38 {s:Sho}{k:Nat}{key:Fixt→Int×Int}(hk:KeyF k key)(h0:memL k [126,80,155,215,216,292,348]=false)(hN:s.fixts.length<20){st:St}:run Tryz.prog HC 38 [s.v,.fn (.func k) [] []] st=some (.ret (.sl ((isort (ltK key) s.fixts).map Fixt.v)),st):=by
 have hlen:(isort (ltK key) s.fixts).length=s.fixts.length:=isort_len
 rw[run_shut F38 rfl rfl (by simp[V.bdL,V.bd])]
 cases he:s.fixts with
 |nil =>
  have h1:∀st:St,run Tryz.prog HC 79 [.sl []] st=some (.ret (.sl []),st):=fun st=>run_H rfl
  push_cast[Sho.v,he,List.map_nil,h1,f122n,isort,List.foldl_nil]
 |cons x r =>
  rw[←he]
  have h1:run Tryz.prog HC 79 [.sl (s.fixts.map Fixt.v)] ⟨2,[],[],⟨[],st.x.gl,[]⟩⟩=some (.ret (.osl 2 s.fixts.length),stK st.x.gl s.fixts):=run_H (by
   have c1:((x::r).map Fixt.v).all fastA=true:=by rw[List.all_map,List.all_eq_true];exact fun y _=>rfl
   have c2:((x::r).map Fixt.v).all (fun y=>y.cells.length == 7)=true:=by rw[List.all_map,List.all_eq_true];exact fun y _=>rfl
   have c3:roomV ((x::r).map Fixt.v).length 72=true:=roomV_lit (by rw[List.length_map,←he];omega) (by rw[List.length_map,←he];omega)
   show hClone 81 7 72 [.sl (s.fixts.map Fixt.v)] _=_
   rw[he,List.map_cons]
   rw[List.map_cons]at c1 c2 c3
   rw[hClone,if_pos ⟨c1,c2,c3⟩,stK,List.map_cons];simp)
  have h2:=f80 (g:=st.x.gl) hk h0 hN
  push_cast at h1 h2
  push_cast[Sho.v,h1,h2,hlen]
end Go.Proofs.YtdkokbhcjmapdaaGreatDoor

namespace Go.Proofs.YtdkokbhcjmapdaaGreatDoor
open Go.Sha
set_option maxRecDepth 100000
variable {g:List (Nat×Obj)}{n:Nat}
theorem f58C {m:Int}(h0:-9223372036854775808≤m)(h1:m≤9223372036854775807){st:St}(hG:glB st.x.gl=true):run Tryz.prog HC 33 [.int .i64 m] st=some (.ret (.str (Lib.itoa m)),st):=upC (f33 h0 h1 hG)
theorem h66C {l:List V}(hb:V.bdL 0 l=true){st:St}:run Tryz.prog HC 31 [.sl l] st=some (.ret (.sl l),st):=by
 rw[run_shut F31 rfl rfl (by simpa [V.bdL,V.bd] using hb)]
 push_cast[hb]
def unitT (x:Fixt):List UInt8:=if x.part=1 then Lib.itoa x.chan else Lib.itoa x.chan++46::Lib.itoa x.part
theorem f40 {x:Fixt}(hx:rngC x=0){st:St}(hG:glB st.x.gl=true):run Tryz.prog HC 40 [x.v] st=some (.ret (.str (unitT x)),st):=by
 obtain⟨r1,r2,r3,r4,_⟩:=rng_ok hx
 have e1:=fun nx mem arr obj ty=>f58C (m:=x.chan) (st:=⟨nx,mem,arr,⟨obj,st.x.gl,ty⟩⟩) (by omega) (by omega) hG
 have e2:=fun nx mem arr obj ty=>f58C (m:=x.part) (st:=⟨nx,mem,arr,⟨obj,st.x.gl,ty⟩⟩) (by omega) (by omega) hG
 have l1:=Lib.itoa_length_le x.chan (by omega) (by omega)
 have l2:=Lib.itoa_length_le x.part (by omega) (by omega)
 rw[run_shut F40 rfl rfl (by simp)]
 by_cases h:x.part=1
 ·push_cast[Fixt.v,e1,h,unitT]
 ·push_cast[Fixt.v,e1,e2,h,unitT]
  exact dn_eq (by omega) rfl
def szE (l:List Prof):List (V×V):=l.map fun p=>(.str p.name,.int .i64 p.foot)
theorem find_szE {s:List UInt8}:∀{l:List Prof}{i:Nat},(pfx l s=none→findV (.str s) (szE l) i=some none)∧∀p,pfx l s=some p→∃j,findV (.str s) (szE l) i=some (some (j,.int .i64 p.foot))
 |[],i=>⟨fun _=>rfl,fun p h=>by simp[pfx]at h⟩
 |q::r,i=>by
  obtain⟨i1,i2⟩:=find_szE (s:=s) (l:=r) (i:=i+1)
  simp only[szE,List.map_cons,findV,sameV,pfx]at i1 i2 ⊢
  by_cases h:s=q.name
  ·refine⟨fun e=>by simp[h]at e,fun p e=>?_⟩
   simp[h]at e;subst e
   exact⟨i,by simp[h]⟩
  ·have h':¬q.name=s:=fun e=>h e.symm
   rw[show(s == q.name)=false by simp[h]]
   simp only[List.find?_cons,show(q.name == s)=false by simp[h']]
   exact⟨i1,i2⟩
theorem look_sz {st:St}{s:List UInt8}{l:List Prof}:lookB st (.int .i64 0) false (findV (.str s) (szE l) 0)=some (.int .i64 (((pfx l s).map Prof.foot).getD 0),st):=by
 cases h:pfx l s with
 |none=>rw[find_szE.1 h];rfl
 |some p=>obtain⟨j,hj⟩:=(find_szE (i:=0)).2 p h;rw[hj];rfl
theorem insW_perm {α:Type}{lt:α→α→Prop}[∀x y,Decidable (lt x y)]:∀{r:List α}{x:α}{s:List α},(insW lt r x s).Perm (x::(r.reverse++s))
 |[],x,s=>.refl _
 |y::r,x,s=>by
  rw[insW]
  split
  ·refine insW_perm.trans (.cons _ ?_);simp
  ·have:=List.perm_middle (l₁:=r.reverse++[y]) (a:=x) (l₂:=s)
   simpa using this
theorem insS_perm {α:Type}{lt:α→α→Prop}[∀x y,Decidable (lt x y)]{l:List α}{x:α}:(insS lt l x).Perm (x::l):=by
 have:=insW_perm (lt:=lt) (r:=l.reverse) (x:=x) (s:=[])
 simpa [insS] using this
theorem isort_perm {α:Type}{lt:α→α→Prop}[∀x y,Decidable (lt x y)]{l:List α}:(isort lt l).Perm l:=by
 suffices ∀o:List α,(l.foldl (insS lt) o).Perm (o++l) by simpa [isort] using this []
 induction l with
 |nil=>intro o;simp
 |cons x l ih=>intro o;rw[List.foldl_cons];exact(ih _).trans ((insS_perm.append_right l).trans (by simpa using List.perm_middle.symm))
theorem f54C {s:Sho}(h:s.ok){st:St}:run Tryz.prog HC 37 [s.v] st=some (.ret (.int .i64 (shoC s)),st):=upC (f37 h)
def rowH (x:Fixt):Row:=[unitT x,x.prof,Lib.itoa x.univ,Lib.itoa x.addr,Lib.itoa x.phase,x.cable]
def hdH:Row:=[[99,104,97,110,110,101,108],[112,114,111,102,105,108,101],[117,110,105,118,101,114,115,101],[97,100,100,114,101,115,115],[112,104,97,115,101],[99,97,98,108,101]]
def stTH (g:List (Nat×Obj))(tab:List Row):St:=⟨3,[],[(2,⟨59,1,tab.map rowV,false,false⟩),(1,⟨9,1,[.str [99,104,97,110,110,101,108],.str [112,114,111,102,105,108,101],.str [117,110,105,118,101,114,115,101],.str [97,100,100,114,101,115,115],.str [112,104,97,115,101],.str [99,97,98,108,101]],false,false⟩)],⟨[],g,[]⟩⟩
@[push_cast]theorem stTH_eq {tab:List Row}:stTH g tab=⟨3,[],[(2,⟨59,1,tab.map rowV,false,false⟩),(1,⟨9,1,[.str [99,104,97,110,110,101,108],.str [112,114,111,102,105,108,101],.str [117,110,105,118,101,114,115,101],.str [97,100,100,114,101,115,115],.str [112,104,97,115,101],.str [99,97,98,108,101]],false,false⟩)],⟨[],g,[]⟩⟩:=idq rfl
theorem L9 {l:List Fixt}(hG:glB g=true)(hl:l.length<1000)(hA:∀x∈l,rngC x=0):∀r j,l.drop j=r→∀tab:List Row,tab.length≤j+1 →
  runL Tryz.prog HC [5,17,18,19] 3 B9_0 [(5,.osl 2 tab.length),(17,.sl (l.map Fixt.v)),(18,.int .i64 l.length),(19,.int .i64 j)] (stTH g tab)
   = some (.exit 0,[(5,.osl 2 (tab++r.map rowH).length)],stTH g (tab++r.map rowH)):=by
 refine drop_ind (fun j h tab hc=>?_) (fun q r j hj hx hd ih tab hc=>?_)
 all_goals rw[runL_of B9_0.eq_1]
 ·have h1:¬(j:Int)<l.length:=by omega
  push_cast[h1,List.map_nil,List.append_nil]
 ·have h1:(j:Int)<l.length:=by omega
  have hw:=iw1 (j:=j) (by omega)
  have hr:=hA q (mem_at hd)
  obtain⟨r1,r2,r3,r4,r5,r6,r7,r8,r9,r10⟩:=rng_ok hr
  have e1:=fun nx mem arr obj ty=>f58C (m:=q.univ) (st:=⟨nx,mem,arr,⟨obj,g,ty⟩⟩) (by omega) (by omega) hG
  have e2:=fun nx mem arr obj ty=>f58C (m:=q.addr) (st:=⟨nx,mem,arr,⟨obj,g,ty⟩⟩) (by omega) (by omega) hG
  have e3:=fun nx mem arr obj ty=>f58C (m:=q.phase) (st:=⟨nx,mem,arr,⟨obj,g,ty⟩⟩) (by omega) (by omega) hG
  have e4:=fun nx mem arr obj ty=>f40 (x:=q) (st:=⟨nx,mem,arr,⟨obj,g,ty⟩⟩) hr hG
  have e5:=fun(st:St)=>h66C (l:=(rowH q).map .str) (st:=st) (by simp[rowH,V.bdL,V.bd])
  have hro:roomV (tab.length+1) 24=true:=roomV_lit (by omega) (by omega)
  have ih:=ih (tab++[rowH q]) (by simp;omega)
  rw[List.map_cons]
  generalize hR:rowH q=R at *
  rw[rowH]at hR
  subst hR
  simp only[List.map_cons,List.map_nil]at e5
  push_cast[Fixt.v,List.map_nil,List.length_nil]at ih e4
  push_cast[h1,hw,hx,e1,e2,e3,e4,e5,hro,Fixt.v,List.map_nil,List.length_nil,List.map_append,List.map_cons,List.append_assoc,List.singleton_append,rowV]at ih ⊢
  first|exact ih|exact dn_eq (by omega) ih
def hupT (s:Sho):List Row:=if shoC s=0 then hdH::(isort (ltK kChan) s.fixts).map rowH else[]
theorem f9 {s:Sho}(h:s.ok)(hF:shoC s=0→s.fixts.length<20){st:St}(hG:glB st.x.gl=true):run Tryz.prog HC 9 [s.v] st=some (.ret (.tup [.sl ((hupT s).map rowV),.int .i64 (shoC s)]),st):=by
 have h1:=fun st=>f54C (st:=st) h
 rw[run_shut F9 rfl rfl (by simp)]
 by_cases hs:shoC s=0
 ·have hp:=isort_perm (lt:=ltK kChan) (l:=s.fixts)
  have hlen:(isort (ltK kChan) s.fixts).length=s.fixts.length:=isort_len
  have hF:=hF hs
  have hL1:=L9 (g:=st.x.gl) hG (l:=isort (ltK kChan) s.fixts) (by omega) (fun x hx=>(aloC_ok ((fix_ok (shoC_parts hs).2.2.2.1).2.2.2 x (hp.mem_iff.1 hx))).1) _ 0 rfl [hdH] (Nat.le_refl _)
  have h56:=fun st=>f38 (s:=s) (k:=39) (key:=kChan) (fun x st=>f39) rfl hF (st:=st)
  have e4:=fun(st:St)=>h66C (l:=hdH.map .str) (st:=st) rfl
  rw[List.drop_zero]at hL1
  simp only[hdH,List.map_cons,List.map_nil]at e4
  rw[hdH]at hL1
  rw[hupT,if_pos hs]
  generalize isort (ltK kChan) s.fixts=so at *
  push_cast[Sho.v,rowV,List.map_cons,List.map_nil,List.length_cons,List.length_nil,List.singleton_append]at hL1 h1 h56
  push_cast[Sho.v,hL1,h1,hs,h56,hupT,e4,hdH,rowV,List.map_cons,List.map_nil,List.length_cons,List.length_nil,List.singleton_append]
 ·push_cast[Sho.v]at h1
  push_cast[Sho.v,h1,hs,hupT]
end Go.Proofs.YtdkokbhcjmapdaaGreatDoor

namespace Go.Proofs.YtdkokbhcjmapdaaGreatDoor
open Go.Sha
set_option maxRecDepth 100000
variable {g:List (Nat×Obj)}{n:Nat}
def numOk (n:Nat):Bool:=decide (Lib.itoa n≠[])&&(Lib.itoa n).all isD&&decide ((Lib.itoa n).length≤18)&&decide (natOf (Lib.itoa n)=n)
theorem numOk_all:(List.range 2100).all numOk=true:=by decide +kernel
theorem numOk_at {m:Int}(h0:0≤m)(h:m<2100):Lib.itoa m≠[]∧(Lib.itoa m).all isD=true∧(Lib.itoa m).length≤18∧(natOf (Lib.itoa m):Int)=m:=by
 have:=List.all_eq_true.1 numOk_all m.toNat (List.mem_range.2 (by omega))
 simp only[numOk,Bool.and_eq_true,decide_eq_true_eq,Int.toNat_of_nonneg h0]at this
 exact⟨this.1.1.1,this.1.1.2,this.1.2,by omega⟩
section
variable {α:Type}{lt:α→α→Prop} [∀x y,Decidable (lt x y)]
theorem insW_sorted (ht:∀x y z,¬lt y x→¬lt z y→¬lt z x)(ha:∀x y,lt x y→¬lt y x):∀{r:List α}{x:α}{s:List α},(r.reverse++s).Pairwise (fun x y=>¬lt y x)→(∀z∈s,lt x z)→(insW lt r x s).Pairwise (fun x y=>¬lt y x)
 |[],x,s,h,hs=>List.pairwise_cons.2 ⟨fun z hz=>ha _ _ (hs z hz),by simpa using h⟩
 |y::r,x,s,h,hs=>by
  rw[insW]
  split
  ·rename_i hl
   refine insW_sorted ht ha (by simpa using h) fun z hz=>?_
   rcases List.mem_cons.1 hz with rfl|hz
   ·exact hl
   ·exact hs z hz
  ·rename_i hl
   rw[List.reverse_cons,List.append_assoc]at h
   obtain⟨h1,h2,h3⟩:=List.pairwise_append.1 h
   rw[List.singleton_append,List.pairwise_cons]at h2
   refine List.pairwise_append.2 ⟨h1,List.pairwise_cons.2 ⟨fun z hz=>?_,List.pairwise_cons.2 ⟨fun z hz=>ha _ _ (hs z hz),h2.2⟩⟩,fun a hm b hb=>?_⟩
   ·rcases List.mem_cons.1 hz with rfl|hz
    ·exact hl
    ·exact h2.1 z hz
   ·have hy:=h3 a hm y (by simp)
    rcases List.mem_cons.1 hb with rfl|hb
    ·exact hy
    ·rcases List.mem_cons.1 hb with rfl|hb
     ·exact ht _ _ _ hy hl
     ·exact h3 a hm b (by simp[hb])
theorem isort_sorted (ht:∀x y z,¬lt y x→¬lt z y→¬lt z x)(ha:∀x y,lt x y→¬lt y x){l:List α}:(isort lt l).Pairwise (fun x y=>¬lt y x):=by
 suffices ∀o:List α,o.Pairwise (fun x y=>¬lt y x)→(l.foldl (insS lt) o).Pairwise (fun x y=>¬lt y x) from this [] List.Pairwise.nil
 induction l with
 |nil=>intro o h;exact h
 |cons x l ih=>intro o h;rw[List.foldl_cons];exact ih _ (insW_sorted ht ha (by simpa using h) (by simp))
end
theorem ltK_trans {key:Fixt→Int×Int}(x y z:Fixt):¬ltK key y x→¬ltK key z y→¬ltK key z x:=by unfold ltK;omega
theorem ltK_asym {key:Fixt→Int×Int}(x y:Fixt):ltK key x y→¬ltK key y x:=by unfold ltK;omega
def Disj (ps:List Prof)(x y:Fixt):Prop:=x.univ=y.univ→x.addr+footS ps x≤y.addr∨y.addr+footS ps y≤x.addr
theorem Disj.symm {ps:List Prof}{x y:Fixt}(h:Disj ps x y):Disj ps y x:=fun e=>(h e.symm).symm
end Go.Proofs.YtdkokbhcjmapdaaGreatDoor

namespace Go.Proofs.YtdkokbhcjmapdaaGreatDoor
open Go.Sha
set_option maxRecDepth 100000
variable {g:List (Nat×Obj)}{n:Nat}
def trB (c:UInt8)(s:List UInt8):List UInt8:=(s.reverse.dropWhile (· == c)).reverse
theorem trB_c {c b:UInt8}{r:List UInt8}:trB c (b::r).reverse=if b=c then trB c r.reverse else(b::r).reverse:=by
 simp only[trB,List.reverse_reverse,List.dropWhile_cons]
 by_cases h:b=c<;>simp[h]
theorem bC {b c:UInt8}:((b.toNat:Int)=c.toNat)=(b=c):=by
 rw[eq_iff_iff]
 exact⟨fun h=>UInt8.toNat_inj.1 (by simpa using Int.ofNat_inj.1 h),fun h=>by rw[h]⟩
theorem L98z {c:UInt8}:∀r:List UInt8,r.length<140737488355328→runL Tryz.prog HH [0,1] n B113_0 [(0,.str r.reverse),(1,.int .u8 c.toNat)] (stN g n)=some (.exit 0,[(0,.str (trB c r.reverse))],stN g n):=by
 intro r
 induction r with
 |nil =>
  intro _
  rw[runL_of B113_0.eq_1]
  push_cast[List.reverse_nil,trB,List.dropWhile_nil]
 |cons b r ih =>
  intro hl
  have ih:=ih (by simp at hl;omega)
  rw[runL_of B113_0.eq_1]
  have h1:(0:Int)<(b::r).reverse.length:=by simp
  have h2:IntKind.i64.wrap (((b::r).reverse.length:Int)-1)=(r.length:Nat):=by rw[List.length_reverse,List.length_cons,iwrap (by omega) (by simp at hl;omega)];omega
  have h3:(b::r).reverse.getD r.length 0=b:=by simp
  have h4:(b::r).reverse.take r.length=r.reverse:=by simp
  have h5:(r.length:Int)<(b::r).reverse.length:=by rw[List.length_reverse,List.length_cons];omega
  rw[trB_c]
  generalize (b::r).reverse=s at *
  push_cast at ih
  by_cases h:b=c
  ·subst h
   push_cast[h1,h2,h3,h4,h5,ih]
   exact dn_eq (by omega) rfl
  ·push_cast[h1,h2,h3,h4,h5,bC,h]
theorem f43z {s:List UInt8}(hl:s.length<140737488355328){c:UInt8}(hc:(c.toNat:Int)<128){st:St}:run Tryz.prog HH 63 [.str s,.str [c]] st=some (.ret (.str (trB c s)),st):=by
 have h:∀st:St,run Tryz.prog HH 113 [.str s,.int .u8 c.toNat] st=some (.ret (.str (trB c s)),st):=fun st=>by
  have hL:=fun n=>L98z (g:=st.x.gl) (n:=n) (c:=c) s.reverse (by simpa using hl)
  simp only[List.reverse_reverse]at hL
  rw[run_shut F113 rfl rfl (by simp)]
  push_cast at hL
  push_cast[hL]
 rw[run_shut F63 rfl rfl (by simp)]
 by_cases h0:s=[]
 ·subst h0
  push_cast[show trB c []=[] from rfl]
 ·push_cast[h,h0,hc,List.getD_cons_zero]
def secR (ms:Int):List UInt8:=trB 48 ((Lib.itoa (1000+ms % 1000)).drop 1)
def secT (ms:Int):List UInt8:=Lib.itoa (ms / 1000)++(if secR ms=[] then[] else 46::secR ms)
theorem trB_len {c:UInt8}{s:List UInt8}:(trB c s).length≤s.length:=by
 rw[trB,List.length_reverse]
 exact Nat.le_trans (List.dropWhile_sublist _).length_le (by rw[List.length_reverse];exact Nat.le_refl _)
theorem f139 {ms:Int}(h0:0≤ms)(h1:ms≤10000000){st:St}(hG:glB st.x.gl=true):run Tryz.prog HH 139 [.int .i64 ms] st=some (.ret (.str (secT ms)),st):=by
 have e1:=fun nx mem arr obj ty=>itoaH (m:=ms / 1000) (st:=⟨nx,mem,arr,⟨obj,st.x.gl,ty⟩⟩) (by omega) (by omega) hG
 have e2:=fun nx mem arr obj ty=>itoaH (m:=1000+ms % 1000) (st:=⟨nx,mem,arr,⟨obj,st.x.gl,ty⟩⟩) (by omega) (by omega) hG
 have l1:=Lib.itoa_length_le (ms / 1000) (by omega) (by omega)
 have l2:=Lib.itoa_length_le (1000+ms % 1000) (by omega) (by omega)
 have t1:ms.tdiv 1000=ms / 1000:=Int.tdiv_eq_ediv_of_nonneg h0
 have t2:ms.tmod 1000=ms % 1000:=Int.tmod_eq_emod_of_nonneg h0
 have w1:IntKind.i64.wrap (ms / 1000)=ms / 1000:=iwrap (by omega) (by omega)
 have w2:IntKind.i64.wrap (1000+ms % 1000)=1000+ms % 1000:=iwrap (by omega) (by omega)
 have w4:IntKind.i64.wrap (ms % 1000)=ms % 1000:=iwrap (by omega) (by omega)
 have e3:=fun(st:St)=>f43z (s:=(Lib.itoa (1000+ms % 1000)).drop 1) (c:=48) (st:=st) (by rw[List.length_drop];omega) (by decide)
 have hl3:(secR ms).length≤21:=by
  have:=trB_len (c:=48) (s:=(Lib.itoa (1000+ms % 1000)).drop 1)
  rw[List.length_drop]at this
  rw[secR];omega
 rw[←secR]at e3
 have n1:(1:Int)≤(Lib.itoa (1000+ms % 1000)).length:=by
  have:=List.length_pos_iff.2 (numOk_at (m:=1000+ms % 1000) (by omega) (by omega)).1
  omega
 have tk:(Lib.itoa (1000+ms % 1000)).take (Lib.itoa (1000+ms % 1000)).length=Lib.itoa (1000+ms % 1000):=List.take_length
 rw[run_shut F139 rfl rfl (by simp)]
 by_cases hr:secR ms=[]
 ·push_cast[e1,e2,e3,t1,t2,w1,w2,w4,hr,n1,tk,secT,List.append_nil]
 ·push_cast[e1,e2,e3,t1,t2,w1,w2,w4,hr,n1,tk,secT]
  exact dn_eq (by omega) rfl
theorem f32 {ms:Int}(h0:0≤ms)(h1:ms≤10000000){st:St}(hG:glB st.x.gl=true):run Tryz.prog HH 32 [.int .i64 ms] st=some (.ret (.str (secT ms)),st):=by
 have e1:=fun nx mem arr obj ty=>f139 (st:=⟨nx,mem,arr,⟨obj,st.x.gl,ty⟩⟩) h0 h1 hG
 have a1:¬ms<0:=by omega
 have a2:¬10000000<ms:=by omega
 have e2:∀nx mem arr obj ty,run Tryz.prog HH 72 [.int .i64 ms] ⟨nx,mem,arr,⟨obj,st.x.gl,ty⟩⟩=some (.ret (.tup [.str (secT ms),.int .i64 0]),⟨nx,mem,arr,⟨obj,st.x.gl,ty⟩⟩):=fun nx mem arr obj ty=>by
  have e0:∀st:St,run Tryz.prog HH 135 [.int .i64 ms,.int .i64 0,.int .i64 10000000] st=some (.ret (.int .i64 0),st):=fun st=>by
   rw[run_shut F135 rfl rfl (by simp)]
   push_cast[a1,a2]
  rw[run_shut F72 rfl rfl (by simp)]
  push_cast[e0,e1]
 rw[run_shut F32 rfl rfl (by simp)]
 push_cast[e2]
def flgT (c:Cu):List UInt8:=if c.block=true then if c.mark=true then[98,108,111,99,107,32,109,97,114,107] else[98,108,111,99,107] else if c.mark=true then[109,97,114,107] else[]
theorem f34 {c:Cu}{st:St}:run Tryz.prog HH 34 [c.v] st=some (.ret (.str (flgT c)),st):=by
 have j0:=fun(st:St)=>h100 (ss:=[]) (t:=[32]) (st:=st) (by decide) (by decide)
 have j1:=fun(st:St)=>h100 (ss:=[[98,108,111,99,107]]) (t:=[32]) (st:=st) (by decide) (by decide)
 have j2:=fun(st:St)=>h100 (ss:=[[109,97,114,107]]) (t:=[32]) (st:=st) (by decide) (by decide)
 have j3:=fun(st:St)=>h100 (ss:=[[98,108,111,99,107],[109,97,114,107]]) (t:=[32]) (st:=st) (by decide) (by decide)
 have k0:Lib.join [] [32]=[]:=rfl
 have k1:Lib.join [[98,108,111,99,107]] [32]=[98,108,111,99,107]:=rfl
 have k2:Lib.join [[109,97,114,107]] [32]=[109,97,114,107]:=rfl
 have k3:Lib.join [[98,108,111,99,107],[109,97,114,107]] [32]=[98,108,111,99,107,32,109,97,114,107]:=rfl
 rw[k0]at j0
 rw[k1]at j1
 rw[k2]at j2
 rw[k3]at j3
 simp only[List.map_cons,List.map_nil]at j0 j1 j2 j3
 rw[run_shut F34 rfl rfl (by simp)]
 cases hb:c.block<;>cases hm:c.mark<;>push_cast[Cu.v,hb,hm,j0,j1,j2,j3,flgT,show roomV 1 16=true from rfl,show roomV 2 16=true from rfl]
theorem cue_parts {x:Cu}(h:cueP x=0):numC x.num=0∧labC x.label=0∧movCP x.moves=0∧parC x=0∧nxtC x=0:=by
 unfold cueP at h
 repeat' split at h
 all_goals first|(rename_i a;exact absurd h a)|skip
 rename_i a1 a2 a3 a4
 exact⟨Classical.not_not.1 a1,Classical.not_not.1 a2,Classical.not_not.1 a3,Classical.not_not.1 a4,h⟩
theorem timL_all:∀{l:List Tim},timL l=0→∀q∈l,tim q.up∧tim q.down∧tim q.delay
 |[],_,q,hq=>by simp at hq
 |x::r,h,q,hq=>by
  rw[timL]at h
  split at h
  ·cases h
  ·rename_i a
   rcases List.mem_cons.1 hq with rfl|hq
   ·simp only[timB,not_or,Classical.not_not]at a
    exact⟨a.1,a.2.1,a.2.2.2.2.2⟩
   ·exact timL_all h q hq
structure CuR (x:Cu):Prop where
 num:numC x.num=0
 label:labC x.label=0
 moves:x.moves.length≤128
 part:∃t r,x.parts=t::r∧tim t.up∧tim t.down∧tim t.delay
 follow:x.follow=-1∨(25≤x.follow∧x.follow≤10000000)
 link:x.link=[]∨numC x.link=0
 loops:0≤x.loops∧x.loops≤100
theorem cueR_of {x:Cu}(h:cueP x=0):CuR x:=by
 obtain⟨h1,h2,h3,h4,h5⟩:=cue_parts h
 refine⟨h1,h2,?_,?_,?_,?_,?_⟩
 ·unfold movCP at h3;split at h3
  ·cases h3
  ·omega
 ·unfold parC at h4
  split at h4
  ·cases h4
  ·split at h4
   ·cases h4
   ·split at h4
    ·rename_i a1 a2 a3
     cases hp:x.parts with
     |nil=>rw[hp]at a1;exact absurd rfl a1
     |cons t r=>exact⟨t,r,rfl,timL_all a3 t (by rw[hp];simp)⟩
    ·rename_i a;exact absurd h4 a
 all_goals
  unfold nxtC at h5
  split at h5
  ·cases h5
  ·split at h5
   ·rename_i a;exact absurd h5 a.2
   ·split at h5
    ·cases h5
    ·rename_i a1 a2 a3
     first|omega|(by_cases hl:x.link=[];exact .inl hl;right;exact Classical.not_not.1 fun e=>a2 ⟨hl,e⟩)
def lnkT (c:Cu):List UInt8:=if 0<c.loops then c.link++([32,120,32]++Lib.itoa c.loops) else c.link
def folT (c:Cu):List UInt8:=if 0≤c.follow then secT c.follow else[]
def tim0 (c:Cu):Tim:=c.parts.getD 0 default
def rowC (c:Cu):Row:=[c.num,c.label,Lib.itoa c.moves.length,secT (tim0 c).up,secT (tim0 c).down,secT (tim0 c).delay,flgT c,folT c,lnkT c]
def hdC:Row:=[[99,117,101],[108,97,98,101,108],[109,111,118,101,115],[117,112],[100,111,119,110],[100,101,108,97,121],[102,108,97,103,115],[102,111,108,108,111,119],[108,105,110,107]]
def stTC (g:List (Nat×Obj))(tab:List Row):St:=⟨4,[],[(3,⟨59,1,tab.map rowV,false,false⟩),(2,⟨9,1,[.str [99,117,101],.str [108,97,98,101,108],.str [109,111,118,101,115],.str [117,112],.str [100,111,119,110],.str [100,101,108,97,121],.str [102,108,97,103,115],.str [102,111,108,108,111,119],.str [108,105,110,107]],false,false⟩)],⟨[],g,[]⟩⟩
@[push_cast]theorem stTC_eq {tab:List Row}:stTC g tab=⟨4,[],[(3,⟨59,1,tab.map rowV,false,false⟩),(2,⟨9,1,[.str [99,117,101],.str [108,97,98,101,108],.str [109,111,118,101,115],.str [117,112],.str [100,111,119,110],.str [100,101,108,97,121],.str [102,108,97,103,115],.str [102,111,108,108,111,119],.str [108,105,110,107]],false,false⟩)],⟨[],g,[]⟩⟩:=idq rfl
theorem L7 {l:List Cu}(hG:glB g=true)(hl:l.length<1000)(hA:∀x∈l,CuR x):∀r j,l.drop j=r→∀tab:List Row,tab.length≤j+1 →
  runL Tryz.prog HH [8,27,28,29] 4 B7_0 [(8,.osl 3 tab.length),(27,.sl (l.map Cu.v)),(28,.int .i64 l.length),(29,.int .i64 j)] (stTC g tab)
   = some (.exit 0,[(8,.osl 3 (tab++r.map rowC).length)],stTC g (tab++r.map rowC)):=by
 refine drop_ind (fun j h tab hc=>?_) (fun q r j hj hx hd ih tab hc=>?_)
 all_goals rw[runL_of B7_0.eq_1]
 ·have h1:¬(j:Int)<l.length:=by omega
  push_cast[h1,List.map_nil,List.append_nil]
 ·have h1:(j:Int)<l.length:=by omega
  have hw:=iw1 (j:=j) (by omega)
  have hq:=hA q (mem_at hd)
  obtain⟨t,tr,hp,t1,t2,t3⟩:=hq.part
  obtain⟨l1,l2⟩:=hq.loops
  have ht0:tim0 q=t:=by rw[tim0,hp];rfl
  have e1:=fun nx mem arr obj ty=>f33 (m:=(q.moves.length:Nat)) (st:=⟨nx,mem,arr,⟨obj,g,ty⟩⟩) (by omega) (by have:=hq.moves;omega) hG
  have e2:=fun nx mem arr obj ty=>f32 (ms:=t.up) (st:=⟨nx,mem,arr,⟨obj,g,ty⟩⟩) t1.1 t1.2 hG
  have e3:=fun nx mem arr obj ty=>f32 (ms:=t.down) (st:=⟨nx,mem,arr,⟨obj,g,ty⟩⟩) t2.1 t2.2 hG
  have e4:=fun nx mem arr obj ty=>f32 (ms:=t.delay) (st:=⟨nx,mem,arr,⟨obj,g,ty⟩⟩) t3.1 t3.2 hG
  have e5:=fun(st:St)=>h66 (l:=(rowC q).map .str) (st:=st) (by simp[rowC,V.bdL,V.bd])
  have e6:=fun nx mem arr obj ty=>f33 (m:=q.loops) (st:=⟨nx,mem,arr,⟨obj,g,ty⟩⟩) (by omega) (by omega) hG
  have e7:=fun(st:St)=>f34 (c:=q) (st:=st)
  have hl3:=Lib.itoa_length_le q.loops (by omega) (by omega)
  have hro:roomV (tab.length+1) 24=true:=roomV_lit (by omega) (by omega)
  have p0:∀d,q.parts.getD 0 d=t:=fun d=>by rw[hp];rfl
  have p1:(0:Int)<q.parts.length:=by rw[hp,List.length_cons];omega
  have ih:=ih (tab++[rowC q]) (by simp;omega)
  rw[List.map_cons]
  generalize hR:rowC q=R at *
  rw[rowC,ht0]at hR
  have hlk:(q.link.length:Int)≤1000000:=by
   rcases hq.link with h|h
   ·rw[h];simp
   ·have:=(num_chars h).1;omega
  by_cases hf:0≤q.follow
  ·have e8:=fun nx mem arr obj ty=>f32 (ms:=q.follow) (st:=⟨nx,mem,arr,⟨obj,g,ty⟩⟩) hf (by have:=hq.follow;omega) hG
   have ef:folT q=secT q.follow:=by rw[folT,if_pos hf]
   by_cases hl0:0<q.loops
   ·have el:lnkT q=q.link++([32,120,32]++Lib.itoa q.loops):=by rw[lnkT,if_pos hl0]
    rw[ef,el]at hR
    subst hR
    simp only[List.map_cons,List.map_nil]at e5
    clear ht0 ef el
    generalize rowC=rc at *
    generalize flgT q=fl at *
    push_cast at e5
    push_cast[Cu.v,Tim.v,List.map_nil,List.length_nil]at ih e7
    push_cast[h1,hw,hx,hf,hl0,p0,p1,e1,e2,e3,e4,e5,e6,e7,e8,hro,Cu.v,Tim.v,List.map_nil,List.length_nil,List.map_append,List.map_cons,List.append_assoc,List.singleton_append,rowV]at ih ⊢
    first|exact ih|exact dn_eq (by omega) ih
   ·have el:lnkT q=q.link:=by rw[lnkT,if_neg hl0]
    rw[ef,el]at hR
    subst hR
    simp only[List.map_cons,List.map_nil]at e5
    clear ht0 ef el
    generalize rowC=rc at *
    generalize flgT q=fl at *
    push_cast at e5
    push_cast[Cu.v,Tim.v,List.map_nil,List.length_nil]at ih e7
    push_cast[h1,hw,hx,hf,hl0,p0,p1,e1,e2,e3,e4,e5,e6,e7,e8,hro,Cu.v,Tim.v,List.map_nil,List.length_nil,List.map_append,List.map_cons,List.append_assoc,List.singleton_append,rowV]at ih ⊢
    first|exact ih|exact dn_eq (by omega) ih
  ·have ef:folT q=[]:=by rw[folT,if_neg hf]
   by_cases hl0:0<q.loops
   ·have el:lnkT q=q.link++([32,120,32]++Lib.itoa q.loops):=by rw[lnkT,if_pos hl0]
    rw[ef,el]at hR
    subst hR
    simp only[List.map_cons,List.map_nil]at e5
    clear ht0 ef el
    generalize rowC=rc at *
    generalize flgT q=fl at *
    push_cast at e5
    push_cast[Cu.v,Tim.v,List.map_nil,List.length_nil]at ih e7
    push_cast[h1,hw,hx,hf,hl0,p0,p1,e1,e2,e3,e4,e5,e6,e7,hro,Cu.v,Tim.v,List.map_nil,List.length_nil,List.map_append,List.map_cons,List.append_assoc,List.singleton_append,rowV]at ih ⊢
    first|exact ih|exact dn_eq (by omega) ih
   ·have el:lnkT q=q.link:=by rw[lnkT,if_neg hl0]
    rw[ef,el]at hR
    subst hR
    simp only[List.map_cons,List.map_nil]at e5
    clear ht0 ef el
    generalize rowC=rc at *
    generalize flgT q=fl at *
    push_cast at e5
    push_cast[Cu.v,Tim.v,List.map_nil,List.length_nil]at ih e7
    push_cast[h1,hw,hx,hf,hl0,p0,p1,e1,e2,e3,e4,e5,e6,e7,hro,Cu.v,Tim.v,List.map_nil,List.length_nil,List.map_append,List.map_cons,List.append_assoc,List.singleton_append,rowV]at ih ⊢
    first|exact ih|exact dn_eq (by omega) ih
theorem cuesP_R {l:List Cu}:∀{r:List Cu}{j:Nat},cuesP l r j=0→∀c∈r,CuR c
 |[],_,_,c,hc=>by simp at hc
 |q::r,j,h,c,hc=>by
  rw[cuesP]at h
  repeat' split at h
  all_goals first|(rename_i a;exact absurd h a)|cases h|skip
  rename_i a _
  rcases List.mem_cons.1 hc with rfl|hc
  ·exact cueR_of (Classical.not_not.1 a)
  ·exact cuesP_R h c hc
theorem lst_R {x:Lst}(h:lstP x=0):∀c∈x.cues,CuR c:=by
 unfold lstP lstB at h
 split at h
 ·cases h
 ·split at h
  ·cases h
  ·exact cuesP_R h
def cueT (x:Lst):List Row:=hdC::x.cues.map rowC
theorem f30 {s:Sho}{v:Int}{i:Nat}{x:Lst}(h:s.ok)(hs:shoC s=0)(hi:ix (fun x=>x.num == v) s.lsts 0=i)(hlt:i<s.lsts.length)(hx:∀d,s.lsts.getD i d=x){st:St}:run Tryz.prog HH 30 [s.v,.int .i64 v] st=some (.ret (.tup [x.v,.int .i64 0]),st):=by
 have h1:=fun(st:St)=>f71 (v:=v) (st:=st) h
 have hlt':(i:Int)<s.lsts.length:=by omega
 have e1:fndI' (shoC s) (ix (fun x=>x.num == v) s.lsts 0)=i:=by rw[fndI',if_neg (by simp[hs]),hi,if_neg (by omega)]
 have e2:fndE (shoC s) (ix (fun x=>x.num == v) s.lsts 0)=0:=by rw[fndE,if_neg (by simp[hs]),hi,if_neg (by omega)]
 rw[e1,e2]at h1
 rw[run_shut F30 rfl rfl (by simp)]
 push_cast[Sho.v,Lst.v]at h1
 push_cast[Sho.v,Lst.v,h1,hlt',hx]
theorem f7 {s:Sho}{v:Int}{i:Nat}{x:Lst}(h:s.ok)(hs:shoC s=0)(hi:ix (fun x=>x.num == v) s.lsts 0=i)(hlt:i<s.lsts.length)(hx:∀d,s.lsts.getD i d=x){st:St}(hG:glB st.x.gl=true):run Tryz.prog HH 7 [s.v,.int .i64 v] st=some (.ret (.tup [.sl ((cueT x).map rowV),.int .i64 0]),st):=by
 have h1:=fun(st:St)=>f30 (st:=st) h hs hi hlt hx
 have hm:x∈s.lsts:=by
  rw[←hx default,List.getD_eq_getElem?_getD,List.getElem?_eq_getElem hlt];simp
 have hp:=(sho_parts hs).2.1 x hm
 have hL1:=L7 (g:=st.x.gl) hG (l:=x.cues) (by have:=(lst_parts hp).2.2.1;omega) (lst_R hp) _ 0 rfl [hdC] (Nat.le_refl _)
 have e4:=fun(st:St)=>h66 (l:=hdC.map .str) (st:=st) rfl
 rw[List.drop_zero]at hL1
 simp only[hdC,List.map_cons,List.map_nil]at e4
 rw[hdC]at hL1
 rw[cueT]
 generalize x.cues.map rowC=so at *
 rw[run_shut F7 rfl rfl (by simp)]
 push_cast[Sho.v,Lst.v,rowV,List.map_cons,List.map_nil,List.length_cons,List.length_nil,List.singleton_append]at hL1 h1
 push_cast[Sho.v,Lst.v,hL1,h1,e4,hdC,rowV,List.map_cons,List.map_nil,List.length_cons,List.length_nil,List.singleton_append]
end Go.Proofs.YtdkokbhcjmapdaaGreatDoor

namespace Go.Proofs.YtdkokbhcjmapdaaGreatDoor
open Go.Sha
set_option maxRecDepth 10000
theorem F74:compF Tryz.prog 74=some ⟨15,[.tmp 4,.tmp 5],(.g [.q 2 31 0,.c 4 0,.c 5 0] (.z [2] (.join [1] (.g [.d 7 9 2,.f 8 41 7,.m 6 8] (.g [.m 9 6,.v 10 .neq 9 0] (.i 10 (.g [.m 11 6,.c 4 0,.m 5 11] (.ret [4,5])) .skip))) (.join [1] (.g [.m 12 1,.v 13 .lss 12 0] (.i 13 (.g [.c 4 0,.c 5 6] (.ret [4,5])) .skip)) (.g [.m 14 1,.m 4 14,.c 5 0] (.ret [4,5]))))))⟩:=by kernel_rfl
def B75_0:Cd:=(.join [1,2,5] (.g [.m 6 5,.a 7 6 2,.l 8 7,.u 9 8,.b 10 .lss 6 9] (.i 10 .skip (.exit [] 0))) (.join [1,2,5] (.block 1 (.g [.a 13 6 2,.l 14 13,.m 15 5,.r 16 3 14 15,.a 17 0 16,.l 18 17,.m 19 1,.b 20 .eql 18 19] (.i 20 (.g [.m 21 5,.m 4 21] (.ret [4])) .skip))) (.reg [.m 11 5,.v 12 .add 11 1,.m 5 12])))
theorem F75:compF Tryz.prog 75=some ⟨22,[.tmp 4],(.g [.q 2 31 0,.c 4 0] (.z [2] (.join [] (.g [.c 5 0] (.block 0 (.loop [1,2,5] [] B75_0))) (.g [.c 4 (-1)] (.ret [4])))))⟩:=by kernel_rfl
theorem F35:compF Tryz.prog 35=some ⟨13,[.tmp 4,.tmp 5],(.g [.q 2 31 0,.c 4 0,.c 5 0] (.z [2] (.q (.dreg 9 [.d 6 9 2,.d 7 9 2,.m 8 1,.g' 9 75 7 8,.g' 10 74 6 9,.j 11 0 10,.j 12 1 10,.m 4 11,.m 5 12]) (.ret [4,5]))))⟩:=by kernel_rfl
end Go.Proofs.YtdkokbhcjmapdaaGreatDoor

namespace Go.Proofs.YtdkokbhcjmapdaaGreatDoor
open Go.Sha
set_option maxRecDepth 100000
variable {g:List (Nat×Obj)}{n:Nat}
theorem f74 {s:Sho}{i:Int}(h:s.ok){st:St}:run Tryz.prog HH 74 [s.v,.int .i64 i] st=some (.ret (.tup [.int .i64 (fndI' (shoC s) i),.int .i64 (fndE (shoC s) i)]),st):=by
 have h16:=fun(st:St)=>f41 (st:=st) h
 push_cast[Sho.v]at h16
 rw[run_shut F74 rfl rfl (by simp)]
 push_cast[Sho.v,h16,fndI',fndE]
theorem L75 {s:Sho}{v:Int}(h0:s.ok):∀r j,s.lsts.drop j=r→runL Tryz.prog HH [1,2,5] n B75_0 [(1,.int .i64 v),(2,.ep s.v 0),(5,.int .i64 j)] (stN g n)=lpI (stN g n) [] 4 (ix (fun x=>x.num == v) r j):=by
 have hl:=h0.k.1
 refine drop_ind (fun j h=>?_) (fun q r j h hx hd ih=>?_)
 all_goals rw[runL_of B75_0.eq_1]
 ·have h1:¬(j:Int)<s.lsts.length:=by omega
  push_cast[h1,ix,Sho.v,Lst.v]
 ·have h1:(j:Int)<s.lsts.length:=by omega
  have hw:=iw1 (j:=j) (by omega)
  push_cast[h1,hw,hx,Sho.v,Lst.v]at ih ⊢
  simp only[ih,ix,lps,Int.reduceEq,not_false_eq_true]
  all_goals first|with_reducible rfl|exact dn_eq (by omega) (by with_reducible rfl)|((repeat' split)<;>(try simp_all)<;>(try (with_reducible refine dn_eq ?_ ?_<;>first|trivial|omega|rfl))<;>(try omega))
theorem f75 {s:Sho}{v:Int}(h:s.ok){st:St}:run Tryz.prog HH 75 [s.v,.int .i64 v] st=some (.ret (.int .i64 (ix (fun x=>x.num == v) s.lsts 0)),st):=by
 rw[run_shut F75 rfl rfl (by simp)]
 have hL0:=fun n=>L75 (g:=st.x.gl) (n:=n) (v:=v) h _ 0 rfl
 push_cast[Sho.v]at hL0
 push_cast[Sho.v,hL0,lpE,lpX,lpI,lpB]
 all_goals first|with_reducible rfl|exact dn_eq (by omega) (by with_reducible rfl)|((repeat' split)<;>(try simp_all)<;>(try (with_reducible refine dn_eq ?_ ?_<;>first|trivial|omega|rfl))<;>(try omega))
theorem f35 {s:Sho}{v:Int}(h:s.ok){st:St}:run Tryz.prog HH 35 [s.v,.int .i64 v] st=some (.ret (.tup [.int .i64 (fndI' (shoC s) (ix (fun x=>x.num == v) s.lsts 0)),.int .i64 (fndE (shoC s) (ix (fun x=>x.num == v) s.lsts 0))]),st):=by
 have h1:=fun(st:St)=>f75 (v:=v) (st:=st) h
 have h2:=fun(st:St) (i:Int)=>f74 (i:=i) (st:=st) h
 push_cast[Sho.v]at h1 h2
 rw[run_shut F35 rfl rfl (by simp)]
 push_cast[Sho.v,h1,h2]
 all_goals first|with_reducible rfl|exact dn_eq (by omega) (by with_reducible rfl)|((repeat' split)<;>(try simp_all)<;>(try (with_reducible refine dn_eq ?_ ?_<;>first|trivial|omega|rfl))<;>(try omega))
end Go.Proofs.YtdkokbhcjmapdaaGreatDoor

namespace Go.Proofs.YtdkokbhcjmapdaaGreatDoor
open Go.Sha
set_option maxRecDepth 10000
def B91_0:Cd:=(.join [0,3,4] (.g [.m 9 4,.v 10 .neq 9 0] (.i 10 .skip (.exit [0,3] 0))) (.join [0,3,4] (.block 1 (.g [.m 13 4,.v 14 .rem 13 10,.m 5 14] (.join [0,3,4,5] (.g [.m 15 5,.v 16 .lss 15 0] (.i 16 (.reg [.m 17 5,.s 18 (.un .neg (.t 17)),.m 5 18]) .skip)) (.reg [.m 19 5,.s 20 (.bin .add (.i 48) (.t 19)),.s 21 (.cvi .u8 (.t 20)),.s 22 (.bslice 5 1 [.t 21]),.s 23 (.cvbs (.t 22)),.m 24 3,.b 25 .add 23 24,.m 3 25])))) (.reg [.m 11 4,.v 12 .quo 11 10,.m 4 12])))
theorem F91:compF Tryz.prog 91=some ⟨31,[.tmp 2],(.g [.s 2 (.mv (.w []))] (.join [0] (.g [.m 6 0,.v 7 .eql 6 0] (.i 7 (.g [.s 2 (.mv (.w [48]))] (.ret [2])) .skip)) (.g [.s 3 (.mv (.w []))] (.join [0,3] (.g [.m 8 0,.m 4 8] (.block 0 (.loop [0,3,4] [] B91_0))) (.join [3] (.g [.m 26 0,.v 27 .lss 26 0] (.i 27 (.reg [.m 28 3,.s 29 (.bin .add (.w [45]) (.t 28)),.m 3 29]) .skip)) (.g [.m 30 3,.m 2 30] (.ret [2])))))))⟩:=by kernel_rfl
theorem F44:compF Tryz.prog 44=some ⟨5,[.tmp 2],(.g [.s 2 (.mv (.w []))] (.g [.m 3 0,.f 4 91 3,.m 2 4] (.ret [2])))⟩:=by kernel_rfl
theorem F141:compF Tryz.prog 141=some ⟨5,[.tmp 2],(.g [.s 2 (.mv (.w []))] (.g [.m 3 0,.f 4 91 3,.m 2 4] (.ret [2])))⟩:=by kernel_rfl
def B76_0:Cd:=(.join [3,4] (.join [3,4,23] (.reg [.m 13 4,.s 14 (.lens (.t 13)),.v 15 .gtr 14 0,.m 16 15,.my 17 4 16,.my 18 4 16,.y 19 (.lens (.t 18)) 16,.vy 20 .sub 19 1 16,.y 21 (.ichr (.t 17) (.t 20)) 16,.y 22 (.bin .eql (.t 21) (.c (.int .u8 48))) 16,.e 23 16 22]) (.i 23 .skip (.exit [3,4] 0))) (.block 1 (.reg [.m 24 4,.m 25 4,.s 26 (.lens (.t 25)),.v 27 .sub 26 1,.s 28 (.slices (.t 24) none (some (.t 27))),.m 4 28])))
theorem F76:compF Tryz.prog 76=some ⟨36,[.tmp 2],(.g [.s 2 (.mv (.w []))] (.g [.m 5 0,.v 6 .quo 5 1000,.f 7 141 6,.m 3 7] (.g [.m 8 0,.v 9 .rem 8 1000,.s 10 (.bin .add (.i 1000) (.t 9)),.f 11 141 10,.s 12 (.slices (.t 11) (some (.i 1)) none),.m 4 12] (.join [3,4] (.block 0 (.loop [3,4] [] B76_0)) (.join [3,4] (.g [.m 29 4,.s 30 (.bin .eql (.t 29) (.w []))] (.i 30 (.g [.m 31 3,.m 2 31] (.ret [2])) .skip)) (.g [.m 32 3,.s 33 (.bin .add (.t 32) (.w [46])),.m 34 4,.b 35 .add 33 34,.m 2 35] (.ret [2])))))))⟩:=by kernel_rfl
theorem F77:compF Tryz.prog 77=some ⟨13,[.tmp 2],(.g [.q 1 70 0,.s 2 (.mv (.w []))] (.z [1] (.join [1] (.join [1,8] (.reg [.a 3 4 1,.l 4 3,.m 5 4,.ay 6 5 1 5,.ly 7 6 5,.e 8 5 7]) (.i 8 (.g [.s 2 (.mv (.w [98,108,111,99,107,32,109,97,114,107]))] (.ret [2])) .skip)) (.join [1] (.g [.a 9 4 1,.l 10 9] (.i 10 (.g [.s 2 (.mv (.w [98,108,111,99,107]))] (.ret [2])) .skip)) (.join [] (.g [.a 11 5 1,.l 12 11] (.i 12 (.g [.s 2 (.mv (.w [109,97,114,107]))] (.ret [2])) .skip)) (.g [.s 2 (.mv (.w []))] (.ret [2])))))))⟩:=by kernel_rfl
theorem F36:compF Tryz.prog 36=some ⟨49,[.tmp 2],(.g [.q 1 70 0,.s 2 (.mv (.c .nils))] (.z [1] (.g [.a 6 3 1,.l 7 6,.s 8 (.iadr 6 (.t 7) (.i 0)),.d 9 6 8,.s 3 (.alloc 73 [.i 0,.i 0,.i 0,.i 0,.i 0,.i 0]),.w 6 3 9] (.z [3] (.g [.s 4 (.mv (.w []))] (.join [1,3,4] (.g [.a 10 6 1,.l 11 10,.v 12 .geq 11 0] (.i 12 (.reg [.a 13 6 1,.l 14 13,.f 15 76 14,.m 4 15]) .skip)) (.g [.a 16 7 1,.l 17 16,.m 5 17] (.join [1,3,4,5] (.g [.a 18 8 1,.l 19 18,.v 20 .gtr 19 0] (.i 20 (.reg [.m 21 5,.a 22 8 1,.l 23 22,.f 24 44 23,.s 25 (.bin .add (.w [32,120,32]) (.t 24)),.b 26 .add 21 25,.m 5 26]) .skip)) (.join [2] (.greg [[],[],[],[],[],[],[],[],[],[],[],[],[],[],[],[],[],[],[],[],[],[false,false,false,false,false,false,false,false,false,false,false,false,false,false,false,false,false,false,false,false,false],[]] [.a 27 0 1,.l 28 27,.a 29 1 1,.l 30 29,.a 31 2 1,.l 32 31,.u 33 32,.f 34 44 33,.a 35 0 3,.l 36 35,.f 37 76 36,.a 38 1 3,.l 39 38,.f 40 76 39,.a 41 5 3,.l 42 41,.f 43 76 42,.d 44 9 1,.f 45 77 44,.m 46 4,.m 47 5,.s 48 (.bslice 9 1 [.t 28,.t 30,.t 34,.t 37,.t 40,.t 43,.t 45,.t 46,.t 47]),.m 2 48]) (.ret [2]))))))))))⟩:=by kernel_rfl
def B8_0:Cd:=(.join [2,6,8,9] (.g [.m 21 9,.a 22 6 2,.l 23 22,.m 24 6,.r 25 3 23 24,.a 26 2 25,.l 27 26,.u 28 27,.b 29 .lss 21 28] (.i 29 .skip (.exit [8] 0))) (.join [2,6,8,9] (.block 1 (.reg [.m 32 8,.a 33 6 2,.l 34 33,.m 35 6,.r 36 3 34 35,.a 37 2 36,.l 38 37,.m 39 9,.r 40 9 38 39,.d 41 9 40,.f 42 36 41,.s 43 (.bslice 59 1 [.t 42]),.s 44 (.append 59 1 24 (.t 32) (.t 43)),.m 8 44])) (.reg [.m 30 9,.v 31 .add 30 1,.m 9 31])))
theorem F8:compF Tryz.prog 8=some ⟨46,[.tmp 4,.tmp 5],(.g [.q 2 31 0,.s 4 (.mv (.c .nils)),.c 5 0] (.z [2] (.g [.d 11 9 2,.m 12 1,.g' 13 35 11 12,.m 10 13,.j 14 0 10,.j 15 1 10,.m 6 14,.m 7 15] (.join [2,6] (.g [.m 16 7,.v 17 .neq 16 0] (.i 17 (.g [.m 18 7,.s 4 (.mv (.c .nils)),.m 5 18] (.ret [4,5])) .skip)) (.g [.s 19 (.bslice 9 1 [(.w [99,117,101]),(.w [108,97,98,101,108]),(.w [109,111,118,101,115]),(.w [117,112]),(.w [100,111,119,110]),(.w [100,101,108,97,121]),(.w [102,108,97,103,115]),(.w [102,111,108,108,111,119]),(.w [108,105,110,107])]),.s 20 (.bslice 59 1 [.t 19]),.m 8 20] (.join [8] (.g [.c 9 0] (.block 0 (.loop [2,6,8,9] [(8,(59,1))] B8_0))) (.g [.m 45 8,.m 4 45,.c 5 0] (.ret [4,5]))))))))⟩:=by kernel_rfl
def B42_0:Cd:=(.join [0,3,4,5] (.join [0,3,4,5,39] (.dreg 27 [.m 13 5,.m 14 3,.u 15 14,.b 16 .lss 13 15,.m 17 16,.my 18 3 17,.my 19 5 17,.ry 20 7 18 19 17,.ay 21 0 20 17,.ly 22 21 17,.my 23 3 17,.my 24 5 17,.ry 25 7 23 24 17,.ay 26 1 25 17,.ly 27 26 17,.my 28 0 17,.my 29 4 17,.ry 30 7 28 29 17,.ay 31 0 30 17,.ly 32 31 17,.my 33 0 17,.my 34 4 17,.ry 35 7 33 34 17,.ay 36 1 35 17,.ly 37 36 17,.y 38 (.f 90 [.t 22,.t 27,.t 32,.t 37]) 17,.e 39 17 38]) (.i 39 .skip (.exit [0,3,4,5] 2))) (.block 3 (.reg [.m 40 5,.v 41 .add 40 1,.m 5 41])))
def B42_1:Cd:=(.join [0,3,4] (.g [.m 7 4,.m 8 0,.u 9 8,.b 10 .lss 7 9] (.i 10 .skip (.exit [3] 0))) (.join [0,3,4] (.block 1 (.g [.c 5 0] (.join [0,3,4,5] (.block 2 (.loop [0,3,4,5] [] B42_0)) (.join [0,3,4,5,6] (.greg [[],[],[],[],[false,false,false,false],[true],[true],[true],[false,false,false,false,false,false,false,false],[]] [.m 42 0,.m 43 4,.r 44 7 42 43,.d 45 7 44,.s 46 (.bslice 81 7 [.t 45]),.m 47 3,.m 48 5,.s 49 (.slice 7 (.t 47) (some (.t 48)) none none),.s 50 (.append 81 7 72 (.t 46) (.t 49)),.m 6 50]) (.reg [.s 51 (.bslice 81 7 []),.m 52 3,.m 53 5,.s 54 (.slice 7 (.t 52) none (some (.t 53)) none),.s 55 (.append 81 7 72 (.t 51) (.t 54)),.m 56 6,.s 57 (.append 81 7 72 (.t 55) (.t 56)),.m 3 57]))))) (.reg [.m 11 4,.v 12 .add 11 1,.m 4 12])))
theorem F42:compF Tryz.prog 42=some ⟨59,[.tmp 2],(.g [.s 2 (.mv (.c .nils))] (.g [.s 3 (.mv (.c .nils))] (.join [3] (.g [.c 4 0] (.block 0 (.loop [0,3,4] [] B42_1))) (.g [.m 58 3,.m 2 58] (.ret [2])))))⟩:=by kernel_rfl
theorem F90:compF Tryz.prog 90=some ⟨22,[.tmp 8],(.g [.k 8 false] (.join [8] (.reg [.m 9 0,.m 10 2,.b 11 .lss 9 10,.m 12 11,.mx 13 0 12,.mx 14 2 12,.bx 15 .eql 13 14 12,.mx 16 15 12,.my 17 1 16,.my 18 3 16,.by' 19 .lss 17 18 16,.x 20 (.pick (.t 16) (.t 19) (.c (.bool false))) 12,.o 21 12 20,.m 8 21]) (.ret [8])))⟩:=by kernel_rfl
theorem F43:compF Tryz.prog 43=some ⟨17,[.tmp 2],(.g [.q 1 81 0,.s 2 (.mv (.w []))] (.z [1] (.join [1] (.g [.a 3 1 1,.l 4 3,.v 5 .eql 4 1] (.i 5 (.g [.a 6 0 1,.l 7 6,.f 8 44 7,.m 2 8] (.ret [2])) .skip)) (.q (.dreg 9 [.a 9 0 1,.l 10 9,.f 11 44 10,.s 12 (.bin .add (.t 11) (.w [46])),.a 13 1 1,.l 14 13,.f 15 44 14,.b 16 .add 12 15,.m 2 16]) (.ret [2])))))⟩:=by kernel_rfl
def B10_0:Cd:=(.join [5,6,7] (.g [.m 19 7,.m 20 6,.u 21 20,.b 22 .lss 19 21] (.i 22 .skip (.exit [5] 0))) (.join [5,6,7] (.block 1 (.g [.m 25 6,.m 26 7,.r 27 7 25 26,.d 28 7 27,.s 8 (.alloc 81 [.i 0,.i 0,(.str []),.i 0,.i 0,.i 0,(.str [])]),.w 7 8 28] (.z [8] (.greg [[],[],[],[],[],[],[],[],[],[],[],[],[],[],[],[],[false,false,false,false,false,false,false,false,false,false,false,false,false,false,false,true],[false,false,false,false,false,false,false,false,false,false,false,false,false,false,false,false,true],[false,false,false,false,false,false,false,false,false,false,false,false,false,false,false,false,false,false],[]] [.m 29 5,.d 30 7 8,.f 31 43 30,.a 32 2 8,.l 33 32,.a 34 3 8,.l 35 34,.f 36 44 35,.a 37 4 8,.l 38 37,.f 39 44 38,.a 40 5 8,.l 41 40,.f 42 44 41,.a 43 6 8,.l 44 43,.s 45 (.bslice 9 1 [.t 31,.t 33,.t 36,.t 39,.t 42,.t 44]),.s 46 (.bslice 59 1 [.t 45]),.s 47 (.append 59 1 24 (.t 29) (.t 46)),.m 5 47])))) (.reg [.m 23 7,.v 24 .add 23 1,.m 7 24])))
theorem F10:compF Tryz.prog 10=some ⟨49,[.tmp 2,.tmp 3],(.g [.q 1 31 0,.s 2 (.mv (.c .nils)),.c 3 0] (.z [1] (.join [1] (.g [.d 9 9 1,.f 10 41 9,.m 4 10] (.g [.m 11 4,.v 12 .neq 11 0] (.i 12 (.g [.m 13 4,.s 2 (.mv (.c .nils)),.m 3 13] (.ret [2,3])) .skip))) (.g [.s 14 (.bslice 9 1 [(.w [99,104,97,110,110,101,108]),(.w [112,114,111,102,105,108,101]),(.w [117,110,105,118,101,114,115,101]),(.w [97,100,100,114,101,115,115]),(.w [112,104,97,115,101]),(.w [99,97,98,108,101])]),.s 15 (.bslice 59 1 [.t 14]),.m 5 15] (.g [.a 16 3 1,.l 17 16,.f 18 42 17,.m 6 18] (.join [5] (.g [.c 7 0] (.block 0 (.loop [5,6,7] [(5,(59,1))] B10_0))) (.g [.m 48 5,.m 2 48,.c 3 0] (.ret [2,3]))))))))⟩:=by kernel_rfl
def B11_0:Cd:=(.join [0,1,5] (.g [.m 11 5,.m 12 0,.u 13 12,.b 14 .lss 11 13] (.i 14 .skip (.exit [] 0))) (.join [0,1,5] (.block 1 (.q (.dreg 10 [.m 17 0,.m 18 5,.r 19 1 17 18,.l 20 19,.m 21 1,.m 22 5,.r 23 1 21 22,.l 24 23,.g' 25 45 20 24,.z 26 25]) (.i 26 (.g [.k 4 false] (.ret [4])) .skip))) (.reg [.m 15 5,.v 16 .add 15 1,.m 5 16])))
theorem F11:compF Tryz.prog 11=some ⟨27,[.tmp 4],(.g [.k 4 false] (.join [0,1] (.g [.m 6 0,.u 7 6,.m 8 1,.u 9 8,.b 10 .neq 7 9] (.i 10 (.g [.k 4 false] (.ret [4])) .skip)) (.join [] (.g [.c 5 0] (.block 0 (.loop [0,1,5] [] B11_0))) (.g [.k 4 true] (.ret [4])))))⟩:=by kernel_rfl
theorem F3:compF Tryz.prog 3=some ⟨60,[.tmp 4],(.g [.q 2 31 0,.k 4 false] (.z [2] (.join [1,2] (.g [.d 13 9 2,.f 14 5 13,.z 15 14] (.i 15 (.g [.s 16 (.f 6 []),.m 4 16] (.ret [4])) .skip)) (.g [.d 18 9 2,.m 19 1,.g' 20 7 18 19,.m 17 20,.j 21 0 17,.j 22 1 17,.m 5 21,.m 6 22] (.g [.d 24 9 2,.m 25 1,.g' 26 8 24 25,.m 23 26,.j 27 0 23,.j 28 1 23,.m 7 27,.m 8 28] (.g [.d 30 9 2,.f 31 9 30,.m 29 31,.j 32 0 29,.j 33 1 29,.m 9 32,.m 10 33] (.g [.d 35 9 2,.f 36 10 35,.m 34 36,.j 37 0 34,.j 38 1 34,.m 11 37,.m 12 38] (.join [4] (.reg [.m 39 5,.m 40 7,.g' 41 11 39 40,.m 42 41,.my 43 6 42,.my 44 8 42,.by' 45 .eql 43 44 42,.e 46 42 45,.m 47 46,.my 48 9 47,.my 49 11 47,.y 50 (.f 11 [.t 48,.t 49]) 47,.e 51 47 50,.m 52 51,.my 53 10 52,.my 54 12 52,.by' 55 .eql 53 54 52,.e 56 52 55,.m 57 56,.y 58 (.f 6 []) 57,.e 59 57 58,.m 4 59]) (.ret [4])))))))))⟩:=by kernel_rfl
end Go.Proofs.YtdkokbhcjmapdaaGreatDoor

namespace Go.Proofs.YtdkokbhcjmapdaaGreatDoor
open Go.Sha
set_option maxRecDepth 100000
variable {g:List (Nat×Obj)}{n:Nat}
def dgt (k:Nat):List UInt8:=if k=0 then[] else Lib.decDigits k
theorem dgt_step {k:Nat}(h:k≠0):dgt k=dgt (k / 10)++[UInt8.ofNat (48+k % 10)]:=by
 rw[dgt,if_neg h,Lib.decDigits]
 by_cases h1:k<10
 ·rw[dif_pos h1,dgt,if_pos (by omega),Nat.mod_eq_of_lt h1];rfl
 ·rw[dif_neg h1,dgt,if_neg (by omega)]
theorem dgt_itoa {m:Int}(h:0<m):dgt m.toNat=Lib.itoa m:=by
 rw[dgt,if_neg (by omega),Lib.itoa,if_neg (by omega)]
theorem byt {d:Nat}(h:d<10):byteV (.int .u8 (48+(d:Int)))=some (UInt8.ofNat (48+d)):=by
 have h':d=0∨d=1∨d=2∨d=3∨d=4∨d=5∨d=6∨d=7∨d=8∨d=9:=by omega
 rcases h' with rfl|rfl|rfl|rfl|rfl|rfl|rfl|rfl|rfl|rfl<;>rfl
theorem L91 {v0:V}(b0:V.bd n v0=true):∀(j k:Nat) (s:List UInt8),k<10 ^ j→j≤18→s.length+j≤1000 →
  runL Tryz.prog HH [0,3,4] n B91_0 [(0,v0),(3,.str s),(4,.int .i64 k)] (stN g n)=some (.exit 0,[(0,v0),(3,.str (dgt k++s))],stN g n):=by
 intro j
 induction j with
 |zero =>
  intro k s hk _ _
  have h0:k=0:=by simpa using hk
  subst h0
  rw[runL_of B91_0.eq_1]
  push_cast[dgt,b0,List.nil_append]
 |succ j ih =>
  intro k s hk hj hs
  rw[runL_of B91_0.eq_1]
  by_cases h0:k=0
  ·subst h0
   push_cast[dgt,b0,List.nil_append]
  ·have hk':k<10 ^ 18:=Nat.lt_of_lt_of_le hk (Nat.pow_le_pow_right (by omega) hj)
   have h1:¬(k:Int)=0:=by omega
   have t1:(k:Int).tmod 10=((k % 10:Nat):Int):=by rw[Int.tmod_eq_emod_of_nonneg (by omega)];rfl
   have t2:(k:Int).tdiv 10=((k / 10:Nat):Int):=by rw[Int.tdiv_eq_ediv_of_nonneg (by omega)];rfl
   have w1:IntKind.i64.wrap ((k % 10:Nat):Int)=((k % 10:Nat):Int):=iwrap (by omega) (by omega)
   have w2:IntKind.i64.wrap ((k / 10:Nat):Int)=((k / 10:Nat):Int):=iwrap (by omega) (by omega)
   have w3:IntKind.i64.wrap (48+((k % 10:Nat):Int))=48+((k % 10:Nat):Int):=iwrap (by omega) (by omega)
   have hd9:k % 10<10:=Nat.mod_lt _ (by decide)
   have w4:IntKind.u8.wrap (48+((k % 10:Nat):Int))=48+((k % 10:Nat):Int):=by simp[IntKind.wrap,IntKind.bits,IntKind.signed];omega
   have n1:¬((k % 10:Nat):Int)<0:=by omega
   have ih:=ih (k / 10) (UInt8.ofNat (48+k % 10)::s) (by rw[Nat.pow_succ]at hk;omega) (by omega) (by simp;omega)
   rw[dgt_step h0,List.append_assoc,List.singleton_append]
   generalize hz:dgt (k / 10)++UInt8.ofNat (48+k % 10)::s=z at *
   generalize k % 10=d at *
   generalize k / 10=e at *
   have hcv:cvbsV ⟨n+1,[],[(n,⟨5,1,[.int .u8 (48+(d:Int))],false,false⟩)],⟨[],g,[]⟩⟩ (.osl n 1)=some (.str [UInt8.ofNat (48+d)]):=by
    have hb:=byt hd9
    simp only[cvbsV,elemsV,Sha.look,if_true,List.length_cons,List.length_nil,bytesV,hb,Option.map_some]
   push_cast[h1,t1,t2,w1,w2,w3,w4,n1,b0,hcv]at ih ⊢
   exact dn_eq (by omega) ih
theorem f91 {m:Int}(h0:0≤m)(h1:m<1000000000000000000){st:St}:run Tryz.prog HH 91 [.int .i64 m] st=some (.ret (.str (Lib.itoa m)),st):=by
 by_cases hm:m=0
 ·subst hm
  rw[run_shut F91 rfl rfl (by simp)]
  push_cast
  rw[Lib.itoa,if_neg (by decide),Lib.decDigits,dif_pos (by decide)]
  rfl
 ·have hL:=fun n=>L91 (g:=st.x.gl) (n:=n) (v0:=.int .i64 m) rfl 18 m.toNat [] (by omega) (Nat.le_refl _) (by simp)
  rw[Int.toNat_of_nonneg h0,dgt_itoa (by omega),List.append_nil]at hL
  have n1:¬m<0:=by omega
  rw[run_shut F91 rfl rfl (by simp)]
  push_cast at hL
  push_cast[hm,hL,n1]
theorem f44 {m:Int}(h0:0≤m)(h1:m<1000000000000000000){st:St}:run Tryz.prog HH 44 [.int .i64 m] st=some (.ret (.str (Lib.itoa m)),st):=by
 have e:=fun(st:St)=>f91 (st:=st) h0 h1
 rw[run_shut F44 rfl rfl (by simp)]
 push_cast[e]
 all_goals first|with_reducible rfl|exact dn_eq (by omega) (by with_reducible rfl)|((repeat' split)<;>(try simp_all)<;>(try (with_reducible refine dn_eq ?_ ?_<;>first|trivial|omega|rfl))<;>(try omega))
theorem f141 {m:Int}(h0:0≤m)(h1:m<1000000000000000000){st:St}:run Tryz.prog HH 141 [.int .i64 m] st=some (.ret (.str (Lib.itoa m)),st):=by
 have e:=fun(st:St)=>f91 (st:=st) h0 h1
 rw[run_shut F141 rfl rfl (by simp)]
 push_cast[e]
 all_goals first|with_reducible rfl|exact dn_eq (by omega) (by with_reducible rfl)|((repeat' split)<;>(try simp_all)<;>(try (with_reducible refine dn_eq ?_ ?_<;>first|trivial|omega|rfl))<;>(try omega))
end Go.Proofs.YtdkokbhcjmapdaaGreatDoor

namespace Go.Proofs.YtdkokbhcjmapdaaGreatDoor
open Go.Sha
set_option maxRecDepth 100000
variable {g:List (Nat×Obj)}{n:Nat}
theorem L76 {v3:V}(b3:V.bd n v3=true):∀r:List UInt8,r.length<1000→runL Tryz.prog HH [3,4] n B76_0 [(3,v3),(4,.str r.reverse)] (stN g n)=some (.exit 0,[(3,v3),(4,.str (trB 48 r.reverse))],stN g n):=by
 intro r
 induction r with
 |nil =>
  intro _
  rw[runL_of B76_0.eq_1]
  push_cast[List.reverse_nil,trB,List.dropWhile_nil,List.length_nil,b3]
 |cons b r ih =>
  intro hl
  have ih:=ih (by simp at hl;omega)
  rw[runL_of B76_0.eq_1]
  have h1:(0:Int)<(b::r).reverse.length:=by simp
  have h0:(b::r).reverse.length>(0:Int):=h1
  have h2:IntKind.i64.wrap (((b::r).reverse.length:Int)-1)=(r.length:Nat):=by rw[List.length_reverse,List.length_cons,iwrap (by omega) (by simp at hl;omega)];omega
  have h3:(b::r).reverse.getD r.length 0=b:=by simp
  have h4:(b::r).reverse.take r.length=r.reverse:=by simp
  have h5:(r.length:Int)<(b::r).reverse.length:=by rw[List.length_reverse,List.length_cons];omega
  have h6:(r.length:Int)≤(b::r).reverse.length:=by omega
  have b48:((b.toNat:Int)=48)=(b=48):=by
   rw[eq_iff_iff]
   exact⟨fun h=>UInt8.toNat_inj.1 (by simpa using Int.ofNat_inj.1 h),fun h=>by rw[h];rfl⟩
  rw[trB_c]
  generalize (b::r).reverse=s at *
  push_cast at ih
  by_cases h:b=48
  ·push_cast[h0,h1,h2,h3,h4,h5,h6,b48,h,ih,b3]
   first|done|exact dn_eq (by omega) rfl
  ·push_cast[h0,h1,h2,h3,h4,h5,h6,b48,h,b3]
theorem f76 {ms:Int}(h0:0≤ms)(h1:ms≤10000000){st:St}:run Tryz.prog HH 76 [.int .i64 ms] st=some (.ret (.str (secT ms)),st):=by
 have e1:=fun(st:St)=>f141 (m:=ms / 1000) (st:=st) (by omega) (by omega)
 have e2:=fun(st:St)=>f141 (m:=1000+ms % 1000) (st:=st) (by omega) (by omega)
 have l1:=Lib.itoa_length_le (ms / 1000) (by omega) (by omega)
 have l2:=Lib.itoa_length_le (1000+ms % 1000) (by omega) (by omega)
 have t1:ms.tdiv 1000=ms / 1000:=Int.tdiv_eq_ediv_of_nonneg h0
 have t2:ms.tmod 1000=ms % 1000:=Int.tmod_eq_emod_of_nonneg h0
 have w1:IntKind.i64.wrap (ms / 1000)=ms / 1000:=iwrap (by omega) (by omega)
 have w2:IntKind.i64.wrap (1000+ms % 1000)=1000+ms % 1000:=iwrap (by omega) (by omega)
 have w4:IntKind.i64.wrap (ms % 1000)=ms % 1000:=iwrap (by omega) (by omega)
 have hl3:(secR ms).length≤21:=by
  have:=trB_len (c:=48) (s:=(Lib.itoa (1000+ms % 1000)).drop 1)
  rw[List.length_drop]at this
  rw[secR];omega
 have n1:(1:Int)≤(Lib.itoa (1000+ms % 1000)).length:=by
  have:=List.length_pos_iff.2 (numOk_at (m:=1000+ms % 1000) (by omega) (by omega)).1
  omega
 have tk:(Lib.itoa (1000+ms % 1000)).take (Lib.itoa (1000+ms % 1000)).length=Lib.itoa (1000+ms % 1000):=List.take_length
 have hL:=L76 (g:=st.x.gl) (n:=0) (v3:=.str (Lib.itoa (ms / 1000))) (by rfl) (((Lib.itoa (1000+ms % 1000)).drop 1).reverse) (by rw[List.length_reverse,List.length_drop];omega)
 rw[List.reverse_reverse,←secR]at hL
 rw[run_shut F76 rfl rfl (by simp)]
 push_cast at hL
 by_cases hr:secR ms=[]
 ·push_cast[e1,e2,t1,t2,w1,w2,w4,hr,n1,tk,hL,secT,List.append_nil]
 ·push_cast[e1,e2,t1,t2,w1,w2,w4,hr,n1,tk,hL,secT,List.append_assoc,List.singleton_append]
  first|done|exact dn_eq (by first|omega|(simp;omega)) rfl
theorem f77 {c:Cu}{st:St}:run Tryz.prog HH 77 [c.v] st=some (.ret (.str (flgT c)),st):=by
 rw[run_shut F77 rfl rfl (by simp)]
 cases hb:c.block<;>cases hm:c.mark<;>push_cast[Cu.v,hb,hm,flgT]
theorem f36 {q:Cu}(hq:CuR q){st:St}:run Tryz.prog HH 36 [q.v] st=some (.ret (rowV (rowC q)),st):=by
 obtain⟨t,tr,hp,t1,t2,t3⟩:=hq.part
 obtain⟨l1,l2⟩:=hq.loops
 have hm:=hq.moves
 have ht0:tim0 q=t:=by rw[tim0,hp];rfl
 have e1:=fun(st:St)=>f44 (m:=(q.moves.length:Nat)) (st:=st) (by omega) (by omega)
 have e2:=fun(st:St)=>f76 (ms:=t.up) (st:=st) t1.1 t1.2
 have e3:=fun(st:St)=>f76 (ms:=t.down) (st:=st) t2.1 t2.2
 have e4:=fun(st:St)=>f76 (ms:=t.delay) (st:=st) t3.1 t3.2
 have e6:=fun(st:St)=>f44 (m:=q.loops) (st:=st) (by omega) (by omega)
 have e7:=fun(st:St)=>f77 (c:=q) (st:=st)
 have hl3:=Lib.itoa_length_le q.loops (by omega) (by omega)
 have p0:∀d,q.parts.getD 0 d=t:=fun d=>by rw[hp];rfl
 have p1:(0:Int)<q.parts.length:=by rw[hp,List.length_cons];omega
 have hlk:(q.link.length:Int)≤1000000:=by
  rcases hq.link with h|h
  ·rw[h];simp
  ·have:=(num_chars h).1;omega
 have ge:∀z:Int,(z≥0)=(0≤z):=fun _=>rfl
 rw[run_shut F36 rfl rfl (by simp)]
 generalize hR:rowC q=R at *
 rw[rowC,ht0]at hR
 by_cases hf:0≤q.follow
 ·have e8:=fun(st:St)=>f76 (ms:=q.follow) (st:=st) hf (by have:=hq.follow;omega)
  have ef:folT q=secT q.follow:=by rw[folT,if_pos hf]
  by_cases hl0:0<q.loops
  ·have el:lnkT q=q.link++([32,120,32]++Lib.itoa q.loops):=by rw[lnkT,if_pos hl0]
   rw[ef,el]at hR
   subst hR
   generalize flgT q=fl at *
   push_cast[Cu.v]at e7
   push_cast[hf,hl0,p0,p1,e1,e2,e3,e4,e6,e7,e8,Cu.v,Tim.v,List.map_cons,List.map_nil,rowV]
   first|done|exact dn_eq (by omega) rfl
  ·have el:lnkT q=q.link:=by rw[lnkT,if_neg hl0]
   rw[ef,el]at hR
   subst hR
   generalize flgT q=fl at *
   push_cast[Cu.v]at e7
   push_cast[hf,hl0,p0,p1,e1,e2,e3,e4,e6,e7,e8,Cu.v,Tim.v,List.map_cons,List.map_nil,rowV]
 ·have ef:folT q=[]:=by rw[folT,if_neg hf]
  by_cases hl0:0<q.loops
  ·have el:lnkT q=q.link++([32,120,32]++Lib.itoa q.loops):=by rw[lnkT,if_pos hl0]
   rw[ef,el]at hR
   subst hR
   generalize flgT q=fl at *
   push_cast[Cu.v]at e7
   push_cast[hf,hl0,p0,p1,e1,e2,e3,e4,e6,e7,Cu.v,Tim.v,List.map_cons,List.map_nil,rowV]
   first|done|exact dn_eq (by omega) rfl
  ·have el:lnkT q=q.link:=by rw[lnkT,if_neg hl0]
   rw[ef,el]at hR
   subst hR
   generalize flgT q=fl at *
   push_cast[Cu.v]at e7
   push_cast[hf,hl0,p0,p1,e1,e2,e3,e4,e6,e7,Cu.v,Tim.v,List.map_cons,List.map_nil,rowV]
def stTD (g:List (Nat×Obj))(tab:List Row):St:=⟨3,[],[(2,⟨59,1,tab.map rowV,false,false⟩),(1,⟨9,1,[.str [99,117,101],.str [108,97,98,101,108],.str [109,111,118,101,115],.str [117,112],.str [100,111,119,110],.str [100,101,108,97,121],.str [102,108,97,103,115],.str [102,111,108,108,111,119],.str [108,105,110,107]],false,false⟩)],⟨[],g,[]⟩⟩
@[push_cast]theorem stTD_eq {tab:List Row}:stTD g tab=⟨3,[],[(2,⟨59,1,tab.map rowV,false,false⟩),(1,⟨9,1,[.str [99,117,101],.str [108,97,98,101,108],.str [109,111,118,101,115],.str [117,112],.str [100,111,119,110],.str [100,101,108,97,121],.str [102,108,97,103,115],.str [102,111,108,108,111,119],.str [108,105,110,107]],false,false⟩)],⟨[],g,[]⟩⟩:=idq rfl
theorem L8 {s:Sho}{x:Lst}{i:Nat}(hi:i<s.lsts.length)(hx:∀d,s.lsts.getD i d=x)(hl:x.cues.length<1000)(hA:∀c∈x.cues,CuR c):∀r j,x.cues.drop j=r→∀tab:List Row,tab.length≤j+1 →
  runL Tryz.prog HH [2,6,8,9] 3 B8_0 [(2,.ep s.v 0),(6,.int .i64 i),(8,.osl 2 tab.length),(9,.int .i64 j)] (stTD g tab)
   = some (.exit 0,[(8,.osl 2 (tab++r.map rowC).length)],stTD g (tab++r.map rowC)):=by
 have i1:(i:Int)<s.lsts.length:=by omega
 refine drop_ind (fun j h tab hc=>?_) (fun q r j hj hy hd ih tab hc=>?_)
 all_goals rw[runL_of B8_0.eq_1]
 ·have h1:¬(j:Int)<x.cues.length:=by omega
  push_cast[h1,i1,hx,Sho.v,Lst.v,List.map_nil,List.append_nil]
 ·have h1:(j:Int)<x.cues.length:=by omega
  have hw:=iw1 (j:=j) (by omega)
  have e1:=fun(st:St)=>f36 (st:=st) (hA q (mem_at hd))
  have hro:roomV (tab.length+1) 24=true:=roomV_lit (by omega) (by omega)
  have ih:=ih (tab++[rowC q]) (by simp;omega)
  rw[List.map_cons]
  generalize rowC q=R at *
  push_cast[Sho.v,Lst.v,Cu.v,rowV]at ih e1
  push_cast[h1,i1,hw,hx,hy,e1,hro,Sho.v,Lst.v,Cu.v,List.map_append,List.map_cons,List.map_nil,List.append_assoc,List.singleton_append,rowV]at ih ⊢
  first|exact ih|exact dn_eq (by omega) ih
theorem f8 {s:Sho}{v:Int}{i:Nat}{x:Lst}(h:s.ok)(hs:shoC s=0)(hi:ix (fun x=>x.num == v) s.lsts 0=i)(hlt:i<s.lsts.length)(hx:∀d,s.lsts.getD i d=x){st:St}:run Tryz.prog HH 8 [s.v,.int .i64 v] st=some (.ret (.tup [.sl ((cueT x).map rowV),.int .i64 0]),st):=by
 have h1:=fun(st:St)=>f35 (v:=v) (st:=st) h
 have e1:fndI' (shoC s) (ix (fun x=>x.num == v) s.lsts 0)=i:=by rw[fndI',if_neg (by simp[hs]),hi,if_neg (by omega)]
 have e2:fndE (shoC s) (ix (fun x=>x.num == v) s.lsts 0)=0:=by rw[fndE,if_neg (by simp[hs]),hi,if_neg (by omega)]
 rw[e1,e2]at h1
 have hm:x∈s.lsts:=by
  rw[←hx default,List.getD_eq_getElem?_getD,List.getElem?_eq_getElem hlt];simp
 have hp:=(sho_parts hs).2.1 x hm
 have hL1:=L8 (g:=st.x.gl) hlt hx (by have:=(lst_parts hp).2.2.1;omega) (lst_R hp) _ 0 rfl [hdC] (Nat.le_refl _)
 rw[List.drop_zero,hdC]at hL1
 rw[cueT]
 generalize x.cues.map rowC=so at *
 rw[run_shut F8 rfl rfl (by simp)]
 push_cast[Sho.v,Lst.v,rowV,List.map_cons,List.map_nil,List.length_cons,List.length_nil,List.singleton_append]at hL1 h1
 push_cast[Sho.v,Lst.v,hL1,h1,hdC,rowV,List.map_cons,List.map_nil,List.length_cons,List.length_nil,List.singleton_append]
theorem f11n {s:Sho}{v:Int}(h:s.ok)(he:¬fndE (shoC s) (ix (fun x=>x.num == v) s.lsts 0)=0){st:St}:run Tryz.prog HH 8 [s.v,.int .i64 v] st=some (.ret (.tup [.sl [],.int .i64 (fndE (shoC s) (ix (fun x=>x.num == v) s.lsts 0))]),st):=by
 have h1:=fun(st:St)=>f35 (v:=v) (st:=st) h
 rw[run_shut F8 rfl rfl (by simp)]
 push_cast[Sho.v]at h1
 push_cast[Sho.v,h1,he]
theorem f43n {s:Sho}{v:Int}(h:s.ok)(he:¬fndE (shoC s) (ix (fun x=>x.num == v) s.lsts 0)=0){st:St}:run Tryz.prog HH 30 [s.v,.int .i64 v] st=some (.ret (.tup [.agg [.int .i64 0,.int .i64 0,.sl []],.int .i64 (fndE (shoC s) (ix (fun x=>x.num == v) s.lsts 0))]),st):=by
 have h1:=fun(st:St)=>f71 (v:=v) (st:=st) h
 rw[run_shut F30 rfl rfl (by simp)]
 push_cast[Sho.v]at h1
 push_cast[Sho.v,h1,he]
theorem f10n {s:Sho}{v:Int}(h:s.ok)(he:¬fndE (shoC s) (ix (fun x=>x.num == v) s.lsts 0)=0){st:St}:run Tryz.prog HH 7 [s.v,.int .i64 v] st=some (.ret (.tup [.sl [],.int .i64 (fndE (shoC s) (ix (fun x=>x.num == v) s.lsts 0))]),st):=by
 have h1:=fun(st:St)=>f43n (v:=v) (st:=st) h he
 rw[run_shut F7 rfl rfl (by simp)]
 push_cast[Sho.v]at h1
 push_cast[Sho.v,h1,he]
end Go.Proofs.YtdkokbhcjmapdaaGreatDoor

namespace Go.Proofs.YtdkokbhcjmapdaaGreatDoor
open Go.Sha
set_option maxRecDepth 10000
def B47_0:Cd:=(.join [0,3,4,5] (.join [0,3,4,5,39] (.dreg 27 [.m 13 5,.m 14 3,.u 15 14,.b 16 .lss 13 15,.m 17 16,.my 18 3 17,.my 19 5 17,.ry 20 7 18 19 17,.ay 21 3 20 17,.ly 22 21 17,.my 23 3 17,.my 24 5 17,.ry 25 7 23 24 17,.ay 26 4 25 17,.ly 27 26 17,.my 28 0 17,.my 29 4 17,.ry 30 7 28 29 17,.ay 31 3 30 17,.ly 32 31 17,.my 33 0 17,.my 34 4 17,.ry 35 7 33 34 17,.ay 36 4 35 17,.ly 37 36 17,.y 38 (.f 90 [.t 22,.t 27,.t 32,.t 37]) 17,.e 39 17 38]) (.i 39 .skip (.exit [0,3,4,5] 2))) (.block 3 (.reg [.m 40 5,.v 41 .add 40 1,.m 5 41])))
def B47_1:Cd:=(.join [0,3,4] (.g [.m 7 4,.m 8 0,.u 9 8,.b 10 .lss 7 9] (.i 10 .skip (.exit [3] 0))) (.join [0,3,4] (.block 1 (.g [.c 5 0] (.join [0,3,4,5] (.block 2 (.loop [0,3,4,5] [] B47_0)) (.join [0,3,4,5,6] (.greg [[],[],[],[],[false,false,false,false],[true],[true],[true],[false,false,false,false,false,false,false,false],[]] [.m 42 0,.m 43 4,.r 44 7 42 43,.d 45 7 44,.s 46 (.bslice 81 7 [.t 45]),.m 47 3,.m 48 5,.s 49 (.slice 7 (.t 47) (some (.t 48)) none none),.s 50 (.append 81 7 72 (.t 46) (.t 49)),.m 6 50]) (.reg [.s 51 (.bslice 81 7 []),.m 52 3,.m 53 5,.s 54 (.slice 7 (.t 52) none (some (.t 53)) none),.s 55 (.append 81 7 72 (.t 51) (.t 54)),.m 56 6,.s 57 (.append 81 7 72 (.t 55) (.t 56)),.m 3 57]))))) (.reg [.m 11 4,.v 12 .add 11 1,.m 4 12])))
theorem F47:compF Tryz.prog 47=some ⟨59,[.tmp 2],(.g [.s 2 (.mv (.c .nils))] (.g [.s 3 (.mv (.c .nils))] (.join [3] (.g [.c 4 0] (.block 0 (.loop [0,3,4] [] B47_1))) (.g [.m 58 3,.m 2 58] (.ret [2])))))⟩:=by kernel_rfl
end Go.Proofs.YtdkokbhcjmapdaaGreatDoor

namespace Go.Proofs.YtdkokbhcjmapdaaGreatDoor
open Go.Sha
set_option maxRecDepth 100000
variable {g:List (Nat×Obj)}{n:Nat}
def insB (key:Fixt→Int×Int)(out:List Fixt)(x:Fixt):List Fixt:=out.takeWhile (fun y=>decide (ltK key y x))++x::out.dropWhile (fun y=>decide (ltK key y x))
def byK (key:Fixt→Int×Int)(l:List Fixt):List Fixt:=l.foldl (insB key) []
theorem insB_len {key:Fixt→Int×Int}{out:List Fixt}{x:Fixt}:(insB key out x).length=out.length+1:=by
 have:=congrArg List.length (List.takeWhile_append_dropWhile (p:=fun y=>decide (ltK key y x)) (l:=out))
 rw[List.length_append]at this
 rw[insB,List.length_append,List.length_cons];omega
theorem f90 {a b c d:Int}{st:St}:run Tryz.prog HH 90 [.int .i64 a,.int .i64 b,.int .i64 c,.int .i64 d] st=some (.ret (.bool (decide (a<c∨a=c∧b<d))),st):=by
 rw[run_shut F90 rfl rfl (by simp)]
 push_cast
 all_goals first|with_reducible rfl|exact dn_eq (by omega) (by with_reducible rfl)|((repeat' split)<;>(try simp_all)<;>(try (with_reducible refine dn_eq ?_ ?_<;>first|trivial|omega|rfl))<;>(try omega))
theorem L42_0 {l out:List Fixt}{x:Fixt}{i:Nat}(hi:i<l.length)(hx0:∀d,l.getD i d=x)(hl:out.length<1000):∀r j,out.drop j=r →
  runL Tryz.prog HH [0,3,4,5] n B42_0 [(0,.sl (l.map Fixt.v)),(3,.sl (out.map Fixt.v)),(4,.int .i64 i),(5,.int .i64 j)] (stN g n)
   = some (.exit 2,[(0,.sl (l.map Fixt.v)),(3,.sl (out.map Fixt.v)),(4,.int .i64 i),(5,.int .i64 (j+(r.takeWhile fun y=>decide (ltK kChan y x)).length:Nat))],stN g n):=by
 have i1:(i:Int)<l.length:=by omega
 refine drop_ind (fun j h=>?_) (fun q r j h hx hd ih=>?_)
 all_goals rw[runL_of B42_0.eq_1]
 ·have h1:¬(j:Int)<out.length:=by omega
  push_cast[h1,List.takeWhile_nil,List.length_nil,Nat.add_zero,Fixt.v]
 ·have h1:(j:Int)<out.length:=by omega
  have hw:=iw1 (j:=j) (by omega)
  have h2:decide (q.chan<x.chan∨q.chan=x.chan∧q.part<x.part)=decide (ltK kChan q x):=rfl
  have e1:=fun(st:St)=>f90 (a:=q.chan) (b:=q.part) (c:=x.chan) (d:=x.part) (st:=st)
  rw[h2]at e1
  by_cases h3:ltK kChan q x
  ·rw[List.takeWhile_cons_of_pos (by simpa using h3)]
   rw[show j+(q::r.takeWhile fun y=>decide (ltK kChan y x)).length=j+1+(r.takeWhile fun y=>decide (ltK kChan y x)).length by rw[List.length_cons];omega]
   rw[decide_eq_true h3]at e1
   push_cast[h1,hw,hx,hx0,i1,e1,Fixt.v]at ih ⊢
   exact ih
  ·rw[List.takeWhile_cons_of_neg (by simpa using h3),List.length_nil,Nat.add_zero]
   rw[decide_eq_false h3]at e1
   clear ih
   push_cast[h1,hx,hx0,i1,e1,Fixt.v]
def A54:Cd:=.join [0,3,4] (.g [.m 7 4,.m 8 0,.u 9 8,.b 10 .lss 7 9] (.i 10 .skip (.exit [3] 0))) .skip
def M42 : Cd := .block 1 (.g [.c 5 0]
 (.join [0, 3, 4, 5] (.block 2 (.loop [0, 3, 4, 5] [] B42_0))
 (.join [0, 3, 4, 5, 6] (.greg [[], [], [], [], [false, false, false, false], [true], [true], [true], [false, false, false, false, false, false, false, false], []] [.m 42 0, .m 43 4, .r 44 7 42 43, .d 45 7 44, .s 46 (.bslice 81 7 [.t 45]), .m 47 3, .m 48 5, .s 49 (.slice 7 (.t 47) (some (.t 48)) none none), .s 50 (.append 81 7 72 (.t 46) (.t 49)), .m 6 50])
 (.reg [.s 51 (.bslice 81 7 []), .m 52 3, .m 53 5, .s 54 (.slice 7 (.t 52) none (some (.t 53)) none), .s 55 (.append 81 7 72 (.t 51) (.t 54)), .m 56 6, .s 57 (.append 81 7 72 (.t 55) (.t 56)), .m 3 57]))))
def I54:Cd:=.reg [.m 11 4,.v 12 .add 11 1,.m 4 12]
theorem B54_eq:B42_1=A54.put (.join [0,3,4] M42 I54):=rfl
theorem mid54 {l out:List Fixt}{i:Nat}{x:Fixt}(hl:l.length≤1000)(ho:out.length≤i)(hi:i<l.length)(hx:∀d,l.getD i d=x) :
  ∃e s,runC Tryz.prog HH M42 [(0,.sl (l.map Fixt.v)),(3,.sl (out.map Fixt.v)),(4,.int .i64 i)] (stN g 0)=some (.normal,e,s)∧Sha.look e 0=some (.sl (l.map Fixt.v))∧Sha.look e 4=some (.int .i64 i)∧Sha.look e 3=some (.osl 1 (insB kChan out x).length)∧snapA s (.osl 1 (insB kChan out x).length)=some (.sl ((insB kChan out x).map Fixt.v))∧Weak 0 s (stN g 0):=by
 have i1:(i:Int)<l.length:=by omega
 have hL:=L42_0 (g:=g) (n:=0) (l:=l) (out:=out) (i:=i) hi hx (by omega) _ 0 rfl
 rw[List.drop_zero,Nat.zero_add]at hL
 rw[insB_len,insB]
 have hAB:=List.takeWhile_append_dropWhile (p:=fun y=>decide (ltK kChan y x)) (l:=out)
 generalize out.takeWhile (fun y=>decide (ltK kChan y x))=A at *
 generalize out.dropWhile (fun y=>decide (ltK kChan y x))=B at *
 subst hAB
 rw[List.length_append]at ho
 have r1:roomV (1+B.length) 72=true:=roomV_lit (by omega) (by omega)
 have r2:roomV A.length 72=true:=roomV_lit (by omega) (by omega)
 have r3:roomV (A.length+(1+B.length)) 72=true:=roomV_lit (by omega) (by omega)
 have a1:(A.length:Int)≤A.length+B.length:=by omega
 generalize hz:runC Tryz.prog HH M42 _ _=z
 rw[M42]at hz
 push_cast[Fixt.v,List.length_append]at hL
 have m1:∀(st:St) (l:List Fixt),mapO (snapA st) (l.map Fixt.v)=some (l.map Fixt.v):=fun st l=>mapO_map fun x=>rfl
 have f1:List.drop A.length (List.take (A.length+B.length) (A++B))=B:=by rw[List.take_of_length_le (by simp),List.drop_left]
 have f2:List.take A.length (A++B)=A:=List.take_left
 push_cast[Fixt.v]at m1
 have eB:(B.length+1=1+B.length)=True:=eq_true (by omega)
 push_cast[hL,i1,hx,r1,r2,r3,a1,m1,f1,f2,Fixt.v,List.length_append,mapO_map]at hz
 have hz:=(dn_eq ⟨by rw[List.all_eq_true];exact fun _ _=>rfl,by rw[List.all_eq_true];exact fun _ _=>rfl⟩ rfl).symm.trans hz
 push_cast[r3,m1,eB,mapO_map]at hz
 have r4:roomV (A.length+(B.length+1)) 72=true:=roomV_lit (by omega) (by omega)
 have hz:=(dn_eq ⟨by rw[List.all_eq_true];exact fun _ _=>rfl,r4⟩ rfl).symm.trans hz
 subst hz
 refine⟨_,_,rfl,rfl,rfl,by rw[List.length_append];rfl,?_,cutS_weak rfl⟩
 rw[List.length_append]
 simp[snapA_osl,Sha.look,snapO,Nat.add_assoc]
def pre54:Cd:=.g [.s 2 (.mv (.c .nils))] (.g [.s 3 (.mv (.c .nils))] .skip)
def end54:Cd:=.g [.m 58 3,.m 2 58] (.ret [2])
theorem F42':compF Tryz.prog 42=some ⟨59,[.tmp 2],pre54.put (.join [3] (.seq (.reg [.c 4 0]) (.block 0 (.loop [0,3,4] [] B42_1))) end54)⟩:=F42
theorem v42 (hH:ESound Tryz.prog HH){l:List Fixt}(hl:l.length≤1000){st:St}:VCalls Tryz.prog 42 [.sl (l.map Fixt.v)] st fun y s=>y=.ret (.sl ((byK kChan l).map Fixt.v))∧s=st:=by
 refine VCalls_shutW (by simp) (VCalls_WD F42' (Nat.le_of_ble_eq_true rfl) fun N=>?_)
 show WD _ ⟨N,[]⟩ (pre54.put _) (argEnv 0 [.sl (l.map Fixt.v)]) (stN st.x.gl 0) _
 obtain⟨e0,hr0,q0,q3⟩:∃e,runC Tryz.prog HH pre54 (argEnv 0 [.sl (l.map Fixt.v)]) (stN st.x.gl 0)=some (.normal,e,stN st.x.gl 0)∧Sha.look e 0=some (.sl (l.map Fixt.v))∧Sha.look e 3=some .nils:=by
  generalize hz:runC Tryz.prog HH pre54 _ _=z
  rw[pre54]at hz
  push_cast at hz
  subst hz
  exact⟨_,rfl,rfl,rfl⟩
 refine WD.run mixed hH hr0 ?_
 show WD _ _ (.join [3] _ end54) _ _ _
 refine WD.snapE (i:=3) (v':=.sl []) q3 rfl ?_
 refine WD.sub (env':=[(0,.sl (l.map Fixt.v)),(3,.sl ([]:List V))]) (fun i v hv=>?_) ?_
 ·simp only[Sha.look]at hv
  (repeat' split at hv)<;>first|(cases hv;done)|(rename_i e;subst e;cases hv;simp[Sha.look];try assumption)
 refine WD.join (WD.seq (WD.ev mixed hH (x:=.normal) (e:=[(4,.int .i64 0),(0,.sl (l.map Fixt.v)),(3,.sl ([]:List V))]) (s:=stN st.x.gl 0) (by push_cast) ?_))
 show WD _ _ (.block 0 (.loop [0,3,4] [] B42_1)) _ _ _
 refine WD.block (WD.loop (fun m e s=>∃j,m+j=l.length∧e=[(0,.sl (l.map Fixt.v)),(3,.sl ((byK kChan (l.take j)).map Fixt.v)),(4,.int .i64 j)]∧s=stN st.x.gl 0∧(byK kChan (l.take j)).length=j) 0 (Nat.le_refl _) (fun m e s ⟨j,_,_,hs,_⟩=>by rw[hs];rfl) ?_ ?_)
 ·refine⟨l.length,_,_,⟨0,rfl,rfl,rfl,rfl⟩,fun i v hv=>?_,cutS_weak (n:=0) (st:=stN st.x.gl 0) rfl⟩
  simp only[Sha.look]at hv
  (repeat' split at hv)<;>first|(cases hv;done)|(rename_i e;subst e;cases hv;exact⟨by simp[V.bd,bdL_map',V.bdL,byK],rfl⟩)
 ·rintro m e s ⟨j,hm,rfl,rfl,hlen⟩
  rw[B54_eq]
  by_cases hj:j<l.length
  ·have h1:(j:Int)<l.length:=by omega
   refine WD.run mixed hH (x:=.normal) (e:=[(0,.sl (l.map Fixt.v)),(3,.sl ((byK kChan (l.take j)).map Fixt.v)),(4,.int .i64 j)]) (s:=stN st.x.gl 0) (by rw[A54];push_cast[h1]) ?_
   show WD _ _ (.join [0,3,4] M42 I54) _ _ _
   have hx:∀d,l.getD j d=l[j]:=fun d=>by rw[List.getD_eq_getElem?_getD,List.getElem?_eq_getElem hj];rfl
   obtain⟨e1,s1,hr1,u0,u4,u3,us,uw⟩:=mid54 (g:=st.x.gl) (l:=l) (out:=byK kChan (l.take j)) hl (by omega) hj hx
   have hb:insB kChan (byK kChan (l.take j)) l[j]=byK kChan (l.take (j+1)):=by
    rw[byK,byK,List.take_succ_eq_append_getElem hj,List.foldl_append];rfl
   rw[hb]at u3 us
   have hbl:(byK kChan (l.take (j+1))).length=j+1:=by rw[←hb,insB_len,hlen]
   generalize ho':byK kChan (l.take (j+1))=out' at *
   refine WD.join (WD.ev mixed hH hr1 ?_)
   show WD _ _ I54 (restr [0,3,4] e1) s1 _
   rw[show restr [0,3,4] e1=[(0,.sl (l.map Fixt.v)),(3,.osl 1 out'.length),(4,.int .i64 j)] by simp[restr,u0,u3,u4]]
   refine WD.snapE (i:=3) rfl us ?_
   have hw:=iw1 (j:=j) (by omega)
   refine WD.ev mixed hH (x:=.normal) (e:=[(4,.int .i64 (j+1:Nat)),(12,.int .i64 (j+1:Nat)),(11,.int .i64 j),(3,.sl (out'.map Fixt.v)),(0,.sl (l.map Fixt.v)),(3,.osl 1 out'.length),(4,.int .i64 j)]) (s:=s1) (by rw[I54];push_cast[hw]) ?_
   refine⟨m-1,[(0,.sl (l.map Fixt.v)),(3,.sl (out'.map Fixt.v)),(4,.int .i64 (j+1:Nat))],stN st.x.gl 0,by omega,⟨j+1,by omega,by rw[ho'],rfl,by rw[ho'];exact hbl⟩,fun i v hv=>?_,uw⟩
   simp only[Sha.look]at hv
   (repeat' split at hv)<;>first|(cases hv;done)|(rename_i e;subst e;cases hv;exact⟨by simp[V.bd,bdL_map',V.bdL],rfl⟩)
  ·have h1:¬(j:Int)<l.length:=by omega
   have ej:j=l.length:=by omega
   refine WD.run mixed hH (x:=.exit 0) (e:=[(3,.sl ((byK kChan (l.take j)).map Fixt.v))]) (s:=stN st.x.gl 0) (by rw[A54];push_cast[h1]) ?_
   refine(show ∀(K1 K2:Env→St→Prop) (Q1:Post) e s,Q1 .normal e s→seqPost K1 (seqPost K2 (blockPost 0 Q1)) (.exit 0) e s from fun K1 K2 Q1 e s h=>by simp only[seqPost,blockPost,if_true];exact h) _ _ _ _ _ ?_
   show WD _ _ end54 [(3,.sl ((byK kChan (l.take j)).map Fixt.v))] (stN st.x.gl 0) _
   rw[ej,List.take_length]
   refine WD.ev mixed hH (x:=.ret) (e:=[(2,.sl ((byK kChan l).map Fixt.v))]) (s:=stN st.x.gl 0) (by rw[end54];push_cast) ⟨.ret (.sl ((byK kChan l).map Fixt.v)),stN st.x.gl 0,rfl,?_⟩
   push_cast[Fixt.v]
theorem L47_0 {l out:List Fixt}{x:Fixt}{i:Nat}(hi:i<l.length)(hx0:∀d,l.getD i d=x)(hl:out.length<1000):∀r j,out.drop j=r →
  runL Tryz.prog HH [0,3,4,5] n B47_0 [(0,.sl (l.map Fixt.v)),(3,.sl (out.map Fixt.v)),(4,.int .i64 i),(5,.int .i64 j)] (stN g n)
   = some (.exit 2,[(0,.sl (l.map Fixt.v)),(3,.sl (out.map Fixt.v)),(4,.int .i64 i),(5,.int .i64 (j+(r.takeWhile fun y=>decide (ltK kAddr y x)).length:Nat))],stN g n):=by
 have i1:(i:Int)<l.length:=by omega
 refine drop_ind (fun j h=>?_) (fun q r j h hx hd ih=>?_)
 all_goals rw[runL_of B47_0.eq_1]
 ·have h1:¬(j:Int)<out.length:=by omega
  push_cast[h1,List.takeWhile_nil,List.length_nil,Nat.add_zero,Fixt.v]
 ·have h1:(j:Int)<out.length:=by omega
  have hw:=iw1 (j:=j) (by omega)
  have h2:decide (q.univ<x.univ∨q.univ=x.univ∧q.addr<x.addr)=decide (ltK kAddr q x):=rfl
  have e1:=fun(st:St)=>f90 (a:=q.univ) (b:=q.addr) (c:=x.univ) (d:=x.addr) (st:=st)
  rw[h2]at e1
  by_cases h3:ltK kAddr q x
  ·rw[List.takeWhile_cons_of_pos (by simpa using h3)]
   rw[show j+(q::r.takeWhile fun y=>decide (ltK kAddr y x)).length=j+1+(r.takeWhile fun y=>decide (ltK kAddr y x)).length by rw[List.length_cons];omega]
   rw[decide_eq_true h3]at e1
   push_cast[h1,hw,hx,hx0,i1,e1,Fixt.v]at ih ⊢
   exact ih
  ·rw[List.takeWhile_cons_of_neg (by simpa using h3),List.length_nil,Nat.add_zero]
   rw[decide_eq_false h3]at e1
   clear ih
   push_cast[h1,hx,hx0,i1,e1,Fixt.v]
def A71:Cd:=.join [0,3,4] (.g [.m 7 4,.m 8 0,.u 9 8,.b 10 .lss 7 9] (.i 10 .skip (.exit [3] 0))) .skip
def M47 : Cd := .block 1 (.g [.c 5 0]
 (.join [0, 3, 4, 5] (.block 2 (.loop [0, 3, 4, 5] [] B47_0))
 (.join [0, 3, 4, 5, 6] (.greg [[], [], [], [], [false, false, false, false], [true], [true], [true], [false, false, false, false, false, false, false, false], []] [.m 42 0, .m 43 4, .r 44 7 42 43, .d 45 7 44, .s 46 (.bslice 81 7 [.t 45]), .m 47 3, .m 48 5, .s 49 (.slice 7 (.t 47) (some (.t 48)) none none), .s 50 (.append 81 7 72 (.t 46) (.t 49)), .m 6 50])
 (.reg [.s 51 (.bslice 81 7 []), .m 52 3, .m 53 5, .s 54 (.slice 7 (.t 52) none (some (.t 53)) none), .s 55 (.append 81 7 72 (.t 51) (.t 54)), .m 56 6, .s 57 (.append 81 7 72 (.t 55) (.t 56)), .m 3 57]))))
def I71:Cd:=.reg [.m 11 4,.v 12 .add 11 1,.m 4 12]
theorem B71_eq:B47_1=A71.put (.join [0,3,4] M47 I71):=rfl
theorem mid71 {l out:List Fixt}{i:Nat}{x:Fixt}(hl:l.length≤1000)(ho:out.length≤i)(hi:i<l.length)(hx:∀d,l.getD i d=x) :
  ∃e s,runC Tryz.prog HH M47 [(0,.sl (l.map Fixt.v)),(3,.sl (out.map Fixt.v)),(4,.int .i64 i)] (stN g 0)=some (.normal,e,s)∧Sha.look e 0=some (.sl (l.map Fixt.v))∧Sha.look e 4=some (.int .i64 i)∧Sha.look e 3=some (.osl 1 (insB kAddr out x).length)∧snapA s (.osl 1 (insB kAddr out x).length)=some (.sl ((insB kAddr out x).map Fixt.v))∧Weak 0 s (stN g 0):=by
 have i1:(i:Int)<l.length:=by omega
 have hL:=L47_0 (g:=g) (n:=0) (l:=l) (out:=out) (i:=i) hi hx (by omega) _ 0 rfl
 rw[List.drop_zero,Nat.zero_add]at hL
 rw[insB_len,insB]
 have hAB:=List.takeWhile_append_dropWhile (p:=fun y=>decide (ltK kAddr y x)) (l:=out)
 generalize out.takeWhile (fun y=>decide (ltK kAddr y x))=A at *
 generalize out.dropWhile (fun y=>decide (ltK kAddr y x))=B at *
 subst hAB
 rw[List.length_append]at ho
 have r1:roomV (1+B.length) 72=true:=roomV_lit (by omega) (by omega)
 have r2:roomV A.length 72=true:=roomV_lit (by omega) (by omega)
 have r3:roomV (A.length+(1+B.length)) 72=true:=roomV_lit (by omega) (by omega)
 have a1:(A.length:Int)≤A.length+B.length:=by omega
 generalize hz:runC Tryz.prog HH M47 _ _=z
 rw[M47]at hz
 push_cast[Fixt.v,List.length_append]at hL
 have m1:∀(st:St) (l:List Fixt),mapO (snapA st) (l.map Fixt.v)=some (l.map Fixt.v):=fun st l=>mapO_map fun x=>rfl
 have f1:List.drop A.length (List.take (A.length+B.length) (A++B))=B:=by rw[List.take_of_length_le (by simp),List.drop_left]
 have f2:List.take A.length (A++B)=A:=List.take_left
 push_cast[Fixt.v]at m1
 have eB:(B.length+1=1+B.length)=True:=eq_true (by omega)
 push_cast[hL,i1,hx,r1,r2,r3,a1,m1,f1,f2,Fixt.v,List.length_append,mapO_map]at hz
 have hz:=(dn_eq ⟨by rw[List.all_eq_true];exact fun _ _=>rfl,by rw[List.all_eq_true];exact fun _ _=>rfl⟩ rfl).symm.trans hz
 push_cast[r3,m1,eB,mapO_map]at hz
 have r4:roomV (A.length+(B.length+1)) 72=true:=roomV_lit (by omega) (by omega)
 have hz:=(dn_eq ⟨by rw[List.all_eq_true];exact fun _ _=>rfl,r4⟩ rfl).symm.trans hz
 subst hz
 refine⟨_,_,rfl,rfl,rfl,by rw[List.length_append];rfl,?_,cutS_weak rfl⟩
 rw[List.length_append]
 simp[snapA_osl,Sha.look,snapO,Nat.add_assoc]
def pre71:Cd:=.g [.s 2 (.mv (.c .nils))] (.g [.s 3 (.mv (.c .nils))] .skip)
def end71:Cd:=.g [.m 58 3,.m 2 58] (.ret [2])
theorem F47':compF Tryz.prog 47=some ⟨59,[.tmp 2],pre71.put (.join [3] (.seq (.reg [.c 4 0]) (.block 0 (.loop [0,3,4] [] B47_1))) end71)⟩:=F47
theorem v47 (hH:ESound Tryz.prog HH){l:List Fixt}(hl:l.length≤1000){st:St}:VCalls Tryz.prog 47 [.sl (l.map Fixt.v)] st fun y s=>y=.ret (.sl ((byK kAddr l).map Fixt.v))∧s=st:=by
 refine VCalls_shutW (by simp) (VCalls_WD F47' (Nat.le_of_ble_eq_true rfl) fun N=>?_)
 show WD _ ⟨N,[]⟩ (pre71.put _) (argEnv 0 [.sl (l.map Fixt.v)]) (stN st.x.gl 0) _
 obtain⟨e0,hr0,q0,q3⟩:∃e,runC Tryz.prog HH pre71 (argEnv 0 [.sl (l.map Fixt.v)]) (stN st.x.gl 0)=some (.normal,e,stN st.x.gl 0)∧Sha.look e 0=some (.sl (l.map Fixt.v))∧Sha.look e 3=some .nils:=by
  generalize hz:runC Tryz.prog HH pre71 _ _=z
  rw[pre71]at hz
  push_cast at hz
  subst hz
  exact⟨_,rfl,rfl,rfl⟩
 refine WD.run mixed hH hr0 ?_
 show WD _ _ (.join [3] _ end71) _ _ _
 refine WD.snapE (i:=3) (v':=.sl []) q3 rfl ?_
 refine WD.sub (env':=[(0,.sl (l.map Fixt.v)),(3,.sl ([]:List V))]) (fun i v hv=>?_) ?_
 ·simp only[Sha.look]at hv
  (repeat' split at hv)<;>first|(cases hv;done)|(rename_i e;subst e;cases hv;simp[Sha.look];try assumption)
 refine WD.join (WD.seq (WD.ev mixed hH (x:=.normal) (e:=[(4,.int .i64 0),(0,.sl (l.map Fixt.v)),(3,.sl ([]:List V))]) (s:=stN st.x.gl 0) (by push_cast) ?_))
 show WD _ _ (.block 0 (.loop [0,3,4] [] B47_1)) _ _ _
 refine WD.block (WD.loop (fun m e s=>∃j,m+j=l.length∧e=[(0,.sl (l.map Fixt.v)),(3,.sl ((byK kAddr (l.take j)).map Fixt.v)),(4,.int .i64 j)]∧s=stN st.x.gl 0∧(byK kAddr (l.take j)).length=j) 0 (Nat.le_refl _) (fun m e s ⟨j,_,_,hs,_⟩=>by rw[hs];rfl) ?_ ?_)
 ·refine⟨l.length,_,_,⟨0,rfl,rfl,rfl,rfl⟩,fun i v hv=>?_,cutS_weak (n:=0) (st:=stN st.x.gl 0) rfl⟩
  simp only[Sha.look]at hv
  (repeat' split at hv)<;>first|(cases hv;done)|(rename_i e;subst e;cases hv;exact⟨by simp[V.bd,bdL_map',V.bdL,byK],rfl⟩)
 ·rintro m e s ⟨j,hm,rfl,rfl,hlen⟩
  rw[B71_eq]
  by_cases hj:j<l.length
  ·have h1:(j:Int)<l.length:=by omega
   refine WD.run mixed hH (x:=.normal) (e:=[(0,.sl (l.map Fixt.v)),(3,.sl ((byK kAddr (l.take j)).map Fixt.v)),(4,.int .i64 j)]) (s:=stN st.x.gl 0) (by rw[A71];push_cast[h1]) ?_
   show WD _ _ (.join [0,3,4] M47 I71) _ _ _
   have hx:∀d,l.getD j d=l[j]:=fun d=>by rw[List.getD_eq_getElem?_getD,List.getElem?_eq_getElem hj];rfl
   obtain⟨e1,s1,hr1,u0,u4,u3,us,uw⟩:=mid71 (g:=st.x.gl) (l:=l) (out:=byK kAddr (l.take j)) hl (by omega) hj hx
   have hb:insB kAddr (byK kAddr (l.take j)) l[j]=byK kAddr (l.take (j+1)):=by
    rw[byK,byK,List.take_succ_eq_append_getElem hj,List.foldl_append];rfl
   rw[hb]at u3 us
   have hbl:(byK kAddr (l.take (j+1))).length=j+1:=by rw[←hb,insB_len,hlen]
   generalize ho':byK kAddr (l.take (j+1))=out' at *
   refine WD.join (WD.ev mixed hH hr1 ?_)
   show WD _ _ I71 (restr [0,3,4] e1) s1 _
   rw[show restr [0,3,4] e1=[(0,.sl (l.map Fixt.v)),(3,.osl 1 out'.length),(4,.int .i64 j)] by simp[restr,u0,u3,u4]]
   refine WD.snapE (i:=3) rfl us ?_
   have hw:=iw1 (j:=j) (by omega)
   refine WD.ev mixed hH (x:=.normal) (e:=[(4,.int .i64 (j+1:Nat)),(12,.int .i64 (j+1:Nat)),(11,.int .i64 j),(3,.sl (out'.map Fixt.v)),(0,.sl (l.map Fixt.v)),(3,.osl 1 out'.length),(4,.int .i64 j)]) (s:=s1) (by rw[I71];push_cast[hw]) ?_
   refine⟨m-1,[(0,.sl (l.map Fixt.v)),(3,.sl (out'.map Fixt.v)),(4,.int .i64 (j+1:Nat))],stN st.x.gl 0,by omega,⟨j+1,by omega,by rw[ho'],rfl,by rw[ho'];exact hbl⟩,fun i v hv=>?_,uw⟩
   simp only[Sha.look]at hv
   (repeat' split at hv)<;>first|(cases hv;done)|(rename_i e;subst e;cases hv;exact⟨by simp[V.bd,bdL_map',V.bdL],rfl⟩)
  ·have h1:¬(j:Int)<l.length:=by omega
   have ej:j=l.length:=by omega
   refine WD.run mixed hH (x:=.exit 0) (e:=[(3,.sl ((byK kAddr (l.take j)).map Fixt.v))]) (s:=stN st.x.gl 0) (by rw[A71];push_cast[h1]) ?_
   refine(show ∀(K1 K2:Env→St→Prop) (Q1:Post) e s,Q1 .normal e s→seqPost K1 (seqPost K2 (blockPost 0 Q1)) (.exit 0) e s from fun K1 K2 Q1 e s h=>by simp only[seqPost,blockPost,if_true];exact h) _ _ _ _ _ ?_
   show WD _ _ end71 [(3,.sl ((byK kAddr (l.take j)).map Fixt.v))] (stN st.x.gl 0) _
   rw[ej,List.take_length]
   refine WD.ev mixed hH (x:=.ret) (e:=[(2,.sl ((byK kAddr l).map Fixt.v))]) (s:=stN st.x.gl 0) (by rw[end71];push_cast) ⟨.ret (.sl ((byK kAddr l).map Fixt.v)),stN st.x.gl 0,rfl,?_⟩
   push_cast[Fixt.v]
end Go.Proofs.YtdkokbhcjmapdaaGreatDoor

namespace Go.Proofs.YtdkokbhcjmapdaaGreatDoor
open Go.Sha
set_option maxRecDepth 100000
variable {g:List (Nat×Obj)}{n:Nat}{s:Sho}
theorem insB_cons {key:Fixt→Int×Int}{y x:Fixt}{r:List Fixt}:insB key (y::r) x=if ltK key y x then y::insB key r x else x::y::r:=by
 unfold insB
 by_cases h:ltK key y x
 ·rw[if_pos h,List.takeWhile_cons_of_pos (by simpa using h),List.dropWhile_cons_of_pos (by simpa using h)];rfl
 ·rw[if_neg h,List.takeWhile_cons_of_neg (by simpa using h),List.dropWhile_cons_of_neg (by simpa using h)];rfl
theorem insB_perm {key:Fixt→Int×Int}{x:Fixt}{out:List Fixt}:(insB key out x).Perm (x::out):=by
 refine List.perm_middle.trans ?_
 rw[List.takeWhile_append_dropWhile]
theorem ltK_tr {key:Fixt→Int×Int}{x y z:Fixt}(h1:ltK key x y)(h2:ltK key y z):ltK key x z:=by unfold ltK at *;omega
theorem ltK_tri {key:Fixt→Int×Int}{x y:Fixt}(h:¬ltK key y x)(hk:key y≠key x):ltK key x y:=by
 have:¬((key y).1=(key x).1∧(key y).2=(key x).2):=fun e=>hk (Prod.ext e.1 e.2)
 unfold ltK at *;omega
theorem insB_sorted {key:Fixt→Int×Int}{x:Fixt}:∀{out:List Fixt},out.Pairwise (ltK key)→(∀y∈out,key y≠key x)→(insB key out x).Pairwise (ltK key)
 |[],_,_=>List.pairwise_singleton ..
 |y::r,h,hx=>by
  obtain⟨h1,h2⟩:=List.pairwise_cons.1 h
  rw[insB_cons]
  split
  ·rename_i hl
   refine List.pairwise_cons.2 ⟨fun z hz=>?_,insB_sorted h2 fun z hz=>hx z (List.mem_cons_of_mem _ hz)⟩
   rcases List.mem_cons.1 (insB_perm.mem_iff.1 hz) with rfl|hz
   ·exact hl
   ·exact h1 z hz
  ·rename_i hl
   have hxy:=ltK_tri hl (hx y (List.mem_cons_self ..))
   refine List.pairwise_cons.2 ⟨fun z hz=>?_,h⟩
   rcases List.mem_cons.1 hz with rfl|hz
   ·exact hxy
   ·exact ltK_tr hxy (h1 z hz)
theorem byK_fold {key:Fixt→Int×Int}:∀{l o:List Fixt},o.Pairwise (ltK key)→(o++l).Pairwise (fun x y=>key x≠key y)→(l.foldl (insB key) o).Pairwise (ltK key)∧(l.foldl (insB key) o).Perm (o++l)
 |[],o,h,_=>⟨h,by simp⟩
 |x::l,o,h,hd=>by
  have hp:(insB key o x++l).Perm (o++x::l):=(insB_perm.append_right l).trans (List.perm_middle.symm)
  have h1:=insB_sorted (x:=x) h fun y hy=>by
   have:=(List.pairwise_append.1 hd).2.2 y hy x (List.mem_cons_self ..)
   exact this
  obtain⟨a,b⟩:=byK_fold (l:=l) (o:=insB key o x) h1 ((hp.pairwise_iff fun {a b} h=>Ne.symm h).2 hd)
  exact⟨a,b.trans hp⟩
theorem byK_eq {key:Fixt→Int×Int}{l:List Fixt}(h:l.Pairwise fun x y=>key x≠key y):byK key l=isort (ltK key) l:=by
 obtain⟨a,b⟩:=byK_fold (key:=key) (l:=l) (o:=[]) List.Pairwise.nil (by simpa using h)
 have hp:=isort_perm (lt:=ltK key) (l:=l)
 have h1:(isort (ltK key) l).Pairwise (fun x y=>¬ltK key y x):=isort_sorted ltK_trans ltK_asym
 have h2:=(hp.pairwise_iff fun {a b} h=>Ne.symm h).2 h
 have h3:(isort (ltK key) l).Pairwise (ltK key):=(h1.and h2).imp fun {a b} h=>ltK_tri h.1 (fun e=>h.2 e.symm)
 rw[List.nil_append]at b
 exact List.Perm.eq_of_pairwise (le:=ltK key) (fun a b _ _ h1 h2=>absurd h2 (ltK_asym a b h1)) a h3 (b.trans hp.symm)
theorem fixR_dif {ps:List Prof}{l:List Fixt}:∀{r:List Fixt}{j:Nat},l.drop j=r→fixR ps l r j=0→(l.take j).Pairwise (fun x y=>kChan x≠kChan y)→l.Pairwise fun x y=>kChan x≠kChan y
 |[],j,hd,_,hp=>by
  have:=List.drop_eq_nil_iff.1 hd
  rwa [List.take_of_length_le this]at hp
 |q::r,j,hd,h,hp=>by
  rw[fixR]at h
  repeat' split at h
  all_goals first|(rename_i a;exact absurd h a)|cases h|skip
  rename_i a1 a2 a3
  refine fixR_dif (r:=r) (j:=j+1) (by rw[←List.drop_drop,hd];rfl) h ?_
  rw[take_snoc hd]
  refine List.pairwise_append.2 ⟨hp,by simp,fun x hx y hy=>?_⟩
  rw[List.mem_singleton.1 hy]
  intro he
  refine a2 (List.any_eq_true.2 ⟨x,hx,?_⟩)
  simp only[kChan,Prod.mk.injEq]at he
  simp[he]
theorem chan_dif (hs:shoC s=0):s.fixts.Pairwise fun x y=>kChan x≠kChan y:=by
 obtain⟨_,_,h3,h4⟩:=fix_ok (shoC_parts hs).2.2.2.1
 exact fixR_dif (j:=0) rfl h3 (by simp)
def memG:List Nat:=[41,43,44,48]
open Classical in
noncomputable def HG (s:Sho):EvF:=⟨HH.raw,fun f args st=>bif Nat.beq f 42 then(if args=[.sl (s.fixts.map Fixt.v)]∧s.fixts.length≤64 then some (.ret (.sl ((byK kChan s.fixts).map Fixt.v)),st) else none) else
 bif Nat.beq f 47 then(if args=[.sl (s.fixts.map Fixt.v)]∧s.fixts.length≤64 then some (.ret (.sl ((byK kAddr s.fixts).map Fixt.v)),st) else none) else bif memL f memG then run Tryz.prog HH f args st else none⟩
@[push_cast]theorem HG_raw:(HG s).raw=[126,80,155,215,216,292,348]:=idq rfl
theorem upG {k:Nat}{args:List V}{st:St}{r:VRes×St}(h:run Tryz.prog HH k args st=some r)(h1:Nat.beq k 42=false:=by rfl)(h2:Nat.beq k 47=false:=by rfl)(h3:memL k memG=true:=by rfl):run Tryz.prog (HG s) k args st=some r:=by
 refine run_H ?_
 simp only[HG,h1,h2,h3,cond_false,cond_true,h]
theorem g42 (hl:s.fixts.length≤64){st:St}:run Tryz.prog (HG s) 42 [.sl (s.fixts.map Fixt.v)] st=some (.ret (.sl ((byK kChan s.fixts).map Fixt.v)),st):=by
 refine run_H ?_
 simp only[HG,show Nat.beq 42 42=true from rfl,cond_true]
 rw[if_pos ⟨trivial,hl⟩]
theorem HG_ok (h1:ESound Tryz.prog HH):ESound Tryz.prog (HG s):=fun f args st r z e=>by
 simp only[HG]at e
 cases hi:Nat.beq f 42 with
 |true =>
  rw[hi,cond_true]at e
  have:=Nat.eq_of_beq_eq_true hi
  subst this
  split at e
  ·rename_i ha
   obtain⟨rfl,hl⟩:=ha
   cases e
   exact v42 h1 (by omega)
  ·cases e
 |false =>
  rw[hi,cond_false]at e
  cases hi:Nat.beq f 47 with
  |true =>
   rw[hi,cond_true]at e
   have:=Nat.eq_of_beq_eq_true hi
   subst this
   split at e
   ·rename_i ha
    obtain⟨rfl,hl⟩:=ha
    cases e
    exact v47 h1 (by omega)
   ·cases e
  |false =>
   rw[hi,cond_false]at e
   cases hi:memL f memG with
   |true=>rw[hi]at e;exact run_sound mixed h1 _ _ _ _ _ e
   |false=>rw[hi]at e;cases e
theorem f43 {x:Fixt}(hr:rngC x=0){st:St}:run Tryz.prog HH 43 [x.v] st=some (.ret (.str (unitT x)),st):=by
 obtain⟨r1,r2,r3,r4,r5,r6,r7,r8,r9,r10⟩:=rng_ok hr
 have e1:=fun(st:St)=>f44 (m:=x.chan) (st:=st) (by omega) (by omega)
 have e2:=fun(st:St)=>f44 (m:=x.part) (st:=st) (by omega) (by omega)
 have l1:=Lib.itoa_length_le x.chan (by omega) (by omega)
 have l2:=Lib.itoa_length_le x.part (by omega) (by omega)
 unfold unitT
 rw[run_shut F43 rfl rfl (by simp)]
 by_cases h:x.part=1
 ·push_cast[Fixt.v,h,e1]
 ·push_cast[Fixt.v,h,e1,e2,List.append_assoc,List.singleton_append]
  first|done|exact dn_eq (by first|omega|(simp;omega)) rfl
theorem L10 {l:List Fixt}(hl:l.length<1000)(hA:∀x∈l,rngC x=0):∀r j,l.drop j=r→∀tab:List Row,tab.length≤j+1 →
  runL Tryz.prog (HG s) [5,6,7] 3 B10_0 [(5,.osl 2 tab.length),(6,.sl (l.map Fixt.v)),(7,.int .i64 j)] (stTH g tab)
   = some (.exit 0,[(5,.osl 2 (tab++r.map rowH).length)],stTH g (tab++r.map rowH)):=by
 refine drop_ind (fun j h tab hc=>?_) (fun q r j hj hx hd ih tab hc=>?_)
 all_goals rw[runL_of B10_0.eq_1]
 ·have h1:¬(j:Int)<l.length:=by omega
  push_cast[h1,List.map_nil,List.append_nil]
 ·have h1:(j:Int)<l.length:=by omega
  have hw:=iw1 (j:=j) (by omega)
  have hr:=hA q (mem_at hd)
  obtain⟨r1,r2,r3,r4,r5,r6,r7,r8,r9,r10⟩:=rng_ok hr
  have e1:=fun(st:St)=>upG (s:=s) (f44 (m:=q.univ) (st:=st) (by omega) (by omega))
  have e2:=fun(st:St)=>upG (s:=s) (f44 (m:=q.addr) (st:=st) (by omega) (by omega))
  have e3:=fun(st:St)=>upG (s:=s) (f44 (m:=q.phase) (st:=st) (by omega) (by omega))
  have e4:=fun(st:St)=>upG (s:=s) (f43 (x:=q) (st:=st) hr)
  have hro:roomV (tab.length+1) 24=true:=roomV_lit (by omega) (by omega)
  have ih:=ih (tab++[rowH q]) (by simp;omega)
  rw[List.map_cons]
  generalize hR:rowH q=R at *
  rw[rowH]at hR
  subst hR
  push_cast[Fixt.v,List.map_nil,List.length_nil]at ih e4
  push_cast[h1,hw,hx,e1,e2,e3,e4,hro,Fixt.v,List.map_nil,List.length_nil,List.map_append,List.map_cons,List.append_assoc,List.singleton_append,rowV]at ih ⊢
  first|exact ih|exact dn_eq (by omega) ih
theorem f10 (h:s.ok){st:St}:run Tryz.prog (HG s) 10 [s.v] st=some (.ret (.tup [.sl ((hupT s).map rowV),.int .i64 (shoC s)]),st):=by
 have h1:=fun st=>upG (s:=s) (f41 (st:=st) h)
 rw[run_shut F10 rfl rfl (by simp)]
 by_cases hs:shoC s=0
 ·have hp:=isort_perm (lt:=ltK kChan) (l:=s.fixts)
  have hlen:(isort (ltK kChan) s.fixts).length=s.fixts.length:=isort_len
  have hF:=(fix_ok (shoC_parts hs).2.2.2.1).2.1
  have h2:=fun st=>g42 (s:=s) hF (st:=st)
  have hL1:=L10 (g:=st.x.gl) (s:=s) (l:=isort (ltK kChan) s.fixts) (by omega) (fun x hx=>(aloC_ok ((fix_ok (shoC_parts hs).2.2.2.1).2.2.2 x (hp.mem_iff.1 hx))).1) _ 0 rfl [hdH] (Nat.le_refl _)
  rw[byK_eq (chan_dif hs)]at h2
  rw[List.drop_zero,hdH]at hL1
  rw[hupT,if_pos hs]
  generalize isort (ltK kChan) s.fixts=so at *
  push_cast[Sho.v,Fixt.v,rowV,List.map_cons,List.map_nil,List.length_cons,List.length_nil,List.singleton_append]at hL1 h1 h2
  push_cast[Sho.v,Fixt.v,hL1,h1,h2,hs,hdH,rowV,List.map_cons,List.map_nil,List.length_cons,List.length_nil,List.singleton_append]
 ·push_cast[Sho.v]at h1
  push_cast[Sho.v,h1,hs,hupT]
end Go.Proofs.YtdkokbhcjmapdaaGreatDoor

namespace Go.Proofs.YtdkokbhcjmapdaaGreatDoor
open Go.Sha
set_option maxRecDepth 100000
end Go.Proofs.YtdkokbhcjmapdaaGreatDoor

namespace Go.Proofs.YtdkokbhcjmapdaaGreatDoor
open Go.Sha
set_option maxRecDepth 100000
variable {g:List (Nat×Obj)}{n:Nat}
theorem f107n {l:List Fixt}{ps:List Prof}(h1:12<l.length)(h2:l.length≤64){st:St}:run Tryz.prog HH 19 [.sl (l.map Fixt.v),.sl (ps.map Prof.v)] st=some (.ret (.bool false),st):=by
 have a1:(12:Int)<l.length:=by omega
 have a2:(l.length:Int)≤64:=by omega
 rw[run_shut F19 rfl rfl (by simp)]
 push_cast[a1,a2]
theorem f52n {x:Sho}(h:x.ok)(h1:12<x.fixts.length)(h2:x.fixts.length≤64){st:St}:run Tryz.prog HH 5 [x.v] st=some (.ret (.bool false),st):=by
 obtain⟨b1,h1'⟩:=f18 h.c.1
 have h2':=fun(st:St)=>f107n (ps:=x.profs) (st:=st) h1 h2
 obtain⟨b3,h3⟩:=f20 h.g.1
 obtain⟨b4,h4⟩:=f21 h.l.1
 obtain⟨b5,h5⟩:=f22 h.s.1
 obtain⟨b6,h6⟩:=f23 (l:=x.effs)
 rw[run_shut F5 rfl rfl (by simp)]
 push_cast[Sho.v,h1',h2',h3,h4,h5,h6]
end Go.Proofs.YtdkokbhcjmapdaaGreatDoor

namespace Go.Proofs.YtdkokbhcjmapdaaGreatDoor
open Go.Sha
set_option maxRecDepth 10000
end Go.Proofs.YtdkokbhcjmapdaaGreatDoor

namespace Go.Proofs.YtdkokbhcjmapdaaGreatDoor
open Go.Sha
set_option maxRecDepth 100000
variable {g:List (Nat×Obj)}{n:Nat}
theorem ix_rng {α:Type}{p:α→Bool}:∀{l:List α}{j:Nat},ix p l j=-1∨(j:Int)≤ix p l j∧ix p l j<j+l.length
 |[],j=>.inl rfl
 |x::r,j=>by
  unfold ix
  split
  ·exact .inr ⟨by omega,by simp;omega⟩
  ·rcases ix_rng (p:=p) (l:=r) (j:=j+1) with h|h
   ·exact .inl h
   ·exact .inr ⟨by omega,by simp;omega⟩
end Go.Proofs.YtdkokbhcjmapdaaGreatDoor

namespace Go.Proofs.YtdkokbhcjmapdaaGreatDoor
open Go.Sha
set_option maxRecDepth 100000
variable {g:List (Nat×Obj)}{n:Nat}{s:Sho}
def TokR (T:List Row):Prop:=T.length<1000000∧∀r∈T,r.length<1000000
theorem L11 {T:List Row}(hT:TokR T):∀r j,T.drop j=r→runL Tryz.prog HK [0,1,5] n B11_0 [(0,.sl (T.map rowV)),(1,.sl (T.map rowV)),(5,.int .i64 j)] (stN g n)=some (.exit 0,[],stN g n):=by
 have hl:=hT.1
 refine drop_ind (fun j h=>?_) (fun q r j h hx hd ih=>?_)
 all_goals rw[runL_of B11_0.eq_1]
 ·have h1:¬(j:Int)<T.length:=by omega
  push_cast[h1]
 ·have h1:(j:Int)<T.length:=by omega
  have hw:=iw1 (j:=j) (by omega)
  have e1:=fun(st:St)=>f45 (a:=q) (st:=st) (by have:=hT.2 q (mem_at hd);omega)
  push_cast[rowV]at ih
  push_cast[h1,hw,hx,e1,rowV]at ih ⊢
  exact ih
theorem f11 {T:List Row}(hT:TokR T){st:St}:run Tryz.prog HK 11 [.sl (T.map rowV),.sl (T.map rowV)] st=some (.ret (.bool true),st):=by
 have hL:=fun n=>L11 (g:=st.x.gl) (n:=n) hT _ 0 rfl
 rw[run_shut F11 rfl rfl (by simp)]
 push_cast[rowV]at hL
 push_cast[rowV,hL]
theorem f5' {s:Sho}(h:s.ok):∃b,(b=true→shoC s=0→s.fixts.length≤12)∧∀st,run Tryz.prog HH 5 [s.v] st=some (.ret (.bool b),st):=by
 obtain⟨b,hb⟩:=f5 h
 refine⟨b,fun e hs=>?_,hb⟩
 have h2:=(fix_ok (shoC_parts hs).2.2.2.1).2.1
 rcases Nat.lt_or_ge 12 s.fixts.length with h1|h1
 ·have:=f52n h h1 h2 (st:=stG [])
  rw[hb,e]at this
  cases this
 ·exact h1
end Go.Proofs.YtdkokbhcjmapdaaGreatDoor

namespace Go.Proofs.YtdkokbhcjmapdaaGreatDoor
open Go.Sha
set_option maxRecDepth 100000
variable {g:List (Nat×Obj)}{n:Nat}{s:Sho}
theorem tokC {x:Lst}(h:x.cues.length≤64):TokR (cueT x):=by
 refine⟨by simp[cueT];omega,fun r hr=>?_⟩
 rcases List.mem_cons.1 hr with rfl|hr
 ·decide
 ·obtain⟨c,_,rfl⟩:=List.mem_map.1 hr
  simp[rowC]
theorem tokH {s:Sho}(h:shoC s=0→s.fixts.length≤12):TokR (hupT s):=by
 unfold hupT
 split
 ·rename_i hs
  have:=h hs
  refine⟨by rw[List.length_cons,List.length_map,isort_len];omega,fun r hr=>?_⟩
  rcases List.mem_cons.1 hr with rfl|hr
  ·decide
  ·obtain⟨c,_,rfl⟩:=List.mem_map.1 hr
   simp[rowH]
 ·exact⟨by decide,fun r hr=>by simp at hr⟩
def memU1:List Nat:=[5,7,8]
noncomputable def HU (s:Sho):EvF:=⟨[],fun f args st=>bif Nat.beq f 6 then run Tryz.prog HA f args st else bif Nat.beq f 9 then run Tryz.prog HC f args st else bif Nat.beq f 10 then run Tryz.prog (HG s) f args st else
 bif Nat.beq f 11 then run Tryz.prog HK f args st else bif memL f memU1 then run Tryz.prog HH f args st else none⟩
@[push_cast]theorem HU_raw:(HU s).raw=[]:=idq rfl
theorem HU_ok (h1:ESound Tryz.prog HH)(h2:ESound Tryz.prog HK)(h3:ESound Tryz.prog HA)(h4:ESound Tryz.prog (HG s)):ESound Tryz.prog (HU s):=fun f args st r z e=>by
 simp only[HU]at e
 cases hi:Nat.beq f 6 with
 |true=>rw[hi]at e;exact run_sound mixed h3 _ _ _ _ _ e
 |false =>
  rw[hi,cond_false]at e
  cases hi:Nat.beq f 9 with
  |true=>rw[hi]at e;exact run_sound mixed (HC_ok h1) _ _ _ _ _ e
  |false =>
   rw[hi,cond_false]at e
   cases hi:Nat.beq f 10 with
   |true=>rw[hi]at e;exact run_sound mixed h4 _ _ _ _ _ e
   |false =>
    rw[hi,cond_false]at e
    cases hi:Nat.beq f 11 with
    |true=>rw[hi]at e;exact run_sound mixed h2 _ _ _ _ _ e
    |false =>
     rw[hi,cond_false]at e
     cases hi:memL f memU1 with
     |true=>rw[hi]at e;exact run_sound mixed h1 _ _ _ _ _ e
     |false=>rw[hi]at e;cases e
theorem upU {k:Nat}{args:List V}{st:St}{r:VRes×St}(h:run Tryz.prog HH k args st=some r)(h1:Nat.beq k 6=false:=by rfl)(h2:Nat.beq k 9=false:=by rfl)(h3:Nat.beq k 10=false:=by rfl)(h4:Nat.beq k 11=false:=by rfl)(h5:memL k memU1=true:=by rfl):run Tryz.prog (HU s) k args st=some r:=by
 refine run_H ?_
 simp only[HU,h1,h2,h3,h4,h5,cond_false,cond_true,h]
theorem u12 {args:List V}{st:St}{r:VRes×St}(h:run Tryz.prog HC 9 args st=some r):run Tryz.prog (HU s) 9 args st=some r:=by
 refine run_H ?_
 simp only[HU,show Nat.beq 9 6=false from rfl,show Nat.beq 9 9=true from rfl,cond_false,cond_true,h]
theorem u13 {args:List V}{st:St}{r:VRes×St}(h:run Tryz.prog (HG s) 10 args st=some r):run Tryz.prog (HU s) 10 args st=some r:=by
 refine run_H ?_
 simp only[HU,show Nat.beq 10 6=false from rfl,show Nat.beq 10 9=false from rfl,show Nat.beq 10 10=true from rfl,cond_false,cond_true,h]
theorem u14 {args:List V}{st:St}{r:VRes×St}(h:run Tryz.prog HK 11 args st=some r):run Tryz.prog (HU s) 11 args st=some r:=by
 refine run_H ?_
 simp only[HU,show Nat.beq 11 6=false from rfl,show Nat.beq 11 9=false from rfl,show Nat.beq 11 10=false from rfl,show Nat.beq 11 11=true from rfl,cond_false,cond_true,h]
theorem u9 {st:St}{v:GV}(hg:st.x.gl=glK v):run Tryz.prog (HU s) 6 [] st=some (.ret (.bool true),st):=by
 refine run_H ?_
 simp only[HU,show Nat.beq 6 6=true from rfl,cond_true]
 obtain⟨nx,mem,arr,⟨obj,gl,ty⟩⟩:=st
 cases hg
 exact f6 (v:=v) _ _ _ _ _
end Go.Proofs.YtdkokbhcjmapdaaGreatDoor

namespace Go.Proofs.YtdkokbhcjmapdaaGreatDoor
open Go.Sha
set_option maxRecDepth 100000
variable {g:List (Nat×Obj)}{n:Nat}{s:Sho}{v:GV}
theorem l3 (h:s.ok){z:Int}{st:St}(hg:st.x.gl=glK v)(hG:glB st.x.gl=true):run Tryz.prog (HU s) 3 [s.v,.int .i64 z] st=some (.ret (.bool true),st):=by
 obtain⟨b,hb0,hb⟩:=f5' h
 have h8:=fun st=>upU (s:=s) (hb st)
 have hA:=fun nx mem arr obj ty=>u9 (s:=s) (st:=⟨nx,mem,arr,⟨obj,st.x.gl,ty⟩⟩) hg
 rw[run_shut F3 rfl rfl (by simp)]
 cases b with
 |false =>
  push_cast[Sho.v]at h8
  push_cast[Sho.v,h8,hA]
 |true =>
  have hF:=hb0 rfl
  have e12:=fun nx mem arr obj ty=>u12 (s:=s) (f9 (st:=⟨nx,mem,arr,⟨obj,st.x.gl,ty⟩⟩) h (fun hs=>by have:=hF hs;omega) hG)
  have e13:=fun(st:St)=>u13 (s:=s) (f10 (st:=st) h)
  have e14:=fun(st:St)=>u14 (s:=s) (f11 (st:=st) (tokH hF))
  by_cases he:fndE (shoC s) (ix (fun x=>x.num == z) s.lsts 0)=0
  ·have hs:shoC s=0:=by
    unfold fndE at he
    split at he
    ·rename_i a;exact absurd he a
    ·rename_i a;exact Classical.not_not.1 a
   have hi:∃i:Nat,ix (fun x=>x.num == z) s.lsts 0=i∧i<s.lsts.length:=by
    rcases ix_rng (p:=fun x:Lst=>x.num == z) (l:=s.lsts) (j:=0) with hn|⟨h1,h2⟩
    ·rw[fndE,if_neg (by simp[hs]),hn,if_pos (by decide)]at he;cases he
    ·exact⟨(ix (fun x=>x.num == z) s.lsts 0).toNat,by omega,by omega⟩
   obtain⟨i,hi1,hi2⟩:=hi
   have hx:∀d,s.lsts.getD i d=s.lsts[i]:=fun d=>by rw[List.getD_eq_getElem?_getD,List.getElem?_eq_getElem hi2];rfl
   have hm:s.lsts[i]∈s.lsts:=List.getElem_mem hi2
   generalize s.lsts[i]=x at *
   have hlp:=(sho_parts hs).2.1 x hm
   have e10:=fun nx mem arr obj ty=>upU (s:=s) (f7 (st:=⟨nx,mem,arr,⟨obj,st.x.gl,ty⟩⟩) h hs hi1 hi2 hx hG)
   have e11:=fun(st:St)=>upU (s:=s) (f8 (st:=st) h hs hi1 hi2 hx)
   have e15:=fun(st:St)=>u14 (s:=s) (f11 (st:=st) (tokC (lst_parts hlp).2.2.1))
   rw[hs]at e12 e13
   generalize cueT x=t1 at *
   generalize hupT s=t2 at *
   push_cast[Sho.v]at h8 e10 e11 e12 e13 e14 e15
   push_cast[Sho.v,h8,hA,e10,e11,e12,e13,e14,e15]
  ·have e10:=fun nx mem arr obj ty=>upU (s:=s) (f10n (st:=⟨nx,mem,arr,⟨obj,st.x.gl,ty⟩⟩) h he)
   have e11:=fun(st:St)=>upU (s:=s) (f11n (st:=st) h he)
   have e15:=fun(st:St)=>u14 (s:=s) (f11 (T:=[]) (st:=st) ⟨by decide,fun r hr=>by simp at hr⟩)
   generalize fndE (shoC s) (ix (fun x=>x.num == z) s.lsts 0)=ee at *
   generalize hupT s=t2 at *
   generalize shoC s=cc at *
   push_cast[Sho.v]at h8 e10 e11 e12 e13 e14
   push_cast[List.map_nil]at e15
   push_cast[Sho.v,h8,hA,e10,e11,e12,e13,e14,e15]
end Go.Proofs.YtdkokbhcjmapdaaGreatDoor

namespace Go.Proofs.YtdkokbhcjmapdaaGreatDoor
open Go.Sha
set_option maxRecDepth 100000
variable {g:List (Nat×Obj)}{n:Nat}{s:Sho}
structure OkR (a:List Bool) (c:Nat) (out:List Rg):Prop where
 r:∀q∈out,1≤q.1∧q.1≤q.2∧q.2<c
 p:out.Pairwise fun x y=>x.2+2≤y.1
 y:a.getD (c-1) false=true→out≠[]∧(out.getD (out.length-1) default).2+1=c
 n:a.getD (c-1) false=false→∀q∈out,q.2+1<c
end Go.Proofs.YtdkokbhcjmapdaaGreatDoor

namespace Go.Proofs.YtdkokbhcjmapdaaGreatDoor
open Go.Sha
set_option maxRecDepth 100000
variable {g:List (Nat×Obj)}{n:Nat}{s:Sho}
end Go.Proofs.YtdkokbhcjmapdaaGreatDoor

namespace Go.Proofs.YtdkokbhcjmapdaaGreatDoor
open Go.Sha
set_option maxRecDepth 100000
variable {g:List (Nat×Obj)}{n:Nat}{s:Sho}
end Go.Proofs.YtdkokbhcjmapdaaGreatDoor

namespace Go.Proofs.YtdkokbhcjmapdaaGreatDoor
open Go.Sha
set_option maxRecDepth 100000
variable {g:List (Nat×Obj)}{n:Nat}{s:Sho}
end Go.Proofs.YtdkokbhcjmapdaaGreatDoor

namespace Go.Proofs.YtdkokbhcjmapdaaGreatDoor
open Go.Sha
set_option maxRecDepth 100000
variable {g:List (Nat×Obj)}{n:Nat}{s:Sho}{v:GV}
end Go.Proofs.YtdkokbhcjmapdaaGreatDoor

namespace Go.Proofs.YtdkokbhcjmapdaaGreatDoor
open Go.Sha
def Pt.sh:List CSh:=[.int .i64,.int .i64]
structure Pt.Dk (z:Pt):Prop where
 x:-9223372036854775808≤z.x∧z.x≤9223372036854775807
 y:-9223372036854775808≤z.y∧z.y≤9223372036854775807
theorem Pt.rd {vs:List V}(h:OkCs Pt.sh vs):∃x:Pt,V.agg vs=x.v∧x.Dk:=by
 obtain⟨v0,r0,rfl,h0,t0⟩:=h.cons_inv
 obtain⟨v1,r1,rfl,h1,t1⟩:=t0.cons_inv
 obtain rfl:=t1.nil_inv
 obtain⟨y0,rfl,b0⟩:=h0.i64_inv
 obtain⟨y1,rfl,b1⟩:=h1.i64_inv
 exact⟨⟨y0,y1⟩,rfl,⟨b0,b1⟩⟩
def Slt.sh:List CSh:=[.str,.int .i64,.int .i64]
structure Slt.Dk (z:Slt):Prop where
 name:z.name.length≤140737488351232
 fr:-9223372036854775808≤z.fr∧z.fr≤9223372036854775807
 to_:-9223372036854775808≤z.to_∧z.to_≤9223372036854775807
theorem Slt.rd {vs:List V}(h:OkCs Slt.sh vs):∃x:Slt,V.agg vs=x.v∧x.Dk:=by
 obtain⟨v0,r0,rfl,h0,t0⟩:=h.cons_inv
 obtain⟨v1,r1,rfl,h1,t1⟩:=t0.cons_inv
 obtain⟨v2,r2,rfl,h2,t2⟩:=t1.cons_inv
 obtain rfl:=t2.nil_inv
 obtain⟨y0,rfl,b0⟩:=h0.str_inv
 obtain⟨y1,rfl,b1⟩:=h1.i64_inv
 obtain⟨y2,rfl,b2⟩:=h2.i64_inv
 exact⟨⟨y0,y1,y2⟩,rfl,⟨b0,b1,b2⟩⟩
def Ftr.sh:List CSh:=[.int .i64,.int .i64,.int .i64,.int .i64,.int .i64,.int .i64,.int .i64,.int .i64,.bool,.sl true 32 Slt.sh]
structure Ftr.Dk (z:Ftr):Prop where
 attr:-9223372036854775808≤z.attr∧z.attr≤9223372036854775807
 bits:-9223372036854775808≤z.bits∧z.bits≤9223372036854775807
 coarse:-9223372036854775808≤z.coarse∧z.coarse≤9223372036854775807
 fine:-9223372036854775808≤z.fine∧z.fine≤9223372036854775807
 curve:-9223372036854775808≤z.curve∧z.curve≤9223372036854775807
 home:-9223372036854775808≤z.home∧z.home≤9223372036854775807
 low:-9223372036854775808≤z.low∧z.low≤9223372036854775807
 high:-9223372036854775808≤z.high∧z.high≤9223372036854775807
 snap:True
 wheel:z.wheel.length≤140737488351232∧∀q∈z.wheel,q.Dk
theorem Ftr.rd {vs:List V}(h:OkCs Ftr.sh vs):∃x:Ftr,V.agg vs=x.v∧x.Dk:=by
 obtain⟨v0,r0,rfl,h0,t0⟩:=h.cons_inv
 obtain⟨v1,r1,rfl,h1,t1⟩:=t0.cons_inv
 obtain⟨v2,r2,rfl,h2,t2⟩:=t1.cons_inv
 obtain⟨v3,r3,rfl,h3,t3⟩:=t2.cons_inv
 obtain⟨v4,r4,rfl,h4,t4⟩:=t3.cons_inv
 obtain⟨v5,r5,rfl,h5,t5⟩:=t4.cons_inv
 obtain⟨v6,r6,rfl,h6,t6⟩:=t5.cons_inv
 obtain⟨v7,r7,rfl,h7,t7⟩:=t6.cons_inv
 obtain⟨v8,r8,rfl,h8,t8⟩:=t7.cons_inv
 obtain⟨v9,r9,rfl,h9,t9⟩:=t8.cons_inv
 obtain rfl:=t9.nil_inv
 obtain⟨y0,rfl,b0⟩:=h0.i64_inv
 obtain⟨y1,rfl,b1⟩:=h1.i64_inv
 obtain⟨y2,rfl,b2⟩:=h2.i64_inv
 obtain⟨y3,rfl,b3⟩:=h3.i64_inv
 obtain⟨y4,rfl,b4⟩:=h4.i64_inv
 obtain⟨y5,rfl,b5⟩:=h5.i64_inv
 obtain⟨y6,rfl,b6⟩:=h6.i64_inv
 obtain⟨y7,rfl,b7⟩:=h7.i64_inv
 obtain⟨y8,rfl⟩:=h8.bool_inv
 have b8:=trivial
 obtain⟨y9,rfl,b9⟩:=h9.agg_inv (f:=Slt.v) (by decide) (fun _=>Slt.rd)
 exact⟨⟨y0,y1,y2,y3,y4,y5,y6,y7,y8,y9⟩,rfl,⟨b0,b1,b2,b3,b4,b5,b6,b7,b8,b9⟩⟩
def Prof.sh:List CSh:=[.str,.int .i64,.int .i64,.sl true 96 Ftr.sh]
structure Prof.Dk (z:Prof):Prop where
 name:z.name.length≤140737488351232
 foot:-9223372036854775808≤z.foot∧z.foot≤9223372036854775807
 watts:-9223372036854775808≤z.watts∧z.watts≤9223372036854775807
 feats:z.feats.length≤140737488351232∧∀q∈z.feats,q.Dk
theorem Prof.rd {vs:List V}(h:OkCs Prof.sh vs):∃x:Prof,V.agg vs=x.v∧x.Dk:=by
 obtain⟨v0,r0,rfl,h0,t0⟩:=h.cons_inv
 obtain⟨v1,r1,rfl,h1,t1⟩:=t0.cons_inv
 obtain⟨v2,r2,rfl,h2,t2⟩:=t1.cons_inv
 obtain⟨v3,r3,rfl,h3,t3⟩:=t2.cons_inv
 obtain rfl:=t3.nil_inv
 obtain⟨y0,rfl,b0⟩:=h0.str_inv
 obtain⟨y1,rfl,b1⟩:=h1.i64_inv
 obtain⟨y2,rfl,b2⟩:=h2.i64_inv
 obtain⟨y3,rfl,b3⟩:=h3.agg_inv (f:=Ftr.v) (by decide) (fun _=>Ftr.rd)
 exact⟨⟨y0,y1,y2,y3⟩,rfl,⟨b0,b1,b2,b3⟩⟩
def Fixt.sh:List CSh:=[.int .i64,.int .i64,.str,.int .i64,.int .i64,.int .i64,.str]
structure Fixt.Dk (z:Fixt):Prop where
 chan:-9223372036854775808≤z.chan∧z.chan≤9223372036854775807
 part:-9223372036854775808≤z.part∧z.part≤9223372036854775807
 prof:z.prof.length≤140737488351232
 univ:-9223372036854775808≤z.univ∧z.univ≤9223372036854775807
 addr:-9223372036854775808≤z.addr∧z.addr≤9223372036854775807
 phase:-9223372036854775808≤z.phase∧z.phase≤9223372036854775807
 cable:z.cable.length≤140737488351232
theorem Fixt.rd {vs:List V}(h:OkCs Fixt.sh vs):∃x:Fixt,V.agg vs=x.v∧x.Dk:=by
 obtain⟨v0,r0,rfl,h0,t0⟩:=h.cons_inv
 obtain⟨v1,r1,rfl,h1,t1⟩:=t0.cons_inv
 obtain⟨v2,r2,rfl,h2,t2⟩:=t1.cons_inv
 obtain⟨v3,r3,rfl,h3,t3⟩:=t2.cons_inv
 obtain⟨v4,r4,rfl,h4,t4⟩:=t3.cons_inv
 obtain⟨v5,r5,rfl,h5,t5⟩:=t4.cons_inv
 obtain⟨v6,r6,rfl,h6,t6⟩:=t5.cons_inv
 obtain rfl:=t6.nil_inv
 obtain⟨y0,rfl,b0⟩:=h0.i64_inv
 obtain⟨y1,rfl,b1⟩:=h1.i64_inv
 obtain⟨y2,rfl,b2⟩:=h2.str_inv
 obtain⟨y3,rfl,b3⟩:=h3.i64_inv
 obtain⟨y4,rfl,b4⟩:=h4.i64_inv
 obtain⟨y5,rfl,b5⟩:=h5.i64_inv
 obtain⟨y6,rfl,b6⟩:=h6.str_inv
 exact⟨⟨y0,y1,y2,y3,y4,y5,y6⟩,rfl,⟨b0,b1,b2,b3,b4,b5,b6⟩⟩
def Prm.sh:List CSh:=[.int .i64,.int .i64]
structure Prm.Dk (z:Prm):Prop where
 chan:-9223372036854775808≤z.chan∧z.chan≤9223372036854775807
 attr:-9223372036854775808≤z.attr∧z.attr≤9223372036854775807
theorem Prm.rd {vs:List V}(h:OkCs Prm.sh vs):∃x:Prm,V.agg vs=x.v∧x.Dk:=by
 obtain⟨v0,r0,rfl,h0,t0⟩:=h.cons_inv
 obtain⟨v1,r1,rfl,h1,t1⟩:=t0.cons_inv
 obtain rfl:=t1.nil_inv
 obtain⟨y0,rfl,b0⟩:=h0.i64_inv
 obtain⟨y1,rfl,b1⟩:=h1.i64_inv
 exact⟨⟨y0,y1⟩,rfl,⟨b0,b1⟩⟩
def Val.sh:List CSh:=[.int .i64,.int .i64]
structure Val.Dk (z:Val):Prop where
 pal:-9223372036854775808≤z.pal∧z.pal≤9223372036854775807
 lev:-9223372036854775808≤z.lev∧z.lev≤9223372036854775807
theorem Val.rd {vs:List V}(h:OkCs Val.sh vs):∃x:Val,V.agg vs=x.v∧x.Dk:=by
 obtain⟨v0,r0,rfl,h0,t0⟩:=h.cons_inv
 obtain⟨v1,r1,rfl,h1,t1⟩:=t0.cons_inv
 obtain rfl:=t1.nil_inv
 obtain⟨y0,rfl,b0⟩:=h0.i64_inv
 obtain⟨y1,rfl,b1⟩:=h1.i64_inv
 exact⟨⟨y0,y1⟩,rfl,⟨b0,b1⟩⟩
def Grp.sh:List CSh:=[.int .i64,.sl false 8 [.int .i64]]
structure Grp.Dk (z:Grp):Prop where
 num:-9223372036854775808≤z.num∧z.num≤9223372036854775807
 chans:z.chans.length≤140737488351232∧∀q∈z.chans,-9223372036854775808≤q∧q≤9223372036854775807
theorem Grp.rd {vs:List V}(h:OkCs Grp.sh vs):∃x:Grp,V.agg vs=x.v∧x.Dk:=by
 obtain⟨v0,r0,rfl,h0,t0⟩:=h.cons_inv
 obtain⟨v1,r1,rfl,h1,t1⟩:=t0.cons_inv
 obtain rfl:=t1.nil_inv
 obtain⟨y0,rfl,b0⟩:=h0.i64_inv
 obtain⟨y1,rfl,b1⟩:=h1.one_inv (f:=V.int .i64) (by decide) (fun v h=>h.i64_inv)
 exact⟨⟨y0,y1⟩,rfl,⟨b0,b1⟩⟩
def Hue.sh:List CSh:=[.int .i64,.int .i64,.int .i64]
structure Hue.Dk (z:Hue):Prop where
 chan:-9223372036854775808≤z.chan∧z.chan≤9223372036854775807
 attr:-9223372036854775808≤z.attr∧z.attr≤9223372036854775807
 lev:-9223372036854775808≤z.lev∧z.lev≤9223372036854775807
theorem Hue.rd {vs:List V}(h:OkCs Hue.sh vs):∃x:Hue,V.agg vs=x.v∧x.Dk:=by
 obtain⟨v0,r0,rfl,h0,t0⟩:=h.cons_inv
 obtain⟨v1,r1,rfl,h1,t1⟩:=t0.cons_inv
 obtain⟨v2,r2,rfl,h2,t2⟩:=t1.cons_inv
 obtain rfl:=t2.nil_inv
 obtain⟨y0,rfl,b0⟩:=h0.i64_inv
 obtain⟨y1,rfl,b1⟩:=h1.i64_inv
 obtain⟨y2,rfl,b2⟩:=h2.i64_inv
 exact⟨⟨y0,y1,y2⟩,rfl,⟨b0,b1,b2⟩⟩
def Pal.sh:List CSh:=[.int .i64,.sl true 24 Hue.sh]
structure Pal.Dk (z:Pal):Prop where
 num:-9223372036854775808≤z.num∧z.num≤9223372036854775807
 hues:z.hues.length≤140737488351232∧∀q∈z.hues,q.Dk
theorem Pal.rd {vs:List V}(h:OkCs Pal.sh vs):∃x:Pal,V.agg vs=x.v∧x.Dk:=by
 obtain⟨v0,r0,rfl,h0,t0⟩:=h.cons_inv
 obtain⟨v1,r1,rfl,h1,t1⟩:=t0.cons_inv
 obtain rfl:=t1.nil_inv
 obtain⟨y0,rfl,b0⟩:=h0.i64_inv
 obtain⟨y1,rfl,b1⟩:=h1.agg_inv (f:=Hue.v) (by decide) (fun _=>Hue.rd)
 exact⟨⟨y0,y1⟩,rfl,⟨b0,b1⟩⟩
def Tim.sh:List CSh:=[.int .i64,.int .i64,.int .i64,.int .i64,.int .i64,.int .i64]
structure Tim.Dk (z:Tim):Prop where
 up:-9223372036854775808≤z.up∧z.up≤9223372036854775807
 down:-9223372036854775808≤z.down∧z.down≤9223372036854775807
 posi:-9223372036854775808≤z.posi∧z.posi≤9223372036854775807
 colour:-9223372036854775808≤z.colour∧z.colour≤9223372036854775807
 beam:-9223372036854775808≤z.beam∧z.beam≤9223372036854775807
 delay:-9223372036854775808≤z.delay∧z.delay≤9223372036854775807
theorem Tim.rd {vs:List V}(h:OkCs Tim.sh vs):∃x:Tim,V.agg vs=x.v∧x.Dk:=by
 obtain⟨v0,r0,rfl,h0,t0⟩:=h.cons_inv
 obtain⟨v1,r1,rfl,h1,t1⟩:=t0.cons_inv
 obtain⟨v2,r2,rfl,h2,t2⟩:=t1.cons_inv
 obtain⟨v3,r3,rfl,h3,t3⟩:=t2.cons_inv
 obtain⟨v4,r4,rfl,h4,t4⟩:=t3.cons_inv
 obtain⟨v5,r5,rfl,h5,t5⟩:=t4.cons_inv
 obtain rfl:=t5.nil_inv
 obtain⟨y0,rfl,b0⟩:=h0.i64_inv
 obtain⟨y1,rfl,b1⟩:=h1.i64_inv
 obtain⟨y2,rfl,b2⟩:=h2.i64_inv
 obtain⟨y3,rfl,b3⟩:=h3.i64_inv
 obtain⟨y4,rfl,b4⟩:=h4.i64_inv
 obtain⟨y5,rfl,b5⟩:=h5.i64_inv
 exact⟨⟨y0,y1,y2,y3,y4,y5⟩,rfl,⟨b0,b1,b2,b3,b4,b5⟩⟩
def Mov.sh:List CSh:=[.int .i64,.int .i64,.int .i64,.int .i64,.int .i64]
structure Mov.Dk (z:Mov):Prop where
 prm:z.prm.Dk
 val:z.val.Dk
 part:-9223372036854775808≤z.part∧z.part≤9223372036854775807
theorem Mov.rd {vs:List V}(h:OkCs Mov.sh vs):∃x:Mov,V.agg vs=x.v∧x.Dk:=by
 obtain⟨v0,r0,rfl,h0,t0⟩:=h.cons_inv
 obtain⟨v1,r1,rfl,h1,t1⟩:=t0.cons_inv
 obtain⟨v2,r2,rfl,h2,t2⟩:=t1.cons_inv
 obtain⟨v3,r3,rfl,h3,t3⟩:=t2.cons_inv
 obtain⟨v4,r4,rfl,h4,t4⟩:=t3.cons_inv
 obtain rfl:=t4.nil_inv
 obtain⟨y0,rfl,b0⟩:=h0.i64_inv
 obtain⟨y1,rfl,b1⟩:=h1.i64_inv
 obtain⟨y2,rfl,b2⟩:=h2.i64_inv
 obtain⟨y3,rfl,b3⟩:=h3.i64_inv
 obtain⟨y4,rfl,b4⟩:=h4.i64_inv
 exact⟨⟨⟨y0,y1⟩,⟨y2,y3⟩,y4⟩,rfl,⟨⟨b0,b1⟩,⟨b2,b3⟩,b4⟩⟩
def Cu.sh:List CSh:=[.str,.str,.sl true 40 Mov.sh,.sl true 48 Tim.sh,.bool,.bool,.int .i64,.str,.int .i64]
structure Cu.Dk (z:Cu):Prop where
 num:z.num.length≤140737488351232
 label:z.label.length≤140737488351232
 moves:z.moves.length≤140737488351232∧∀q∈z.moves,q.Dk
 parts:z.parts.length≤140737488351232∧∀q∈z.parts,q.Dk
 block:True
 mark:True
 follow:-9223372036854775808≤z.follow∧z.follow≤9223372036854775807
 link:z.link.length≤140737488351232
 loops:-9223372036854775808≤z.loops∧z.loops≤9223372036854775807
theorem Cu.rd {vs:List V}(h:OkCs Cu.sh vs):∃x:Cu,V.agg vs=x.v∧x.Dk:=by
 obtain⟨v0,r0,rfl,h0,t0⟩:=h.cons_inv
 obtain⟨v1,r1,rfl,h1,t1⟩:=t0.cons_inv
 obtain⟨v2,r2,rfl,h2,t2⟩:=t1.cons_inv
 obtain⟨v3,r3,rfl,h3,t3⟩:=t2.cons_inv
 obtain⟨v4,r4,rfl,h4,t4⟩:=t3.cons_inv
 obtain⟨v5,r5,rfl,h5,t5⟩:=t4.cons_inv
 obtain⟨v6,r6,rfl,h6,t6⟩:=t5.cons_inv
 obtain⟨v7,r7,rfl,h7,t7⟩:=t6.cons_inv
 obtain⟨v8,r8,rfl,h8,t8⟩:=t7.cons_inv
 obtain rfl:=t8.nil_inv
 obtain⟨y0,rfl,b0⟩:=h0.str_inv
 obtain⟨y1,rfl,b1⟩:=h1.str_inv
 obtain⟨y2,rfl,b2⟩:=h2.agg_inv (f:=Mov.v) (by decide) (fun _=>Mov.rd)
 obtain⟨y3,rfl,b3⟩:=h3.agg_inv (f:=Tim.v) (by decide) (fun _=>Tim.rd)
 obtain⟨y4,rfl⟩:=h4.bool_inv
 have b4:=trivial
 obtain⟨y5,rfl⟩:=h5.bool_inv
 have b5:=trivial
 obtain⟨y6,rfl,b6⟩:=h6.i64_inv
 obtain⟨y7,rfl,b7⟩:=h7.str_inv
 obtain⟨y8,rfl,b8⟩:=h8.i64_inv
 exact⟨⟨y0,y1,y2,y3,y4,y5,y6,y7,y8⟩,rfl,⟨b0,b1,b2,b3,b4,b5,b6,b7,b8⟩⟩
def Lst.sh:List CSh:=[.int .i64,.int .i64,.sl true 120 Cu.sh]
structure Lst.Dk (z:Lst):Prop where
 num:-9223372036854775808≤z.num∧z.num≤9223372036854775807
 prio:-9223372036854775808≤z.prio∧z.prio≤9223372036854775807
 cues:z.cues.length≤140737488351232∧∀q∈z.cues,q.Dk
theorem Lst.rd {vs:List V}(h:OkCs Lst.sh vs):∃x:Lst,V.agg vs=x.v∧x.Dk:=by
 obtain⟨v0,r0,rfl,h0,t0⟩:=h.cons_inv
 obtain⟨v1,r1,rfl,h1,t1⟩:=t0.cons_inv
 obtain⟨v2,r2,rfl,h2,t2⟩:=t1.cons_inv
 obtain rfl:=t2.nil_inv
 obtain⟨y0,rfl,b0⟩:=h0.i64_inv
 obtain⟨y1,rfl,b1⟩:=h1.i64_inv
 obtain⟨y2,rfl,b2⟩:=h2.agg_inv (f:=Cu.v) (by decide) (fun _=>Cu.rd)
 exact⟨⟨y0,y1,y2⟩,rfl,⟨b0,b1,b2⟩⟩
def Gan.sh:List CSh:=[.int .i64,.int .i64,.int .i64]
structure Gan.Dk (z:Gan):Prop where
 prm:z.prm.Dk
 lev:-9223372036854775808≤z.lev∧z.lev≤9223372036854775807
theorem Gan.rd {vs:List V}(h:OkCs Gan.sh vs):∃x:Gan,V.agg vs=x.v∧x.Dk:=by
 obtain⟨v0,r0,rfl,h0,t0⟩:=h.cons_inv
 obtain⟨v1,r1,rfl,h1,t1⟩:=t0.cons_inv
 obtain⟨v2,r2,rfl,h2,t2⟩:=t1.cons_inv
 obtain rfl:=t2.nil_inv
 obtain⟨y0,rfl,b0⟩:=h0.i64_inv
 obtain⟨y1,rfl,b1⟩:=h1.i64_inv
 obtain⟨y2,rfl,b2⟩:=h2.i64_inv
 exact⟨⟨⟨y0,y1⟩,y2⟩,rfl,⟨⟨b0,b1⟩,b2⟩⟩
def Sb.sh:List CSh:=[.int .i64,.int .i64,.bool,.sl true 24 Gan.sh]
structure Sb.Dk (z:Sb):Prop where
 num:-9223372036854775808≤z.num∧z.num≤9223372036854775807
 prio:-9223372036854775808≤z.prio∧z.prio≤9223372036854775807
 inh:True
 gains:z.gains.length≤140737488351232∧∀q∈z.gains,q.Dk
theorem Sb.rd {vs:List V}(h:OkCs Sb.sh vs):∃x:Sb,V.agg vs=x.v∧x.Dk:=by
 obtain⟨v0,r0,rfl,h0,t0⟩:=h.cons_inv
 obtain⟨v1,r1,rfl,h1,t1⟩:=t0.cons_inv
 obtain⟨v2,r2,rfl,h2,t2⟩:=t1.cons_inv
 obtain⟨v3,r3,rfl,h3,t3⟩:=t2.cons_inv
 obtain rfl:=t3.nil_inv
 obtain⟨y0,rfl,b0⟩:=h0.i64_inv
 obtain⟨y1,rfl,b1⟩:=h1.i64_inv
 obtain⟨y2,rfl⟩:=h2.bool_inv
 have b2:=trivial
 obtain⟨y3,rfl,b3⟩:=h3.agg_inv (f:=Gan.v) (by decide) (fun _=>Gan.rd)
 exact⟨⟨y0,y1,y2,y3⟩,rfl,⟨b0,b1,b2,b3⟩⟩
def Eff.sh:List CSh:=[.int .i64,.int .i64,.sl true 16 Pt.sh,.int .i64,.int .i64,.int .i64]
structure Eff.Dk (z:Eff):Prop where
 num:-9223372036854775808≤z.num∧z.num≤9223372036854775807
 attr:-9223372036854775808≤z.attr∧z.attr≤9223372036854775807
 wave:z.wave.length≤140737488351232∧∀q∈z.wave,q.Dk
 period:-9223372036854775808≤z.period∧z.period≤9223372036854775807
 spread:-9223372036854775808≤z.spread∧z.spread≤9223372036854775807
 size:-9223372036854775808≤z.size∧z.size≤9223372036854775807
theorem Eff.rd {vs:List V}(h:OkCs Eff.sh vs):∃x:Eff,V.agg vs=x.v∧x.Dk:=by
 obtain⟨v0,r0,rfl,h0,t0⟩:=h.cons_inv
 obtain⟨v1,r1,rfl,h1,t1⟩:=t0.cons_inv
 obtain⟨v2,r2,rfl,h2,t2⟩:=t1.cons_inv
 obtain⟨v3,r3,rfl,h3,t3⟩:=t2.cons_inv
 obtain⟨v4,r4,rfl,h4,t4⟩:=t3.cons_inv
 obtain⟨v5,r5,rfl,h5,t5⟩:=t4.cons_inv
 obtain rfl:=t5.nil_inv
 obtain⟨y0,rfl,b0⟩:=h0.i64_inv
 obtain⟨y1,rfl,b1⟩:=h1.i64_inv
 obtain⟨y2,rfl,b2⟩:=h2.agg_inv (f:=Pt.v) (by decide) (fun _=>Pt.rd)
 obtain⟨y3,rfl,b3⟩:=h3.i64_inv
 obtain⟨y4,rfl,b4⟩:=h4.i64_inv
 obtain⟨y5,rfl,b5⟩:=h5.i64_inv
 exact⟨⟨y0,y1,y2,y3,y4,y5⟩,rfl,⟨b0,b1,b2,b3,b4,b5⟩⟩
def Sho.sh:List CSh:=[.str,.sl false 24 [.sl true 16 Pt.sh],.sl true 56 Prof.sh,.sl true 72 Fixt.sh,.sl true 32 Grp.sh,.sl true 32 Pal.sh,.sl true 40 Lst.sh,.sl true 48 Sb.sh,.sl true 64 Eff.sh]
structure Sho.Dk (z:Sho):Prop where
 title:z.title.length≤140737488351232
 curves:z.curves.length≤140737488351232∧∀l∈z.curves,l.length≤140737488351232∧∀q∈l,q.Dk
 profs:z.profs.length≤140737488351232∧∀q∈z.profs,q.Dk
 fixts:z.fixts.length≤140737488351232∧∀q∈z.fixts,q.Dk
 grps:z.grps.length≤140737488351232∧∀q∈z.grps,q.Dk
 pals:z.pals.length≤140737488351232∧∀q∈z.pals,q.Dk
 lsts:z.lsts.length≤140737488351232∧∀q∈z.lsts,q.Dk
 subs:z.subs.length≤140737488351232∧∀q∈z.subs,q.Dk
 effs:z.effs.length≤140737488351232∧∀q∈z.effs,q.Dk
theorem Sho.rd {vs:List V}(h:OkCs Sho.sh vs):∃x:Sho,V.agg vs=x.v∧x.Dk:=by
 obtain⟨v0,r0,rfl,h0,t0⟩:=h.cons_inv
 obtain⟨v1,r1,rfl,h1,t1⟩:=t0.cons_inv
 obtain⟨v2,r2,rfl,h2,t2⟩:=t1.cons_inv
 obtain⟨v3,r3,rfl,h3,t3⟩:=t2.cons_inv
 obtain⟨v4,r4,rfl,h4,t4⟩:=t3.cons_inv
 obtain⟨v5,r5,rfl,h5,t5⟩:=t4.cons_inv
 obtain⟨v6,r6,rfl,h6,t6⟩:=t5.cons_inv
 obtain⟨v7,r7,rfl,h7,t7⟩:=t6.cons_inv
 obtain⟨v8,r8,rfl,h8,t8⟩:=t7.cons_inv
 obtain rfl:=t8.nil_inv
 obtain⟨y0,rfl,b0⟩:=h0.str_inv
 obtain⟨y1,rfl,b1⟩:=h1.one_inv (f:=Pt.vs) (by decide) (fun v h=>h.agg_inv (f:=Pt.v) (by decide) (fun _=>Pt.rd))
 obtain⟨y2,rfl,b2⟩:=h2.agg_inv (f:=Prof.v) (by decide) (fun _=>Prof.rd)
 obtain⟨y3,rfl,b3⟩:=h3.agg_inv (f:=Fixt.v) (by decide) (fun _=>Fixt.rd)
 obtain⟨y4,rfl,b4⟩:=h4.agg_inv (f:=Grp.v) (by decide) (fun _=>Grp.rd)
 obtain⟨y5,rfl,b5⟩:=h5.agg_inv (f:=Pal.v) (by decide) (fun _=>Pal.rd)
 obtain⟨y6,rfl,b6⟩:=h6.agg_inv (f:=Lst.v) (by decide) (fun _=>Lst.rd)
 obtain⟨y7,rfl,b7⟩:=h7.agg_inv (f:=Sb.v) (by decide) (fun _=>Sb.rd)
 obtain⟨y8,rfl,b8⟩:=h8.agg_inv (f:=Eff.v) (by decide) (fun _=>Eff.rd)
 exact⟨⟨y0,y1,y2,y3,y4,y5,y6,y7,y8⟩,rfl,⟨b0,b1,b2,b3,b4,b5,b6,b7,b8⟩⟩
theorem Pt.inj {x y:Pt}(h:x.v=y.v):x=y:=by
 obtain⟨x0,x1⟩:=x;obtain⟨y0,y1⟩:=y
 simp only[Pt.v,V.agg.injEq,List.cons.injEq,V.int.injEq,V.str.injEq,V.bool.injEq,V.sl.injEq,true_and,and_true]at h
 obtain⟨h0,h1⟩:=h
 cases h0
 cases h1
 rfl
theorem Slt.inj {x y:Slt}(h:x.v=y.v):x=y:=by
 obtain⟨x0,x1,x2⟩:=x;obtain⟨y0,y1,y2⟩:=y
 simp only[Slt.v,V.agg.injEq,List.cons.injEq,V.int.injEq,V.str.injEq,V.bool.injEq,V.sl.injEq,true_and,and_true]at h
 obtain⟨h0,h1,h2⟩:=h
 cases h0
 cases h1
 cases h2
 rfl
theorem Ftr.inj {x y:Ftr}(h:x.v=y.v):x=y:=by
 obtain⟨x0,x1,x2,x3,x4,x5,x6,x7,x8,x9⟩:=x;obtain⟨y0,y1,y2,y3,y4,y5,y6,y7,y8,y9⟩:=y
 simp only[Ftr.v,V.agg.injEq,List.cons.injEq,V.int.injEq,V.str.injEq,V.bool.injEq,V.sl.injEq,true_and,and_true]at h
 obtain⟨h0,h1,h2,h3,h4,h5,h6,h7,h8,h9⟩:=h
 cases h0
 cases h1
 cases h2
 cases h3
 cases h4
 cases h5
 cases h6
 cases h7
 cases h8
 cases map_inj Slt.inj h9
 rfl
theorem Prof.inj {x y:Prof}(h:x.v=y.v):x=y:=by
 obtain⟨x0,x1,x2,x3⟩:=x;obtain⟨y0,y1,y2,y3⟩:=y
 simp only[Prof.v,V.agg.injEq,List.cons.injEq,V.int.injEq,V.str.injEq,V.bool.injEq,V.sl.injEq,true_and,and_true]at h
 obtain⟨h0,h1,h2,h3⟩:=h
 cases h0
 cases h1
 cases h2
 cases map_inj Ftr.inj h3
 rfl
theorem Fixt.inj {x y:Fixt}(h:x.v=y.v):x=y:=by
 obtain⟨x0,x1,x2,x3,x4,x5,x6⟩:=x;obtain⟨y0,y1,y2,y3,y4,y5,y6⟩:=y
 simp only[Fixt.v,V.agg.injEq,List.cons.injEq,V.int.injEq,V.str.injEq,V.bool.injEq,V.sl.injEq,true_and,and_true]at h
 obtain⟨h0,h1,h2,h3,h4,h5,h6⟩:=h
 cases h0
 cases h1
 cases h2
 cases h3
 cases h4
 cases h5
 cases h6
 rfl
theorem Prm.inj {x y:Prm}(h:x.v=y.v):x=y:=by
 obtain⟨x0,x1⟩:=x;obtain⟨y0,y1⟩:=y
 simp only[Prm.v,V.agg.injEq,List.cons.injEq,V.int.injEq,V.str.injEq,V.bool.injEq,V.sl.injEq,true_and,and_true]at h
 obtain⟨h0,h1⟩:=h
 cases h0
 cases h1
 rfl
theorem Val.inj {x y:Val}(h:x.v=y.v):x=y:=by
 obtain⟨x0,x1⟩:=x;obtain⟨y0,y1⟩:=y
 simp only[Val.v,V.agg.injEq,List.cons.injEq,V.int.injEq,V.str.injEq,V.bool.injEq,V.sl.injEq,true_and,and_true]at h
 obtain⟨h0,h1⟩:=h
 cases h0
 cases h1
 rfl
theorem Grp.inj {x y:Grp}(h:x.v=y.v):x=y:=by
 obtain⟨x0,x1⟩:=x;obtain⟨y0,y1⟩:=y
 simp only[Grp.v,V.agg.injEq,List.cons.injEq,V.int.injEq,V.str.injEq,V.bool.injEq,V.sl.injEq,true_and,and_true]at h
 obtain⟨h0,h1⟩:=h
 cases h0
 cases map_inj (f:=V.int .i64) (fun h=>(V.int.inj h).2) h1
 rfl
theorem Hue.inj {x y:Hue}(h:x.v=y.v):x=y:=by
 obtain⟨x0,x1,x2⟩:=x;obtain⟨y0,y1,y2⟩:=y
 simp only[Hue.v,V.agg.injEq,List.cons.injEq,V.int.injEq,V.str.injEq,V.bool.injEq,V.sl.injEq,true_and,and_true]at h
 obtain⟨h0,h1,h2⟩:=h
 cases h0
 cases h1
 cases h2
 rfl
theorem Pal.inj {x y:Pal}(h:x.v=y.v):x=y:=by
 obtain⟨x0,x1⟩:=x;obtain⟨y0,y1⟩:=y
 simp only[Pal.v,V.agg.injEq,List.cons.injEq,V.int.injEq,V.str.injEq,V.bool.injEq,V.sl.injEq,true_and,and_true]at h
 obtain⟨h0,h1⟩:=h
 cases h0
 cases map_inj Hue.inj h1
 rfl
theorem Tim.inj {x y:Tim}(h:x.v=y.v):x=y:=by
 obtain⟨x0,x1,x2,x3,x4,x5⟩:=x;obtain⟨y0,y1,y2,y3,y4,y5⟩:=y
 simp only[Tim.v,V.agg.injEq,List.cons.injEq,V.int.injEq,V.str.injEq,V.bool.injEq,V.sl.injEq,true_and,and_true]at h
 obtain⟨h0,h1,h2,h3,h4,h5⟩:=h
 cases h0
 cases h1
 cases h2
 cases h3
 cases h4
 cases h5
 rfl
theorem Mov.inj {x y:Mov}(h:x.v=y.v):x=y:=by
 obtain⟨⟨x0,x1⟩,⟨x2,x3⟩,x4⟩:=x;obtain⟨⟨y0,y1⟩,⟨y2,y3⟩,y4⟩:=y
 simp only[Mov.v,V.agg.injEq,List.cons.injEq,V.int.injEq,V.str.injEq,V.bool.injEq,V.sl.injEq,true_and,and_true]at h
 obtain⟨h0,h1,h2,h3,h4⟩:=h
 cases h0
 cases h1
 cases h2
 cases h3
 cases h4
 rfl
theorem Cu.inj {x y:Cu}(h:x.v=y.v):x=y:=by
 obtain⟨x0,x1,x2,x3,x4,x5,x6,x7,x8⟩:=x;obtain⟨y0,y1,y2,y3,y4,y5,y6,y7,y8⟩:=y
 simp only[Cu.v,V.agg.injEq,List.cons.injEq,V.int.injEq,V.str.injEq,V.bool.injEq,V.sl.injEq,true_and,and_true]at h
 obtain⟨h0,h1,h2,h3,h4,h5,h6,h7,h8⟩:=h
 cases h0
 cases h1
 cases map_inj Mov.inj h2
 cases map_inj Tim.inj h3
 cases h4
 cases h5
 cases h6
 cases h7
 cases h8
 rfl
theorem Lst.inj {x y:Lst}(h:x.v=y.v):x=y:=by
 obtain⟨x0,x1,x2⟩:=x;obtain⟨y0,y1,y2⟩:=y
 simp only[Lst.v,V.agg.injEq,List.cons.injEq,V.int.injEq,V.str.injEq,V.bool.injEq,V.sl.injEq,true_and,and_true]at h
 obtain⟨h0,h1,h2⟩:=h
 cases h0
 cases h1
 cases map_inj Cu.inj h2
 rfl
theorem Gan.inj {x y:Gan}(h:x.v=y.v):x=y:=by
 obtain⟨⟨x0,x1⟩,x2⟩:=x;obtain⟨⟨y0,y1⟩,y2⟩:=y
 simp only[Gan.v,V.agg.injEq,List.cons.injEq,V.int.injEq,V.str.injEq,V.bool.injEq,V.sl.injEq,true_and,and_true]at h
 obtain⟨h0,h1,h2⟩:=h
 cases h0
 cases h1
 cases h2
 rfl
theorem Sb.inj {x y:Sb}(h:x.v=y.v):x=y:=by
 obtain⟨x0,x1,x2,x3⟩:=x;obtain⟨y0,y1,y2,y3⟩:=y
 simp only[Sb.v,V.agg.injEq,List.cons.injEq,V.int.injEq,V.str.injEq,V.bool.injEq,V.sl.injEq,true_and,and_true]at h
 obtain⟨h0,h1,h2,h3⟩:=h
 cases h0
 cases h1
 cases h2
 cases map_inj Gan.inj h3
 rfl
theorem Eff.inj {x y:Eff}(h:x.v=y.v):x=y:=by
 obtain⟨x0,x1,x2,x3,x4,x5⟩:=x;obtain⟨y0,y1,y2,y3,y4,y5⟩:=y
 simp only[Eff.v,V.agg.injEq,List.cons.injEq,V.int.injEq,V.str.injEq,V.bool.injEq,V.sl.injEq,true_and,and_true]at h
 obtain⟨h0,h1,h2,h3,h4,h5⟩:=h
 cases h0
 cases h1
 cases map_inj Pt.inj h2
 cases h3
 cases h4
 cases h5
 rfl
theorem Sho.inj {x y:Sho}(h:x.v=y.v):x=y:=by
 obtain⟨x0,x1,x2,x3,x4,x5,x6,x7,x8⟩:=x;obtain⟨y0,y1,y2,y3,y4,y5,y6,y7,y8⟩:=y
 simp only[Sho.v,V.agg.injEq,List.cons.injEq,V.int.injEq,V.str.injEq,V.bool.injEq,V.sl.injEq,true_and,and_true]at h
 obtain⟨h0,h1,h2,h3,h4,h5,h6,h7,h8⟩:=h
 cases h0
 cases map_inj (f:=Pt.vs) (fun h=>map_inj Pt.inj (V.sl.inj h)) h1
 cases map_inj Prof.inj h2
 cases map_inj Fixt.inj h3
 cases map_inj Grp.inj h4
 cases map_inj Pal.inj h5
 cases map_inj Lst.inj h6
 cases map_inj Sb.inj h7
 cases map_inj Eff.inj h8
 rfl
end Go.Proofs.YtdkokbhcjmapdaaGreatDoor

namespace Go.Proofs.YtdkokbhcjmapdaaGreatDoor
open Go.Sha
set_option maxRecDepth 100000
theorem Cu.Dk.ok {x:Cu}(h:x.Dk):x.ok:=⟨by have:=h.num;omega,by have:=h.label;omega,by have:=h.moves.1;omega,by have:=h.parts.1;omega,by have:=h.link;omega⟩
theorem Lst.Dk.ok {x:Lst}(h:x.Dk):x.ok:=⟨by have:=h.cues.1;omega,fun q hq=>(h.cues.2 q hq).ok⟩
theorem Prof.Dk.ok {x:Prof}(h:x.Dk):x.ok∧x.okR:=⟨⟨by have:=h.feats.1;omega,fun q hq=>by have:=(h.feats.2 q hq).wheel.1;omega,by have:=h.name;omega⟩,
 by have:=h.feats.1;omega,fun q hq=>⟨by have:=(h.feats.2 q hq).wheel.1;omega,fun z hz=>by have:=((h.feats.2 q hq).wheel.2 z hz).name;omega⟩,by have:=h.name;omega⟩
theorem Sho.Dk.ok {x : Sho}(h : x.Dk) : x.ok :=
  ⟨by have := h.title; omega, ⟨by have := h.curves.1; omega, fun q hq => by have := (h.curves.2 q hq).1; omega⟩, ⟨by have := h.profs.1; omega, fun q hq => (h.profs.2 q hq).ok.1, fun q hq => (h.profs.2 q hq).ok.2⟩,
   ⟨by have := h.fixts.1; omega, fun q hq => by have := (h.fixts.2 q hq).cable; omega⟩, ⟨by have := h.grps.1; omega, fun q hq => by have := (h.grps.2 q hq).chans.1; omega⟩, ⟨by have := h.pals.1; omega, fun q hq => by have := (h.pals.2 q hq).hues.1; omega⟩,
   ⟨by have := h.lsts.1; omega, fun q hq => (h.lsts.2 q hq).ok⟩, ⟨by have := h.subs.1; omega, fun q hq => by have := (h.subs.2 q hq).gains.1; omega⟩, ⟨by have := h.effs.1; omega, fun q hq => by have := (h.effs.2 q hq).wave.1; omega⟩⟩
end Go.Proofs.YtdkokbhcjmapdaaGreatDoor

namespace Go.Proofs.YtdkokbhcjmapdaaGreatDoor
open Go.ChangeShapes Go.WideShapes Go.ChangeAt Go.RowKit Go.Sha
theorem soundA:ESound Tryz.prog HA:=HA_ok HK_ok
theorem soundG (s:Sho):ESound Tryz.prog (HG s):=HG_ok HH_ok
theorem soundU (s:Sho):ESound Tryz.prog (HU s):=HU_ok HH_ok HK_ok soundA (soundG s)
theorem glB_K {v:GV}:glB (stG (glK v)).x.gl=true:=by kernel_rfl
theorem sk1:(laidOutB Tryz.prog)=true:=by kernel_rfl
theorem sk2:(mapsRowed Tryz.prog)=true:=by kernel_rfl
theorem sk6:(Tryz.prog.stops == [])=true:=by kernel_rfl
theorem sk8:(Tryz.prog.stopKnobs == [])=true:=by kernel_rfl
theorem sk22:(Rows.paperworkCuesRow.plainKeys == Tryz.prog.plainKeys)=true:=by kernel_rfl
theorem sk24:(Tryz.prog.stopsHeard)=true:=by kernel_rfl
theorem sk25:(Tryz.prog.mayEnter)=true:=by kernel_rfl
theorem sk26:(Rows.paperworkCuesRow.lifted == Tryz.prog.liftsFinal)=true:=by kernel_rfl
theorem sk27:(Tryz.prog.make == some Rows.paperworkCuesRow.make)=true:=by kernel_rfl
theorem sk15:(Rows.paperworkCuesRow.mapsOut == Tryz.prog.mapsAmong Tryz.f3.resultTypes.toList)=true:=by kernel_rfl
theorem sown:ownKnob Tryz.prog.godebug=none:=by kernel_rfl
theorem smain:Tryz.prog.mainIs=some (Rows.paperworkCuesCard.stood.harness.1,Rows.paperworkCuesCard.stood.harness.2.toList):=by kernel_rfl
theorem slooks:Rows.paperworkCuesCard.stood.looks=Tryz.prog.looks []:=by kernel_rfl
end Go.Proofs.YtdkokbhcjmapdaaGreatDoor

