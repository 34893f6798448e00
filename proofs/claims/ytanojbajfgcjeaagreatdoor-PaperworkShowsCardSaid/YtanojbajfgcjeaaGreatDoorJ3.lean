/- tracking.value: its contract in worlds. tracking.value's contract over shadow values. The contracts of this seat's table hold. The contracts with the examples' show hold. From what a card lists of the .. -/
import Derived.Test.YtanojbajfgcjeaaGreatDoorJ2
import Derived.Test.YtanojbajfgcjeaaGreatDoorJ1
import Derived.Test.YtanojbajfgcjeaaGreatDoorJShbT
import Derived.Test.YtanojbajfgcjeaaGreatDoorJShbZ
import Derived.Lib.AppendIntMem
import Derived.Test.YtanojbajfgcjeaaGreatDoorJShbXH
import Derived.Test.YtanojbajfgcjeaaGreatDoorRows
import Derived.Test.YtanojbajfgcjeaaGreatDoorJShbAE
import Derived.Test.YtanojbajfgcjeaaGreatDoorJShbYB
import Derived.Test.YtanojbajfgcjeaaGreatDoorProg
import Derived.KernelRfl
import Derived.Lib.ItoaLen
import Derived.Test.YtanojbajfgcjeaaGreatDoorJShbXI
import Derived.Lib.CountLaws
import Derived.Lib.IndexLaws
import Derived.Test.YtanojbajfgcjeaaGreatDoorJShbXF
import Derived.Test.YtanojbajfgcjeaaGreatDoorJShbAC
import Derived.Test.YtanojbajfgcjeaaGreatDoorCards
import Derived.SizedLaws
import Derived.WalkKit
import Derived.ProofKit
import Derived.OpenShut
import Derived.ChangeMaps5
import Derived.LaidLaws
import Derived.LaidHandle
import Derived.Lay
import Derived.SevenTiedAt
set_option linter.unusedSimpArgs false
set_option linter.unusedVariables false
namespace Go.Proofs.YtanojbajfgcjeaaGreatDoor
open Go.RowKit Go.Shelf
attribute [local go_sem] Oper.semAt_some
def Box9 (c0 c1 c2 c3:Nat→Value)(bl:Nat→Bool)(c5 c6 c7 c8:Nat→Value)(W:World)(b o x:Nat):Prop :=
 W.cell? ⟨b,o,none⟩=some (c0 x)∧W.cell? ⟨b,o+1,none⟩=some (c1 x)∧W.cell? ⟨b,o+2,none⟩=some (c2 x)∧W.cell? ⟨b,o+3,none⟩=some (c3 x) ∧
   W.cell? ⟨b,o+4,none⟩=some (.bool (bl x))∧W.cell? ⟨b,o+5,none⟩=some (c5 x)∧W.cell? ⟨b,o+6,none⟩=some (c6 x)∧W.cell? ⟨b,o+7,none⟩=some (c7 x)∧W.cell? ⟨b,o+8,none⟩=some (c8 x)
theorem back_stops (F:Fence)(n:Nat)(h7:F.fn 300)(hro:F.round=none)(hn:1≤n)(Ba Bl n₀ b off len cap a:Nat)(c0 c1 c2 c3 c5 c6 c7 c8:Nat→Value)(bl:Nat→Bool)(hlen:len*144≤140737488351232)(hb:b<n₀)(ha:a<len)
  (w:World) (hn0:n₀≤w.heap.size) (hBa:w.cell? ⟨Ba,0,none⟩=some (.int .i64 a)) (hBa0:Ba<w.heap.size) (hBl:w.cell? ⟨Bl,2,none⟩=some (.slice (some ⟨b,off,none⟩) len cap)) (hBl0:Bl<n₀)
  (hc:∀j,j<len→Box9 c0 c1 c2 c3 bl c5 c6 c7 c8 w b (off+j*9) j) :
  SeqStopsK F n Tryz.prog 300 #[.pointer (some ⟨Ba,0,none⟩),.pointer (some ⟨Bl,0,none⟩)] (fun x:Nat=>#[.agg #[c0 x,c1 x,c2 x,c3 x,.bool (bl x),c5 x,c6 x,c7 x,c8 x]]) (Below n₀)
   (fun xs=>∃k,k≤a+1∧xs=dnL a k∧(k=a+1∨0<k∧bl (a+1-k)=true)∧∀j,0<j→j<k→bl (a+1-j)=false)
   (fun xs=>∃k,k≤a+1∧xs=dnL a k∧∀j,0<j→j<k→bl (a+1-j)=false) (a+1) w:=fun l J Jx W hW _ _ hY h0=>by
 have hB:=hW.mono hn0
 refine(back1_in F n h7 hro hn l Ba Bl n₀ b off len cap a c0 c1 c2 c3 c5 c6 c7 c8 bl hlen hb ha J Jx hY W ((hW.cell (p:=⟨Ba,0,none⟩) hBa0).trans hBa) ((hB.cell (p:=⟨Bl,2,none⟩) hBl0).trans hBl) hBl0 (fun j hj=>?_) h0).mono ?_
 ·obtain⟨d0,d1,d2,d3,d4,d5,d6,d7,d8⟩:=hc j hj
  exact⟨(hB.cell (p:=⟨b,_,none⟩) hb).trans d0,(hB.cell (p:=⟨b,_,none⟩) hb).trans d1,(hB.cell (p:=⟨b,_,none⟩) hb).trans d2,(hB.cell (p:=⟨b,_,none⟩) hb).trans d3,(hB.cell (p:=⟨b,_,none⟩) hb).trans d4,(hB.cell (p:=⟨b,_,none⟩) hb).trans d5,(hB.cell (p:=⟨b,_,none⟩) hb).trans d6,(hB.cell (p:=⟨b,_,none⟩) hb).trans d7,(hB.cell (p:=⟨b,_,none⟩) hb).trans d8⟩
 ·rintro e W' ⟨he,⟨k,h1,h2,h3,h4⟩|⟨k,h1,h2,h3⟩⟩
  ·exact⟨he,.inl ⟨_,⟨k,h1,rfl,h3,h4⟩,h2⟩⟩
  ·exact⟨he,.inr ⟨_,⟨k,h1,rfl,h3⟩,h2⟩⟩
theorem heap5 (w:World)(o1 o2 o3 o4 o5:Obj):(((((w.alloc o1).alloc o2).alloc o3).alloc o4).alloc o5).heap[w.heap.size+1]?=some o2∧(((((w.alloc o1).alloc o2).alloc o3).alloc o4).alloc o5).heap[w.heap.size+1+1]?=some o3 ∧
  (((((w.alloc o1).alloc o2).alloc o3).alloc o4).alloc o5).heap[w.heap.size+1+1+1]?=some o4∧(((((w.alloc o1).alloc o2).alloc o3).alloc o4).alloc o5).heap[w.heap.size+1+1+1+1]?=some o5:=by
 have e:(((((w.alloc o1).alloc o2).alloc o3).alloc o4).alloc o5).heap=((((w.heap.push o1).push o2).push o3).push o4).push o5:=rfl
 rw[e]
 simp only[Array.getElem?_push,Array.size_push]
 refine⟨?_,?_,?_,?_⟩
 ·rw[if_neg (by omega),if_neg (by omega),if_neg (by omega),if_pos trivial]
 ·rw[if_neg (by omega),if_neg (by omega),if_pos trivial]
 ·rw[if_neg (by omega),if_pos trivial]
 ·rw[if_pos trivial]
theorem cell_at {W:World}{k i:Nat}{cs:Array Value}{T:TypeId}{fz:Nat×Nat}(h:W.heap[k]?=some (.cells cs T fz)):W.cell? ⟨k,i,none⟩=cs[i]?:=by simp[World.cell?,h]
theorem froz_below {n:Nat}{A B:World}(h:Below n A B){p:Addr}(hp:p.block<n):B.frozen? p=A.frozen? p:=by unfold World.frozen?;rw[h.block _ hp]
theorem keeps_below {A B:World}(h:Below A.heap.size A B):KeepsOthers A B:=⟨h.size,fun k o hk _=>by rw[h.block k (Array.getElem?_eq_some_iff.1 hk).1];exact hk⟩
theorem froz_at {W:World}{k i:Nat}{cs:Array Value}{T:TypeId}(h:W.heap[k]?=some (.cells cs T (0,0))):W.frozen? ⟨k,i,none⟩=false:=by simp[World.frozen?,h]
set_option maxRecDepth 100000 in
set_option maxHeartbeats 4000000 in
theorem value_calls (w : World)(b off len cap a : Nat)(s0 s1 s7 : Nat → ByteArray)(a2 a3 : Nat → Option Addr)(n2 k2 n3 k3 : Nat → Nat)(b5 : Nat → Bool)(i6 i8 : Nat → Int)(bl : Nat → Bool)(v0 v1 p0 p1 : Value)(m1 m2 : Nat → Int)(ok : Nat → Bool)(hlen : len * 144 ≤ 140737488351232)(hb : b < w.heap.size)(ha : a < len)
    (hc : ∀ j, j < len → Box9 (fun x => .string (s0 x)) (fun x => .string (s1 x)) (fun x => .slice (a2 x) (n2 x) (k2 x)) (fun x => .slice (a3 x) (n3 x) (k3 x)) bl (fun x => .bool (b5 x)) (fun x => .int .i64 (i6 x)) (fun x => .string (s7 x)) (fun x => .int .i64 (i8 x)) w b (off + j * 9) j)
    (hmove : ∀ x W, Below w.heap.size w W → Calls Tryz.prog 231 #[.agg #[.string (s0 x), .string (s1 x), .slice (a2 x) (n2 x) (k2 x), .slice (a3 x) (n3 x) (k3 x), .bool (bl x), .bool (b5 x), .int .i64 (i6 x), .string (s7 x), .int .i64 (i8 x)], .agg #[p0, p1]] W fun e W' => e = .returned (.tuple #[.agg #[.int .i64 (m1 x), .int .i64 (m2 x)], .bool (ok x)]) ∧ Below W.heap.size W W')
    (hhome : ∀ W, Calls Tryz.prog 232 #[] W fun e W' => e = .returned (.agg #[.int .i64 (-1), .int .i64 0]) ∧ Below W.heap.size W W') :
    Calls Tryz.prog 152 #[.agg #[v0, v1, .slice (some ⟨b, off, none⟩) len cap], .int .i64 a, .agg #[p0, p1]] w fun e W' =>
      ((∃ k, k ≤ a + 1 ∧ (∀ x ∈ dnL a k, ok x = false) ∧ (k = a + 1 ∨ 0 < k ∧ bl (a + 1 - k) = true) ∧ (∀ j, 0 < j → j < k → bl (a + 1 - j) = false) ∧ e = .returned (.agg #[.int .i64 (-1), .int .i64 0])) ∨
       (∃ k, k < a + 1 ∧ (∀ x ∈ dnL a k, ok x = false) ∧ ok (a - k) = true ∧ (∀ j, 0 < j → j ≤ k → bl (a + 1 - j) = false) ∧ e = .returned (.agg #[.int .i64 (m1 (a - k)), .int .i64 (m2 (a - k))]))) ∧ Below w.heap.size w W' := by
  refine (callsIn_wide (n := 3)).1 ?_
  refine callsIn_of_wp_marks Tryz.func152 rfl trivial ?_ rfl
  simp only [Tryz.ntmps152, List.size_toArray, List.length_cons, List.length_nil, Nat.reduceAdd, Nat.reduceSub, Array.replicate_succ, Array.replicate_zero, List.push_toArray, List.append_toArray, List.nil_append, List.cons_append]
  gi_wp2_with (refine ⟨trivial, ?_⟩; gi_at_call 230; refine (back_in Fence.wide _ trivial rfl _ _ _ _ _).mono ?_; rintro e w' ⟨rfl, rfl⟩)
  have hB0 : Below w.heap.size w (((((w.alloc (.cells #[v0, v1, .slice (some ⟨b, off, none⟩) len cap] 66)).alloc (.cells #[p0, p1] 83)).alloc (.cells #[.int .i64 0, .int .i64 0] 85)).alloc (.cells #[v0, v1, .slice (some ⟨b, off, none⟩) len cap] 66)).alloc (.cells #[.int .i64 a] 3)) :=
    (((((Below.refl _ w).alloc (Nat.le_refl _) _).alloc (by simp) _).alloc (by simp; omega) _).alloc (by simp; omega) _).alloc (by simp; omega) _
  have hs0 : (((((w.alloc (.cells #[v0, v1, .slice (some ⟨b, off, none⟩) len cap] 66)).alloc (.cells #[p0, p1] 83)).alloc (.cells #[.int .i64 0, .int .i64 0] 85)).alloc (.cells #[v0, v1, .slice (some ⟨b, off, none⟩) len cap] 66)).alloc (.cells #[.int .i64 a] 3)).heap.size = w.heap.size + 1 + 1 + 1 + 1 + 1 := by simp
  obtain ⟨g2, g3, g4, g5⟩ := heap5 w (.cells #[v0, v1, .slice (some ⟨b, off, none⟩) len cap] 66) (.cells #[p0, p1] 83) (.cells #[.int .i64 0, .int .i64 0] 85) (.cells #[v0, v1, .slice (some ⟨b, off, none⟩) len cap] 66) (.cells #[.int .i64 a] 3)
  generalize hW0 : (((((w.alloc (.cells #[v0, v1, .slice (some ⟨b, off, none⟩) len cap] 66)).alloc (.cells #[p0, p1] 83)).alloc (.cells #[.int .i64 0, .int .i64 0] 85)).alloc (.cells #[v0, v1, .slice (some ⟨b, off, none⟩) len cap] 66)).alloc (.cells #[.int .i64 a] 3)) = W0 at *
  have f0 : W0.cell? ⟨w.heap.size + 1 + 1 + 1 + 1, 0, none⟩ = some (.int .i64 a) := cell_at g5
  have f1 : W0.cell? ⟨w.heap.size + 1 + 1 + 1, 2, none⟩ = some (.slice (some ⟨b, off, none⟩) len cap) := cell_at g4
  have f3 : W0.cell? ⟨w.heap.size + 1, 0, none⟩ = some p0 := cell_at g2
  have f4 : W0.cell? ⟨w.heap.size + 1, 1, none⟩ = some p1 := cell_at g2
  have f5 : W0.cell? ⟨w.heap.size + 1 + 1, 0, none⟩ = some (.int .i64 0) := cell_at g3
  have f6 : W0.cell? ⟨w.heap.size + 1 + 1, 1, none⟩ = some (.int .i64 0) := cell_at g3
  have f7 : W0.frozen? ⟨w.heap.size + 1 + 1, 0, none⟩ = false := froz_at g3
  have f8 : W0.frozen? ⟨w.heap.size + 1 + 1, 1, none⟩ = false := froz_at g3
  have hc0 : ∀ j, j < len → Box9 (fun x => .string (s0 x)) (fun x => .string (s1 x)) (fun x => .slice (a2 x) (n2 x) (k2 x)) (fun x => .slice (a3 x) (n3 x) (k3 x)) bl (fun x => .bool (b5 x)) (fun x => .int .i64 (i6 x)) (fun x => .string (s7 x)) (fun x => .int .i64 (i8 x)) W0 b (off + j * 9) j := fun j hj => by
    obtain ⟨d0, d1, d2, d3, d4, d5, d6, d7, d8⟩ := hc j hj
    exact ⟨(hB0.cell (p := ⟨b, _, none⟩) hb).trans d0, (hB0.cell (p := ⟨b, _, none⟩) hb).trans d1, (hB0.cell (p := ⟨b, _, none⟩) hb).trans d2, (hB0.cell (p := ⟨b, _, none⟩) hb).trans d3, (hB0.cell (p := ⟨b, _, none⟩) hb).trans d4, (hB0.cell (p := ⟨b, _, none⟩) hb).trans d5, (hB0.cell (p := ⟨b, _, none⟩) hb).trans d6, (hB0.cell (p := ⟨b, _, none⟩) hb).trans d7, (hB0.cell (p := ⟨b, _, none⟩) hb).trans d8⟩
  refine wpIn_rangeFunc_ownH rfl (by decide) (gf := 300) (lb := #[.pointer (some ⟨w.heap.size + 1 + 1 + 1 + 1, 0, none⟩), .pointer (some ⟨w.heap.size + 1 + 1 + 1, 0, none⟩)]) rfl trivial (enters_of Tryz.func300 (by kernel_rfl) rfl)
    (back_stops Fence.wide _ trivial rfl (by decide) (w.heap.size + 1 + 1 + 1 + 1) (w.heap.size + 1 + 1 + 1) W0.heap.size b off len cap a (fun x => .string (s0 x)) (fun x => .string (s1 x)) (fun x => .slice (a2 x) (n2 x) (k2 x)) (fun x => .slice (a3 x) (n3 x) (k3 x)) (fun x => .bool (b5 x)) (fun x => .int .i64 (i6 x)) (fun x => .string (s7 x)) (fun x => .int .i64 (i8 x)) bl hlen (by omega) ha W0 (Nat.le_refl _) f0 (by omega) f1 (by omega) hc0)
    belowK_t (belowK_b (Nat.le_refl _)) (Below.refl _ _) (fun _ => rfl)
    (fun pre W => (∀ x ∈ pre, ok x = false) ∧ Below W0.heap.size W0 W)
    (fun c pre W => (c = .ret ∧ ∃ ini last, pre = ini ++ [last] ∧ (∀ x ∈ ini, ok x = false) ∧ ok last = true ∧ W.cell? ⟨w.heap.size + 1 + 1, 0, none⟩ = some (.int .i64 (m1 last)) ∧ W.cell? ⟨w.heap.size + 1 + 1, 1, none⟩ = some (.int .i64 (m2 last))) ∧ Below w.heap.size w W)
    (OwnFrom.and (Own.from (fun s A B row hs hg hr => hs) _) (ownFrom_below (Nat.le_refl _) (Nat.le_refl _)))
    (fun c => OwnFrom.and (Own.from (fun s A B row hs hg hr => by obtain ⟨hc, ini, last, e1, e2, e3, e4, e5⟩ := hs; exact ⟨hc, ini, last, e1, e2, e3, cell_kept e4 hg hr, cell_kept e5 hg hr⟩) _) (ownFrom_below (Nat.le_refl _) (by omega)))
    ⟨by simp, Below.refl _ _⟩
    (fun x a' W => ∃ Bx, w.heap.size + 1 + 1 + 1 + 1 + 1 ≤ Bx ∧ Box9 (fun x => .string (s0 x)) (fun x => .string (s1 x)) (fun x => .slice (a2 x) (n2 x) (k2 x)) (fun x => .slice (a3 x) (n3 x) (k3 x)) bl (fun x => .bool (b5 x)) (fun x => .int .i64 (i6 x)) (fun x => .string (s7 x)) (fun x => .int .i64 (i8 x)) W Bx 0 x ∧ a' = { tmps := #[.agg #[v0, v1, .slice (some ⟨b, off, none⟩) len cap], .int .i64 a, .agg #[p0, p1], .pointer (some ⟨w.heap.size, 0, none⟩), undef, .pointer (some ⟨w.heap.size + 1, 0, none⟩), .pointer (some ⟨w.heap.size + 1 + 1, 0, none⟩), .pointer (some ⟨Bx, 0, none⟩), undef, undef, .agg #[v0, v1, .slice (some ⟨b, off, none⟩) len cap], .int .i64 a, .func (.func 300) #[] #[.pointer (some ⟨w.heap.size + 1 + 1 + 1 + 1, 0, none⟩), .pointer (some ⟨w.heap.size + 1 + 1 + 1, 0, none⟩)], .agg #[.string (s0 x), .string (s1 x), .slice (a2 x) (n2 x) (k2 x), .slice (a3 x) (n3 x) (k3 x), .bool (bl x), .bool (b5 x), .int .i64 (i6 x), .string (s7 x), .int .i64 (i8 x)], undef, undef, undef, undef, undef, undef, undef, undef, undef], defers := [] })
    (fun x a' => Own.from (fun s A B row hs hg hr => by
      obtain ⟨Bx, h1, ⟨d0, d1, d2, d3, d4, d5, d6, d7, d8⟩, h3⟩ := hs
      exact ⟨Bx, h1, ⟨cell_kept d0 hg hr, cell_kept d1 hg hr, cell_kept d2 hg hr, cell_kept d3 hg hr, cell_kept d4 hg hr, cell_kept d5 hg hr, cell_kept d6 hg hr, cell_kept d7 hg hr, cell_kept d8 hg hr⟩, h3⟩) _) ?assign ?body ?done ?stop
  case assign =>
    rintro l pre x W K hi hK
    gi_wp2
    refine hK _ _ ((KeepsOthers.alloc _ _).from _) ((Below.refl _ W).alloc hi.2.size _) ⟨hi.1, hi.2.alloc hi.2.size _⟩ ⟨W.heap.size, by have := hi.2.size; omega, ?_, rfl⟩
    have hn := World.alloc_heap_new W (.cells #[.string (s0 x), .string (s1 x), .slice (a2 x) (n2 x) (k2 x), .slice (a3 x) (n3 x) (k3 x), .bool (bl x), .bool (b5 x), .int .i64 (i6 x), .string (s7 x), .int .i64 (i8 x)] 73)
    exact ⟨cell_at hn, cell_at hn, cell_at hn, cell_at hn, cell_at hn, cell_at hn, cell_at hn, cell_at hn, cell_at hn⟩
  case body =>
    rintro l pre x a' W hl ⟨r, hr⟩ ⟨hp, hB⟩ ⟨Bx, hBx, ⟨d0, d1, d2, d3, d4, d5, d6, d7, d8⟩, rfl⟩ hlt
    simp only [Nat.zero_add] at d1 d2 d3 d4 d5 d6 d7 d8
    have hBw : Below w.heap.size w W := hB0.trans (hB.mono (by omega))
    have q3 := (hB.cell (p := ⟨w.heap.size + 1, 0, none⟩) (by show w.heap.size + 1 < _; omega)).trans f3
    have q4 := (hB.cell (p := ⟨w.heap.size + 1, 1, none⟩) (by show w.heap.size + 1 < _; omega)).trans f4
    gi_wp2_with (refine ⟨trivial, ?_⟩; gi_at_call 231; refine (CallsIn.inRound l (callsIn_wide.2 (hmove x W hBw))).mono ?_; rintro e w' ⟨rfl, hBm⟩; have hs3 := hB.size; have hs4 := hBm.size; have hB3 : Below W0.heap.size W0 w' := hB.trans (hBm.mono hs3); have q5 : ∀ o, (w'.alloc o).cell? ⟨w.heap.size + 1 + 1, 0, none⟩ = some (.int .i64 0) := fun o => ((hB3.alloc (by omega) o).cell (p := ⟨w.heap.size + 1 + 1, 0, none⟩) (by show w.heap.size + 1 + 1 < _; omega)).trans f5; have q6 : ∀ o, (w'.alloc o).cell? ⟨w.heap.size + 1 + 1, 1, none⟩ = some (.int .i64 0) := fun o => ((hB3.alloc (by omega) o).cell (p := ⟨w.heap.size + 1 + 1, 1, none⟩) (by show w.heap.size + 1 + 1 < _; omega)).trans f6; have q7 : ∀ o, (w'.alloc o).frozen? ⟨w.heap.size + 1 + 1, 0, none⟩ = false := fun o => (froz_below (hB3.alloc (by omega) o) (by show w.heap.size + 1 + 1 < _; omega)).trans f7; have q8 : ∀ o, (w'.alloc o).frozen? ⟨w.heap.size + 1 + 1, 1, none⟩ = false := fun o => (froz_below (hB3.alloc (by omega) o) (by show w.heap.size + 1 + 1 < _; omega)).trans f8)
    all_goals first
      | (have hx : ok x = false := by first | assumption | simpa using (by assumption : ¬ ok x = true)
         exact ⟨((keeps_below hBm).trans (KeepsOthers.alloc _ _)).from _, (hBm.mono hs3).alloc (by omega) _, ⟨fun y hy => (List.mem_append.1 hy).elim (hp y) (fun e => by rw [List.mem_singleton.1 e]; exact hx), hB3.alloc (by omega) _⟩⟩)
      | skip
    have hx : ok x = true := by first | assumption | simpa using (by assumption : ¬ ok x = false)
    refine ⟨(((keeps_below hBm).trans (KeepsOthers.alloc _ _)).trans ((KeepsOthers.setCell _ _ _).trans (KeepsOthers.setCell _ _ _))).from _, ⟨rfl, pre, x, rfl, hp, hx, ?_, ?_⟩, ?_⟩
    · exact (World.cell?_setCell_other _ _ _ _ (by simp)).trans (World.cell?_setCell_same' _ _ _ (by rw [q5]; rfl))
    · exact World.cell?_setCell_same' _ _ _ (by rw [World.cell?_setCell_other _ _ _ _ (by simp), q6]; rfl)
    · exact (((hBw.trans (hBm.mono hBw.size)).alloc (by omega) _).setCell (p := ⟨w.heap.size + 1 + 1, 0, none⟩) (by show _ ≤ w.heap.size + 1 + 1; omega) _).setCell (p := ⟨w.heap.size + 1 + 1, 1, none⟩) (by show _ ≤ w.heap.size + 1 + 1; omega) _
  case done =>
    rintro D ys W hD ⟨k, h1, rfl, h2, h3⟩ ⟨hp, hB⟩ hK
    gi_wp2_with (refine ⟨trivial, ?_⟩; gi_at_call 232; refine (callsIn_wide.2 (hhome W)).mono ?_; rintro e w' ⟨rfl, hBh⟩; have hs3 := hB.size; have hs4 := hBh.size; have hB3 : Below W0.heap.size W0 w' := hB.trans (hBh.mono hs3); have q5 : w'.cell? ⟨w.heap.size + 1 + 1, 0, none⟩ = some (.int .i64 0) := (hB3.cell (p := ⟨w.heap.size + 1 + 1, 0, none⟩) (by show w.heap.size + 1 + 1 < _; omega)).trans f5; have q6 : w'.cell? ⟨w.heap.size + 1 + 1, 1, none⟩ = some (.int .i64 0) := (hB3.cell (p := ⟨w.heap.size + 1 + 1, 1, none⟩) (by show w.heap.size + 1 + 1 < _; omega)).trans f6; have q7 : w'.frozen? ⟨w.heap.size + 1 + 1, 0, none⟩ = false := (froz_below hB3 (by show w.heap.size + 1 + 1 < _; omega)).trans f7; have q8 : w'.frozen? ⟨w.heap.size + 1 + 1, 1, none⟩ = false := (froz_below hB3 (by show w.heap.size + 1 + 1 < _; omega)).trans f8)
    have hKh : w'.heap[D]? = some (.deferred (some [])) := (hBh.block D (Array.getElem?_eq_some_iff.1 hK).1).trans hK
    have hK' := (KeepsOthers.setCell (w'.setCell ⟨w.heap.size + 1 + 1, 0, none⟩ (.int .i64 (-1))) ⟨w.heap.size + 1 + 1, 1, none⟩ (.int .i64 0)).same D _ ((KeepsOthers.setCell w' ⟨w.heap.size + 1 + 1, 0, none⟩ (.int .i64 (-1))).same D _ hKh rfl) rfl
    refine ⟨by simp, .inl ⟨_, _, rfl, run_takeDeferred hK', ?_⟩⟩
    have k0 : ((w'.setCell ⟨w.heap.size + 1 + 1, 0, none⟩ (.int .i64 (-1))).setCell ⟨w.heap.size + 1 + 1, 1, none⟩ (.int .i64 0)).cell? ⟨w.heap.size + 1 + 1, 0, none⟩ = some (.int .i64 (-1)) :=
      (World.cell?_setCell_other _ _ _ _ (by simp)).trans (World.cell?_setCell_same' _ _ _ (by rw [q5]; rfl))
    have k1 : ((w'.setCell ⟨w.heap.size + 1 + 1, 0, none⟩ (.int .i64 (-1))).setCell ⟨w.heap.size + 1 + 1, 1, none⟩ (.int .i64 0)).cell? ⟨w.heap.size + 1 + 1, 1, none⟩ = some (.int .i64 0) :=
      World.cell?_setCell_same' _ _ _ (by rw [World.cell?_setCell_other _ _ _ _ (by simp), q6]; rfl)
    have hc5 := cell_kept k0 (grownBy_putObj' _ D (.deferred none)) (fun r e => by cases e; exact ⟨_, hK', rfl⟩)
    have hc6 := cell_kept k1 (grownBy_putObj' _ D (.deferred none)) (fun r e => by cases e; exact ⟨_, hK', rfl⟩)
    refine ⟨.agg #[.int .i64 (-1), .int .i64 0], ?_, .inl ⟨k, h1, hp, h2, h3, rfl⟩, (((hB0.trans (hB3.mono (by omega))).setCell (p := ⟨w.heap.size + 1 + 1, 0, none⟩) (by show _ ≤ w.heap.size + 1 + 1; omega) _).setCell (p := ⟨w.heap.size + 1 + 1, 1, none⟩) (by show _ ≤ w.heap.size + 1 + 1; omega) _).trans (belowK_b (w := w) (Nat.le_refl _) _ D _ _ (by omega) hK' rfl rfl)⟩
    simp [results, Tryz.f152, go_sem, hc5, hc6]
  case stop =>
    rintro D c pre W hD ⟨k, h1, rfl, h2⟩ ⟨⟨rfl, ini, last, e1, e2, e3, e4, e5⟩, hB⟩ hK
    gi_wp2
    obtain ⟨k', rfl⟩ : ∃ k', k = k' + 1 := by
      cases k with
      | zero => simp [dnL] at e1
      | succ k' => exact ⟨k', rfl⟩
    rw [dnL_succ] at e1
    obtain ⟨rfl, e6⟩ := List.append_inj' e1 rfl
    obtain rfl : a - k' = last := by simpa using e6
    refine ⟨by simp, .inl ⟨_, _, rfl, run_takeDeferred hK, ?_⟩⟩
    have hc5 := cell_kept e4 (grownBy_putObj' _ D (.deferred none)) (fun r e => by cases e; exact ⟨_, hK, rfl⟩)
    have hc6 := cell_kept e5 (grownBy_putObj' _ D (.deferred none)) (fun r e => by cases e; exact ⟨_, hK, rfl⟩)
    refine ⟨.agg #[.int .i64 (m1 (a - k')), .int .i64 (m2 (a - k'))], ?_, .inr ⟨k', by omega, e2, e3, fun j h3 h4 => h2 j h3 (by omega), rfl⟩, hB.trans (belowK_b (w := w) (Nat.le_refl _) W D _ _ (by omega) hK rfl rfl)⟩
    simp [results, Tryz.f152, go_sem, hc5, hc6]
end Go.Proofs.YtanojbajfgcjeaaGreatDoor

namespace Go.Proofs.YtanojbajfgcjeaaGreatDoor
open Go.Sha Go.RowKit
set_option maxRecDepth 100000
theorem calls_of {P:Program}{f:FuncId}{fn:Func}(hf:P.funcs[f]?=some fn)(hname:(fn.name == "runtime.NumGoroutine")=false)(hb:fn.body.isNone=false){ds:List V}{st':St}{r:V}(h:VRet P f ds st0 r st'){w:World}{vs:List Value}(ha:Reps w (abs0 w) vs ds) :
  Calls P f vs.toArray w fun e w'=>(∃v A',e=.returned v∧Rep w' A' v r)∧Below w.heap.size w w':=by
 refine(VCalls.calls hf hname hb h (sim0 w) ha).mono fun e w' ⟨r',A',s,⟨hr,_⟩,he,_,hx⟩=>?_
 subst hr
 cases e with
 |returned v=>exact⟨⟨v,A',rfl,he⟩,⟨hx.os,hx.tape,hx.output,hx.size,fun i hi=>hx.fr i hi rfl⟩⟩
 |panicked ch=>exact he.elim
 |outgrown=>exact he.elim
theorem rdL_map {α:Type}{f:V→Option α}{g:α→V}(h:∀v x,f v=some x→v=g x):∀{l:List V}{xs:List α},rdL f l=some xs→l=xs.map g
 |[],xs,e=>by cases e;rfl
 |v::r,xs,e=>by
  rw[rdL]at e
  split at e
  ·rename_i x l h1 h2
   cases e
   rw[List.map_cons,←rdL_map h h2,←h v x h1]
  ·cases e
theorem rdMov_v (v:V)(x:Mov)(h:rdMov v=some x):v=x.v:=by
 unfold rdMov at h;split at h
 ·cases h;rfl
 ·cases h
theorem rdTim_v (v:V)(x:Tim)(h:rdTim v=some x):v=x.v:=by
 unfold rdTim at h;split at h
 ·cases h;rfl
 ·cases h
theorem rdCu_v (v:V)(x:Cu)(h:rdCu v=some x):v=x.v:=by
 unfold rdCu at h;split at h
 ·split at h
  ·rename_i h1 h2
   cases h
   rw[rdL_map rdMov_v h1,rdL_map rdTim_v h2]
  ·cases h
 ·cases h
theorem rep_sl {w:World}{A:Abs}{v:Value}{l:List V}(h:Rep w A v (.sl l)):∃a n k,v=.slice a n k:=by
 cases h with
 |sl=>exact⟨_,_,_,rfl⟩
 |slnil a=>exact⟨_,_,_,rfl⟩
theorem cues_at {w:World}{A:Abs}{v:Value}{l:List Cu}(h:Rep w A v (.sl (l.map Cu.v)))(hne:l≠[]) :
  ∃b o cap,∃cell:Nat→Nat→Value,v=.slice (some ⟨b,o,none⟩) l.length cap∧∀j x,l[j]?=some x→∀k c,x.v.cells[k]?=some c→A.C b (o+(j*9+k))∧w.cell? ⟨b,o+(j*9+k),none⟩=some (cell j k)∧Rep w A (cell j k) c:=by
 generalize hd:V.sl (l.map Cu.v)=d at h
 cases h with
 |sl ys b o cap es cell hes hcap hm hC hr =>
  cases hd
  have e1:es=9:=by
   obtain⟨x,hx⟩:=List.exists_mem_of_ne_nil _ hne
   exact(hes x.v (List.mem_map.2 ⟨x,hx,rfl⟩)).symm.trans rfl
  subst e1
  refine⟨b,o,cap,cell,by rw[List.length_map],fun j x hj k c hk=>?_⟩
  have hj':(l.map Cu.v)[j]?=some x.v:=by rw[List.getElem?_map,hj];rfl
  obtain⟨g1,g2,_⟩:=hC j k _ c hj' hk
  exact⟨g1,g2,hr j k _ c hj' hk⟩
 |slnil a=>cases l with|nil=>exact absurd rfl hne|cons x l=>cases hd
 |_=>cases hd
theorem agg9 {w:World}{A:Abs}{c:Cu}{a2 a3:Option Addr}{n2 k2 n3 k3:Nat}(h2:Rep w A (.slice a2 n2 k2) (.sl (c.moves.map Mov.v)))(h3:Rep w A (.slice a3 n3 k3) (.sl (c.parts.map Tim.v))) :
  Rep w A (.agg #[.string ⟨c.num.toArray⟩,.string ⟨c.label.toArray⟩,.slice a2 n2 k2,.slice a3 n3 k3,.bool c.block,.bool c.mark,.int .i64 c.follow,.string ⟨c.link.toArray⟩,.int .i64 c.loops]) c.v:=by
 refine Rep.agg [.string ⟨c.num.toArray⟩,.string ⟨c.label.toArray⟩,.slice a2 n2 k2,.slice a3 n3 k3,.bool c.block,.bool c.mark,.int .i64 c.follow,.string ⟨c.link.toArray⟩,.int .i64 c.loops] _ rfl (fun v hv=>?_) (fun i v d h4 h5=>?_)
 ·simp at hv;rcases hv with rfl|rfl|rfl|rfl|rfl|rfl|rfl|rfl|rfl<;>rfl
 ·match i,h4,h5 with
  |0,h4,h5=>simp at h4 h5;subst h4 h5;exact .str _
  |1,h4,h5=>simp at h4 h5;subst h4 h5;exact .str _
  |2,h4,h5=>simp at h4 h5;subst h4 h5;exact h2
  |3,h4,h5=>simp at h4 h5;subst h4 h5;exact h3
  |4,h4,h5=>simp at h4 h5;subst h4 h5;exact .bool _
  |5,h4,h5=>simp at h4 h5;subst h4 h5;exact .bool _
  |6,h4,h5=>simp at h4 h5;subst h4 h5;exact .int _ _
  |7,h4,h5=>simp at h4 h5;subst h4 h5;exact .str _
  |8,h4,h5=>simp at h4 h5;subst h4 h5;exact .int _ _
  |n+9,h4,h5=>simp at h4
theorem prm_inv {w:World}{A:Abs}{v:Value}{a b:Int}(h:Rep w A v (.agg [.int .i64 a,.int .i64 b])):v=.agg #[.int .i64 a,.int .i64 b]:=by
 obtain⟨vs,rfl,hl,_,hr⟩:=h.agg_inv
 match vs,hl,hr with
 |[x,y],_,hr =>
  have e1:=(hr 0 x _ rfl rfl).int_inv
  have e2:=(hr 1 y _ rfl rfl).int_inv
  subst e1 e2;rfl
theorem prm_rep {w:World}{A:Abs}{a b:Int}:Rep w A (.agg #[.int .i64 a,.int .i64 b]) (.agg [.int .i64 a,.int .i64 b]):=by
 refine Rep.agg [.int .i64 a,.int .i64 b] _ rfl (fun v hv=>?_) (fun i v d h4 h5=>?_)
 ·simp at hv;rcases hv with rfl|rfl<;>rfl
 ·match i,h4,h5 with
  |0,h4,h5=>simp at h4 h5;subst h4 h5;exact .int _ _
  |1,h4,h5=>simp at h4 h5;subst h4 h5;exact .int _ _
  |n+2,h4,h5=>simp at h4
theorem valF_at {l:List Cu}{q:Prm}:∀{a k:Nat},k≤a→(∀j,j<k→movF (l.getD (a-j) default).moves q=none∧(l.getD (a-j) default).block=false)→valF l q a=valF l q (a-k)
 |a,0,_,_=>rfl
 |0,k+1,h,_=>by omega
 |a+1,k+1,h,hj=>by
  obtain⟨h1,h2⟩:=hj 0 (by omega)
  simp only[Nat.sub_zero]at h1 h2
  rw[valF,h1,h2]
  simp only[Bool.false_eq_true,if_false]
  rw[valF_at (a:=a) (k:=k) (by omega) (fun j hjk=>by have:=hj (j+1) (by omega);rwa [show a+1-(j+1)=a-j by omega]at this)]
  congr 1;omega
theorem callable152:Callable Tryz.prog 152:=⟨_,Tryz.func152,by kernel_rfl,by kernel_rfl⟩
theorem v152 (x y:Int)(l:List Cu)(a:Nat)(q:Prm)(st:St)(ha:a<l.length)(hl:l.length≤1000000)(hq:okP q=true)(hm:∀c∈l,okMs c.moves=true)(hml:∀c∈l,c.moves.length<140737488355328) :
  VRet Tryz.prog 152 [.agg [.int .i64 x,.int .i64 y,.sl (l.map Cu.v)],.int .i64 a,.agg [.int .i64 q.chan,.int .i64 q.attr]] st (valF l q a).v st:=by
 refine VRet_of_below callable152 (fun w A vs hw hv=>?_)
 obtain⟨u0,u1,u2,rfl,r0,r1,r2⟩:∃u0 u1 u2,vs=[u0,u1,u2]∧Rep w A u0 (.agg [.int .i64 x,.int .i64 y,.sl (l.map Cu.v)])∧Rep w A u1 (.int .i64 a)∧Rep w A u2 (.agg [.int .i64 q.chan,.int .i64 q.attr]):=by
  obtain⟨hlen,hr⟩:=hv
  match vs,hlen,hr with
  |[u0,u1,u2],_,hr=>exact⟨u0,u1,u2,rfl,hr 0 _ _ rfl rfl,hr 1 _ _ rfl rfl,hr 2 _ _ rfl rfl⟩
 obtain rfl:=r1.int_inv
 obtain rfl:=prm_inv r2
 obtain⟨us,rfl,hus,_,hur⟩:=r0.agg_inv
 obtain⟨t0,t1,t2,rfl⟩:∃t0 t1 t2,us=[t0,t1,t2]:=by
  match us,hus with
  |[t0,t1,t2],_=>exact⟨t0,t1,t2,rfl⟩
 have hne:l≠[]:=by intro e;rw[e]at ha;simp at ha
 obtain⟨b,o,cap,cell,rfl,hc⟩:=cues_at (hur 2 _ _ rfl rfl) hne
 have hget:∀j,j<l.length→l[j]?=some (l.getD j default):=fun j hj=>by rw[List.getD_eq_getElem?_getD,List.getElem?_eq_getElem hj];rfl
 have hb:b<w.heap.size:=hw.Clt _ _ (hc a _ (hget a ha) 0 _ rfl).1
 have hs:∀j,∃a2:Option Addr,∃n2 k2:Nat,∃a3:Option Addr,∃n3 k3:Nat,(j<l.length→w.cell? ⟨b,o+j*9+2,none⟩=some (.slice a2 n2 k2)∧w.cell? ⟨b,o+j*9+3,none⟩=some (.slice a3 n3 k3))∧Rep w A (.slice a2 n2 k2) (.sl ((l.getD j default).moves.map Mov.v))∧Rep w A (.slice a3 n3 k3) (.sl ((l.getD j default).parts.map Tim.v)):=fun j=>by
  by_cases hj:j<l.length
  ·obtain⟨_,g2,g3⟩:=hc j _ (hget j hj) 2 _ rfl
   obtain⟨_,g4,g5⟩:=hc j _ (hget j hj) 3 _ rfl
   obtain⟨a2,n2,k2,e2⟩:=rep_sl g3
   obtain⟨a3,n3,k3,e3⟩:=rep_sl g5
   rw[e2]at g2 g3
   rw[e3]at g4 g5
   exact⟨a2,n2,k2,a3,n3,k3,fun _=>⟨by rw[Nat.add_assoc];exact g2,by rw[Nat.add_assoc];exact g4⟩,g3,g5⟩
  ·have e:l.getD j default=default:=by rw[List.getD_eq_getElem?_getD,List.getElem?_eq_none (by omega)];rfl
   rw[e]
   exact⟨none,0,0,none,0,0,fun h=>absurd h hj,.slnil _,.slnil _⟩
 obtain⟨a2,hs⟩:=Classical.axiomOfChoice hs
 obtain⟨n2,hs⟩:=Classical.axiomOfChoice hs
 obtain⟨k2,hs⟩:=Classical.axiomOfChoice hs
 obtain⟨a3,hs⟩:=Classical.axiomOfChoice hs
 obtain⟨n3,hs⟩:=Classical.axiomOfChoice hs
 obtain⟨k3,hs⟩:=Classical.axiomOfChoice hs
 have hok:∀j,okMs (l.getD j default).moves=true∧(l.getD j default).moves.length<140737488355328:=fun j=>by
  by_cases hj:j<l.length
  ·have:=List.mem_of_getElem? (hget j hj)
   exact⟨hm _ this,hml _ this⟩
  ·have e:l.getD j default=default:=by rw[List.getD_eq_getElem?_getD,List.getElem?_eq_none (by omega)];rfl
   rw[e];exact⟨rfl,by decide⟩
 have hmove:∀j W,Below w.heap.size w W→Calls Tryz.prog 231 #[.agg #[.string ⟨(l.getD j default).num.toArray⟩,.string ⟨(l.getD j default).label.toArray⟩,.slice (a2 j) (n2 j) (k2 j),.slice (a3 j) (n3 j) (k3 j),.bool (l.getD j default).block,.bool (l.getD j default).mark,.int .i64 (l.getD j default).follow,.string ⟨(l.getD j default).link.toArray⟩,.int .i64 (l.getD j default).loops],.agg #[.int .i64 q.chan,.int .i64 q.attr]] W fun e W' =>
   e=.returned (.tuple #[.agg #[.int .i64 ((movF (l.getD j default).moves q).getD ⟨-1,0⟩).pal,.int .i64 ((movF (l.getD j default).moves q).getD ⟨-1,0⟩).lev],.bool (movF (l.getD j default).moves q).isSome])∧Below W.heap.size W W':=fun j W hB=>by
  obtain⟨_,g2,g3⟩:=hs j
  have hx:=Ext.below hw hB
  have hwW:=hw.below hB
  have h0:Reps W A [.agg #[.string ⟨(l.getD j default).num.toArray⟩,.string ⟨(l.getD j default).label.toArray⟩,.slice (a2 j) (n2 j) (k2 j),.slice (a3 j) (n3 j) (k3 j),.bool (l.getD j default).block,.bool (l.getD j default).mark,.int .i64 (l.getD j default).follow,.string ⟨(l.getD j default).link.toArray⟩,.int .i64 (l.getD j default).loops],.agg #[.int .i64 q.chan,.int .i64 q.attr]] [(l.getD j default).v,q.v] :=
   ⟨rfl,fun i v c h1 h2=>by
    match i,h1,h2 with
    |0,h1,h2=>simp at h1 h2;subst h1 h2;exact agg9 (g2.mono hx) (g3.mono hx)
    |1,h1,h2=>simp at h1 h2;subst h1 h2;exact prm_rep
    |n+2,h1,h2=>simp at h1⟩
  have h1:=h0.data (B:=abs0 W) (fun b o h=>hwW.Clt b o h) (by simp[V.bdL,Cu.bd,Prm.bd])
  have hV:VRet Tryz.prog 231 [(l.getD j default).v,q.v] st0 (.tup [((movF (l.getD j default).moves q).getD ⟨-1,0⟩).v,.bool (movF (l.getD j default).moves q).isSome]) st0:=run_sound mixed HN0_ok _ _ _ _ _ (f231 (hok j).1 hq (hok j).2)
  refine(calls_of Tryz.func231 (by kernel_rfl) (by kernel_rfl) hV h1).mono fun e W' ⟨⟨v,A',he,hr⟩,hb⟩=>⟨?_,hb⟩
  obtain⟨ws,rfl,hws,hwr⟩:=hr.tup_inv
  obtain⟨y0,y1,rfl⟩:∃y0 y1,ws=[y0,y1]:=by
   match ws,hws with
   |[y0,y1],_=>exact⟨y0,y1,rfl⟩
  obtain rfl:=prm_inv (hwr 0 _ _ rfl rfl)
  obtain rfl:=(hwr 1 _ _ rfl rfl).bool_inv
  exact he
 have hhome:∀W,Calls Tryz.prog 232 #[] W fun e W'=>e=.returned (.agg #[.int .i64 (-1),.int .i64 0])∧Below W.heap.size W W':=fun W=>by
  have hV:VRet Tryz.prog 232 [] st0 (.agg [.int .i64 (-1),.int .i64 0]) st0:=run_sound mixed HN0_ok _ _ _ _ _ f232
  refine(calls_of (vs:=[]) (w:=W) Tryz.func232 (by kernel_rfl) (by kernel_rfl) hV ⟨rfl,fun i v c h1 h2=>by simp at h1⟩).mono fun e W' ⟨⟨v,A',he,hr⟩,hb⟩=>⟨?_,hb⟩
  rw[prm_inv hr]at he;exact he
 have hbox:∀j,j<l.length→Box9 (fun x=>.string ⟨(l.getD x default).num.toArray⟩) (fun x=>.string ⟨(l.getD x default).label.toArray⟩) (fun x=>.slice (a2 x) (n2 x) (k2 x)) (fun x=>.slice (a3 x) (n3 x) (k3 x)) (fun x=>(l.getD x default).block) (fun x=>.bool (l.getD x default).mark) (fun x=>.int .i64 (l.getD x default).follow) (fun x=>.string ⟨(l.getD x default).link.toArray⟩) (fun x=>.int .i64 (l.getD x default).loops) w b (o+j*9) j:=fun j hj=>by
  have hg:=hget j hj
  obtain⟨_,e0,d0⟩:=hc j _ hg 0 _ rfl
  obtain⟨_,e1,d1⟩:=hc j _ hg 1 _ rfl
  obtain⟨_,e4,d4⟩:=hc j _ hg 4 _ rfl
  obtain⟨_,e5,d5⟩:=hc j _ hg 5 _ rfl
  obtain⟨_,e6,d6⟩:=hc j _ hg 6 _ rfl
  obtain⟨_,e7,d7⟩:=hc j _ hg 7 _ rfl
  obtain⟨_,e8,d8⟩:=hc j _ hg 8 _ rfl
  rw[d0.str_inv]at e0
  rw[d1.str_inv]at e1
  rw[d4.bool_inv]at e4
  rw[d5.bool_inv]at e5
  rw[d6.int_inv]at e6
  rw[d7.str_inv]at e7
  rw[d8.int_inv]at e8
  obtain⟨e2,e3⟩:=(hs j).1 hj
  simp only[←Nat.add_assoc,Nat.add_zero]at e0 e1 e4 e5 e6 e7 e8
  exact⟨e0,e1,e2,e3,e4,e5,e6,e7,e8⟩
 refine(value_calls w b o l.length cap a (fun x=>⟨(l.getD x default).num.toArray⟩) (fun x=>⟨(l.getD x default).label.toArray⟩) (fun x=>⟨(l.getD x default).link.toArray⟩) a2 a3 n2 k2 n3 k3 (fun x=>(l.getD x default).mark) (fun x=>(l.getD x default).follow) (fun x=>(l.getD x default).loops) (fun x=>(l.getD x default).block) t0 t1 (.int .i64 q.chan) (.int .i64 q.attr)
  (fun x=>((movF (l.getD x default).moves q).getD ⟨-1,0⟩).pal) (fun x=>((movF (l.getD x default).moves q).getD ⟨-1,0⟩).lev) (fun x=>(movF (l.getD x default).moves q).isSome) (by omega) hb ha hbox hmove hhome).mono fun e W' ⟨he,hB⟩=>?_
 have hmem:∀{k j:Nat},j<k→(a-j)∈dnL a k:=fun {k j} hj=>by unfold dnL;exact List.mem_map.2 ⟨j,List.mem_range.2 hj,rfl⟩
 rcases he with⟨k,h1,h2,h3,h4,rfl⟩|⟨k,h1,h2,h3,h4,rfl⟩
 ·refine⟨_,rfl,fun w' A'=>?_,hB⟩
  have hk0:0<k:=by rcases h3 with h3|h3<;>omega
  have hn:∀j,j<k→movF (l.getD (a-j) default).moves q=none:=fun j hj=>by
   have:=h2 _ (hmem hj)
   cases hx:movF (l.getD (a-j) default).moves q with
   |none=>rfl
   |some v=>rw[hx]at this;simp at this
  have e1:=valF_at (l:=l) (q:=q) (a:=a) (k:=k-1) (by omega) (fun j hj=>⟨hn j (by omega),by have:=h4 (j+1) (by omega) (by omega);rwa [show a+1-(j+1)=a-j by omega]at this⟩)
  have e2:valF l q (a-(k-1))=⟨-1,0⟩:=by
   have hz:=hn (k-1) (by omega)
   cases hy:a-(k-1) with
   |zero=>rw[valF];rw[hy]at hz;rw[hz];rfl
   |succ y =>
    rw[hy]at hz
    rw[valF,hz]
    rcases h3 with h3|⟨_,h3⟩
    ·omega
    ·rw[show a+1-k=y+1 by omega]at h3
     simp only[h3,if_true]
  rw[e1,e2]
  exact prm_rep
 ·refine⟨_,rfl,fun w' A'=>?_,hB⟩
  have hn:∀j,j<k→movF (l.getD (a-j) default).moves q=none:=fun j hj=>by
   have:=h2 _ (hmem hj)
   cases hx:movF (l.getD (a-j) default).moves q with
   |none=>rfl
   |some v=>rw[hx]at this;simp at this
  have e1:=valF_at (l:=l) (q:=q) (a:=a) (k:=k) (by omega) (fun j hj=>⟨hn j hj,by have:=h4 (j+1) (by omega) (by omega);rwa [show a+1-(j+1)=a-j by omega]at this⟩)
  rw[e1]
  obtain⟨v,hv⟩:=Option.isSome_iff_exists.1 h3
  have e2:valF l q (a-k)=v:=by
   cases hy:a-k with
   |zero=>rw[valF];rw[hy]at hv;rw[hv];rfl
   |succ y=>rw[hy]at hv;rw[valF,hv]
  rw[e2]
  simp only[hv,Option.getD_some]
  exact prm_rep
end Go.Proofs.YtanojbajfgcjeaaGreatDoor

namespace Go.Proofs.YtanojbajfgcjeaaGreatDoor
open Go.Sha Go.RowKit
open Go.Lib (below_grow)
set_option maxRecDepth 100000
variable {g:List (Nat×Obj)}{n:Nat}
theorem intsB_eq {k:IntKind}:∀{zs:List Int}{vs:List Value},intsB k zs vs=true→vs=zs.map fun z=>Value.int k z
 |[],[],_=>rfl
 |[],_::_,h=>by cases h
 |z::zs,v::vs,h=>by
  unfold intsB at h
  split at h
  ·rename_i h1 h2;cases h1
  ·rename_i z' zs' j n' r h1 h2
   cases h1;cases h2
   simp only[Bool.and_eq_true,decide_eq_true_eq]at h
   obtain⟨⟨h3,h4⟩,h5⟩:=h
   subst h3;subst h4
   rw[intsB_eq h5];rfl
  ·cases h
 |z::zs,[],h=>by unfold intsB at h;cases h
theorem tab_at {gl:List (Nat×Obj)}{v:Nat}{k:IntKind}{zs:List Int}(h:gl.any (tabB v k zs)=true):∃T fz,(v,Obj.cells (zs.map fun z=>Value.int k z).toArray T fz)∈gl:=by
 obtain⟨p,hp,hh⟩:=List.any_eq_true.1 h
 obtain⟨i,o⟩:=p
 simp only[tabB,Bool.and_eq_true,decide_eq_true_eq]at hh
 obtain⟨hi,hh⟩:=hh
 subst hi
 split at hh
 ·rename_i cs T fz
  have:=intsB_eq hh
  refine⟨T,fz,?_⟩
  rw[←this]
  exact hp
 ·cases hh
theorem tab_is {w:World}{A:Abs}{st:St}(hw:Sim w A st){v:Nat}{name:String}{k:IntKind}{zs:List Int}(hn:Tryz.prog.globalNamed name=some v)(h:st.x.gl.any (tabB v k zs)=true):Lib.TabIs Tryz.prog w name k zs:=by
 obtain⟨T,fz,hm⟩:=tab_at h
 have:=(hw.x.gl _ hm).1
 simp only[Lib.TabIs,World.var?,hn,Option.bind_some,this]
theorem callable26:Callable Tryz.prog 26:=⟨_,Tryz.func26,by kernel_rfl,by kernel_rfl⟩
theorem v26 {n:Int}(h0:-9223372036854775808≤n)(h1:n≤9223372036854775807){st:St}(hG:glB st.x.gl=true):VRet Tryz.prog 26 [.int .i64 n] st (.str (Lib.itoa n)) st:=by
 simp only[glB,Bool.and_eq_true]at hG
 refine VRet_of_below callable26 (fun w A vs hw ha=>?_)
 obtain⟨u,rfl,h2⟩:=ha.one
 have e1:=h2.int_inv
 subst e1
 refine(Tryz.strconv_Itoa n h0 h1 w (tab_is hw (by kernel_rfl) hG.1)).mono fun e w' ⟨he,k,os,hw'⟩=>?_
 subst he
 exact⟨_,rfl,fun _ _=>.str _,by rw[hw'];exact below_grow _ w (Nat.le_refl _) k os⟩
theorem callable19:Callable Tryz.prog 19:=⟨_,Tryz.func19,by kernel_rfl,by kernel_rfl⟩
theorem v19 {s:List UInt8}{n:Int}(h0:0≤n)(hn:n≤1000000)(h1:s.length*n.toNat≤1000000){st:St}:VRet Tryz.prog 19 [.str s,.int .i64 n] st (.str (Lib.repeatL s n.toNat)) st:=by
 refine VRet_of_below callable19 (fun w A vs hw ha=>?_)
 obtain⟨hl,ha⟩:=ha
 match vs,hl with
 |[u,v],_ =>
 have e1:=(ha 0 u _ rfl rfl).str_inv
 have e2:=(ha 1 v _ rfl rfl).int_inv
 subst e1;subst e2
 obtain⟨m,rfl⟩:∃m:Nat,n=m:=⟨n.toNat,by omega⟩
 rw[Int.toNat_natCast]at h1 ⊢
 refine(Tryz.strings_Repeat ⟨s.toArray⟩ m w (by omega) (by simp[ByteArray.size];omega)).mono fun e w' ⟨he,hb⟩=>?_
 subst he
 exact⟨_,rfl,fun _ _=>.str _,hb⟩
theorem callable64:Callable Tryz.prog 64:=⟨_,Tryz.func64,by kernel_rfl,by kernel_rfl⟩
theorem strsV_map:∀{l:List V}{ss:List (List UInt8)},strsV l=some ss→l=ss.map .str
 |[],ss,h=>by cases h;rfl
 |v::r,ss,h=>by
  unfold strsV at h
  split at h
  ·rename_i h1;cases h1
  ·rename_i s r' h1
   cases h1
   obtain⟨x,hx,rfl⟩:=Option.map_eq_some_iff.1 h
   rw[strsV_map hx];rfl
  ·cases h
theorem v64 {ss:List (List UInt8)}{t:List UInt8}(hn:ss.length≤1000000)(hl:(Lib.join ss t).length≤100000000000){st:St}:VRet Tryz.prog 64 [.sl (ss.map .str),.str t] st (.str (Lib.join ss t)) st:=by
 refine VRet_of_below callable64 (fun w A vs hw ha=>?_)
 obtain⟨hlen,ha⟩:=ha
 match vs,hlen with
 |[u,v],_ =>
 have h1:=ha 0 u _ rfl rfl
 have e2:=(ha 1 v _ rfl rfl).str_inv
 subst e2
 have hbytes:(ss.map fun l=>(⟨l.toArray⟩:ByteArray)).map (·.data.toList)=ss:=by simp[Function.comp_def]
 generalize hd:V.sl (ss.map .str)=d at h1
 cases h1 with
 |sl ys b o cap es cell hes hcap hm hC hr =>
  cases hd
  cases hss:ss with
  |nil =>
   subst hss
   refine(Tryz.strings_Join_none _ cap ⟨t.toArray⟩ w).mono fun e w' ⟨he,hb⟩=>?_
   subst he;subst hb
   exact⟨_,rfl,fun _ _=>.str _,Below.refl _ _⟩
  |cons x r =>
   rw[←hss]
   have e1:es=1:=(hes (.str x) (by rw[hss];simp)).symm.trans rfl
   subst e1
   have hbk:b<w.heap.size:=by
    have hx0:(ss.map V.str)[0]?=some (.str x):=by rw[hss];rfl
    exact hw.Clt _ _ (hC 0 0 _ _ hx0 rfl).1
   have:=Tryz.strings_Join b o cap (ss.map fun l=>(⟨l.toArray⟩:ByteArray)) ⟨t.toArray⟩ w (fun j y hj=>?_) hbk (by rw[List.length_map];omega) (by rw[List.length_map];rw[List.length_map]at hcap;exact hcap) (by rw[hbytes];show(Lib.join ss t).length≤_;omega)
   ·rw[hbytes,List.length_map]at this
    rw[List.length_map]
    refine this.mono fun e w' ⟨he,hb⟩=>?_
    subst he
    exact⟨_,rfl,fun _ _=>.str _,hb⟩
   ·rw[List.getElem?_map]at hj
    obtain⟨l,hl1,rfl⟩:=Option.map_eq_some_iff.1 hj
    have hjx:(ss.map V.str)[j]?=some (.str l):=by rw[List.getElem?_map,hl1];rfl
    obtain⟨_,g2,_⟩:=hC j 0 _ _ hjx rfl
    have g3:=hr j 0 _ _ hjx rfl
    rw[g3.str_inv]at g2
    simpa using g2
 |slnil a =>
  have hss:ss=[]:=by
   cases ss with
   |nil=>rfl
   |cons x r=>cases hd
  subst hss
  refine(Tryz.strings_Join_none _ _ ⟨t.toArray⟩ w).mono fun e w' ⟨he,hb⟩=>?_
  subst he;subst hb
  exact⟨_,rfl,fun _ _=>.str _,Below.refl _ _⟩
 |_=>cases hd
theorem callable27:Callable Tryz.prog 27:=⟨_,Tryz.func27,by kernel_rfl,by kernel_rfl⟩
theorem v27 {s:List UInt8}{c:UInt8}{st:St}:VRet Tryz.prog 27 [.str s,.str [c]] st (.int .i64 (s.count c:Nat)) st:=by
 refine VRet_of_below callable27 (fun w A vs hw ha=>?_)
 obtain⟨hl,ha⟩:=ha
 match vs,hl with
 |[u,v],_ =>
 have e1:=(ha 0 u _ rfl rfl).str_inv
 have e2:=(ha 1 v _ rfl rfl).str_inv
 subst e1;subst e2
 refine(Tryz.strings_Count_one ⟨s.toArray⟩ c w).mono fun e w' ⟨he,hb⟩=>?_
 subst he;subst hb
 exact⟨_,rfl,fun w' A'=>.int _ _,Below.refl _ _⟩
theorem weak_back {st:St}(h:st.Wf){a:Arr}:Weak st.nx ⟨st.nx+1,st.mem,(st.nx,a)::st.arr,st.x⟩ st where
 nx:=rfl
 le:=Nat.le_succ _
 mem id cs hl:=⟨(h.mem id cs hl).1,hl⟩
 arr id a' hl:=⟨(h.arr id a' hl).1,by
  have:=(h.arr id a' hl).1
  simp only[Sha.look];rw[if_neg (by omega)];exact hl⟩
 bdm id cs hl:=(h.mem id cs hl).2
 bda id a' hl:=(h.arr id a' hl).2
 x:=⟨fun id o hl=>⟨(h.x id o hl).1,hl⟩,rfl,fun id T hl=>⟨h.t id T hl,hl⟩⟩
 bdx id o hl:=(h.x id o hl).2
theorem fresh_sl {w:World}{A:Abs}{st:St}(hw:Sim w A st)(l:List (List UInt8))(hl:l.length≤1000000):∃r A' st',(r=.ret (.sl (l.map .str))∧st'=st)∧EndRel (w.alloc (.cells (l.map fun l=>Value.string ⟨l.toArray⟩).toArray 9)) A' (.returned (.slice (some ⟨w.heap.size,0,none⟩) l.length l.length)) r∧Sim (w.alloc (.cells (l.map fun l=>Value.string ⟨l.toArray⟩).toArray 9)) A' st'∧Ext w A (w.alloc (.cells (l.map fun l=>Value.string ⟨l.toArray⟩).toArray 9)) A':=by
 have h1:=Sim.newArr (w0:=w) (cur:=(l.map fun l=>Value.string ⟨l.toArray⟩).toArray) (xs:=l.map V.str) (e:=9) (es:=1) (cap:=l.length) (wr:=false) (fz:=false) hw ⟨rfl,rfl,rfl,rfl⟩ (fun x hx=>by obtain⟨y,_,rfl⟩:=List.mem_map.1 hx;rfl) (by rw[List.length_map];exact Nat.le_refl _) (by unfold maxLen;omega) (by simp) (fun i j x c hi hj=>by
  rw[List.getElem?_map]at hi
  obtain⟨y,hy,rfl⟩:=Option.map_eq_some_iff.1 hi
  cases j with
  |zero=>simp[V.cells]at hj;subst hj;exact⟨_,by simp[hy],rfl,.str _⟩
  |succ j=>simp[V.cells]at hj)
 have hx:=Ext.newArr (w0:=w) hw ⟨rfl,rfl,rfl,rfl⟩ (.cells (l.map fun l=>Value.string ⟨l.toArray⟩).toArray 9) (l.map V.str).length (.slice (some ⟨w.heap.size,0,none⟩) (l.map V.str).length l.length) (!false) ((l.map V.str).length*1)
 have hR:Rep (w.alloc (.cells (l.map fun l=>Value.string ⟨l.toArray⟩).toArray 9)) (A.newArr w.heap.size (l.map V.str).length (.slice (some ⟨w.heap.size,0,none⟩) (l.map V.str).length l.length) (!false) ((l.map V.str).length*1)) (.slice (some ⟨w.heap.size,0,none⟩) (l.map V.str).length l.length) (.osl A.nx (l.map V.str).length):=Rep.newArr
 have hS:=snapA_rep h1 hR (d':=.sl (l.map V.str)) (by rw[←hw.nx];simp[snapA_osl,Sha.look,snapO])
 have hown0:∀b id,A.own b=some id→id<A.nx:=fun b id h=>(hw.ownlt b id h).2
 refine⟨_,_,_,⟨rfl,rfl⟩,?_,h1.cut (weak_back hw.wf),hx.cut hown0 (by rw[←hw.nx];exact Nat.le_refl _)⟩
 have:=hS.cut (n:=st.nx) (by simp[V.bd,bdL_map'])
 rw[List.length_map]at this ⊢
 exact this
theorem cntF_le:∀(l:List UInt8) (b:Bool),Lib.cntF b l≤l.length
 |[],_=>Nat.le_refl _
 |x::l,b=>by
  have:=cntF_le l (Lib.isSp x)
  unfold Lib.cntF
  rw[List.length_cons]
  split<;>omega
theorem callable225:Callable Tryz.prog 225:=⟨_,Tryz.func225,by kernel_rfl,by kernel_rfl⟩
theorem v225 {s:List UInt8}(h1:s.length≤1000)(h2:∀b∈s,b.toNat<128){st:St}(hG:glB st.x.gl=true):VRet Tryz.prog 225 [.str s] st (.sl ((Lib.fields s).map .str)) st:=by
 simp only[glB,Bool.and_eq_true]at hG
 refine .inl ⟨callable225,fun w A vs hw ha=>?_⟩
 obtain⟨u,rfl,h3⟩:=ha.one
 have e1:=h3.str_inv
 subst e1
 refine(Tryz.strings_Fields ⟨s.toArray⟩ w (by simp[ByteArray.size];omega) (fun j b hj=>h2 b (List.mem_of_getElem? hj)) (tab_is hw (by kernel_rfl) hG.2)).mono fun e w' ⟨he,hb⟩=>?_
 subst he
 change w'=w.alloc (.cells ((Lib.fields s).map fun l=>Value.string ⟨l.toArray⟩).toArray 9) at hb
 subst hb
 exact fresh_sl hw (Lib.fields s) (by rw[Lib.fields_length];have:=cntF_le s true;omega)
def oddR (r:Nat):Bool:=decide (r<32)||decide (126<r)
theorem pred129 (w:World):PredAt Tryz.prog 95 #[] encR oddR w:=fun W r _=>by
 unfold FnGives
 by_cases h1:r<32<;>by_cases h2:126<r
 all_goals
  have z1:(r:Int)<32↔r<32:=by omega
  have z2:(126:Int)<(r:Int)↔126<r:=by omega
  go_enter Tryz.func95,Tryz.ntmps95
  go_wp2
  all_goals first|(exfalso;omega)|(go_ret;exact⟨by simp[oddR,h1,h2],0,rfl⟩)
theorem v168' (s:List UInt8)(st:St):VRet Tryz.prog 168 [.str s,.fn (.func 95) [] [],.bool true] st (.int .i64 (Lib.idxFunc oddR true ⟨s.toArray⟩)) st:=by
 refine VRet_of_below callable168 (fun w A vs hw ha=>?_)
 obtain⟨hl,ha⟩:=ha
 match vs,hl with
 |[v0,v1,v2],_ =>
 have e0:=(ha 0 v0 _ rfl rfl).str_inv
 have r1:=ha 1 v1 _ rfl rfl
 have e2:=(ha 2 v2 _ rfl rfl).bool_inv
 have e1:v1=.func (.func 95) #[] #[]:=by
  cases r1 with
  |fn _ vs us _ _ e1 e2 _ _ =>
   have h1:vs=[]:=List.eq_nil_of_length_eq_zero e1
   have h2:us=[]:=List.eq_nil_of_length_eq_zero e2
   rw[h1,h2]
 subst e0;subst e1;subst e2
 refine(Tryz.strings_indexFunc 95 #[] (enters_of Tryz.func95 (by kernel_rfl) rfl) oddR true ⟨s.toArray⟩ w (pred129 w)).mono fun e w' ⟨he,hb⟩=>?_
 subst he
 exact⟨_,rfl,fun w' A'=>.int _ _,hb⟩
theorem odd_from (s:ByteArray):∀(f pos:Nat),s.size≤pos+f→Lib.idxFuncFrom oddR true s f pos=match(s.data.toList.drop pos).findIdx? (fun b=>!plainB b) with|some i=>((pos+i:Nat):Int)|none=>-1
 |0,pos,h=>by
  rw[List.drop_eq_nil_of_le (by rw[Array.length_toList];exact h)];rfl
 |f+1,pos,h=>by
  unfold Lib.idxFuncFrom
  by_cases hp:pos<s.size
  ·have hp':pos<s.data.toList.length:=by rw[Array.length_toList];exact hp
   have hb:s.data.toList[pos]'hp'=s[pos]'hp:=rfl
   rw[if_pos hp,List.drop_eq_getElem_cons hp',List.findIdx?_cons,hb]
   by_cases ha:(s[pos]'hp).toNat<128
   ·rw[decode_ascii s pos hp ha]
    have ih:=odd_from s f (pos+1) (by omega)
    cases hd:plainB (s[pos]'hp) with
    |true =>
     have:¬oddR (s[pos]'hp).toNat=true:=by
      simp only[plainB,Bool.and_eq_true,decide_eq_true_eq]at hd
      simp only[oddR,Bool.or_eq_true,decide_eq_true_eq];omega
     rw[if_neg this,ih]
     simp only[Bool.not_true,Bool.false_eq_true,if_false]
     cases(s.data.toList.drop (pos+1)).findIdx? (fun b=>!plainB b) with
     |none=>rfl
     |some i=>show((pos+1+i:Nat):Int)=((pos+(i+1):Nat):Int);rw[show pos+1+i=pos+(i+1) by omega]
    |false =>
     have:oddR (s[pos]'hp).toNat=true:=by
      simp only[plainB,Bool.and_eq_false_iff,decide_eq_false_iff_not]at hd
      simp only[oddR,Bool.or_eq_true,decide_eq_true_eq];omega
     rw[if_pos this]
     simp
   ·obtain⟨h1,h2⟩:=decode_high s pos hp (by omega)
    have:oddR (Utf8.decode s pos).1=true:=by
     simp only[oddR,Bool.or_eq_true,decide_eq_true_eq];omega
    have hd:plainB (s[pos]'hp)=false:=by
     simp only[plainB,Bool.and_eq_false_iff,decide_eq_false_iff_not];omega
    rw[if_pos this,hd]
    simp
  ·rw[if_neg hp,List.drop_eq_nil_of_le (by rw[Array.length_toList];exact Nat.le_of_not_lt hp)];rfl
theorem odd_idx (s:List UInt8):Lib.idxFunc oddR true ⟨s.toArray⟩=oddI s:=by
 have:=odd_from ⟨s.toArray⟩ s.length 0 (by simp[ByteArray.size])
 have e:Lib.idxFunc oddR true ⟨s.toArray⟩=Lib.idxFuncFrom oddR true ⟨s.toArray⟩ s.length 0:=by simp[Lib.idxFunc,ByteArray.size]
 rw[e,this]
 unfold oddI
 simp only[List.drop_zero]
 cases s.findIdx? (fun b=>!plainB b) with
 |none=>rfl
 |some i=>simp
def q168':List V→Option VRes
 |[.str s,.fn (.func 95) [] [],.bool true]=>some (.ret (.int .i64 (Lib.idxFunc oddR true ⟨s.toArray⟩)))
 |_=>none
def HL1:EvF:=⟨[],fun f args st=>(bif Nat.beq f 168 then q168' args else none).map fun r=>(r,st)⟩
@[push_cast]theorem HL1_raw:HL1.raw=[]:=idq rfl
theorem HL1_ok:ESound Tryz.prog HL1:=fun f args st r s h=>by
 obtain⟨z,hz,e⟩:=Option.map_eq_some_iff.1 h
 cases e
 by_cases h3:f=168
 ·subst h3
  rw[show Nat.beq 168 168=true from rfl,cond_true]at hz
  unfold q168' at hz
  split at hz<;>cases hz
  exact v168' _ _
 rw[show Nat.beq f 168=false from Bool.eq_false_iff.2 fun e=>h3 (Nat.eq_of_beq_eq_true e),cond_false]at hz
 cases hz
theorem v96 {s:List UInt8}{st:St}:VRet Tryz.prog 96 [.str s,.fn (.func 95) [] []] st (.int .i64 (oddI s)) st:=by
 have h:∀st,run Tryz.prog HL1 168 [.str s,.fn (.func 95) [] [],.bool true] st=some (.ret (.int .i64 (Lib.idxFunc oddR true ⟨s.toArray⟩)),st):=fun st=>run_H rfl
 have h2:run Tryz.prog HL1 96 [.str s,.fn (.func 95) [] []] st=some (.ret (.int .i64 (oddI s)),st):=by
  rw[run_shut F96 rfl rfl rfl]
  push_cast[h,odd_idx]
 exact run_sound mixed HL1_ok _ _ _ _ _ h2
theorem HH_ok:ESound Tryz.prog HH:=fun f args st r s h=>by
 simp only[HH]at h
 by_cases h1:f=81
 ·subst h1
  rw[show Nat.beq 81 81=true from rfl,cond_true]at h
  unfold hSort at h
  split at h
  ·rename_i id n
   unfold hSortA at h
   split at h
   ·rename_i r0 hr
    split at h
    ·rename_i hc
     cases h
     obtain⟨c1,c2,c3,c4,c5⟩:=hc
     subst c1
     exact v81 hr c3 c4 c2 c5
    ·cases h
   ·cases h
  ·cases h
 rw[show Nat.beq f 81=false from Bool.eq_false_iff.2 fun e=>h1 (Nat.eq_of_beq_eq_true e),cond_false]at h
 obtain⟨z,hz,e⟩:=Option.map_eq_some_iff.1 h
 cases e
 by_cases h1:f=140
 ·subst h1
  rw[show Nat.beq 140 140=true from rfl,cond_true]at hz
  unfold hCut at hz
  split at hz
  ·split at hz
   ·rename_i hl;cases hz;exact run_sound mixed HL0_ok _ _ _ _ _ (k140 hl)
   ·cases hz
  ·cases hz
 rw[show Nat.beq f 140=false from Bool.eq_false_iff.2 fun e=>h1 (Nat.eq_of_beq_eq_true e),cond_false]at hz
 by_cases h1:f=18
 ·subst h1
  rw[show Nat.beq 18 18=true from rfl,cond_true]at hz
  unfold hSuf at hz
  split at hz
  ·split at hz
   ·rename_i hl;cases hz;exact run_sound mixed HL0_ok _ _ _ _ _ (k18 hl.1 hl.2)
   ·cases hz
  ·cases hz
 rw[show Nat.beq f 18=false from Bool.eq_false_iff.2 fun e=>h1 (Nat.eq_of_beq_eq_true e),cond_false]at hz
 by_cases h1:f=222
 ·subst h1
  rw[show Nat.beq 222 222=true from rfl,cond_true]at hz
  unfold hAny at hz
  split at hz
  ·cases hz;exact run_sound mixed HL0_ok _ _ _ _ _ k222
  ·cases hz
 rw[show Nat.beq f 222=false from Bool.eq_false_iff.2 fun e=>h1 (Nat.eq_of_beq_eq_true e),cond_false]at hz
 by_cases h1:f=22
 ·subst h1
  rw[show Nat.beq 22 22=true from rfl,cond_true]at hz
  unfold hAtoi at hz
  split at hz
  ·split at hz
   ·rename_i hl;cases hz;exact v22 _ _ hl.1 hl.2.1 hl.2.2
   ·cases hz
  ·cases hz
 rw[show Nat.beq f 22=false from Bool.eq_false_iff.2 fun e=>h1 (Nat.eq_of_beq_eq_true e),cond_false]at hz
 by_cases h1:f=361
 ·subst h1
  rw[show Nat.beq 361 361=true from rfl,cond_true]at hz
  unfold hTrim at hz
  split at hz
  ·split at hz
   ·rename_i hl
    obtain⟨e1,e2⟩:=hl
    subst e1
    cases hz;exact run_sound mixed HL0_ok _ _ _ _ _ (k361 e2)
   ·cases hz
  ·cases hz
 rw[show Nat.beq f 361=false from Bool.eq_false_iff.2 fun e=>h1 (Nat.eq_of_beq_eq_true e),cond_false]at hz
 by_cases h1:f=26
 ·subst h1
  rw[show Nat.beq 26 26=true from rfl,cond_true]at hz
  unfold hItoa at hz
  split at hz
  ·split at hz
   ·rename_i hl
    simp only[Bool.and_eq_true,decide_eq_true_eq]at hl
    cases hz;exact v26 hl.1.1 hl.1.2 hl.2
   ·cases hz
  ·cases hz
 rw[show Nat.beq f 26=false from Bool.eq_false_iff.2 fun e=>h1 (Nat.eq_of_beq_eq_true e),cond_false]at hz
 by_cases h1:f=19
 ·subst h1
  rw[show Nat.beq 19 19=true from rfl,cond_true]at hz
  unfold hRep at hz
  split at hz
  ·split at hz
   ·rename_i hl
    simp only[Bool.and_eq_true,decide_eq_true_eq]at hl
    cases hz;exact v19 hl.1.1 hl.1.2 hl.2
   ·cases hz
  ·cases hz
 rw[show Nat.beq f 19=false from Bool.eq_false_iff.2 fun e=>h1 (Nat.eq_of_beq_eq_true e),cond_false]at hz
 by_cases h1:f=64
 ·subst h1
  rw[show Nat.beq 64 64=true from rfl,cond_true]at hz
  unfold hJoin at hz
  split at hz
  ·split at hz
   ·rename_i ss hs
    split at hz
    ·rename_i hl
     simp only[Bool.and_eq_true,decide_eq_true_eq]at hl
     cases hz;exact strsV_map hs▸v64 hl.1 hl.2
    ·cases hz
   ·cases hz
  ·cases hz
 rw[show Nat.beq f 64=false from Bool.eq_false_iff.2 fun e=>h1 (Nat.eq_of_beq_eq_true e),cond_false]at hz
 by_cases h1:f=27
 ·subst h1
  rw[show Nat.beq 27 27=true from rfl,cond_true]at hz
  unfold hCount at hz
  split at hz
  ·split at hz
   ·cases hz;exact v27
   ·cases hz
  ·cases hz
 rw[show Nat.beq f 27=false from Bool.eq_false_iff.2 fun e=>h1 (Nat.eq_of_beq_eq_true e),cond_false]at hz
 by_cases h1:f=225
 ·subst h1
  rw[show Nat.beq 225 225=true from rfl,cond_true]at hz
  unfold hFields at hz
  split at hz
  ·split at hz
   ·rename_i hl
    simp only[Bool.and_eq_true,decide_eq_true_eq,List.all_eq_true]at hl
    cases hz;exact v225 hl.1.1 hl.1.2 hl.2
   ·cases hz
  ·cases hz
 rw[show Nat.beq f 225=false from Bool.eq_false_iff.2 fun e=>h1 (Nat.eq_of_beq_eq_true e),cond_false]at hz
 by_cases h1:f=138
 ·subst h1
  rw[show Nat.beq 138 138=true from rfl,cond_true]at hz
  unfold hIdx at hz
  split at hz
  ·cases hz;exact v138 _ _ _
  ·cases hz
 rw[show Nat.beq f 138=false from Bool.eq_false_iff.2 fun e=>h1 (Nat.eq_of_beq_eq_true e),cond_false]at hz
 by_cases h1:f=96
 ·subst h1
  rw[show Nat.beq 96 96=true from rfl,cond_true]at hz
  unfold hOdd at hz
  split at hz
  ·cases hz;exact v96
  ·cases hz
 rw[show Nat.beq f 96=false from Bool.eq_false_iff.2 fun e=>h1 (Nat.eq_of_beq_eq_true e),cond_false]at hz
 by_cases h1:f=152
 ·subst h1
  rw[show Nat.beq 152 152=true from rfl,cond_true]at hz
  unfold hVal at hz
  split at hz
  ·rename_i x y cs a c d
   split at hz
   ·rename_i l hl
    split at hz
    ·rename_i hc
     simp only[Bool.and_eq_true,decide_eq_true_eq,List.all_eq_true]at hc
     obtain⟨⟨⟨⟨c1,c2⟩,c3⟩,c4⟩,c5⟩:=hc
     cases hz
     have ea:a=(a.toNat:Int):=by omega
     have:=v152 x y l a.toNat ⟨c,d⟩ st (by omega) c3 c4 (fun z hz=>(c5 z hz).1) (fun z hz=>by have:=(c5 z hz).2;omega)
     rw[←ea,←rdL_map rdCu_v hl]at this
     exact this
    ·cases hz
   ·cases hz
  ·cases hz
 rw[show Nat.beq f 152=false from Bool.eq_false_iff.2 fun e=>h1 (Nat.eq_of_beq_eq_true e),cond_false]at hz
 cases hz
end Go.Proofs.YtanojbajfgcjeaaGreatDoor

namespace Go.Proofs.YtanojbajfgcjeaaGreatDoor
open Go.Sha
set_option maxRecDepth 100000
theorem thS_C:shoC thS=0:=by kernel_rfl
theorem thS_par:parS thS=[⟨1,0⟩,⟨1,1⟩,⟨2,0⟩,⟨2,1⟩]:=by
 rw[parS,if_pos thS_C,par_eq (fix_chan thS_C)];kernel_rfl
theorem thS_ok:thS.ok:=by
 refine⟨by decide,⟨by decide,by simp[thS,theatre]⟩,⟨by decide,?_,?_⟩,⟨by decide,?_⟩,⟨by decide,by simp[thS,theatre]⟩,⟨by decide,?_⟩,⟨by decide,?_⟩,⟨by decide,by simp[thS,theatre]⟩,⟨by decide,by simp[thS,theatre]⟩⟩
 ·intro q hq;simp[thS,theatre]at hq;subst hq;exact⟨by decide,by simp,by decide⟩
 ·intro q hq;simp[thS,theatre]at hq;subst hq;exact⟨by decide,fun z hz=>by simp at hz;rcases hz with rfl|rfl<;>exact⟨by decide,by simp⟩,by decide⟩
 ·intro q hq;simp[thS,theatre]at hq;rcases hq with rfl|rfl<;>decide
 ·intro q hq;simp[thS,theatre]at hq;subst hq;decide
 ·intro q hq;simp[thS]at hq;subst hq;exact⟨by decide,fun z hz=>by simp at hz;subst hz;exact⟨by decide,by decide,by decide,by decide,by decide⟩⟩
theorem HK_ok:ESound Tryz.prog HK:=fun f args st r s h=>by
 simp only[HK]at h
 by_cases h1:f=169
 ·subst h1
  rw[show Nat.beq 169 169=true from rfl,cond_true]at h
  obtain⟨z,hz,e⟩:=Option.map_eq_some_iff.1 h
  cases e
  unfold hNoE at hz
  split at hz
  ·cases hz;exact noEscape_v Tryz.func169 (by kernel_rfl) (by kernel_rfl) (by kernel_rfl) (by kernel_rfl) _ _
  ·cases hz
 rw[show Nat.beq f 169=false from Bool.eq_false_iff.2 fun e=>h1 (Nat.eq_of_beq_eq_true e),cond_false]at h
 by_cases h1:f=30
 ·subst h1
  rw[show Nat.beq 30 30=true from rfl,cond_true]at h
  obtain⟨z,hz,e⟩:=Option.map_eq_some_iff.1 h
  cases e
  unfold hPar at hz
  split at hz
  ·split at hz
   ·rename_i hb
    cases V.beq_eq _ _ hb
    cases hz
    have:=v30 HH_ok thS_ok (st:=st)
    rw[thS_par,thS_C]at this
    exact this
   ·cases hz
  ·cases hz
 rw[show Nat.beq f 30=false from Bool.eq_false_iff.2 fun e=>h1 (Nat.eq_of_beq_eq_true e),cond_false]at h
 exact HH_ok _ _ _ _ _ h
end Go.Proofs.YtanojbajfgcjeaaGreatDoor

namespace Go.Proofs.YtanojbajfgcjeaaGreatDoor
set_option maxRecDepth 100000
open Go.Sha Go.ChangeShapes Go.WideShapes Go.ChangeAt Go.RowKit
theorem laid_glK {laid:List (String×DataW Unit)}{W:World}(hn:(laid.all fun x=>x.2.handleName?.isNone)=true)(m2:("strings.asciiSpace",Rows.laid_strings_asciiSpace)∈laid)(m3:("internal/strconv.uint64pow10",Rows.laid_internal_strconv_uint64pow10)∈laid)
  (h:laidMetH Tryz.prog laid W) (hs:W.ShapedOpen Tryz.prog):∃v,∀p∈glK v,W.heap[p.1]?=some p.2:=by
 rw[MakeChecks.laidMetH_plain _ _ _ hn]at h
 obtain⟨ps,hv,_⟩:=h
 obtain⟨g2,t2,cs2,T2,fz2,f2,p2,a2,b2,c2,d2⟩:=vars_read hv _ _ m2
 obtain⟨g3,t3,cs3,T3,fz3,f3,p3,a3,b3,c3,d3⟩:=vars_read hv _ _ m3
 obtain⟨m,hm⟩:=int_of_shape (zero:=#[.int .i64 0]) (g:=0) (t:=3) (k:=.i64) hs (of_decide_eq_true (by kernel_rfl)) (by kernel_rfl) rfl (by kernel_rfl) (by kernel_rfl) Tryz.underlying3
 have q2:(Rows.laid_strings_asciiSpace:DataW Unit)=Lib.tabData .u8 Lib.asciiSpaceTab:=by kernel_rfl
 have q3:(Rows.laid_internal_strconv_uint64pow10:DataW Unit)=Lib.tabData .u64 Lib.pow10Tab:=by kernel_rfl
 rw[q2]at d2
 rw[q3]at d3
 have k2:Tryz.prog.globalNamed "strings.asciiSpace"=some 4:=by kernel_rfl
 have k3:Tryz.prog.globalNamed "internal/strconv.uint64pow10"=some 3:=by kernel_rfl
 obtain rfl:=Option.some.inj (k2.symm.trans a2)
 obtain rfl:=Option.some.inj (k3.symm.trans a3)
 have u2:(match(Tryz.prog.globals[4]?).map (·.type) with|some t=>(match Tryz.prog.underlying t with|some (.array m e)=>decide (m=256)&&(match Tryz.prog.underlying e with|some (.int k')=>decide (k'=.u8)|_=>false)&&decide (Tryz.prog.cellsOf e=1)&&decide (Tryz.prog.cellsOf t=256)|_=>false)|none=>false)=true:=by kernel_rfl
 have u3:(match(Tryz.prog.globals[3]?).map (·.type) with|some t=>(match Tryz.prog.underlying t with|some (.array m e)=>decide (m=20)&&(match Tryz.prog.underlying e with|some (.int k')=>decide (k'=.u64)|_=>false)&&decide (Tryz.prog.cellsOf e=1)&&decide (Tryz.prog.cellsOf t=20)|_=>false)|none=>false)=true:=by kernel_rfl
 rw[b2]at u2
 rw[b3]at u3
 have e2:=tab_read u2 d2
 have e3:=tab_read u3 d3
 subst e2;subst e3
 refine⟨⟨T3,T2,3,fz3,fz2,(0,0),m⟩,fun p hp=>?_⟩
 simp only[glK,List.mem_cons,List.not_mem_nil,or_false]at hp
 rcases hp with rfl|rfl|rfl
 ·exact c3
 ·exact c2
 ·exact hm
end Go.Proofs.YtanojbajfgcjeaaGreatDoor

namespace Go.Proofs.YtanojbajfgcjeaaGreatDoor
open Go.Sha
set_option maxRecDepth 10000
def B7_0:Cd:=(.g [.b 99 .lss 98 97] (.join [3,11,13,15,96,97,98] (.i 99 .skip (.exit [3,11,13,15] 0)) (.join [3,11,13,15,96,97,98] (.block 1 (.g [.r 100 1 96 98,.l 101 100,.m 17 101] (.g [.m 103 17,.s 104 (.iadr 1 (.t 103) (.i 0)),.l 105 104,.f 106 22 105,.m 102 106,.j 107 0 102,.j 108 1 102,.m 18 107,.m 19 108] (.join [3,11,13,15,17,18,96,97,98] (.join [3,11,13,15,17,18,96,97,98,115] (.reg [.m 109 17,.u 110 109,.v 111 .neq 110 3,.m 112 111,.mx 113 19 112,.x 114 (.gen (.eqi true) [.t 113]) 112,.o 115 112 114]) (.i 115 (.g [.k 6 false] (.ret [6])) .skip)) (.reg [.m 116 15,.m 117 18,.m 118 17,.s 119 (.iadr 1 (.t 118) (.i 1)),.l 120 119,.n (.act (.mset (.i .i64)) [.t 116,.t 117,.t 120])]))))) (.reg [.v 121 .add 98 1,.m 98 121]))))
def B7_1:Cd:=(.g [.b 125 .lss 124 123] (.join [3,11,15,122,123,124] (.i 125 .skip (.exit [] 2)) (.join [3,11,15,122,123,124] (.block 3 (.g [.r 126 2 122 124,.d 127 2 126,.s 21 (.alloc 83 [.i 0,.i 0]),.w 2 21 127] (.z [21] (.join [3,11,15,21,122,123,124] (.g [.a 128 1 21,.l 129 128,.v 130 .neq 129 0] (.i 130 (.exit [3,11,15,122,123,124] 3) .skip)) (.g [.s 131 (.build [.i 0,.i 0] [(0,1,(.i (-1)))]),.s 22 (.alloc 85 [.i 0,.i 0]),.w 2 22 131] (.join [3,11,15,21,22,122,123,124] (.g [.m 132 11,.s 133 (.mkfn (.func 32) [] [.t 21]),.g' 134 31 132 133,.m 23 134] (.g [.m 135 23,.v 136 .geq 135 0] (.i 136 (.reg [.m 137 11,.m 138 23,.r 139 4 137 138,.a 140 2 139,.d 141 2 140,.w 2 22 141]) .skip))) (.g [.d 143 9 3,.d 144 2 21,.d 145 2 22,.s 146 (.f 33 [.t 143,.t 144,.t 145]),.m 142 146,.j 147 0 142,.j 148 1 142,.m 24 147,.m 25 148] (.g [.m 150 15,.a 151 0 21,.l 152 151,.s 153 (.act (.look (.i .i64) (.str []) false) [.t 150,.t 152]),.f 154 34 153,.m 149 154,.j 155 0 149,.j 156 1 149,.m 26 155,.m 27 156] (.join [3,11,15,122,123,124,167] (.reg [.m 157 25,.v 158 .neq 157 0,.m 159 158,.mx 160 27 159,.vx 161 .neq 160 0 159,.o 162 159 161,.m 163 162,.mx 164 26 163,.mx 165 24 163,.bx 166 .neq 164 165 163,.o 167 163 166]) (.i 167 (.g [.k 6 false] (.ret [6])) .skip)))))))))) (.reg [.v 168 .add 124 1,.m 124 168]))))
theorem F7:compF Tryz.prog 7=some ⟨170,[.tmp 6],(.g [.q 3 50 0,.k 6 false] (.z [3] (.join [1,2,3] (.join [1,2,3,36] (.reg [.d 28 9 3,.f 29 20 28,.z 30 29,.m 31 30,.ax 32 6 3 31,.lx 33 32 31,.x 34 (.len (.t 33)) 31,.vx 35 .eql 34 0 31,.o 36 31 35]) (.i 36 (.g [.s 37 (.f 10 []),.m 6 37] (.ret [6])) .skip)) (.join [2,3,7] (.greg [[],[],[],[],[],[],[],[],[],[],[true,true,true,true,true,true,true,true,true,true],[false,false,false,false,false,false,false,false,false,false,false]] [.a 38 6 3,.l 39 38,.m 40 1,.s 41 (.cvi .i64 (.t 40)),.a 42 6 3,.l 43 42,.u 44 43,.b 45 .rem 41 44,.r 46 3 39 45,.d 47 3 46,.s 7 (.alloc 66 [.i 0,.i 0,.nils]),.w 3 7 47]) (.z [7] (.join [2,3,7] (.g [.a 48 2 7,.l 49 48,.u 50 49,.v 51 .eql 50 0] (.i 51 (.g [.s 52 (.f 10 []),.m 6 52] (.ret [6])) .skip)) (.q (.dreg 12 [.a 53 2 7,.l 54 53,.m 55 2,.s 56 (.cvi .i64 (.t 55)),.a 57 2 7,.l 58 57,.u 59 58,.b 60 .rem 56 59,.r 61 9 54 60,.a 62 0 61,.l 63 62,.m 8 63]) (.g [.d 65 9 3,.a 66 0 7,.l 67 66,.m 68 8,.s 69 (.f 28 [.t 65,.t 67,.t 68]),.m 64 69,.j 70 0 64,.j 71 1 64,.m 9 70,.m 10 71] (.g [.d 73 3 7,.m 74 8,.g' 75 29 73 74,.m 72 75,.j 76 0 72,.j 77 1 72,.m 11 76,.m 12 77] (.g [.d 79 9 3,.f 80 30 79,.m 78 80,.j 81 0 78,.j 82 1 78,.m 13 81,.m 14 82] (.join [3,9,11,13] (.join [3,9,11,13,93] (.reg [.m 83 10,.m 84 12,.b 85 .add 83 84,.m 86 14,.b 87 .add 85 86,.v 88 .neq 87 0,.m 89 88,.mx 90 9 89,.x 91 (.len (.t 90)) 89,.vx 92 .eql 91 0 89,.o 93 89 92]) (.i 93 (.g [.k 6 false] (.ret [6])) .skip)) (.g [.s 94 (.act .mkmap []),.m 15 94] (.join [3,11,13,15] (.g [.m 95 9,.s 96 (.slice 1 (.t 95) (some (.i 1)) none none),.u 97 96,.c 98 0] (.block 0 (.loop [3,11,13,15,96,97,98] [] B7_0))) (.join [] (.g [.m 122 13,.u 123 122,.c 124 0] (.block 2 (.loop [3,11,15,122,123,124] [] B7_1))) (.g [.s 169 (.f 10 []),.m 6 169] (.ret [6]))))))))))))))))⟩:=by kernel_rfl
theorem F29:compF Tryz.prog 29=some ⟨20,[.tmp 4,.tmp 5],(.g [.q 2 66 0,.s 4 (.mv (.c .nils)),.c 5 0] (.z [2] (.g [.d 9 3 2,.m 10 1,.g' 11 78 9 10,.m 8 11,.j 12 0 8,.j 13 1 8,.m 6 12,.m 7 13] (.join [2,6] (.g [.m 14 7,.v 15 .neq 14 0] (.i 15 (.g [.m 16 7,.s 4 (.mv (.c .nils)),.m 5 16] (.ret [4,5])) .skip)) (.g [.d 17 3 2,.m 18 6,.g' 19 79 17 18,.m 4 19,.c 5 0] (.ret [4,5]))))))⟩:=by kernel_rfl
def B31_0:Cd:=(.g [.b 9 .lss 8 7] (.join [0,1,7,8] (.i 9 .skip (.exit [] 0)) (.join [0,1,7,8] (.block 1 (.g [.m 10 8,.m 5 10] (.g [.m 11 1,.m 12 0,.m 13 5,.r 14 4 12 13,.d 15 4 14,.s 16 (.call (.t 11) [.t 15])] (.i 16 (.g [.m 17 5,.m 4 17] (.ret [4])) .skip)))) (.reg [.v 18 .add 8 1,.m 8 18]))))
theorem F31:compF Tryz.prog 31=some ⟨19,[.tmp 4],(.g [.c 4 0] (.join [] (.g [.m 6 0,.u 7 6,.c 8 0] (.block 0 (.loop [0,1,7,8] [] B31_0))) (.g [.c 4 (-1)] (.ret [4]))))⟩:=by kernel_rfl
theorem F32:compF Tryz.prog 32=some ⟨8,[.tmp 3],(.g [.q 2 88 0,.k 3 false] (.z [2] (.g [.a 4 0 2,.d 5 2 4,.d 6 2 1,.s 7 (.eqs false [.i,.i] (.t 5) (.t 6)),.m 3 7] (.ret [3]))))⟩:=by kernel_rfl
theorem F34:compF Tryz.prog 34=some ⟨21,[.tmp 2,.tmp 3],(.g [.c 2 0,.c 3 0] (.join [0] (.g [.m 6 0,.s 7 (.bin .eql (.t 6) (.w [102,117,108,108]))] (.i 7 (.g [.c 2 65535,.c 3 0] (.ret [2,3])) .skip)) (.g [.m 9 0,.f 10 87 9,.m 8 10,.j 11 0 8,.j 12 1 8,.m 4 11,.m 5 12] (.join [4] (.block 0 (.g [.m 14 5,.z 15 14,.m 13 15] (.i 13 (.g [.c 2 0,.c 3 3] (.ret [2,3])) (.g [.m 17 4,.v 18 .gtr 17 100000,.m 16 18] (.i 16 (.g [.c 2 0,.c 3 2] (.ret [2,3])) .skip))))) (.g [.m 19 4,.f 20 88 19,.m 2 20,.c 3 0] (.ret [2,3]))))))⟩:=by kernel_rfl
def B76_0:Cd:=(.join [0,5,6] (.g [.m 18 6,.v 19 .lss 18 3] (.i 19 .skip (.exit [0] 0))) (.join [0,5,6] (.block 1 (.join [0,5,6] (.g [.m 23 0,.m 24 5,.m 25 6,.s 26 (.f 146 [.t 23,.t 24,.t 25]),.m 22 26,.j 27 0 22,.j 28 1 22,.m 7 27,.m 8 28] (.g [.m 29 8] (.i 29 (.g [.m 30 7,.m 2 30,.c 3 0] (.ret [2,3])) .skip))) (.reg [.m 31 5,.v 32 .quo 31 10,.m 5 32]))) (.reg [.m 20 6,.v 21 .add 20 1,.m 6 21])))
theorem F76:compF Tryz.prog 76=some ⟨39,[.tmp 2,.tmp 3],(.g [.s 2 (.mv (.w [])),.c 3 0] (.join [0] (.g [.m 11 0,.f 12 145 11,.m 4 12] (.g [.m 13 4,.v 14 .neq 13 0] (.i 14 (.g [.m 15 4,.s 2 (.mv (.w [])),.m 3 15] (.ret [2,3])) .skip))) (.join [0] (.g [.m 16 0,.v 17 .eql 16 65535] (.i 17 (.g [.s 2 (.mv (.w [102,117,108,108])),.c 3 0] (.ret [2,3])) .skip)) (.g [.c 5 1000] (.join [0] (.g [.c 6 0] (.block 0 (.loop [0,5,6] [] B76_0))) (.g [.m 34 0,.s 35 (.f 146 [.t 34,.i 1,.i 3]),.m 33 35,.j 36 0 33,.j 37 1 33,.m 9 36,.m 10 37] (.g [.m 38 9,.m 2 38,.c 3 0] (.ret [2,3]))))))))⟩:=by kernel_rfl
theorem F78:compF Tryz.prog 78=some ⟨24,[.tmp 4,.tmp 5],(.g [.q 2 66 0,.c 4 0,.c 5 0] (.z [2] (.g [.d 10 3 2,.m 11 1,.g' 12 150 10 11,.m 9 12,.j 13 0 9,.j 14 1 9,.j 15 2 9,.m 6 13,.m 7 14,.m 8 15] (.join [6] (.block 0 (.g [.m 17 8,.v 18 .neq 17 0,.m 16 18] (.i 16 (.g [.m 19 8,.c 4 0,.m 5 19] (.ret [4,5])) (.g [.m 21 7,.z 22 21,.m 20 22] (.i 20 (.g [.c 4 0,.c 5 6] (.ret [4,5])) .skip))))) (.g [.m 23 6,.m 4 23,.c 5 0] (.ret [4,5]))))))⟩:=by kernel_rfl
def B79_0:Cd:=(.g [.b 12 .lss 11 10] (.join [1,2,5,9,10,11] (.i 12 .skip (.exit [5] 0)) (.join [1,2,5,9,10,11] (.block 1 (.g [.r 13 2 9 11,.d 14 2 13,.s 7 (.alloc 83 [.i 0,.i 0]),.w 2 7 14] (.z [7] (.greg [[],[],[],[],[],[],[],[false,false,false,false,false,false,true],[false,false,false,false,false,false,false,false],[]] [.m 15 5,.d 16 2 7,.d 17 3 2,.m 18 1,.d 19 2 7,.s 20 (.f 152 [.t 17,.t 18,.t 19]),.s 21 (.build [.i 0,.i 0,.i 0,.i 0] [(0,2,(.t 16)),(2,2,(.t 20))]),.s 22 (.bslice 88 4 [.t 21]),.s 23 (.append 88 4 32 (.t 15) (.t 22)),.m 5 23])))) (.reg [.v 24 .add 11 1,.m 11 24]))))
theorem F79:compF Tryz.prog 79=some ⟨26,[.tmp 4],(.g [.q 2 66 0,.s 4 (.mv (.c .nils))] (.z [2] (.g [.s 5 (.mv (.c .nils))] (.join [5] (.g [.d 8 3 2,.f 9 151 8,.u 10 9,.c 11 0] (.block 0 (.loop [1,2,5,9,10,11] [(5,(88,4))] B79_0))) (.g [.m 25 5,.m 4 25] (.ret [4]))))))⟩:=by kernel_rfl
theorem F87:compF Tryz.prog 87=some ⟨46,[.tmp 2,.tmp 3],(.g [.c 2 0,.k 3 false] (.g [.m 10 0,.s 11 (.f 140 [.t 10,(.w [46])]),.m 9 11,.j 12 0 9,.j 13 1 9,.j 14 2 9,.m 4 12,.m 5 13,.m 6 14] (.join [4,5] (.join [4,5,35] (.reg [.m 15 4,.f 16 161 15,.z 17 16,.m 18 17,.mx 19 4 18,.x 20 (.lens (.t 19)) 18,.vx 21 .gtr 20 1 18,.mx 22 21 18,.my 23 4 22,.y 24 (.ichr (.t 23) (.i 0)) 22,.y 25 (.bin .eql (.t 24) (.c (.int .u8 48))) 22,.x 26 (.pick (.t 22) (.t 25) (.c (.bool false))) 18,.o 27 18 26,.m 28 27,.mx 29 6 28,.mx 30 29 28,.my 31 5 30,.y 32 (.f 161 [.t 31]) 30,.y 33 (.un .not (.t 32)) 30,.x 34 (.pick (.t 30) (.t 33) (.c (.bool false))) 28,.o 35 28 34]) (.i 35 (.g [.c 2 0,.k 3 false] (.ret [2,3])) .skip)) (.g [.s 7 (.alloc 3 [.i 0]),.n (.store 1 (.t 7) (.i 0))] (.g [.s 36 (.mkfn (.func 162) [] [.t 7]),.m 8 36] (.g [.m 37 8,.m 38 4,.s 39 (.call (.t 37) [.t 38])] (.g [.m 40 8,.m 41 5,.s 42 (.bin .add (.t 41) (.w [48,48,48])),.s 43 (.slices (.t 42) none (some (.i 3))),.s 44 (.call (.t 40) [.t 43])] (.g [.l 45 7,.m 2 45,.k 3 true] (.ret [2,3])))))))))⟩:=by kernel_rfl
theorem F88:compF Tryz.prog 88=some ⟨7,[.tmp 2],(.g [.c 2 0] (.g [.m 3 0,.s 4 (.bin .mul (.i 65535) (.t 3)),.v 5 .add 4 50000,.v 6 .quo 5 100000,.m 2 6] (.ret [2])))⟩:=by kernel_rfl
theorem F145:compF Tryz.prog 145=some ⟨9,[.tmp 2],(.g [.c 2 0] (.join [] (.join [8] (.reg [.m 3 0,.v 4 .lss 3 0,.m 5 4,.mx 6 0 5,.vx 7 .gtr 6 65535 5,.o 8 5 7]) (.i 8 (.g [.c 2 2] (.ret [2])) .skip)) (.g [.c 2 0] (.ret [2]))))⟩:=by kernel_rfl
theorem F146:compF Tryz.prog 146=some ⟨45,[.tmp 6,.tmp 7],(.g [.s 6 (.mv (.w [])),.k 7 false] (.g [.m 11 0,.s 12 (.bin .mul (.i 100000) (.t 11)),.v 13 .sub 12 50000,.m 14 1,.s 15 (.bin .mul (.i 65535) (.t 14)),.b 16 .add 13 15,.v 17 .sub 16 1,.m 18 1,.s 19 (.bin .mul (.i 65535) (.t 18)),.b 20 .quo 17 19,.s 21 (.gen .mx [.i 0,.t 20]),.m 8 21] (.join [1,2,8] (.g [.m 22 8,.m 23 1,.b 24 .mul 22 23,.f 25 88 24,.m 26 0,.b 27 .neq 25 26] (.i 27 (.g [.s 6 (.mv (.w [])),.k 7 false] (.ret [6,7])) .skip)) (.g [.m 28 1,.s 29 (.bin .quo (.i 1000) (.t 28)),.m 9 29] (.g [.m 30 8,.m 31 9,.b 32 .quo 30 31,.s 33 (.f 224 [.t 32,.i 1]),.m 10 33] (.join [10] (.g [.m 34 2,.v 35 .gtr 34 0] (.i 35 (.reg [.m 36 10,.m 37 8,.m 38 9,.b 39 .rem 37 38,.m 40 2,.g' 41 224 39 40,.s 42 (.bin .add (.w [46]) (.t 41)),.b 43 .add 36 42,.m 10 43]) .skip)) (.g [.m 44 10,.m 6 44,.k 7 true] (.ret [6,7]))))))))⟩:=by kernel_rfl
theorem F150:compF Tryz.prog 150=some ⟨24,[.tmp 4,.tmp 5,.tmp 6],(.g [.q 2 66 0,.c 4 0,.k 5 false,.c 6 0] (.z [2] (.join [1,2] (.g [.d 9 3 2,.m 10 1,.s 11 (.bslice 9 1 [.t 10]),.g' 12 227 9 11,.m 7 12] (.g [.m 13 7,.v 14 .neq 13 0] (.i 14 (.g [.m 15 7,.c 4 0,.k 5 false,.m 6 15] (.ret [4,5,6])) .skip))) (.g [.d 16 3 2,.s 17 (.build [.i 0,.i 0,.nils] [(0,3,(.t 16))]),.m 18 1,.g' 19 228 17 18,.m 8 19] (.g [.m 20 8,.s 21 (.gen .mx [.t 20,.i 0]),.m 22 8,.v 23 .geq 22 0,.m 4 21,.m 5 23,.c 6 0] (.ret [4,5,6]))))))⟩:=by kernel_rfl
def B151_0:Cd:=(.g [.b 21 .lss 20 19] (.join [3,4,11,12,13,18,19,20] (.i 21 .skip (.exit [3,4,11,12,13] 2)) (.join [3,4,11,12,13,18,19,20] (.block 3 (.g [.r 22 5 18 20,.d 23 5 22,.s 8 (.alloc 139 [.i 0,.i 0,.i 0,.i 0,.i 0]),.w 5 8 23] (.z [8] (.g [.m 24 3,.a 25 0 8,.d 26 2 25,.s 27 (.act (.look (.a [.i,.i]) (.bool false) false) [.t 24,.t 26]),.z 28 27] (.i 28 (.g [.m 29 3,.a 30 0 8,.d 31 2 30,.n (.act (.mset (.a [.i,.i])) [.t 29,.t 31,(.c (.bool true))])] (.reg [.m 32 4,.a 33 0 8,.d 34 2 33,.s 35 (.bslice 83 2 [.t 34]),.s 36 (.append 83 2 16 (.t 32) (.t 35)),.m 4 36])) .skip))))) (.reg [.v 37 .add 20 1,.m 20 37]))))
def B151_1:Cd:=(.g [.b 14 .lss 13 12] (.join [3,4,11,12,13] (.i 14 .skip (.exit [4] 0)) (.join [3,4,11,12,13] (.block 1 (.g [.r 15 9 11 13,.d 16 9 15,.s 6 (.alloc 73 [(.str []),(.str []),.nils,.nils,(.bool false),(.bool false),.i 0,(.str []),.i 0]),.w 9 6 16] (.z [6] (.g [.a 17 2 6,.l 18 17,.u 19 18,.c 20 0] (.block 2 (.loop [3,4,11,12,13,18,19,20] [(4,(83,2))] B151_0)))))) (.reg [.v 38 .add 13 1,.m 13 38]))))
theorem F151:compF Tryz.prog 151=some ⟨42,[.tmp 2],(.g [.q 1 66 0,.s 2 (.mv (.c .nils))] (.z [1] (.g [.s 9 (.act .mkmap []),.m 3 9] (.g [.s 4 (.mv (.c .nils))] (.join [4] (.g [.a 10 2 1,.l 11 10,.u 12 11,.c 13 0] (.block 0 (.loop [3,4,11,12,13] [(4,(83,2))] B151_1))) (.g [.m 39 4,.s 40 (.f 81 [.t 39,(.c (.fn (.func 229) [] []))])] (.g [.m 41 4,.m 2 41] (.ret [2]))))))))⟩:=by kernel_rfl
theorem F161:compF Tryz.prog 161=some ⟨18,[.tmp 2],(.g [.k 2 false] (.g [.s 3 (.mv (.c (.fn (.func 249) [] [])))] (.join [2] (.reg [.m 4 0,.s 5 (.lens (.t 4)),.v 6 .geq 5 1,.m 7 6,.my 8 0 7,.y 9 (.lens (.t 8)) 7,.vy 10 .leq 9 3 7,.e 11 7 10,.m 12 11,.my 13 0 12,.my 14 3 12,.y 15 (.f 96 [.t 13,.t 14]) 12,.vy 16 .lss 15 0 12,.e 17 12 16,.m 2 17]) (.ret [2]))))⟩:=by kernel_rfl
def B162_0:Cd:=(.g [.b 9 .lss 8 7] (.join [1,6,7,8] (.i 9 .skip (.exit [] 0)) (.join [1,6,7,8] (.block 1 (.g [.r 10 1 6 8,.l 11 10,.m 4 11] (.reg [.l 12 1,.s 13 (.bin .mul (.i 10) (.t 12)),.m 14 4,.s 15 (.bin .sub (.t 14) (.c (.int .u8 48))),.s 16 (.cvi .i64 (.t 15)),.b 17 .add 13 16,.w 1 1 17]))) (.reg [.v 18 .add 8 1,.m 8 18]))))
theorem F162:compF Tryz.prog 162=some ⟨19,[],(.g [.m 5 0,.s 6 (.cvsb 5 (.t 5)),.u 7 6,.c 8 0] (.block 0 (.loop [1,6,7,8] [] B162_0)))⟩:=by kernel_rfl
theorem F224:compF Tryz.prog 224=some ⟨16,[.tmp 4],(.g [.s 4 (.mv (.w []))] (.g [.m 6 0,.f 7 293 6,.m 5 7] (.g [.m 8 1,.m 9 5,.s 10 (.lens (.t 9)),.b 11 .sub 8 10,.s 12 (.gen .mx [.i 0,.t 11]),.s 13 (.f 19 [(.w [48]),.t 12]),.m 14 5,.b 15 .add 13 14,.m 4 15] (.ret [4]))))⟩:=by kernel_rfl
def B227_0:Cd:=(.g [.b 17 .lss 16 15] (.join [14,15,16] (.i 17 .skip (.exit [] 0)) (.join [14,15,16] (.block 1 (.g [.r 18 1 14 16,.l 19 18,.m 7 19] (.g [.m 20 7,.f 21 75 20,.m 8 21] (.g [.m 22 8,.v 23 .neq 22 0] (.i 23 (.g [.m 24 8,.m 4 24] (.ret [4])) .skip))))) (.reg [.v 25 .add 16 1,.m 16 25]))))
theorem F227:compF Tryz.prog 227=some ⟨26,[.tmp 4],(.g [.q 2 66 0,.c 4 0] (.z [2] (.join [1] (.g [.d 9 3 2,.f 10 65 9,.m 5 10] (.g [.m 11 5,.v 12 .neq 11 0] (.i 12 (.g [.m 13 5,.m 4 13] (.ret [4])) .skip))) (.join [] (.g [.m 14 1,.u 15 14,.c 16 0] (.block 0 (.loop [14,15,16] [] B227_0))) (.g [.c 4 0] (.ret [4]))))))⟩:=by kernel_rfl
theorem F228:compF Tryz.prog 228=some ⟨10,[.tmp 4],(.g [.q 2 135 0,.q 3 9 1,.c 4 0] (.z [2,3] (.g [.a 5 0 2,.a 6 2 5,.l 7 6,.s 8 (.mkfn (.func 299) [] [.t 3]),.g' 9 298 7 8,.m 4 9] (.ret [4]))))⟩:=by kernel_rfl
theorem F293:compF Tryz.prog 293=some ⟨5,[.tmp 2],(.g [.s 2 (.mv (.w []))] (.g [.m 3 0,.f 4 26 3,.m 2 4] (.ret [2])))⟩:=by kernel_rfl
def B298_0:Cd:=(.g [.b 9 .lss 8 7] (.join [0,1,7,8] (.i 9 .skip (.exit [] 0)) (.join [0,1,7,8] (.block 1 (.g [.m 10 8,.m 5 10] (.g [.m 11 1,.m 12 0,.m 13 5,.r 14 9 12 13,.d 15 9 14,.s 16 (.call (.t 11) [.t 15])] (.i 16 (.g [.m 17 5,.m 4 17] (.ret [4])) .skip)))) (.reg [.v 18 .add 8 1,.m 8 18]))))
theorem F298:compF Tryz.prog 298=some ⟨19,[.tmp 4],(.g [.c 4 0] (.join [] (.g [.m 6 0,.u 7 6,.c 8 0] (.block 0 (.loop [0,1,7,8] [] B298_0))) (.g [.c 4 (-1)] (.ret [4]))))⟩:=by kernel_rfl
theorem F299:compF Tryz.prog 299=some ⟨8,[.tmp 3],(.g [.q 2 73 0,.k 3 false] (.z [2] (.g [.a 4 0 2,.l 5 4,.l 6 1,.b 7 .eql 5 6,.m 3 7] (.ret [3]))))⟩:=by kernel_rfl
end Go.Proofs.YtanojbajfgcjeaaGreatDoor

namespace Go.Proofs.YtanojbajfgcjeaaGreatDoor
open Go.Sha
set_option maxRecDepth 100000
variable {g:List (Nat×Obj)}{n:Nat}
theorem f299 {x:Cu}{s:List UInt8}{st:St}:run Tryz.prog HH 299 [x.v,.ep (.agg [.str s]) 0] st=some (.ret (.bool (x.num == s)),st):=by
 rw[run_shut F299 rfl rfl (by simp)]
 push_cast[Cu.v]
 all_goals first|with_reducible rfl|exact dn_eq (by omega) (by with_reducible rfl)|((repeat' split)<;>(try simp_all)<;>(try (with_reducible refine dn_eq ?_ ?_<;>first|trivial|omega|rfl))<;>(try omega))
theorem f298 {l:List Cu}{s:List UInt8}(hl:l.length<140737488355328){st:St}:run Tryz.prog HH 298 [.sl (l.map Cu.v),.fn (.func 299) [] [.ep (.agg [.str s]) 0]] st=some (.ret (.int .i64 (ix (fun x=>x.num == s) l 0)),st) :=
 IxF (f:=Cu.v) (n:=some 9) (fun _=>rfl) (fun _=>rfl) F298 rfl (by simp) hl (fun q _ _=>f299) (fun _ _=>rfl) (fun _=>rfl)
theorem f228 {x:Lst}{s:List UInt8}(hl:x.cues.length<140737488355328){st:St}:run Tryz.prog HH 228 [x.v,.str s] st=some (.ret (.int .i64 (ix (fun x=>x.num == s) x.cues 0)),st):=by
 have h1:=fun(st:St)=>f298 (s:=s) (st:=st) hl
 rw[run_shut F228 rfl rfl (by simp)]
 push_cast[Lst.v,h1]
 all_goals first|with_reducible rfl|exact dn_eq (by omega) (by with_reducible rfl)|((repeat' split)<;>(try simp_all)<;>(try (with_reducible refine dn_eq ?_ ?_<;>first|trivial|omega|rfl))<;>(try omega))
theorem f227 {x:Lst}(h:x.ok){s:List UInt8}(hs:s.length<140737488355328){st:St}:run Tryz.prog HH 227 [x.v,.sl [.str s]] st=some (.ret (.int .i64 (if ¬lstP x=0 then lstP x else numC s)),st):=by
 have h1:=fun(st:St)=>f65 (st:=st) h
 have h2:=fun(st:St)=>f75 (st:=st) hs
 push_cast[Lst.v]at h1
 rw[run_shut F227 rfl rfl (by simp)]
 push_cast[Lst.v,h1,h2,runL_of B227_0.eq_1,List.length_cons,List.length_nil]
def plcE (x:Lst)(s:List UInt8):Int:=if ¬lstP x=0 then lstP x else if ¬numC s=0 then numC s else if ix (fun x=>x.num == s) x.cues 0<0 then 6 else 0
def plcV (x:Lst)(s:List UInt8):Int:=if plcE x s=0 then ix (fun x=>x.num == s) x.cues 0 else 0
theorem ix_rng {α:Type}{p:α→Bool}:∀{l:List α}{j:Nat},ix p l j=-1∨(j:Int)≤ix p l j∧ix p l j<j+l.length
 |[],j=>.inl rfl
 |x::r,j=>by
  unfold ix
  split
  ·exact .inr ⟨by omega,by simp;omega⟩
  ·rcases ix_rng (p:=p) (l:=r) (j:=j+1) with h|h
   ·exact .inl h
   ·exact .inr ⟨by omega,by simp;omega⟩
theorem plc_at {x:Lst}{s:List UInt8}(h:plcE x s=0):0≤plcV x s∧(plcV x s).toNat<x.cues.length:=by
 rw[plcV,if_pos h]
 unfold plcE at h
 repeat' split at h
 all_goals first|(rename_i a;exact absurd h a)|cases h|skip
 rcases ix_rng (p:=fun c:Cu=>c.num == s) (l:=x.cues) (j:=0) with h|h<;>omega
theorem f150 {x:Lst}(h:x.ok){s:List UInt8}(hs:s.length<140737488355328){st:St}:run Tryz.prog HH 150 [x.v,.str s] st=some (.ret (if ¬lstP x=0 then .tup [.int .i64 0,.bool false,.int .i64 (lstP x)] else if ¬numC s=0 then .tup [.int .i64 0,.bool false,.int .i64 (numC s)] else
  .tup [.int .i64 (if ix (fun x=>x.num == s) x.cues 0<0 then 0 else ix (fun x=>x.num == s) x.cues 0),.bool (decide (0≤ix (fun x=>x.num == s) x.cues 0)),.int .i64 0]),st):=by
 have h1:=fun(st:St)=>f227 (st:=st) h hs
 have h2:=fun(st:St)=>f228 (s:=s) (st:=st) h.1
 push_cast[Lst.v]at h1 h2
 rw[run_shut F150 rfl rfl (by simp)]
 by_cases h3:lstP x=0
 ·by_cases h4:numC s=0
  ·push_cast[Lst.v,h1,h2,h3,h4]
  ·push_cast[Lst.v,h1,h2,h3,h4]
 ·push_cast[Lst.v,h1,h3]
theorem f78 {x:Lst}(h:x.ok){s:List UInt8}(hs:s.length<140737488355328){st:St}:run Tryz.prog HH 78 [x.v,.str s] st=some (.ret (.tup [.int .i64 (plcV x s),.int .i64 (plcE x s)]),st):=by
 have h1:=fun(st:St)=>f150 (st:=st) h hs
 rw[run_shut F78 rfl rfl (by simp)]
 unfold plcV plcE
 by_cases h3:lstP x=0
 ·by_cases h4:numC s=0
  ·by_cases h5:ix (fun x=>x.num == s) x.cues 0<0
   ·have h6:¬0≤ix (fun x=>x.num == s) x.cues 0:=by omega
    push_cast[Lst.v,h3,h4,h5,h6]at h1
    push_cast[Lst.v,h1,h3,h4,h5,h6]
   ·have h6:0≤ix (fun x=>x.num == s) x.cues 0:=by omega
    push_cast[Lst.v,h3,h4,h5,h6]at h1
    push_cast[Lst.v,h1,h3,h4,h5,h6]
  ·push_cast[Lst.v,h3,h4]at h1
   push_cast[Lst.v,h1,h3,h4]
 ·push_cast[Lst.v,h3]at h1
  push_cast[Lst.v,h1,h3]
end Go.Proofs.YtanojbajfgcjeaaGreatDoor

namespace Go.Proofs.YtanojbajfgcjeaaGreatDoor
open Go.Sha
set_option maxRecDepth 10000
theorem F58:compF Tryz.prog 58=some ⟨5,[.tmp 2],(.g [.s 2 (.mv (.w []))] (.g [.m 3 0,.f 4 26 3,.m 2 4] (.ret [2])))⟩:=by kernel_rfl
theorem F20:compF Tryz.prog 20=some ⟨10,[.tmp 2],(.g [.q 1 50 0,.k 2 false] (.z [1] (.join [2] (.reg [.d 3 9 1,.f 4 52 3,.m 5 4,.y 6 (.load (some 9) (.t 1)) 5,.y 7 (.f 53 [.t 6]) 5,.vy 8 .eql 7 0 5,.e 9 5 8,.m 2 9]) (.ret [2]))))⟩:=by kernel_rfl
end Go.Proofs.YtanojbajfgcjeaaGreatDoor

namespace Go.Proofs.YtanojbajfgcjeaaGreatDoor
open Go.Sha
set_option maxRecDepth 100000
variable {g:List (Nat×Obj)}{n:Nat}
theorem f58 {m:Int}(h0:-9223372036854775808≤m)(h1:m≤9223372036854775807){st:St}(hG:glB st.x.gl=true):run Tryz.prog HH 58 [.int .i64 m] st=some (.ret (.str (Lib.itoa m)),st):=by
 have hI:∀st':St,st'.x.gl=st.x.gl→run Tryz.prog HH 26 [.int .i64 m] st'=some (.ret (.str (Lib.itoa m)),st'):=fun st' e=>run_H (by
  show(hItoa st'.x.gl [.int .i64 m]).map (fun r=>(r,st'))=_
  rw[hItoa,e,hG,decide_eq_true h0,decide_eq_true h1];rfl)
 rw[run_shut F58 rfl rfl (by simp)]
 push_cast[hI]
end Go.Proofs.YtanojbajfgcjeaaGreatDoor

namespace Go.Proofs.YtanojbajfgcjeaaGreatDoor
open Go.Sha
set_option maxRecDepth 100000
variable {g:List (Nat×Obj)}{n:Nat}
theorem num_chars {s:List UInt8}(h:numC s=0):s.length≤8∧∀b∈s,isD b=true∨b=46:=by
 obtain⟨a1,a2,a3,a4⟩:=numC_parts h
 have e:s=nW s++s.dropWhile (· != 46):=(List.takeWhile_append_dropWhile ..).symm
 have e2:s.dropWhile (· != 46)=[]∨s.dropWhile (· != 46)=46::nR s:=by
  unfold nR
  cases hd:s.dropWhile (· != 46) with
  |nil=>exact .inl rfl
  |cons b r =>
   have:(b != 46)=false:=by
    have:=List.head_dropWhile_not (p:=(· != (46:UInt8))) (l:=s) (by rw[hd];simp)
    simpa [hd] using this
   have hb:b=46:=by simpa using this
   rw[hb];exact .inr rfl
 rcases e2 with e2|e2
 ·rw[e2,List.append_nil]at e
  exact⟨by rw[e];omega,fun b hb=>.inl (a1 b (by rw[←e];exact hb))⟩
 ·rw[e2]at e
  refine⟨by rw[e,List.length_append,List.length_cons];omega,fun b hb=>?_⟩
  rw[e]at hb
  rcases List.mem_append.1 hb with hb|hb
  ·exact .inl (a1 b hb)
  ·rcases List.mem_cons.1 hb with hb|hb
   ·exact .inr hb
   ·exact .inl (a2 b hb)
theorem cuesP_all {l:List Cu}:∀{r:List Cu}{j:Nat},cuesP l r j=0→∀c∈r,numC c.num=0
 |[],_,_,c,hc=>by simp at hc
 |q::r,j,h,c,hc=>by
  rw[cuesP]at h
  repeat' split at h
  all_goals first|(rename_i a;exact absurd h a)|cases h|skip
  rename_i a _
  rw[cue_eq]at a
  rcases List.mem_cons.1 hc with rfl|hc
  ·exact cueP_num (Classical.not_not.1 a)
  ·exact cuesP_all h c hc
theorem lst_parts {x:Lst}(h:lstP x=0):1≤x.num∧x.num≤1048576∧x.cues.length≤64∧∀c∈x.cues,numC c.num=0:=by
 unfold lstP lstB at h
 split at h
 ·cases h
 ·split at h
  ·cases h
  ·exact⟨by omega,by omega,by omega,cuesP_all h⟩
theorem lstsL_all {l:List Lst}:∀{r:List Lst}{j:Nat},lstsL l r j=0→∀c∈r,lstP c=0
 |[],_,_,c,hc=>by simp at hc
 |q::r,j,h,c,hc=>by
  rw[lstsL]at h
  repeat' split at h
  all_goals first|(rename_i a;exact absurd h a)|cases h|skip
  rename_i a _
  rcases List.mem_cons.1 hc with rfl|hc
  ·rw[lst_eq];exact Classical.not_not.1 a
  ·exact lstsL_all h c hc
theorem sho_parts {s:Sho}(h:shoC s=0):s.lsts.length≤8∧(∀x∈s.lsts,lstP x=0)∧s.pals.length≤32∧∀x∈s.pals,1≤x.num∧x.num≤1048576:=by
 obtain⟨_,_,_,_,_,h1,h2,_⟩:=shoC_parts h
 unfold lstsC at h2
 unfold palsCR at h1
 split at h1
 ·cases h1
 ·split at h2
  ·cases h2
  ·exact⟨by omega,lstsL_all h2,by omega,fun x hx=>have:=(palsR_all (j:=0) rfl h1).1 x hx;⟨this.1,this.2.1⟩⟩
end Go.Proofs.YtanojbajfgcjeaaGreatDoor

namespace Go.Proofs.YtanojbajfgcjeaaGreatDoor
open Go.Sha
set_option maxRecDepth 10000
theorem F74:compF Tryz.prog 74=some ⟨23,[.cell 4 (some 3),.tmp 5],(.g [.q 2 50 0,.s 4 (.alloc 66 [.i 0,.i 0,.nils]),.c 5 0] (.z [2] (.g [.d 9 9 2,.m 10 1,.g' 11 139 9 10,.m 8 11,.j 12 0 8,.j 13 1 8,.m 6 12,.m 7 13] (.join [2,4,6] (.g [.m 14 7,.v 15 .neq 14 0] (.i 15 (.g [.s 16 (.build [.i 0,.i 0,.nils] []),.m 17 7,.w 3 4 16,.m 5 17] (.ret [4,5])) .skip)) (.g [.a 18 6 2,.l 19 18,.m 20 6,.r 21 3 19 20,.d 22 3 21,.w 3 4 22,.c 5 0] (.ret [4,5]))))))⟩:=by kernel_rfl
theorem F148:compF Tryz.prog 148=some ⟨15,[.tmp 6],(.g [.c 6 0] (.join [] (.join [14] (.reg [.m 7 0,.m 8 1,.b 9 .lss 7 8,.m 10 9,.mx 11 0 10,.mx 12 2 10,.bx 13 .gtr 11 12 10,.o 14 10 13]) (.i 14 (.g [.c 6 2] (.ret [6])) .skip)) (.g [.c 6 0] (.ret [6]))))⟩:=by kernel_rfl
end Go.Proofs.YtanojbajfgcjeaaGreatDoor

namespace Go.Proofs.YtanojbajfgcjeaaGreatDoor
open Go.Sha
set_option maxRecDepth 100000
variable {g:List (Nat×Obj)}{n:Nat}
end Go.Proofs.YtanojbajfgcjeaaGreatDoor

namespace Go.Proofs.YtanojbajfgcjeaaGreatDoor
open Go.Sha
set_option maxRecDepth 100000
variable {g:List (Nat×Obj)}{n:Nat}
end Go.Proofs.YtanojbajfgcjeaaGreatDoor

namespace Go.Proofs.YtanojbajfgcjeaaGreatDoor
open Go.Sha
set_option maxRecDepth 10000
theorem F121:compF Tryz.prog 121=some ⟨8,[.tmp 2],(.g [.s 2 (.mv (.c .nils))] (.join [0] (.g [.m 3 0,.s 4 (.nilk false (.t 3))] (.i 4 (.g [.s 2 (.mv (.c .nils))] (.ret [2])) .skip)) (.g [.s 5 (.bslice 120 7 []),.m 6 0,.s 7 (.append 120 7 72 (.t 5) (.t 6)),.m 2 7] (.ret [2]))))⟩:=by kernel_rfl
end Go.Proofs.YtanojbajfgcjeaaGreatDoor

namespace Go.Proofs.YtanojbajfgcjeaaGreatDoor
open Go.Sha
set_option maxRecDepth 100000
variable {g:List (Nat×Obj)}{n:Nat}
def memC:List Nat:=[54,58]
noncomputable def HC:EvF:=⟨HH.raw,fun f args st=>bif Nat.beq f 121 then hClone 120 7 72 args st else bif memL f memC then run Tryz.prog HH f args st else none⟩
theorem HC_ok (h1:ESound Tryz.prog HH):ESound Tryz.prog HC:=fun f args st r s h=>by
 simp only[HC]at h
 by_cases hf:f=121
 ·subst hf
  simp only[show Nat.beq 121 121=true from rfl,cond_true]at h
  exact clone_ok F121 h
 rw[show Nat.beq f 121=false from Bool.eq_false_iff.2 fun e=>hf (Nat.eq_of_beq_eq_true e),cond_false]at h
 cases hi:memL f memC with
 |false=>rw[hi]at h;cases h
 |true=>rw[hi]at h;exact run_sound mixed h1 _ _ _ _ _ h
def ltK (key:Fixt→Int×Int)(x y:Fixt):Prop:=(key x).1<(key y).1∨(key x).1=(key y).1∧(key x).2<(key y).2
instance {key:Fixt→Int×Int}{x y:Fixt}:Decidable (ltK key x y):=by unfold ltK;exact inferInstance
@[reducible] def keyV (k:Nat):V:=.ep (.agg [.fn (.func k) [] []]) 0
end Go.Proofs.YtanojbajfgcjeaaGreatDoor

namespace Go.Proofs.YtanojbajfgcjeaaGreatDoor
open Go.Sha
set_option maxRecDepth 100000
variable {g:List (Nat×Obj)}{n:Nat}
end Go.Proofs.YtanojbajfgcjeaaGreatDoor

namespace Go.Proofs.YtanojbajfgcjeaaGreatDoor
open Go.Sha
set_option maxRecDepth 100000
variable {g:List (Nat×Obj)}{n:Nat}
def numOk (n:Nat):Bool:=decide (Lib.itoa n≠[])&&(Lib.itoa n).all isD&&decide ((Lib.itoa n).length≤18)&&decide (natOf (Lib.itoa n)=n)
theorem numOk_all:(List.range 2100).all numOk=true:=by decide +kernel
theorem numOk_at {m:Int}(h0:0≤m)(h:m<2100):Lib.itoa m≠[]∧(Lib.itoa m).all isD=true∧(Lib.itoa m).length≤18∧(natOf (Lib.itoa m):Int)=m:=by
 have:=List.all_eq_true.1 numOk_all m.toNat (List.mem_range.2 (by omega))
 simp only[numOk,Bool.and_eq_true,decide_eq_true_eq,Int.toNat_of_nonneg h0]at this
 exact⟨this.1.1.1,this.1.1.2,this.1.2,by omega⟩
theorem atoi_itoa {m:Int}(h0:0≤m)(h:m<2100){st:St}:run Tryz.prog HH 22 [.str (Lib.itoa m)] st=some (.ret (.tup [.int .i64 m,.nili]),st):=run_H (by
 obtain⟨n1,n2,n3,n4⟩:=numOk_at h0 h
 show(hAtoi [.str (Lib.itoa m)]).map (fun r=>(r,st))=_
 rw[hAtoi,if_pos ⟨n1,n2,n3⟩,n4];rfl)
section
variable {α:Type}{lt:α→α→Prop} [∀x y,Decidable (lt x y)]
end
def Disj (ps:List Prof)(x y:Fixt):Prop:=x.univ=y.univ→x.addr+footS ps x≤y.addr∨y.addr+footS ps y≤x.addr
theorem Disj.symm {ps:List Prof}{x y:Fixt}(h:Disj ps x y):Disj ps y x:=fun e=>(h e.symm).symm
end Go.Proofs.YtanojbajfgcjeaaGreatDoor

namespace Go.Proofs.YtanojbajfgcjeaaGreatDoor
open Go.Sha
set_option maxRecDepth 100000
variable {g:List (Nat×Obj)}{n:Nat}
theorem cue_parts {x:Cu}(h:cueP x=0):numC x.num=0∧labC x.label=0∧movCP x.moves=0∧parC x=0∧nxtC x=0:=by
 unfold cueP at h
 repeat' split at h
 all_goals first|(rename_i a;exact absurd h a)|skip
 rename_i a1 a2 a3 a4
 exact⟨Classical.not_not.1 a1,Classical.not_not.1 a2,Classical.not_not.1 a3,Classical.not_not.1 a4,h⟩
structure CuR (x:Cu):Prop where
 num:numC x.num=0
 label:labC x.label=0
 moves:x.moves.length≤128
 part:∃t r,x.parts=t::r∧tim t.up∧tim t.down∧tim t.delay
 follow:x.follow=-1∨(25≤x.follow∧x.follow≤10000000)
 link:x.link=[]∨numC x.link=0
 loops:0≤x.loops∧x.loops≤100
theorem f74 {s:Sho}{v:Int}{i:Nat}{x:Lst}(h:s.ok)(hs:shoC s=0)(hi:ix (fun x=>x.num == v) s.lsts 0=i)(hlt:i<s.lsts.length)(hx:∀d,s.lsts.getD i d=x){st:St}:run Tryz.prog HH 74 [s.v,.int .i64 v] st=some (.ret (.tup [x.v,.int .i64 0]),st):=by
 have h1:=fun(st:St)=>f139 (v:=v) (st:=st) h
 have hlt':(i:Int)<s.lsts.length:=by omega
 have e1:fndI' (shoC s) (ix (fun x=>x.num == v) s.lsts 0)=i:=by rw[fndI',if_neg (by simp[hs]),hi,if_neg (by omega)]
 have e2:fndE (shoC s) (ix (fun x=>x.num == v) s.lsts 0)=0:=by rw[fndE,if_neg (by simp[hs]),hi,if_neg (by omega)]
 rw[e1,e2]at h1
 rw[run_shut F74 rfl rfl (by simp)]
 push_cast[Sho.v,Lst.v]at h1
 push_cast[Sho.v,Lst.v,h1,hlt',hx]
end Go.Proofs.YtanojbajfgcjeaaGreatDoor

namespace Go.Proofs.YtanojbajfgcjeaaGreatDoor
open Go.Sha
set_option maxRecDepth 100000
theorem dec_digs:∀(k u:Nat),u<k→∀b∈Lib.decDigits u,isD b=true
 |0,_,h,_,_=>absurd h (Nat.not_lt_zero _)
 |k+1,u,h,b,hb=>by
  rw[Lib.decDigits]at hb
  have hd:∀m,m<10→isD (UInt8.ofNat (48+m))=true:=by decide
  split at hb
  ·rename_i h1
   rw[List.mem_singleton]at hb;subst hb
   exact hd u h1
  ·rcases List.mem_append.1 hb with hb|hb
   ·exact dec_digs k (u / 10) (by omega) b hb
   ·rw[List.mem_singleton]at hb;subst hb
    exact hd (u % 10) (by omega)
theorem itoa_digs {m:Int}(h:0≤m):∀b∈Lib.itoa m,isD b=true:=by
 unfold Lib.itoa
 rw[if_neg (by omega)]
 exact dec_digs _ _ (Nat.lt_succ_self _)
theorem join_two {x y:List UInt8}{r:List (List UInt8)}{t:List UInt8}:Lib.join (x::y::r) t=x++(t++Lib.join (y::r) t):=by
 rw[Lib.join_cons,Lib.join_cons]
 simp[Lib.joinTail]
end Go.Proofs.YtanojbajfgcjeaaGreatDoor

namespace Go.Proofs.YtanojbajfgcjeaaGreatDoor
open Go.Sha
set_option maxRecDepth 100000
variable {g:List (Nat×Obj)}{n:Nat}
theorem asc_gen {α:Type}[Inhabited α]{num:α→Int}{l:List α}{F:List α→Nat→Int}(hF:∀q r j,F (q::r) j=0→¬(0<j∧num q≤num (l.getD (j-1) default))∧F r (j+1)=0) :
  ∀{r:List α}{j:Nat},l.drop j=r→F r j=0→(l.take j).Pairwise (fun a b=>num a<num b)→l.Pairwise fun a b=>num a<num b
 |[],j,hd,_,hp=>by
  have:l.length≤j:=List.drop_eq_nil_iff.1 hd
  rwa [List.take_of_length_le this]at hp
 |q::r,j,hd,h,hp=>by
  obtain⟨h2,h3⟩:=hF q r j h
  refine asc_gen hF (drop_succ hd) h3 ?_
  rw[take_snoc hd]
  refine List.pairwise_append.2 ⟨hp,List.pairwise_singleton ..,fun y hy z hz=>?_⟩
  rw[List.mem_singleton.1 hz]
  obtain⟨k,hk⟩:=List.mem_iff_getElem?.1 hy
  have hj:=drop_le hd
  rw[List.getElem?_take]at hk
  split at hk
  ·rename_i hkj
   have e:l.getD (j-1) default=l[j-1]:=by rw[List.getD_eq_getElem?_getD,List.getElem?_eq_getElem (by omega)];rfl
   rw[e]at h2
   rw[List.getElem?_eq_getElem (by omega)]at hk
   rw[←Option.some.inj hk]
   rcases Nat.lt_or_ge k (j-1) with hk2|hk2
   ·have hm:=List.pairwise_iff_getElem.1 hp k (j-1) (by simp;omega) (by simp;omega) hk2
    rw[List.getElem_take,List.getElem_take]at hm
    omega
   ·have:k=j-1:=by omega
    subst this
    omega
  ·cases hk
theorem lsts_asc {l:List Lst}(h:lstsC l=0):l.Pairwise fun a b=>a.num<b.num:=by
 unfold lstsC at h
 split at h
 ·cases h
 ·refine asc_gen (num:=Lst.num) (F:=lstsL l) (fun q r j h=>?_) (j:=0) rfl h List.Pairwise.nil
  rw[lstsL]at h
  repeat' split at h
  all_goals first|(rename_i a;exact absurd h a)|cases h|exact⟨by assumption,h⟩
theorem ix_at {α:Type}{num:α→Int}:∀{l:List α}{k j:Nat}{q:α},l.Pairwise (fun a b=>num a<num b)→l[k]?=some q→ix (fun x=>num x == num q) l j=((j+k:Nat):Int)
 |[],k,j,q,_,h=>by cases h
 |x::r,0,j,q,_,h=>by
  cases h;simp[ix]
 |x::r,k+1,j,q,hp,h=>by
  have h1:=List.pairwise_cons.1 hp
  have h2:num x<num q:=h1.1 q (List.mem_of_getElem? h)
  rw[ix,if_neg (by simp;omega),ix_at h1.2 h,show j+1+k=j+(k+1) by omega]
def Pl (s:List UInt8):Prop:=(∀b∈s,plainB b=true)∧s.length≤20000
theorem Pl.nil:Pl []:=⟨fun _ h=>by simp at h,by simp⟩
theorem Pl.cons {c:UInt8}{t:List UInt8}(hc:plainB c=true)(k:Pl t)(hl:t.length<20000):Pl (c::t) :=
 ⟨fun b hb=>(List.mem_cons.1 hb).elim (fun e=>by rw[e];exact hc) (k.1 b),by rw[List.length_cons];omega⟩
theorem isD_plain {b:UInt8}(h:isD b=true):plainB b=true:=by
 unfold isD at h;unfold plainB
 simp only[Bool.and_eq_true,decide_eq_true_eq]at h ⊢;omega
theorem Pl.itoa {m:Int}(h0:0≤m)(h1:m≤9223372036854775807):Pl (Lib.itoa m) :=
 ⟨fun b hb=>isD_plain (itoa_digs h0 b hb),by have:=Lib.itoa_length_le m (by omega) h1;omega⟩
theorem Pl.num {s:List UInt8}(h:numC s=0):Pl s:=by
 obtain⟨h1,h2⟩:=num_chars h
 refine⟨fun b hb=>?_,by omega⟩
 rcases h2 b hb with h|rfl
 ·exact isD_plain h
 ·rfl
theorem labL_plain:∀{s:List UInt8},labL s=0→∀b∈s,plainB b=true
 |[],_,b,hb=>by simp at hb
 |q::r,h,b,hb=>by
  rw[labL]at h
  split at h
  ·cases h
  ·rename_i a
   rcases List.mem_cons.1 hb with rfl|hb
   ·unfold plainB;simp only[Bool.and_eq_true,decide_eq_true_eq];omega
   ·exact labL_plain h b hb
theorem Pl.label {s:List UInt8}(h:labC s=0):Pl s:=by
 unfold labC at h
 split at h
 ·cases h
 ·exact⟨labL_plain h,by omega⟩
theorem Pl.name {s:List UInt8}(h:nameS s=true):Pl s:=by
 unfold nameS at h
 simp only[Bool.and_eq_true,decide_eq_true_eq]at h
 obtain⟨⟨⟨h1,h2⟩,h3⟩,h4⟩:=h
 refine⟨fun b hb=>?_,by omega⟩
 have:=List.all_eq_true.1 h4 b hb
 unfold nmC isL at this
 unfold plainB
 simp only[Bool.or_eq_true,Bool.and_eq_true,decide_eq_true_eq]at this ⊢
 omega
theorem Pl.sub {s t:List UInt8}(h:Pl s)(hs:∀b∈t,b∈s)(hl:t.length≤20000):Pl t:=⟨fun b hb=>h.1 b (hs b hb),hl⟩
theorem Pl.join {l:List (List UInt8)}{t:List UInt8}(h:∀s∈l,Pl s)(ht:∀b∈t,plainB b=true)(hl:(Lib.join l t).length≤20000):Pl (Lib.join l t):=by
 refine⟨?_,hl⟩
 clear hl
 induction l with
 |nil=>intro b hb;simp[Lib.join_nil]at hb
 |cons x r ih =>
  intro b hb
  cases r with
  |nil=>rw[Lib.join_one]at hb;exact(h x (by simp)).1 b hb
  |cons y r =>
   rw[join_two]at hb
   rcases List.mem_append.1 hb with hb|hb
   ·exact(h x (by simp)).1 b hb
   ·rcases List.mem_append.1 hb with hb|hb
    ·exact ht b hb
    ·exact ih (fun s hs=>h s (List.mem_cons_of_mem _ hs)) b hb
structure Tb (l:List Row):Prop where
 e:tabE l=0
 n:Nice l
 t:Tok l
end Go.Proofs.YtanojbajfgcjeaaGreatDoor

namespace Go.Proofs.YtanojbajfgcjeaaGreatDoor
open Go.Sha
set_option maxRecDepth 100000
def keyN (p:Prm):Int:=15*p.chan+p.attr
theorem movsR_rng {l:List Mov}:∀{r:List Mov}{j:Nat},movsR l r j=0→∀q∈r,prmC 1 q.prm=0
 |[],_,_,q,hq=>by simp at hq
 |x::r,j,h,q,hq=>by
  rw[movsR]at h
  repeat' split at h
  all_goals first|(rename_i a;exact absurd h a)|cases h|skip
  rename_i a _ _ _
  rcases List.mem_cons.1 hq with rfl|hq
  ·exact Classical.not_not.1 a
  ·exact movsR_rng h q hq
theorem prm_rng {p:Prm}(h:prmC 1 p=0):(1≤p.chan∧p.chan≤999)∧0≤p.attr∧p.attr≤14:=by
 unfold prmC at h
 split at h
 ·cases h
 ·omega
theorem movs_asc {l:List Mov}(h:movCP l=0):(∀q∈l,prmC 1 q.prm=0)∧l.Pairwise fun a b=>keyN a.prm<keyN b.prm:=by
 rw[movC_eq]at h
 unfold movCR at h
 split at h
 ·cases h
 ·have ha:=movsR_rng h
  have hd:∀k,0≤(l.getD k default).prm.attr∧(l.getD k default).prm.attr≤14:=fun k=>by
   rw[List.getD_eq_getElem?_getD]
   by_cases hk:k<l.length
   ·rw[List.getElem?_eq_getElem hk];exact(prm_rng (ha _ (List.getElem_mem hk))).2
   ·rw[List.getElem?_eq_none (by omega)];exact⟨by decide,by decide⟩
  refine⟨ha,asc_gen (num:=fun m:Mov=>keyN m.prm) (F:=movsR l) (fun q r j h=>?_) (j:=0) rfl h List.Pairwise.nil⟩
  rw[movsR]at h
  repeat' split at h
  all_goals first|(rename_i a;exact absurd h a)|cases h|skip
  rename_i a _ _ b
  refine⟨?_,h⟩
  have h1:=prm_rng (Classical.not_not.1 a)
  have h2:=hd (j-1)
  simp only[keyN]
  rintro⟨j0,hk⟩
  refine b ⟨j0,?_⟩
  rw[←Bool.not_eq_true,befP_iff]
  omega
theorem okP_of {p:Prm}(h:(1≤p.chan∧p.chan≤999)∧0≤p.attr∧p.attr≤14):okP p=true:=by
 simp only[okP,Bool.and_eq_true,decide_eq_true_eq];omega
theorem okMs_of:∀{l:List Mov},(∀q∈l,prmC 1 q.prm=0)→(l.Pairwise fun a b=>keyN a.prm<keyN b.prm)→okMs l=true
 |[],_,_=>rfl
 |m::r,h,hp=>by
  obtain⟨p1,p2⟩:=List.pairwise_cons.1 hp
  have hm:=prm_rng (h m (List.mem_cons_self ..))
  simp only[okMs,Bool.and_eq_true,List.all_eq_true]
  refine⟨⟨okP_of hm,fun n hn=>?_⟩,okMs_of (fun q hq=>h q (List.mem_cons_of_mem _ hq)) p2⟩
  have hn':=prm_rng (h n (List.mem_cons_of_mem _ hn))
  have:=p1 n hn
  simp only[keyN]at this
  simp only[ltP,Bool.or_eq_true,Bool.and_eq_true,decide_eq_true_eq]
  omega
theorem lst_cue {x:Lst}(h:lstP x=0):∀c∈x.cues,cueP c=0:=by
 unfold lstP lstB at h
 split at h
 ·cases h
 ·split at h
  ·cases h
  ·have key:∀(r:List Cu) (j:Nat),cuesP x.cues r j=0→∀c∈r,cueP c=0:=by
    intro r
    induction r with
    |nil=>intro j _ c hc;simp at hc
    |cons q r ih =>
     intro j h c hc
     rw[cuesP]at h
     repeat' split at h
     all_goals first|(rename_i a;exact absurd h a)|cases h|skip
     rename_i a _
     rcases List.mem_cons.1 hc with rfl|hc
     ·exact Classical.not_not.1 a
     ·exact ih _ h c hc
   exact key _ _ h
theorem lst_mov {x:Lst}(h:lstP x=0):∀c∈x.cues,c.moves.length≤128∧(∀q∈c.moves,prmC 1 q.prm=0)∧c.moves.Pairwise fun a b=>keyN a.prm<keyN b.prm:=fun c hc=>by
 obtain⟨h1,h2,h3,h4,h5⟩:=cue_parts (lst_cue h c hc)
 refine⟨?_,movs_asc h3⟩
 unfold movCP at h3
 split at h3
 ·cases h3
 ·omega
end Go.Proofs.YtanojbajfgcjeaaGreatDoor

namespace Go.Proofs.YtanojbajfgcjeaaGreatDoor
open Go.Sha
set_option maxRecDepth 100000
variable {g:List (Nat×Obj)}{n:Nat}
def hSortF:List V→St→Rt
 |[.osl id n,.fn (.func 229) [] []],st=>hSortA st id n (Sha.look st.arr id)
 |_,_=>none
def HSF:EvF:=⟨HH.raw,fun f args st=>bif Nat.beq f 81 then hSortF args st else none⟩
@[push_cast]theorem HSF_raw:HSF.raw=[81,122,197,273,274,343,376]:=idq rfl
theorem look_esP {st:St}{a:List Prm}{p:Prm}:lookB st (.bool false) false (findV p.v (esP a) 0)=some (.bool (decide (p∈a)),st):=by
 by_cases h:p∈a
 ·obtain⟨j,j1,j2⟩:=(find_esP (i:=0)).2 h
  rw[j2,decide_eq_true h];rfl
 ·rw[(find_esP (i:=0)).1 h,decide_eq_false h];rfl
def stFp (g:List (Nat×Obj))(n:Nat)(a:List Prm):St:=⟨n,[],[(2,⟨83,2,a.map Prm.v,true,false⟩)],⟨[(1,.map (esP a))],g,[]⟩⟩
@[push_cast]theorem stFp_eq {a:List Prm}:stFp g n a=⟨n,[],[(2,⟨83,2,a.map Prm.v,true,false⟩)],⟨[(1,.map (esP a))],g,[]⟩⟩:=idq rfl
theorem insK_len {a:List Prm}{p:Prm}:(insK a p).length≤a.length+1:=by unfold insK;split<;>simp
theorem L151_0 {l:List Mov}{cs:List Cu}{j:Nat}(hl:l.length<1000000):∀r k,l.drop k=r→∀a:List Prm,a.length+r.length≤1000000 →
  runL Tryz.prog HSF [3,4,11,12,13,18,19,20] 4 B151_0 [(3,.mp 1),(4,.osl 2 a.length),(11,.sl (cs.map Cu.v)),(12,.int .i64 cs.length),(13,.int .i64 j),(18,.sl (l.map Mov.v)),(19,.int .i64 l.length),(20,.int .i64 k)] (stFp g 4 a)
   = some (.exit 2,[(3,.mp 1),(4,.osl 2 ((r.map Mov.prm).foldl insK a).length),(11,.sl (cs.map Cu.v)),(12,.int .i64 cs.length),(13,.int .i64 j)],stFp g 4 ((r.map Mov.prm).foldl insK a)):=by
 refine drop_ind (fun k h a ha=>?_) (fun q r k h hx hd ih a ha=>?_)
 all_goals rw[runL_of B151_0.eq_1]
 ·have h1:¬(k:Int)<l.length:=by omega
  push_cast[h1,List.foldl_nil,List.map_nil,Cu.v]
 ·have h1:(k:Int)<l.length:=by omega
  have hw:=iw1 (j:=k) (by omega)
  have hk:=fun(st:St)=>look_esP (st:=st) (a:=a) (p:=q.prm)
  have hm:=fun(st:St) (i:Nat)=>mset_esP (st:=st) (i:=i) (a:=a) (p:=q.prm)
  have hro:roomV (a.length+1) 16=true:=roomV_lit (by rw[List.length_cons]at ha;omega) (by rw[List.length_cons]at ha;omega)
  have ih:=ih (insK a q.prm) (by have:=insK_len (a:=a) (p:=q.prm);rw[List.length_cons]at ha;omega)
  rw[List.map_cons,List.foldl_cons]
  generalize (r.map Mov.prm).foldl insK (insK a q.prm)=z at *
  by_cases hp:q.prm∈a
  ·have e1:insK a q.prm=a:=by rw[insK,if_pos hp]
   rw[e1]at ih hm
   push_cast[Prm.v,hp]at hk hm
   push_cast[h1,hw,hx,hk,Cu.v,Mov.v,Prm.v]at ih ⊢
   exact dn_eq rfl ih
  ·have e1:insK a q.prm=a++[q.prm]:=by rw[insK,if_neg hp]
   rw[e1]at ih hm
   push_cast[Prm.v,hp]at hk hm
   push_cast[h1,hw,hx,hk,hm,hro,Cu.v,Mov.v,Prm.v,List.map_append,List.map_cons,List.map_nil,List.length_append,List.length_cons,List.length_nil]at ih ⊢
   exact dn_eq rfl ih
def keyL (cs:List Cu)(a:List Prm):List Prm:=cs.foldl (fun a c=>(c.moves.map Mov.prm).foldl insK a) a
theorem insKs_len:∀{l a:List Prm},(l.foldl insK a).length≤a.length+l.length
 |[],a=>by simp
 |p::l,a=>by
  have:=insKs_len (l:=l) (a:=insK a p)
  have:=insK_len (a:=a) (p:=p)
  rw[List.foldl_cons,List.length_cons];omega
theorem L151_1 {cs:List Cu}(hl:cs.length≤64)(hc:∀c∈cs,c.moves.length≤128):∀r j,cs.drop j=r→∀a:List Prm,a.length≤128*j →
  runL Tryz.prog HSF [3,4,11,12,13] 3 B151_1 [(3,.mp 1),(4,.osl 2 a.length),(11,.sl (cs.map Cu.v)),(12,.int .i64 cs.length),(13,.int .i64 j)] (stFp g 3 a)
   = some (.exit 0,[(4,.osl 2 (keyL r a).length)],stFp g 3 (keyL r a)):=by
 refine drop_ind (fun k h a ha=>?_) (fun q r k h hx hd ih a ha=>?_)
 all_goals rw[runL_of B151_1.eq_1]
 ·have h1:¬(k:Int)<cs.length:=by omega
  push_cast[h1,keyL,List.foldl_nil]
 ·have h1:(k:Int)<cs.length:=by omega
  have hw:=iw1 (j:=k) (by omega)
  have hq:=hc q (mem_at hd)
  have hz:=insKs_len (l:=q.moves.map Mov.prm) (a:=a)
  rw[List.length_map]at hz
  have hL:=L151_0 (g:=g) (l:=q.moves) (cs:=cs) (j:=k) (by omega) _ 0 rfl a (by rw[List.drop_zero];omega)
  have ih:=ih ((q.moves.map Mov.prm).foldl insK a) (by omega)
  rw[List.drop_zero]at hL
  rw[show keyL (q::r) a=keyL r ((q.moves.map Mov.prm).foldl insK a) from rfl]
  generalize (q.moves.map Mov.prm).foldl insK a=b at *
  push_cast[Cu.v]at ih hL
  push_cast[h1,hw,hx,hL,Cu.v]at ih ⊢
  exact ih
def ftpL (x:Lst):List Prm:=(keyL x.cues []).mergeSort leP
def pre151:Cd:=.g [.q 1 66 0,.s 2 (.mv (.c .nils))] (.z [1] (.g [.s 9 (.act .mkmap []),.m 3 9] (.g [.s 4 (.mv (.c .nils))] .skip)))
def len151:Cd:=.reg [.a 10 2 1,.l 11 10,.u 12 11,.c 13 0]
def post151:Cd:=.g [.m 39 4,.s 40 (.f 81 [.t 39,(.c (.fn (.func 229) [] []))])] (.g [.m 41 4,.m 2 41] (.ret [2]))
def mid151:Cd:=.join [4] (.seq len151 (.block 0 (.loop [3,4,11,12,13] [(4,(83,2))] B151_1))) post151
theorem F151':compF Tryz.prog 151=some ⟨42,[.tmp 2],pre151.put mid151⟩:=F151
theorem run_pre151 {x:Lst}:∃e,runC Tryz.prog HSF pre151 (argEnv 0 [x.v]) (stN g 0)=some (.normal,e,stZ g 2 [])∧Sha.look e 1=some (.ep x.v 0)∧Sha.look e 3=some (.mp 1)∧Sha.look e 4=some .nils:=by
 generalize hz:runC Tryz.prog HSF pre151 _ _=z
 rw[pre151]at hz
 push_cast[Lst.v]at hz
 subst hz
 exact⟨_,rfl,rfl,rfl,rfl⟩
theorem run_len151 {x:Lst}{st:St}:∃e,runC Tryz.prog HSF len151 [(1,.ep x.v 0),(3,.mp 1),(4,.nils)] st=some (.normal,e,st)∧Sha.look e 3=some (.mp 1)∧Sha.look e 4=some .nils∧Sha.look e 11=some (.sl (x.cues.map Cu.v))∧Sha.look e 12=some (.int .i64 x.cues.length)∧Sha.look e 13=some (.int .i64 0):=by
 generalize hz:runC Tryz.prog HSF len151 _ _=z
 rw[len151]at hz
 push_cast[Lst.v]at hz
 subst hz
 exact⟨_,rfl,rfl,rfl,rfl,rfl,rfl⟩
theorem keyL_rng:∀{cs:List Cu}{a:List Prm},(∀c∈cs,∀q∈c.moves,prmC 1 q.prm=0)→(∀p∈a,prmC 1 p=0)→∀p∈keyL cs a,prmC 1 p=0
 |[],a,_,h,p,hp=>h p hp
 |c::r,a,hc,h,p,hp=>by
  refine keyL_rng (cs:=r) (a:=(c.moves.map Mov.prm).foldl insK a) (fun x hx=>hc x (List.mem_cons_of_mem _ hx)) (fun p hp=>?_) p hp
  have key:∀(l a:List Prm),p∈l.foldl insK a→p∈a∨p∈l:=by
   intro l
   induction l with
   |nil=>intro a h;exact .inl h
   |cons q l ih =>
    intro a h
    rcases ih _ h with h|h
    ·unfold insK at h
     split at h
     ·exact .inl h
     ·rcases List.mem_append.1 h with h|h
      ·exact .inl h
      ·rw[List.mem_singleton.1 h];exact .inr (List.mem_cons_self ..)
    ·exact .inr (List.mem_cons_of_mem _ h)
  rcases key _ _ hp with hp|hp
  ·exact h p hp
  ·obtain⟨q,hq,rfl⟩:=List.mem_map.1 hp
   exact hc c (List.mem_cons_self ..) q hq
def stFs (g:List (Nat×Obj))(a:List Prm):St:=⟨3,[],[(2,⟨83,2,(a.map Prm.v).mergeSort leV,true,false⟩)],⟨[(1,.map (esP a))],g,[]⟩⟩
theorem run_post151 {a:List Prm}(ha:∀p∈a,prmC 1 p=0)(hl:a.length≤100000):runC Tryz.prog HSF post151 [(4,.osl 2 a.length)] (stFp g 3 a)=some (.ret,[(2,.osl 2 a.length)],stFs g a):=by
 have h1:run Tryz.prog HSF 81 [.osl 2 a.length,.fn (.func 229) [] []] (stFp g 3 a)=some (.ret (.tup []),stFs g a):=by
  refine run_H ?_
  have hc:(a.map Prm.v).length=a.length∧a.length≤100000000∧2=2∧true=true∧(a.map Prm.v).all okPV=true:=by
   refine⟨by simp,by omega,rfl,rfl,?_⟩
   rw[List.all_map,List.all_eq_true]
   intro p hpm
   exact ok_prm (prm_rng (ha p hpm))
  show(if(a.map Prm.v).length=a.length∧a.length≤100000000∧2=2∧true=true∧(a.map Prm.v).all okPV=true then _ else _)=_
  rw[if_pos hc];rfl
 rw[post151]
 rw[stFs]at *
 push_cast at h1
 push_cast[h1]
theorem bp_exit {i:Nat}{Q:Post}{e:Env}{s:St}(h:Q .normal e s):blockPost i Q (.exit i) e s:=by simp only[blockPost,if_true];exact h
theorem keyL_len:∀{cs:List Cu}{a:List Prm},(∀c∈cs,c.moves.length≤128)→(keyL cs a).length≤a.length+128*cs.length
 |[],a,_=>by simp[keyL]
 |c::r,a,h=>by
  have h1:=keyL_len (cs:=r) (a:=(c.moves.map Mov.prm).foldl insK a) fun x hx=>h x (List.mem_cons_of_mem _ hx)
  have h2:=insKs_len (l:=c.moves.map Mov.prm) (a:=a)
  have h3:=h c (List.mem_cons_self ..)
  rw[List.length_map]at h2
  rw[show keyL (c::r) a=keyL r ((c.moves.map Mov.prm).foldl insK a) from rfl,List.length_cons];omega
theorem v151 (hH:ESound Tryz.prog HSF){x:Lst}(h:lstP x=0){st:St}:VCalls Tryz.prog 151 [x.v] st fun y s=>y=.ret (.sl ((ftpL x).map Prm.v))∧s=st:=by
 have hm:=lst_mov h
 have h64:=(lst_parts h).2.2.1
 have hrg:=keyL_rng (cs:=x.cues) (a:=[]) (fun c hc=>(hm c hc).2.1) (by simp)
 have hln:=keyL_len (cs:=x.cues) (a:=[]) (fun c hc=>(hm c hc).1)
 rw[List.length_nil]at hln
 refine VCalls_shutW (by simp) (VCalls_WD F151' (Nat.le_of_ble_eq_true rfl) fun N=>?_)
 show WD _ ⟨N,[]⟩ (pre151.put mid151) (argEnv 0 [x.v]) (stN st.x.gl 0) _
 obtain⟨e0,hr0,q1,q2,q3⟩:=run_pre151 (g:=st.x.gl) (x:=x)
 refine WD.run mixed hH hr0 ?_
 show WD _ _ mid151 _ _ _
 refine WD.sub (env':=[(1,.ep x.v 0),(3,.mp 1),(4,.nils)]) (fun i v hv=>?_) ?_
 ·simp only[Sha.look]at hv
  (repeat' split at hv)<;>first|(cases hv;done)|(rename_i e;subst e;cases hv;assumption)
 obtain⟨e1,hr1,u1,u2,u3,u4,u5⟩:=run_len151 (x:=x) (st:=stZ st.x.gl 2 [])
 refine WD.join (WD.seq (WD.ev mixed hH hr1 ?_))
 show WD _ _ (.block 0 (.loop [3,4,11,12,13] [(4,(83,2))] B151_1)) _ _ _
 refine WD.block (WD.ownW u2 ?_)
 refine WD.sub (env':=[(3,.mp 1),(4,.osl 2 0),(11,.sl (x.cues.map Cu.v)),(12,.int .i64 x.cues.length),(13,.int .i64 0)]) (fun i v hv=>?_) ?_
 ·simp only[Sha.look]at hv
  (repeat' split at hv)<;>first|(cases hv;done)|(rename_i e;subst e;cases hv;simp[Sha.look,stZ];try assumption)
 have hL:=L151_1 (g:=st.x.gl) (cs:=x.cues) h64 (fun c hc=>(hm c hc).1) _ 0 rfl [] (Nat.zero_le _)
 rw[List.drop_zero]at hL
 generalize hK:keyL x.cues []=K at *
 refine WD.ev mixed hH (x:=.exit 0) (e:=[(4,.osl 2 K.length)]) (s:=stFp st.x.gl 3 K) ?_ ?_
 ·push_cast[Cu.v,List.map_nil,List.length_nil,esP_nil]at hL
  push_cast[hL,stZ,Cu.v]
 refine bp_exit ?_
 show WD _ _ post151 [(4,.osl 2 K.length)] (stFp st.x.gl 3 K) _
 refine WD.ev mixed hH (run_post151 hrg (by omega)) ⟨.ret (.osl 2 K.length),stFs st.x.gl K,rfl,?_⟩
 have e:(K.map Prm.v).mergeSort leV=(ftpL x).map Prm.v:=by
  rw[ftpL,hK,←List.map_mergeSort (r:=leP) (f:=Prm.v) (fun a _ b _=>by cases a;cases b;rfl)]
 have hlen:(ftpL x).length=K.length:=by rw[ftpL,hK,List.length_mergeSort]
 rw[stFs,e]
 push_cast[hlen,Prm.v]
end Go.Proofs.YtanojbajfgcjeaaGreatDoor

namespace Go.Proofs.YtanojbajfgcjeaaGreatDoor
open Go.Sha
set_option maxRecDepth 100000
variable {g:List (Nat×Obj)}{n:Nat}{x:Lst}
def memF:List Nat:=[78,152]
open Classical in
noncomputable def HF (x:Lst):EvF:=⟨HH.raw,fun f args st=>bif Nat.beq f 151 then(if args=[x.v] then some (.ret (.sl ((ftpL x).map Prm.v)),st) else none) else bif memL f memF then run Tryz.prog HH f args st else none⟩
@[push_cast]theorem HF_raw:(HF x).raw=[81,122,197,273,274,343,376]:=idq rfl
theorem upF {k:Nat}{args:List V}{st:St}{r:VRes×St}(h:run Tryz.prog HH k args st=some r)(h1:Nat.beq k 151=false:=by rfl)(h2:memL k memF=true:=by rfl):run Tryz.prog (HF x) k args st=some r:=by
 refine run_H ?_
 simp only[HF,h1,h2,cond_false,cond_true,h]
theorem f151 {st:St}:run Tryz.prog (HF x) 151 [x.v] st=some (.ret (.sl ((ftpL x).map Prm.v)),st):=by
 refine run_H ?_
 simp only[HF,show Nat.beq 151 151=true from rfl,cond_true,if_true]
theorem HF_ok (h1:ESound Tryz.prog HH)(h2:ESound Tryz.prog HSF)(h:lstP x=0):ESound Tryz.prog (HF x):=fun f args st r s e=>by
 simp only[HF]at e
 cases hf:Nat.beq f 151 with
 |true =>
  rw[hf,cond_true]at e
  have:=Nat.eq_of_beq_eq_true hf
  subst this
  split at e
  ·rename_i ha
   subst ha
   cases e
   exact v151 h2 h
  ·cases e
 |false =>
  rw[hf,cond_false]at e
  cases hi:memL f memF with
  |true=>rw[hi]at e;exact run_sound mixed h1 _ _ _ _ _ e
  |false=>rw[hi]at e;cases e
theorem rdL_v {α:Type}{f:V→Option α}{v:α→V}(h:∀x,f (v x)=some x):∀{l:List α},rdL f (l.map v)=some l
 |[]=>rfl
 |x::r=>by rw[List.map_cons,rdL,h,rdL_v h]
theorem rdCu_of {c:Cu}:rdCu c.v=some c:=by
 unfold rdCu
 simp only[Cu.v]
 rw[rdL_v (f:=rdMov) (v:=Mov.v) (fun _=>rfl),rdL_v (f:=rdTim) (v:=Tim.v) (fun _=>rfl)]
theorem f152 {p:Prm}{k:Nat}(h:lstP x=0)(hk:k<x.cues.length)(hp:prmC 1 p=0){st:St}:run Tryz.prog (HF x) 152 [x.v,.int .i64 k,p.v] st=some (.ret (valF x.cues p k).v,st):=upF (run_H (by
 have hm:=lst_mov h
 have h64:=(lst_parts h).2.2.1
 show(hVal [x.v,.int .i64 k,p.v]).map (fun r=>(r,st))=_
 simp only[Lst.v,Prm.v,hVal]
 rw[rdL_v (f:=rdCu) (v:=Cu.v) (fun _=>rdCu_of)]
 have c1:(decide (0≤(k:Int))&&decide ((k:Int)<x.cues.length)&&decide (x.cues.length≤1000000)&&okP ⟨p.chan,p.attr⟩&&x.cues.all (fun c=>okMs c.moves&&decide (c.moves.length≤1000000)))=true:=by
  simp only[Bool.and_eq_true,decide_eq_true_eq,List.all_eq_true]
  refine⟨⟨⟨⟨by omega,by omega⟩,by omega⟩,okP_of (prm_rng hp)⟩,fun c hc=>⟨okMs_of (hm c hc).2.1 (hm c hc).2.2,by have:=(hm c hc).1;omega⟩⟩
 dsimp only
 rw[if_pos c1,Int.toNat_natCast];rfl))
theorem ftpL_rng (h:lstP x=0):∀p∈ftpL x,prmC 1 p=0:=fun p hp=>by
 have hm:=lst_mov h
 rw[ftpL,(List.mergeSort_perm _ _).mem_iff]at hp
 exact keyL_rng (cs:=x.cues) (a:=[]) (fun c hc=>(hm c hc).2.1) (by simp) p hp
theorem ftpL_len (h:lstP x=0):(ftpL x).length≤8192:=by
 have hm:=lst_mov h
 have h64:=(lst_parts h).2.2.1
 have hln:=keyL_len (cs:=x.cues) (a:=[]) (fun c hc=>(hm c hc).1)
 rw[ftpL,List.length_mergeSort]
 rw[List.length_nil]at hln;omega
def entF (x:Lst)(k:Nat)(p:Prm):Prm×Val:=(p,valF x.cues p k)
def entL (x:Lst)(k:Nat):List (Prm×Val):=(ftpL x).map (entF x k)
def stLk (g:List (Nat×Obj))(n:Nat)(a:List (Prm×Val)):St:=⟨n+1,[],[(n,⟨88,4,a.map entV,false,false⟩)],⟨[],g,[]⟩⟩
@[push_cast]theorem stLk_eq {a:List (Prm×Val)}:stLk g n a=⟨n+1,[],[(n,⟨88,4,a.map entV,false,false⟩)],⟨[],g,[]⟩⟩:=idq rfl
theorem L79 {k:Nat}(h:lstP x=0)(hk:k<x.cues.length):∀r j,(ftpL x).drop j=r→∀a,a.length≤j →
  runL Tryz.prog (HF x) [1,2,5,9,10,11] (n+1) B79_0 [(1,.int .i64 k),(2,.ep x.v 0),(5,.osl n a.length),(9,.sl ((ftpL x).map Prm.v)),(10,.int .i64 (ftpL x).length),(11,.int .i64 j)] (stLk g n a)
   = some (.exit 0,[(5,.osl n (a++r.map (entF x k)).length)],stLk g n (a++r.map (entF x k))):=by
 have hln:=ftpL_len h
 have hrg:=ftpL_rng h
 generalize ftpL x=l at *
 refine drop_ind (fun j hj a ha=>?_) (fun q r j hj hx hd ih a ha=>?_)
 all_goals rw[runL_of B79_0.eq_1]
 ·have h1:¬(j:Int)<l.length:=by omega
  push_cast[h1,List.map_nil,List.append_nil]
 ·have h1:(j:Int)<l.length:=by omega
  have hw:=iw1 (j:=j) (by omega)
  have e1:=fun(st:St)=>f152 (x:=x) (p:=q) (k:=k) (st:=st) h hk (hrg q (mem_at hd))
  have hro:roomV (a.length+1) 32=true:=roomV_lit (by omega) (by omega)
  have ih:=ih (a++[entF x k q]) (by simp;omega)
  rw[List.map_cons]
  have hE:entV (entF x k q)=.agg [.int .i64 q.chan,.int .i64 q.attr,.int .i64 (valF x.cues q k).pal,.int .i64 (valF x.cues q k).lev]:=rfl
  generalize entF x k=F at *
  push_cast[Lst.v,Prm.v,Val.v]at ih e1
  push_cast[h1,hw,hx,e1,hro,hE,Lst.v,Prm.v,Val.v,List.map_append,List.map_cons,List.map_nil,List.append_assoc,List.singleton_append]at ih ⊢
  first|exact ih|exact dn_eq (by omega) ih
theorem f79 {k:Nat}(h:lstP x=0)(hk:k<x.cues.length){st:St}:run Tryz.prog (HF x) 79 [x.v,.int .i64 k] st=some (.ret (.sl ((entL x k).map entV)),st):=by
 have e1:=fun(st:St)=>f151 (x:=x) (st:=st)
 have hL:=L79 (g:=st.x.gl) (n:=1) h hk _ 0 rfl [] (Nat.le_refl _)
 rw[List.drop_zero,List.nil_append]at hL
 rw[entL]
 generalize (ftpL x).map (entF x k)=z at *
 generalize ftpL x=l at *
 rw[run_shut F79 rfl rfl (by simp)]
 push_cast[Lst.v,Prm.v,List.map_nil,List.length_nil]at hL e1
 push_cast[Lst.v,Prm.v,e1,hL]
theorem f29 {s:List UInt8}(h:x.ok)(hx:lstP x=0)(hs:s.length<140737488355328){st:St}:run Tryz.prog (HF x) 29 [x.v,.str s] st=some (.ret (if plcE x s=0 then .tup [.sl ((entL x (plcV x s).toNat).map entV),.int .i64 0] else .tup [.sl [],.int .i64 (plcE x s)]),st):=by
 have e0:=fun(st:St)=>upF (x:=x) (f78 (st:=st) h hs)
 rw[run_shut F29 rfl rfl (by simp)]
 by_cases hp:plcE x s=0
 ·obtain⟨p1,p2⟩:=plc_at hp
  have e1:=fun(st:St)=>f79 (k:=(plcV x s).toNat) (st:=st) hx p2
  rw[Int.toNat_of_nonneg p1]at e1
  push_cast[Lst.v]at e0 e1
  push_cast[Lst.v,e0,e1,hp]
 ·push_cast[Lst.v]at e0
  push_cast[Lst.v,e0,hp]
end Go.Proofs.YtanojbajfgcjeaaGreatDoor

namespace Go.Proofs.YtanojbajfgcjeaaGreatDoor
open Go.Sha
set_option maxRecDepth 100000
variable {g:List (Nat×Obj)}{n:Nat}
def digI (s:List UInt8):Int:=match s.findIdx? (fun b=>!isD b) with|some i=>i|none=>-1
def hDig:List V→Option VRes
 |[.str s,.fn (.func 249) [] []]=>some (.ret (.int .i64 (digI s)))
 |_=>none
def memE:List Nat:=[19,26,140]
noncomputable def HE:EvF:=⟨HH.raw,fun f args st=>bif Nat.beq f 96 then(hDig args).map (fun r=>(r,st)) else bif memL f memE then run Tryz.prog HH f args st else none⟩
@[push_cast]theorem HE_raw:HE.raw=[81,122,197,273,274,343,376]:=idq rfl
theorem upE {k:Nat}{args:List V}{st:St}{r:VRes×St}(h:run Tryz.prog HH k args st=some r)(h1:Nat.beq k 96=false:=by rfl)(h2:memL k memE=true:=by rfl):run Tryz.prog HE k args st=some r:=by
 refine run_H ?_
 simp only[HE,h1,h2,cond_false,cond_true,h]
theorem itoaE {m:Int}(h0:-9223372036854775808≤m)(h1:m≤9223372036854775807){st:St}(hG:glB st.x.gl=true):run Tryz.prog HE 26 [.int .i64 m] st=some (.ret (.str (Lib.itoa m)),st):=upE (run_H (by
 show(hItoa st.x.gl [.int .i64 m]).map (fun r=>(r,st))=_
 rw[hItoa,hG,decide_eq_true h0,decide_eq_true h1];rfl))
theorem f293 {m:Int}(h0:-9223372036854775808≤m)(h1:m≤9223372036854775807){st:St}(hG:glB st.x.gl=true):run Tryz.prog HE 293 [.int .i64 m] st=some (.ret (.str (Lib.itoa m)),st):=by
 have e1:=fun nx mem arr obj ty=>itoaE (m:=m) (st:=⟨nx,mem,arr,⟨obj,st.x.gl,ty⟩⟩) h0 h1 hG
 rw[run_shut F293 rfl rfl (by simp)]
 push_cast[e1]
def decT (m:Int)(k:Nat):List UInt8:=List.replicate (k-(Lib.itoa m).length) 48++Lib.itoa m
theorem rep48 {k:Nat}:Lib.repeatL [48] k=List.replicate k 48:=by
 induction k with
 |zero=>rfl
 |succ k ih=>rw[Lib.repeatL,ih];rfl
theorem f224 {m:Int}{k:Nat}(h0:0≤m)(h1:m≤1000000)(hk:k≤3){st:St}(hG:glB st.x.gl=true):run Tryz.prog HE 224 [.int .i64 m,.int .i64 k] st=some (.ret (.str (decT m k)),st):=by
 have e1:=fun nx mem arr obj ty=>f293 (m:=m) (st:=⟨nx,mem,arr,⟨obj,st.x.gl,ty⟩⟩) (by omega) (by omega) hG
 have l1:=Lib.itoa_length_le m (by omega) (by omega)
 generalize hi:Lib.itoa m=s at *
 have w1:IntKind.i64.wrap ((k:Int)-s.length)=(k:Int)-s.length:=iwrap (by omega) (by omega)
 have hx:(if(k:Int)-s.length>0 then(k:Int)-s.length else 0)=((k-s.length:Nat):Int):=by split<;>omega
 have e2:∀st:St,run Tryz.prog HE 19 [.str [48],.int .i64 ((k-s.length:Nat):Int)] st=some (.ret (.str (List.replicate (k-s.length) 48)),st):=fun st=>upE (run_H (by
  show(hRep [.str [48],.int .i64 ((k-s.length:Nat):Int)]).map (fun r=>(r,st))=_
  rw[hRep]
  simp only[Int.toNat_natCast]
  rw[rep48,decide_eq_true (show(0:Int)≤((k-s.length:Nat):Int) by omega),decide_eq_true (show((k-s.length:Nat):Int)≤1000000 by omega),decide_eq_true (show[(48:UInt8)].length*(k-s.length)≤1000000 by simp;omega)]
  rfl))
 rw[run_shut F224 rfl rfl (by simp)]
 push_cast[e1,w1,hx,e2,decT,hi]
 exact dn_eq (by first|omega|(simp;omega)) rfl
def ofL (m:Int):Int:=(65535*m+50000) / 100000
theorem f88 {m:Int}(h0:0≤m)(h1:m≤1000000){st:St}:run Tryz.prog HE 88 [.int .i64 m] st=some (.ret (.int .i64 (ofL m)),st):=by
 have w1:IntKind.i64.wrap (65535*m)=65535*m:=iwrap (by omega) (by omega)
 have w2:IntKind.i64.wrap (65535*m+50000)=65535*m+50000:=iwrap (by omega) (by omega)
 have t1:(65535*m+50000).tdiv 100000=(65535*m+50000) / 100000:=Int.tdiv_eq_ediv_of_nonneg (by omega)
 have w3:IntKind.i64.wrap ((65535*m+50000) / 100000)=(65535*m+50000) / 100000:=iwrap (by omega) (by omega)
 rw[run_shut F88 rfl rfl (by simp)]
 push_cast[w1,w2,t1,w3,ofL]
def Unt (u:Int)(d:Nat):Prop:=(u=1000∧d=0)∨(u=100∧d=1)∨(u=10∧d=2)∨(u=1∧d=3)
def wN (v u:Int):Int:=(100000*v-50000+65535*u-1) / (65535*u)
def wT (v u:Int)(d:Nat):List UInt8:=decT (wN v u / (1000 / u)) 1++(if 0<d then 46::decT (wN v u % (1000 / u)) d else[])
theorem f146 {v u:Int}{d:Nat}(h0:0≤v)(h1:v≤65535)(hu:Unt u d){st:St}(hG:glB st.x.gl=true):run Tryz.prog HE 146 [.int .i64 v,.int .i64 u,.int .i64 d] st=some (.ret (if ofL (wN v u*u)=v then .tup [.str (wT v u d),.bool true] else .tup [.str [],.bool false]),st):=by
 have hn0:0≤wN v u:=by rcases hu with⟨rfl,_⟩|⟨rfl,_⟩|⟨rfl,_⟩|⟨rfl,_⟩<;>(unfold wN;omega)
 have hn1:wN v u≤100000∧wN v u*u≤200000:=by rcases hu with⟨rfl,_⟩|⟨rfl,_⟩|⟨rfl,_⟩|⟨rfl,_⟩<;>(unfold wN;omega)
 have hu1:1≤u∧u≤1000:=by rcases hu with⟨rfl,_⟩|⟨rfl,_⟩|⟨rfl,_⟩|⟨rfl,_⟩<;>omega
 have hd:d≤3:=by rcases hu with⟨_,rfl⟩|⟨_,rfl⟩|⟨_,rfl⟩|⟨_,rfl⟩<;>omega
 have hp:1≤1000 / u∧1000 / u≤1000:=by rcases hu with⟨rfl,_⟩|⟨rfl,_⟩|⟨rfl,_⟩|⟨rfl,_⟩<;>decide
 have w1:IntKind.i64.wrap (100000*v)=100000*v:=iwrap (by omega) (by omega)
 have w2:IntKind.i64.wrap (100000*v-50000)=100000*v-50000:=iwrap (by omega) (by omega)
 have w3:IntKind.i64.wrap (65535*u)=65535*u:=iwrap (by omega) (by omega)
 have w4:IntKind.i64.wrap (100000*v-50000+65535*u)=100000*v-50000+65535*u:=iwrap (by omega) (by omega)
 have w5:IntKind.i64.wrap (100000*v-50000+65535*u-1)=100000*v-50000+65535*u-1:=iwrap (by omega) (by omega)
 have t1:(100000*v-50000+65535*u-1).tdiv (65535*u)=wN v u:=Int.tdiv_eq_ediv_of_nonneg (by omega)
 have z1:¬65535*u=0:=by omega
 have z2:¬u=0:=by omega
 have w6:IntKind.i64.wrap (wN v u)=wN v u:=iwrap (by omega) (by omega)
 have hm:(if wN v u>0 then wN v u else 0)=wN v u:=by split<;>omega
 have w7:IntKind.i64.wrap (wN v u*u)=wN v u*u:=iwrap (by have:=Int.mul_nonneg hn0 (show 0≤u by omega);omega) (by omega)
 have t2:(1000:Int).tdiv u=1000 / u:=Int.tdiv_eq_ediv_of_nonneg (by decide)
 have w8:IntKind.i64.wrap (1000 / u)=1000 / u:=iwrap (by omega) (by omega)
 have z3:¬1000 / u=0:=by omega
 have t3:(wN v u).tdiv (1000 / u)=wN v u / (1000 / u):=Int.tdiv_eq_ediv_of_nonneg hn0
 have t4:(wN v u).tmod (1000 / u)=wN v u % (1000 / u):=Int.tmod_eq_emod_of_nonneg hn0
 have e0:=fun(st:St)=>f88 (m:=wN v u*u) (st:=st) (by have:=Int.mul_nonneg hn0 (show 0≤u by omega);omega) (by omega)
 have hq0:0≤wN v u / (1000 / u):=Int.ediv_nonneg hn0 (by omega)
 have hq1:wN v u / (1000 / u)≤wN v u:=Int.ediv_le_self _ hn0
 have hr0:0≤wN v u % (1000 / u):=Int.emod_nonneg _ z3
 have hr1:wN v u % (1000 / u)<1000 / u:=Int.emod_lt_of_pos _ (by omega)
 have w9:IntKind.i64.wrap (wN v u / (1000 / u))=wN v u / (1000 / u):=iwrap (by omega) (by omega)
 have w10:IntKind.i64.wrap (wN v u % (1000 / u))=wN v u % (1000 / u):=iwrap (by omega) (by omega)
 have e1:=fun nx mem arr obj ty=>f224 (m:=wN v u / (1000 / u)) (k:=1) (st:=⟨nx,mem,arr,⟨obj,st.x.gl,ty⟩⟩) hq0 (by omega) (by decide) hG
 have e2:=fun nx mem arr obj ty=>f224 (m:=wN v u % (1000 / u)) (k:=d) (st:=⟨nx,mem,arr,⟨obj,st.x.gl,ty⟩⟩) hr0 (by omega) hd hG
 have l1:∀m k,0≤m→m≤1000000→k≤3→(decT m k).length≤40:=fun m k a b c=>by
  have:=Lib.itoa_length_le m (by omega) (by omega)
  simp[decT];omega
 have l2:=l1 _ 1 hq0 (by omega) (by decide)
 have l3:=l1 _ d hr0 (by omega) hd
 rw[run_shut F146 rfl rfl (by simp)]
 push_cast at e1
 by_cases hof:ofL (wN v u*u)=v
 ·by_cases hd0:0<d
  ·have hd1:(0:Int)<d:=by omega
   have hd2:(d:Int)>0:=hd1
   push_cast[w1,w2,w3,w4,w5,t1,z1,z2,w6,hm,w7,t2,w8,z3,t3,t4,w9,w10,e0,e1,e2,hof,hd0,hd1,hd2,wT]
   exact dn_eq (by omega) rfl
  ·have hd1:¬(0:Int)<d:=by omega
   have hd2:¬(d:Int)>0:=hd1
   push_cast[w1,w2,w3,w4,w5,t1,z1,z2,w6,hm,w7,t2,w8,z3,t3,t4,w9,w10,e0,e1,e2,hof,hd0,hd1,hd2,wT]
 ·push_cast[w1,w2,w3,w4,w5,t1,z1,z2,w6,hm,w7,e0,hof]
theorem f145 {v:Int}(h0:0≤v)(h1:v≤65535){st:St}:run Tryz.prog HE 145 [.int .i64 v] st=some (.ret (.int .i64 0),st):=by
 have a1:¬v<0:=by omega
 have a2:¬65535<v:=by omega
 rw[run_shut F145 rfl rfl (by simp)]
 push_cast[a1,a2]
def txtL (v:Int):List UInt8:=if v=65535 then[102,117,108,108] else if ofL (wN v 1000*1000)=v then wT v 1000 0 else if ofL (wN v 100*100)=v then wT v 100 1 else if ofL (wN v 10*10)=v then wT v 10 2 else wT v 1 3
theorem of_one {v:Int}(h0:0≤v)(h1:v≤65535):ofL (wN v 1*1)=v:=by unfold ofL wN;omega
theorem f76 {v:Int}(h0:0≤v)(h1:v≤65535){st:St}(hG:glB st.x.gl=true):run Tryz.prog HE 76 [.int .i64 v] st=some (.ret (.tup [.str (txtL v),.int .i64 0]),st):=by
 have e0:=fun(st:St)=>f145 (st:=st) h0 h1
 have a1:=fun nx mem arr obj ty=>f146 (u:=1000) (d:=0) (st:=⟨nx,mem,arr,⟨obj,st.x.gl,ty⟩⟩) h0 h1 (.inl ⟨rfl,rfl⟩) hG
 have a2:=fun nx mem arr obj ty=>f146 (u:=100) (d:=1) (st:=⟨nx,mem,arr,⟨obj,st.x.gl,ty⟩⟩) h0 h1 (.inr (.inl ⟨rfl,rfl⟩)) hG
 have a3:=fun nx mem arr obj ty=>f146 (u:=10) (d:=2) (st:=⟨nx,mem,arr,⟨obj,st.x.gl,ty⟩⟩) h0 h1 (.inr (.inr (.inl ⟨rfl,rfl⟩))) hG
 have a4:=fun nx mem arr obj ty=>f146 (u:=1) (d:=3) (st:=⟨nx,mem,arr,⟨obj,st.x.gl,ty⟩⟩) h0 h1 (.inr (.inr (.inr ⟨rfl,rfl⟩))) hG
 have w1:IntKind.i64.wrap ((1000:Int).tdiv 10)=100:=by decide
 have w2:IntKind.i64.wrap ((100:Int).tdiv 10)=10:=by decide
 have w3:IntKind.i64.wrap ((10:Int).tdiv 10)=1:=by decide
 rw[if_pos (of_one h0 h1)]at a4
 unfold txtL
 generalize wT v 1 3=t4 at *
 generalize wT v 10 2=t3 at *
 generalize wT v 100 1=t2 at *
 generalize wT v 1000 0=t1 at *
 rw[run_shut F76 rfl rfl (by simp)]
 push_cast at a1 a2 a3 a4
 by_cases hv:v=65535
 ·subst hv
  push_cast[e0]
 ·by_cases b1:ofL (wN v 1000*1000)=v
  ·rw[if_pos b1]at a1
   push_cast[e0,hv,b1,a1,runL_of B76_0.eq_1]
  ·rw[if_neg b1]at a1
   by_cases b2:ofL (wN v 100*100)=v
   ·rw[if_pos b2]at a2
    push_cast[e0,hv,b1,b2,a1,a2,w1,runL_of B76_0.eq_1]
   ·rw[if_neg b2]at a2
    by_cases b3:ofL (wN v 10*10)=v
    ·rw[if_pos b3]at a3
     push_cast[e0,hv,b1,b2,b3,a1,a2,a3,w1,w2,runL_of B76_0.eq_1]
    ·rw[if_neg b3]at a3
     push_cast[e0,hv,b1,b2,b3,a1,a2,a3,a4,w1,w2,w3,runL_of B76_0.eq_1]
theorem dig_neg {s:List UInt8}:(digI s<0)=(s.all isD=true):=by
 unfold digI
 rw[eq_iff_iff]
 split
 ·rename_i i h
  obtain⟨hi,h1,_⟩:=List.findIdx?_eq_some_iff_getElem.1 h
  refine⟨fun h=>by omega,fun ha=>?_⟩
  rw[List.all_eq_true]at ha
  rw[ha _ (List.getElem_mem hi)]at h1
  simp at h1
 ·rename_i h
  refine⟨fun _=>?_,fun _=>by omega⟩
  rw[List.findIdx?_eq_none_iff]at h
  rw[List.all_eq_true]
  intro x hx
  have:=h x hx
  simpa using this
theorem f96E {s:List UInt8}{st:St}:run Tryz.prog HE 96 [.str s,.fn (.func 249) [] []] st=some (.ret (.int .i64 (digI s)),st):=run_H rfl
def dgs (s:List UInt8):Bool:=decide (1≤s.length)&&decide (s.length≤3)&&s.all isD
theorem f161 {s:List UInt8}{st:St}:run Tryz.prog HE 161 [.str s] st=some (.ret (.bool (dgs s)),st):=by
 rw[run_shut F161 rfl rfl (by simp)]
 push_cast[f96E,dig_neg,dgs]
 congr 4
 rw[Bool.and_assoc]
 congr 1
 ·rw[Bool.eq_iff_iff,decide_eq_true_eq,decide_eq_true_eq];omega
 ·congr 1
  rw[Bool.eq_iff_iff,decide_eq_true_eq,decide_eq_true_eq];omega
def fldN (s:List UInt8)(m:Int):Int:=s.foldl (fun a b=>10*a+((b.toNat-48:Nat):Int)) m
def bndF:Nat→Int
 |0=>1000000000
 |1=>10000000
 |2=>100000
 |_=>1000
theorem L162 {s:List UInt8}(hl:s.length≤3)(hd:s.all isD=true):∀r j,s.drop j=r→∀m:Int,0≤m→m≤bndF r.length →
  runL Tryz.prog HE [1,6,7,8] 2 B162_0 [(1,.ptr 0 0),(6,.osl 1 s.length),(7,.int .i64 s.length),(8,.int .i64 j)] ⟨2,[(0,[.int .i64 m])],[(1,⟨5,1,s.map bV,true,true⟩)],⟨[],g,[]⟩⟩
   = some (.exit 0,[],⟨2,[(0,[.int .i64 (fldN r m)])],[(1,⟨5,1,s.map bV,true,true⟩)],⟨[],g,[]⟩⟩):=by
 refine drop_ind (fun j h m h0 h1=>?_) (fun q r j h hx hdr ih m h0 h1=>?_)
 all_goals rw[runL_of B162_0.eq_1]
 ·have h1:¬(j:Int)<s.length:=by omega
  push_cast[h1,fldN,List.foldl_nil]
 ·have h2:(j:Int)<s.length:=by omega
  have hw:=iw1 (j:=j) (by omega)
  have hq:=List.all_eq_true.1 hd q (mem_at hdr)
  have hk:∀d,(s.map bV).getD j d=bV q:=getD_drop hdr
  obtain⟨u1,hq2⟩:=isD_val hq
  have hrl:r.length+1≤3:=by
   have:=congrArg List.length hdr
   simp at this;omega
  have hm:m≤10000000∧10*m+9≤bndF r.length:=by
   rw[List.length_cons]at h1
   have h3:r.length=0∨r.length=1∨r.length=2:=by omega
   rcases h3 with e|e|e<;>(rw[e]at h1 ⊢;simp only[bndF]at h1 ⊢;omega)
  have u2:IntKind.i64.wrap ((q.toNat-48:Nat):Int)=((q.toNat-48:Nat):Int):=iwrap (by omega) (by omega)
  have u3:IntKind.i64.wrap (10*m)=10*m:=iwrap (by omega) (by omega)
  have u4:IntKind.i64.wrap (10*m+((q.toNat-48:Nat):Int))=10*m+((q.toNat-48:Nat):Int):=iwrap (by omega) (by omega)
  have ih:=ih (10*m+((q.toNat-48:Nat):Int)) (by omega) (by omega)
  rw[fldN,List.foldl_cons,←fldN]
  generalize fldN r (10 * m+((q.toNat-48:Nat):Int))=z at *
  push_cast at ih
  push_cast[h2,hw,hx,hk,bV,u1,u2,u3,u4]
  exact dn_eq h ih
theorem f162 {s:List UInt8}(hl:s.length≤3)(hd:s.all isD=true){m:Int}(h0:0≤m)(h1:m≤1000):run Tryz.prog HE 162 [.str s,.ptr 0 0] ⟨1,[(0,[.int .i64 m])],[],⟨[],g,[]⟩⟩=some (.ret (.tup []),⟨1,[(0,[.int .i64 (fldN s m)])],[],⟨[],g,[]⟩⟩):=by
 have hb:m≤bndF s.length:=by
  have h3:s.length=0∨s.length=1∨s.length=2∨s.length=3:=by omega
  rcases h3 with e|e|e|e<;>(rw[e];simp only[bndF];omega)
 have hL:=L162 (g:=g) hl hd _ 0 rfl m h0 hb
 rw[List.drop_zero]at hL
 rw[run_open F162 rfl rfl (by simp)]
 push_cast at hL
 push_cast[hL]
 exact dn_eq (by unfold maxLen;omega) rfl
theorem fld_le {s:List UInt8}(hl:s.length≤3)(hd:s.all isD=true):0≤fldN s 0∧fldN s 0≤999:=by
 have key:∀(s:List UInt8) (m:Int) (B:Int),s.all isD=true→0≤m→m≤B→0≤fldN s m∧fldN s m≤s.foldl (fun b _=>10*b+9) B:=by
  intro s
  induction s with
  |nil=>intro m B _ h0 h1;exact⟨h0,h1⟩
  |cons q r ih =>
   intro m B hd h0 h1
   rw[List.all_cons,Bool.and_eq_true]at hd
   have:=(isD_val hd.1).2
   rw[fldN,List.foldl_cons,List.foldl_cons,←fldN]
   exact ih _ _ hd.2 (by omega) (by omega)
 obtain⟨a,b⟩:=key s 0 0 hd (by omega) (by omega)
 refine⟨a,Int.le_trans b ?_⟩
 match s,hl with
 |[],_=>decide
 |[x],_=>simp
 |[x,y],_=>simp
 |[x,y,z],_=>simp
def thO (s:List UInt8):Bool:=dgs (nW s)&&!(decide (1<(nW s).length)&&decide ((nW s).getD 0 0=48))&&!(s.contains 46&&!dgs (nR s))
def thN (s:List UInt8):Int:=fldN ((nR s++[48,48,48]).take 3) (fldN (nW s) 0)
theorem f87 {s:List UInt8}(hl:s.length<1000){st:St}:run Tryz.prog HE 87 [.str s] st=some (.ret (.tup [.int .i64 (if thO s=true then thN s else 0),.bool (thO s)]),st):=by
 have e0:∀st:St,run Tryz.prog HE 140 [.str s,.str [46]] st=some (.ret (.tup [.str (nW s),.str (nR s),.bool (s.contains 46)]),st):=fun st=>upE (run_H (by
  show(hCut [.str s,.str [46]]).map (fun r=>(r,st))=_
  rw[hCut,if_pos (by omega)];rfl))
 have b48:∀b:UInt8,((b.toNat:Int)=48)=(b=48):=fun b=>by
  rw[eq_iff_iff]
  exact⟨fun h=>UInt8.toNat_inj.1 (by simpa using Int.ofNat_inj.1 h),fun h=>by rw[h];rfl⟩
 have e1:=fun(st:St)=>f161 (s:=nW s) (st:=st)
 have e2:=fun(st:St)=>f161 (s:=nR s) (st:=st)
 unfold thO
 rw[run_shut F87 rfl rfl (by simp)]
 cases d1:dgs (nW s) with
 |false=>push_cast[e0,e1,d1]
 |true =>
  have hdg:=d1
  unfold dgs at hdg
  simp only[Bool.and_eq_true,decide_eq_true_eq]at hdg
  obtain⟨⟨g1,g2⟩,g3⟩:=hdg
  have n1:(0:Int)<(nW s).length:=by omega
  by_cases d2:1<(nW s).length∧(nW s).getD 0 0=48
  ·have n2:(1:Int)<(nW s).length:=by omega
   push_cast[e0,e1,d1,d2,n1,n2,b48]
  ·have hz:(decide (1<(nW s).length)&&decide ((nW s).getD 0 0=48))=false:=by
    rw[Bool.eq_false_iff];intro h;simp only[Bool.and_eq_true,decide_eq_true_eq]at h;exact d2 h
   have d2':((1:Int)<(nW s).length∧(nW s).getD 0 0=48)=False:=by
    exact eq_false fun h=>d2 ⟨by omega,h.2⟩
   rw[hz]
   cases d3:s.contains 46 with
   |true =>
    cases d4:dgs (nR s) with
    |false =>
     push_cast[e0,e1,e2,d1,d2',d3,d4,n1,b48]
    |true =>
     have hdr:=d4
     unfold dgs at hdr
     simp only[Bool.and_eq_true,decide_eq_true_eq]at hdr
     obtain⟨⟨k1,k2⟩,k3⟩:=hdr
     have hd3:((nR s++[48,48,48]).take 3).all isD=true:=by
      rw[List.all_eq_true]
      intro b hb
      rcases List.mem_append.1 (List.mem_of_mem_take hb) with hb|hb
      ·exact List.all_eq_true.1 k3 b hb
      ·simp at hb;rw[hb];decide
     have hl3:(3:Int)≤(nR s++[48,48,48]).length:=by simp;omega
     obtain⟨v1,v2⟩:=fld_le g2 g3
     have c1:=f162 (g:=st.x.gl) g2 g3 (m:=0) (by omega) (by omega)
     have c2:=f162 (g:=st.x.gl) (s:=(nR s++[48,48,48]).take 3) (List.length_take_le ..) hd3 (m:=fldN (nW s) 0) v1 (by omega)
     rw[thN]
     push_cast at c1 c2
     push_cast[e0,e1,e2,d1,d2',d3,d4,n1,b48,c1,c2]
     exact dn_eq ⟨by omega,by omega⟩ rfl
   |false =>
    have hn:=(n_none d3).2
    have hn2:(nR s++[48,48,48]).take 3=[48,48,48]:=by rw[hn];rfl
    obtain⟨v1,v2⟩:=fld_le g2 g3
    have c1:=f162 (g:=st.x.gl) g2 g3 (m:=0) (by omega) (by omega)
    have c2:=f162 (g:=st.x.gl) (s:=[48,48,48]) (by decide) (by decide) (m:=fldN (nW s) 0) v1 (by omega)
    rw[thN,hn2]
    push_cast at c1 c2
    push_cast[e0,e1,e2,d1,d2',d3,n1,b48,c1,c2,hn]
def pctL (s:List UInt8):Int×Int:=if s=[102,117,108,108] then(65535,0) else if thO s=true then if 100000<thN s then(0,2) else(ofL (thN s),0) else(0,3)
theorem f34 {s:List UInt8}(hl:s.length<1000)(hn:thO s=true→0≤thN s∧thN s≤999999){st:St}:run Tryz.prog HE 34 [.str s] st=some (.ret (.tup [.int .i64 (pctL s).1,.int .i64 (pctL s).2]),st):=by
 have e0:=fun(st:St)=>f87 (st:=st) hl
 unfold pctL
 rw[run_shut F34 rfl rfl (by simp)]
 by_cases h0:s=[102,117,108,108]
 ·push_cast[h0]
 ·cases h1:thO s with
  |false=>push_cast[h0,e0,h1]
  |true =>
   obtain⟨a1,a2⟩:=hn h1
   have e1:=fun(st:St)=>f88 (m:=thN s) (st:=st) a1 (by omega)
   by_cases h2:100000<thN s
   ·push_cast[h0,e0,h1,h2]
   ·push_cast[h0,e0,h1,h2,e1]
end Go.Proofs.YtanojbajfgcjeaaGreatDoor

namespace Go.Proofs.YtanojbajfgcjeaaGreatDoor
open Go.Sha
set_option maxRecDepth 100000
def unitOk (q:Nat):Bool:=dgs (decT q 1)&&!(decide (1<(decT q 1).length)&&decide ((decT q 1).getD 0 0=48))&&decide (fldN (decT q 1) 0=q)&&(decT q 1).all isD
theorem unitOk_all:(List.range 101).all unitOk=true:=by decide +kernel
def decOk (d r:Nat):Bool:=dgs (decT r d)&&decide (((decT r d++[48,48,48]).take 3).length=3)&&decide (fldN ((decT r d++[48,48,48]).take 3) 0=r*10 ^ (3-d))&&(decT r d).all isD
theorem decOk1:(List.range 10).all (decOk 1)=true:=by decide +kernel
theorem decOk2:(List.range 100).all (decOk 2)=true:=by decide +kernel
theorem decOk3:(List.range 1000).all (decOk 3)=true:=by decide +kernel
theorem fld_add {s:List UInt8}:∀{m:Int},fldN s m=m*10 ^ s.length+fldN s 0:=by
 induction s with
 |nil=>intro m;simp[fldN]
 |cons q r ih =>
  intro m
  have h1:fldN (q::r) m=fldN r (10*m+((q.toNat-48:Nat):Int)):=rfl
  have h2:fldN (q::r) 0=fldN r (10*0+((q.toNat-48:Nat):Int)):=rfl
  rw[h1,h2,ih,ih (m:=10*0+_),List.length_cons,Int.pow_succ]
  generalize (10:Int) ^ r.length=p
  rw[Int.add_mul,Int.add_mul]
  have:10*m*p=m*(p*10):=by rw[Int.mul_comm 10 m,Int.mul_assoc,Int.mul_comm 10 p]
  omega
theorem cut_at {a b:List UInt8}(ha:a.all isD=true):nW (a++46::b)=a∧nR (a++46::b)=b∧(a++46::b).contains 46=true:=by
 have hne:∀x∈a,(x != 46)=true:=fun x hx=>by
  have:=List.all_eq_true.1 ha x hx
  rw[bne_iff_ne];rintro rfl;exact absurd this (by decide)
 refine⟨?_,?_,by simp⟩
 ·rw[nW,List.takeWhile_append_of_pos hne];simp
 ·rw[nR,List.dropWhile_append_of_pos hne];simp
theorem no_cut {a:List UInt8}(ha:a.all isD=true):a.contains 46=false:=by
 cases h:a.contains 46 with
 |false=>rfl
 |true =>
  have:=List.all_eq_true.1 ha 46 (by simpa using h)
  exact absurd this (by decide)
theorem unit_at {q:Int}(h0:0≤q)(h1:q≤100):dgs (decT q 1)=true∧(decide (1<(decT q 1).length)&&decide ((decT q 1).getD 0 0=48))=false∧fldN (decT q 1) 0=q∧(decT q 1).all isD=true:=by
 have:=List.all_eq_true.1 unitOk_all q.toNat (List.mem_range.2 (by omega))
 simp only[unitOk,Int.toNat_of_nonneg h0,Bool.and_eq_true,decide_eq_true_eq,Bool.not_eq_true']at this
 exact⟨this.1.1.1,this.1.1.2,this.1.2,this.2⟩
theorem dec_at {d:Nat}{r:Int}(h0:0≤r)(h:(d=1∧r<10)∨(d=2∧r<100)∨(d=3∧r<1000)):dgs (decT r d)=true∧((decT r d++[48,48,48]).take 3).length=3∧fldN ((decT r d++[48,48,48]).take 3) 0=r*10 ^ (3-d):=by
 have key:decOk d r.toNat=true:=by
  rcases h with⟨rfl,h⟩|⟨rfl,h⟩|⟨rfl,h⟩
  ·exact List.all_eq_true.1 decOk1 r.toNat (List.mem_range.2 (by omega))
  ·exact List.all_eq_true.1 decOk2 r.toNat (List.mem_range.2 (by omega))
  ·exact List.all_eq_true.1 decOk3 r.toNat (List.mem_range.2 (by omega))
 simp only[decOk,Int.toNat_of_nonneg h0,Bool.and_eq_true,decide_eq_true_eq]at key
 exact⟨key.1.1.1,key.1.1.2,key.1.2⟩
theorem of_lt {m:Int}(h:ofL m<65535):m<100000:=by unfold ofL at h;omega
theorem w_unit {q:Int}(h0:0≤q)(h1:q≤100):thO (decT q 1)=true∧thN (decT q 1)=1000*q:=by
 obtain⟨a1,a2,a3,a4⟩:=unit_at h0 h1
 have hc:=no_cut a4
 have hne:∀x∈decT q 1,(x != 46)=true:=fun x hx=>by
  have:=List.all_eq_true.1 a4 x hx
  rw[bne_iff_ne];rintro rfl;exact absurd this (by decide)
 have eW:nW (decT q 1)=decT q 1:=by
  have:=List.takeWhile_append_of_pos (l₂:=[]) hne
  simpa [nW] using this
 have eR:nR (decT q 1)=[]:=by
  have:=List.dropWhile_append_of_pos (l₂:=[]) hne
  simp only[List.append_nil]at this
  rw[nR,this];rfl
 refine⟨by simp only[thO,eW,a1,a2,hc];rfl,?_⟩
 rw[thN,eW,eR,a3,fld_add]
 have:fldN (([]++[48,48,48]:List UInt8).take 3) 0=0:=by decide
 rw[this]
 show q*10 ^ 3+0=_
 omega
theorem w_dec {q r:Int}{d:Nat}(h0:0≤q)(h1:q≤100)(hr:0≤r)(h:(d=1∧r<10)∨(d=2∧r<100)∨(d=3∧r<1000)):thO (decT q 1++46::decT r d)=true∧thN (decT q 1++46::decT r d)=1000*q+r*10 ^ (3-d):=by
 obtain⟨a1,a2,a3,a4⟩:=unit_at h0 h1
 obtain⟨b1,b2,b3⟩:=dec_at hr h
 obtain⟨eW,eR,hc⟩:=cut_at (b:=decT r d) a4
 refine⟨by simp only[thO,eW,eR,a1,a2,hc,b1];rfl,?_⟩
 rw[thN,eW,eR,a3,fld_add,b2,b3]
 omega
theorem wT_ok {v u:Int}{d:Nat}(h0:0≤v)(h1:v<65535)(hu:Unt u d)(hof:ofL (wN v u*u)=v):thO (wT v u d)=true∧thN (wT v u d)=wN v u*u:=by
 have hlt:=of_lt (m:=wN v u*u) (by omega)
 have hn0:0≤wN v u:=by rcases hu with⟨rfl,_⟩|⟨rfl,_⟩|⟨rfl,_⟩|⟨rfl,_⟩<;>(unfold wN;omega)
 unfold wT
 generalize wN v u=w at *
 rcases hu with⟨rfl,rfl⟩|⟨rfl,rfl⟩|⟨rfl,rfl⟩|⟨rfl,rfl⟩
 ·have:=w_unit (q:=w / (1000 / 1000)) (by omega) (by omega)
  rw[if_neg (by decide),List.append_nil]
  exact⟨this.1,by rw[this.2];omega⟩
 ·have:=w_dec (q:=w / (1000 / 100)) (r:=w % (1000 / 100)) (d:=1) (by omega) (by omega) (by omega) (.inl ⟨rfl,by omega⟩)
  rw[if_pos (by decide)]
  exact⟨this.1,by rw[this.2];omega⟩
 ·have:=w_dec (q:=w / (1000 / 10)) (r:=w % (1000 / 10)) (d:=2) (by omega) (by omega) (by omega) (.inr (.inl ⟨rfl,by omega⟩))
  rw[if_pos (by decide)]
  exact⟨this.1,by rw[this.2];omega⟩
 ·have:=w_dec (q:=w / (1000 / 1)) (r:=w % (1000 / 1)) (d:=3) (by omega) (by omega) (by omega) (.inr (.inr ⟨rfl,by omega⟩))
  rw[if_pos (by decide)]
  exact⟨this.1,by rw[this.2];omega⟩
theorem wT_first {v u:Int}{d:Nat}(h0:0≤v)(h1:v<65535)(hu:Unt u d)(hof:ofL (wN v u*u)=v):wT v u d≠[102,117,108,108]:=by
 intro e
 have:=(wT_ok h0 h1 hu hof).1
 rw[e]at this
 exact absurd this (by decide)
theorem pct_wT {v u:Int}{d:Nat}(h0:0≤v)(h1:v<65535)(hu:Unt u d)(hof:ofL (wN v u*u)=v):pctL (wT v u d)=(v,0):=by
 obtain⟨a,b⟩:=wT_ok h0 h1 hu hof
 have hlt:=of_lt (m:=wN v u*u) (by omega)
 rw[pctL,if_neg (wT_first h0 h1 hu hof),if_pos a,b,if_neg (by omega),hof]
theorem pct_txt {v:Int}(h0:0≤v)(h1:v≤65535):pctL (txtL v)=(v,0):=by
 unfold txtL
 split
 ·rename_i h;subst h;rfl
 ·have h2:v<65535:=by omega
  split
  ·rename_i h;exact pct_wT h0 h2 (.inl ⟨rfl,rfl⟩) h
  ·split
   ·rename_i h;exact pct_wT h0 h2 (.inr (.inl ⟨rfl,rfl⟩)) h
   ·split
    ·rename_i h;exact pct_wT h0 h2 (.inr (.inr (.inl ⟨rfl,rfl⟩))) h
    ·exact pct_wT h0 h2 (.inr (.inr (.inr ⟨rfl,rfl⟩))) (of_one h0 h1)
end Go.Proofs.YtanojbajfgcjeaaGreatDoor

namespace Go.Proofs.YtanojbajfgcjeaaGreatDoor
open Go.Sha
set_option maxRecDepth 10000
theorem F77:compF Tryz.prog 77=some ⟨15,[.tmp 2,.tmp 3],(.g [.s 2 (.mv (.w [])),.c 3 0] (.join [0] (.join [0,11] (.reg [.m 4 0,.f 5 147 4,.z 6 5,.m 7 6,.my 8 0 7,.y 9 (.f 148 [.t 8,.i 0,.i 14]) 7,.vy 10 .neq 9 0 7,.e 11 7 10]) (.i 11 (.g [.s 2 (.mv (.w [])),.c 3 2] (.ret [2,3])) .skip)) (.g [.s 12 (.f 149 []),.m 13 0,.s 14 (.act (.look (.i .i64) (.str []) false) [.t 12,.t 13]),.m 2 14,.c 3 0] (.ret [2,3]))))⟩:=by kernel_rfl
theorem F147:compF Tryz.prog 147=some ⟨6,[.tmp 2],(.g [.k 2 false] (.g [.m 3 0,.s 4 (.f 148 [.t 3,.i 16,.i 18]),.v 5 .eql 4 0,.m 2 5] (.ret [2])))⟩:=by kernel_rfl
end Go.Proofs.YtanojbajfgcjeaaGreatDoor

namespace Go.Proofs.YtanojbajfgcjeaaGreatDoor
open Go.Sha
set_option maxRecDepth 100000
variable {g:List (Nat×Obj)}{n:Nat}{s:Sho}{x:Lst}{v:GV}
theorem huesR_lvl {l:List Hue}:∀{r:List Hue}{j:Nat},huesR l r j=0→∀x∈r,lvl x.lev
 |[],_,_,x,hx=>by simp at hx
 |q::r,j,h,x,hx=>by
  rw[huesR]at h
  repeat' split at h
  all_goals first|cases h|skip
  rename_i a _
  rcases List.mem_cons.1 hx with rfl|hx
  ·exact Classical.not_not.1 fun h=>a (.inr (.inr (.inr (.inr h))))
  ·exact huesR_lvl h x hx
theorem palsR_hue {l:List Pal}:∀{r:List Pal}{j:Nat},palsR l r j=0→∀x∈r,hueLR x.hues=0
 |[],_,_,x,hx=>by simp at hx
 |q::r,j,h,x,hx=>by
  rw[palsR]at h
  repeat' split at h
  all_goals first|cases h|skip
  ·rename_i a
   rcases List.mem_cons.1 hx with rfl|hx
   ·exact a
   ·exact palsR_hue h x hx
  ·rename_i a;exact absurd h a
theorem hue_lvl {l:List Pal}{v:Int}{p:Prm}{x:Int}(h:palsCR l=0)(hx:hueV l v p=some x):lvl x:=by
 unfold palsCR at h
 split at h
 ·cases h
 ·unfold hueV at hx
  cases hp:palF l v with
  |none=>rw[hp]at hx;cases hx
  |some y =>
   rw[hp,Option.bind_some]at hx
   obtain⟨z,hz,rfl⟩:=Option.map_eq_some_iff.1 hx
   have hy:=palsR_hue h y (List.mem_of_find?_eq_some hp)
   unfold hueLR at hy
   split at hy
   ·cases hy
   ·refine huesR_lvl hy z ?_
    unfold hueF at hz
    cases h1:y.hues.find? (fun x=>decide (x.chan=p.chan∧x.attr=p.attr)) with
    |some w=>rw[h1]at hz;cases hz;exact List.mem_of_find?_eq_some h1
    |none=>rw[h1]at hz;exact List.mem_of_find?_eq_some hz
theorem lev_ok {s:Sho}{p:Prm}{v:Val}(hs:shoC s=0)(hp:prmC 1 p=0)(hv:valC v=0):levE s p v=0∧lvl (levV s p v):=by
 have h0:levE s p v=0:=by rw[levE,if_neg (by simpa using hs),if_neg (by simpa using hv),hp]
 refine⟨h0,?_⟩
 rw[levV,if_pos h0,lvV]
 split
 ·rename_i h
  unfold valC at hv
  split at hv
  ·rename_i h2
   rcases h2 with h2|h2
   ·exact h2.2
   ·exact absurd h h2.2.1
  ·cases hv
 ·cases h:hueV s.pals v.pal p with
  |none=>exact own_home (p:=p) hs
  |some x=>exact hue_lvl (shoC_parts hs).2.2.2.2.2.1 h
theorem movsR_val {l:List Mov}:∀{r:List Mov}{j:Nat},movsR l r j=0→∀q∈r,valC q.val=0
 |[],_,_,q,hq=>by simp at hq
 |x::r,j,h,q,hq=>by
  rw[movsR]at h
  repeat' split at h
  all_goals first|(rename_i a;exact absurd h a)|cases h|skip
  rename_i a _ _
  rcases List.mem_cons.1 hq with rfl|hq
  ·exact Classical.not_not.1 a
  ·exact movsR_val h q hq
theorem lst_val (h:lstP x=0):∀c∈x.cues,∀q∈c.moves,valC q.val=0:=fun c hc=>by
 obtain⟨h1,h2,h3,h4,h5⟩:=cue_parts (lst_cue h c hc)
 rw[movC_eq]at h3
 unfold movCR at h3
 split at h3
 ·cases h3
 ·exact movsR_val h3
theorem movF_val {l:List Mov}{p:Prm}{w:Val}(h:∀q∈l,valC q.val=0)(e:movF l p=some w):valC w=0:=by
 obtain⟨m,hm,rfl⟩:=Option.map_eq_some_iff.1 e
 exact h m (List.mem_of_find?_eq_some hm)
theorem getD_mem {α:Type}[Inhabited α]{l:List α}{k:Nat}(h:k<l.length):l.getD k default∈l:=by
 rw[List.getD_eq_getElem?_getD,List.getElem?_eq_getElem h];exact List.getElem_mem h
theorem valF_ok {l:List Cu}{p:Prm}(h:∀c∈l,∀q∈c.moves,valC q.val=0):∀k,k<l.length→valC (valF l p k)=0
 |0,hk=>by
  rw[valF]
  cases e:movF (l.getD 0 default).moves p with
  |none=>decide
  |some w=>exact movF_val (h _ (getD_mem hk)) e
 |k+1,hk=>by
  rw[valF]
  split
  ·rename_i w e;exact movF_val (h _ (getD_mem hk)) e
  ·split
   ·decide
   ·exact valF_ok h k (by omega)
theorem keyL_mem:∀{cs:List Cu}{a:List Prm},a.Nodup→(keyL cs a).Nodup∧∀p,p∈keyL cs a↔p∈a∨∃c∈cs,p∈c.moves.map Mov.prm
 |[],a,h=>⟨h,fun p=>by simp[keyL]⟩
 |c::r,a,h=>by
  obtain⟨b1,b2⟩:=insK_fold (r:=c.moves.map Mov.prm) h
  obtain⟨a1,a2⟩:=keyL_mem (cs:=r) b1
  exact⟨a1,fun p=>by
   rw[show keyL (c::r) a=keyL r ((c.moves.map Mov.prm).foldl insK a) from rfl,a2,b2]
   constructor
   ·rintro((h|h)|⟨c',h1,h2⟩)
    ·exact .inl h
    ·exact .inr ⟨c,List.mem_cons_self ..,h⟩
    ·exact .inr ⟨c',List.mem_cons_of_mem _ h1,h2⟩
   ·rintro(h|⟨c',h1,h2⟩)
    ·exact .inl (.inl h)
    ·rcases List.mem_cons.1 h1 with rfl|h1
     ·exact .inl (.inr h2)
     ·exact .inr ⟨c',h1,h2⟩⟩
theorem ftpL_nodup:(ftpL x).Nodup:=(List.mergeSort_perm _ _).nodup_iff.2 (keyL_mem List.nodup_nil).1
theorem ftpL_mem {p:Prm}:p∈ftpL x↔∃c∈x.cues,p∈c.moves.map Mov.prm:=by
 rw[ftpL,(List.mergeSort_perm _ _).mem_iff,(keyL_mem List.nodup_nil).2];simp
theorem movF_none {l:List Mov}{p:Prm}(h:p ∉ l.map Mov.prm):movF l p=none:=by
 rw[movF,Option.map_eq_none_iff,List.find?_eq_none]
 intro m hm
 have:¬m.prm=p:=fun e=>h (e▸List.mem_map_of_mem hm)
 intro h2
 simp only[Bool.and_eq_true,decide_eq_true_eq]at h2
 exact this (by cases p;cases hq:m.prm;rw[hq]at h2;simp only at h2;rw[h2.1,h2.2])
theorem valF_none {l:List Cu}{p:Prm}(h:∀c∈l,p ∉ c.moves.map Mov.prm):∀k,k<l.length→valF l p k=⟨-1,0⟩
 |0,hk=>by rw[valF,movF_none (h _ (getD_mem hk))];rfl
 |k+1,hk=>by
  rw[valF,movF_none (h _ (getD_mem hk))]
  dsimp only
  split
  ·rfl
  ·exact valF_none h k (by omega)
theorem mapF_none {a:List (Prm×Val)}{p:Prm}(h:∀y∈a,y.1≠p):mapF a p=none:=by
 rw[mapF,Option.map_eq_none_iff,List.findIdx?_eq_none_iff]
 intro y hy
 have:=h y hy
 simpa using fun e=>this e.symm
theorem insMg_fold:∀{l a:List (Prm×Val)},(∀e∈l,∀y∈a,y.1≠e.1)→(l.Pairwise fun y z=>y.1≠z.1)→l.foldl insMg a=a++l
 |[],a,_,_=>by simp
 |e::l,a,h,hp=>by
  obtain⟨p1,p2⟩:=List.pairwise_cons.1 hp
  have e1:insMg a e=a++[e]:=by rw[insMg,mapF_none (h e (List.mem_cons_self ..))]
  rw[List.foldl_cons,e1,insMg_fold (fun z hz y hy=>?_) p2]
  ·simp
  ·rcases List.mem_append.1 hy with hy|hy
   ·exact h z (List.mem_cons_of_mem _ hz) y hy
   ·rw[List.mem_singleton.1 hy];exact p1 z hz
theorem valM_map {l:List Prm}{F:Prm→Val}{p:Prm}:valM (l.map fun q=>(q,F q)) p=if p∈l then F p else⟨-1,0⟩:=by
 unfold valM mapF
 have e:(l.map fun q=>(q,F q)).findIdx? (fun y=>decide (p=y.1))=l.findIdx? (fun q=>decide (p=q)):=by rw[List.findIdx?_map];rfl
 rw[e]
 cases h:l.findIdx? fun q=>decide (p=q) with
 |none =>
  rw[List.findIdx?_eq_none_iff]at h
  rw[if_neg (fun hp=>by have:=h p hp;simp at this)];rfl
 |some i =>
  obtain⟨hi,h1,_⟩:=List.findIdx?_eq_some_iff_getElem.1 h
  rw[decide_eq_true_eq]at h1
  rw[if_pos (h1▸List.getElem_mem hi)]
  simp only[Option.map_some]
  rw[List.getD_eq_getElem?_getD,List.getElem?_map,List.getElem?_eq_getElem hi]
  simp only[Option.map_some,Option.getD_some,←h1]
theorem ent_pair {k:Nat}:(entL x k).Pairwise fun y z=>y.1≠z.1:=by
 rw[entL,List.pairwise_map]
 exact ftpL_nodup.imp fun h=>h
theorem valM_ent {k:Nat}{p:Prm}(hk:k<x.cues.length):valM ((entL x k).foldl insMg []) p=valF x.cues p k:=by
 rw[insMg_fold (fun _ _ y hy=>by simp at hy) ent_pair,List.nil_append,entL]
 show valM ((ftpL x).map fun q=>(q,valF x.cues q k)) p=_
 rw[valM_map]
 split
 ·rfl
 ·rename_i h
  refine(valF_none (fun c hc hp=>h (ftpL_mem.2 ⟨c,hc,hp⟩)) k hk).symm
def wrdA (k:Nat):List UInt8:=[[105,110,116,101,110,115,105,116,121],[112,97,110],[116,105,108,116],[114,101,100],[103,114,101,101,110],[98,108,117,101],[119,104,105,116,101],[97,109,98,101,114],[99,121,97,110],[109,97,103,101,110,116,97],[121,101,108,108,111,119],[103,111,98,111],[115,104,117,116,116,101,114],[122,111,111,109],[102,111,99,117,115]].getD k []
def wrdK:List V:=[.int .i64 0,.int .i64 1,.int .i64 2,.int .i64 3,.int .i64 4,.int .i64 5,.int .i64 6,.int .i64 7,.int .i64 8,.int .i64 9,.int .i64 10,.int .i64 11,.int .i64 12,.int .i64 13,.int .i64 14,.int .i64 16,.int .i64 17,.int .i64 18]
def wrdV:List V:=[.str [105,110,116,101,110,115,105,116,121],.str [112,97,110],.str [116,105,108,116],.str [114,101,100],.str [103,114,101,101,110],.str [98,108,117,101],.str [119,104,105,116,101],.str [97,109,98,101,114],.str [99,121,97,110],.str [109,97,103,101,110,116,97],.str [121,101,108,108,111,119],.str [103,111,98,111],.str [115,104,117,116,116,101,114],.str [122,111,111,109],.str [102,111,99,117,115],.str [112,111,115,105,116,105,111,110],.str [99,111,108,111,117,114],.str [98,101,97,109]]
theorem e149:evK Tryz.prog HK 60 60 149 [] (stG (glK v))=some (.ret (.mpc wrdK wrdV),stG (glK v)):=by kernel_rfl
theorem f148K {a b c:Int}{st:St}:run Tryz.prog HK 148 [.int .i64 a,.int .i64 b,.int .i64 c] st=some (.ret (.int .i64 (if a<b∨c<a then 2 else 0)),st):=by
 rw[run_shut F148 rfl rfl (by simp)]
 push_cast
 all_goals first|with_reducible rfl|exact dn_eq (by omega) (by with_reducible rfl)|((repeat' split)<;>(try simp_all)<;>(try (with_reducible refine dn_eq ?_ ?_<;>first|trivial|omega|rfl))<;>(try omega))
theorem f147K {a:Int}{st:St}:run Tryz.prog HK 147 [.int .i64 a] st=some (.ret (.bool (decide (¬(a<16∨18<a)))),st):=by
 rw[run_shut F147 rfl rfl (by simp)]
 push_cast[f148K]
 all_goals first|with_reducible rfl|exact dn_eq (by omega) (by with_reducible rfl)|((repeat' split)<;>(try simp_all)<;>(try (with_reducible refine dn_eq ?_ ?_<;>first|trivial|omega|rfl))<;>(try omega))
theorem a77 {k:Nat}(hk:k<15):RunAt HK (glK v) 77 [.int .i64 k] (.ret (.tup [.str (wrdA k),.int .i64 0])):=by
 intro nx mem arr obj ty
 have e1:RunAt HK (glK v) 149 [] (.ret (.mpc wrdK wrdV)):=runAt e149 (by kernel_rfl) (fun _=>rfl) rfl
 have hf:findV (.int .i64 k) (wrdK.zip wrdV) 0=some (some (k,.str (wrdA k))):=by
  have h:k=0∨k=1∨k=2∨k=3∨k=4∨k=5∨k=6∨k=7∨k=8∨k=9∨k=10∨k=11∨k=12∨k=13∨k=14:=by omega
  rcases h with rfl|rfl|rfl|rfl|rfl|rfl|rfl|rfl|rfl|rfl|rfl|rfl|rfl|rfl|rfl<;>rfl
 have e2:∀st:St,run Tryz.prog HK 147 [.int .i64 k] st=some (.ret (.bool false),st):=fun st=>by
  rw[f147K,show decide (¬((k:Int)<16∨18<(k:Int)))=false from decide_eq_false (by omega)]
 have e3:∀st:St,run Tryz.prog HK 148 [.int .i64 k,.int .i64 0,.int .i64 14] st=some (.ret (.int .i64 0),st):=fun st=>by
  rw[f148K,if_neg (by omega)]
 have hl:wrdK.length=wrdV.length:=rfl
 have hmo:∀st:St,mapOf st (.mpc wrdK wrdV)=some (wrdK.zip wrdV):=fun st=>by rw[mapOf,if_pos hl]
 generalize wrdK=ks at *
 generalize wrdV=vs at *
 generalize wrdA k=w at *
 generalize glK v=g at *
 rw[run_shut F77 rfl rfl (by simp)]
 push_cast[e1,e2,e3,hf,hl,hmo]
theorem wrdA_len {k:Nat}:(wrdA k).length≤1000:=by
 unfold wrdA
 by_cases hk:k<15
 ·have h:k=0∨k=1∨k=2∨k=3∨k=4∨k=5∨k=6∨k=7∨k=8∨k=9∨k=10∨k=11∨k=12∨k=13∨k=14:=by omega
  rcases h with rfl|rfl|rfl|rfl|rfl|rfl|rfl|rfl|rfl|rfl|rfl|rfl|rfl|rfl|rfl<;>decide
 ·rw[List.getD_eq_getElem?_getD,List.getElem?_eq_none (by simp;omega)];decide
theorem wT_len {w u:Int}{d:Nat}(h0:0≤w)(h1:w≤65535)(hu:Unt u d):(wT w u d).length≤200:=by
 have hn0:0≤wN w u:=by rcases hu with⟨rfl,_⟩|⟨rfl,_⟩|⟨rfl,_⟩|⟨rfl,_⟩<;>(unfold wN;omega)
 have hn1:wN w u≤100000:=by rcases hu with⟨rfl,_⟩|⟨rfl,_⟩|⟨rfl,_⟩|⟨rfl,_⟩<;>(unfold wN;omega)
 have l1:∀m k,0≤m→m≤1000000→k≤3→(decT m k).length≤40:=fun m k a b c=>by
  have:=Lib.itoa_length_le m (by omega) (by omega)
  simp[decT];omega
 unfold wT
 generalize wN w u=z at *
 rcases hu with⟨rfl,rfl⟩|⟨rfl,rfl⟩|⟨rfl,rfl⟩|⟨rfl,rfl⟩
 ·have:=l1 (z / (1000 / 1000)) 1 (by omega) (by omega) (by decide)
  rw[if_neg (by decide),List.append_nil];omega
 ·have a:=l1 (z / (1000 / 100)) 1 (by omega) (by omega) (by decide)
  have b:=l1 (z % (1000 / 100)) 1 (by omega) (by omega) (by decide)
  rw[if_pos (by decide),List.length_append,List.length_cons];omega
 ·have a:=l1 (z / (1000 / 10)) 1 (by omega) (by omega) (by decide)
  have b:=l1 (z % (1000 / 10)) 2 (by omega) (by omega) (by decide)
  rw[if_pos (by decide),List.length_append,List.length_cons];omega
 ·have a:=l1 (z / (1000 / 1)) 1 (by omega) (by omega) (by decide)
  have b:=l1 (z % (1000 / 1)) 3 (by omega) (by omega) (by decide)
  rw[if_pos (by decide),List.length_append,List.length_cons];omega
theorem txt_len {w:Int}(h0:0≤w)(h1:w≤65535):(txtL w).length≤200:=by
 unfold txtL
 repeat' split
 ·decide
 ·exact wT_len h0 h1 (.inl ⟨rfl,rfl⟩)
 ·exact wT_len h0 h1 (.inr (.inl ⟨rfl,rfl⟩))
 ·exact wT_len h0 h1 (.inr (.inr (.inl ⟨rfl,rfl⟩)))
 ·exact wT_len h0 h1 (.inr (.inr (.inr ⟨rfl,rfl⟩)))
def memQ:List Nat:=[74,75,33,58]
open Classical in
noncomputable def HQ (s:Sho)(x:Lst):EvF:=⟨HH.raw,fun f args st=>bif Nat.beq f 30 then(if args=[s.v] then some (.ret (.tup [.sl ((parS s).map Prm.v),.int .i64 (shoC s)]),st) else none) else
 bif Nat.beq f 29 then run Tryz.prog (HF x) f args st else bif Nat.beq f 76 then run Tryz.prog HE f args st else bif Nat.beq f 77 then run Tryz.prog HK f args st else bif memL f memQ then run Tryz.prog HH f args st else none⟩
theorem HQ_ok (h1:ESound Tryz.prog HH)(h2:ESound Tryz.prog (HF x))(h3:ESound Tryz.prog HE)(h4:ESound Tryz.prog HK)(h:s.ok):ESound Tryz.prog (HQ s x):=fun f args st r z e=>by
 simp only[HQ]at e
 cases hf:Nat.beq f 30 with
 |true =>
  rw[hf,cond_true]at e
  have:=Nat.eq_of_beq_eq_true hf
  subst this
  split at e
  ·rename_i ha
   subst ha
   cases e
   exact v30 h1 h
  ·cases e
 |false =>
  rw[hf,cond_false]at e
  cases hi:Nat.beq f 29 with
  |true=>rw[hi]at e;exact run_sound mixed h2 _ _ _ _ _ e
  |false =>
   rw[hi,cond_false]at e
   cases hi:Nat.beq f 76 with
   |true=>rw[hi]at e;exact run_sound mixed h3 _ _ _ _ _ e
   |false =>
    rw[hi,cond_false]at e
    cases hi:Nat.beq f 77 with
    |true=>rw[hi]at e;exact run_sound mixed h4 _ _ _ _ _ e
    |false =>
     rw[hi,cond_false]at e
     cases hi:memL f memQ with
     |true=>rw[hi]at e;exact run_sound mixed h1 _ _ _ _ _ e
     |false=>rw[hi]at e;cases e
theorem upQ {k:Nat}{args:List V}{st:St}{r:VRes×St}(h:run Tryz.prog HH k args st=some r)(h1:Nat.beq k 30=false:=by rfl)(h2:Nat.beq k 29=false:=by rfl)(h3:Nat.beq k 76=false:=by rfl)(h4:Nat.beq k 77=false:=by rfl)(h5:memL k memQ=true:=by rfl):run Tryz.prog (HQ s x) k args st=some r:=by
 refine run_H ?_
 simp only[HQ,h1,h2,h3,h4,h5,cond_false,cond_true,h]
theorem q29 {args:List V}{st:St}{r:VRes×St}(h:run Tryz.prog (HF x) 29 args st=some r):run Tryz.prog (HQ s x) 29 args st=some r:=by
 refine run_H ?_
 simp only[HQ,show Nat.beq 29 30=false from rfl,show Nat.beq 29 29=true from rfl,cond_false,cond_true,h]
theorem q76 {args:List V}{st:St}{r:VRes×St}(h:run Tryz.prog HE 76 args st=some r):run Tryz.prog (HQ s x) 76 args st=some r:=by
 refine run_H ?_
 simp only[HQ,show Nat.beq 76 30=false from rfl,show Nat.beq 76 29=false from rfl,show Nat.beq 76 76=true from rfl,cond_false,cond_true,h]
theorem q77 {args:List V}{st:St}{r:VRes×St}(h:run Tryz.prog HK 77 args st=some r):run Tryz.prog (HQ s x) 77 args st=some r:=by
 refine run_H ?_
 simp only[HQ,show Nat.beq 77 30=false from rfl,show Nat.beq 77 29=false from rfl,show Nat.beq 77 76=false from rfl,show Nat.beq 77 77=true from rfl,cond_false,cond_true,h]
theorem q30 {st:St}:run Tryz.prog (HQ s x) 30 [s.v] st=some (.ret (.tup [.sl ((parS s).map Prm.v),.int .i64 (shoC s)]),st):=by
 refine run_H ?_
 simp only[HQ,show Nat.beq 30 30=true from rfl,cond_true,if_true]
theorem qHQ:QT (HQ s x):=⟨rfl,fun _ _=>rfl⟩
theorem par_prm (hs:shoC s=0){p:Prm}(hp:p∈parS s):(1≤p.chan∧p.chan≤999)∧0≤p.attr∧p.attr≤14:=by
 rw[parS,if_pos hs,parP,(List.mergeSort_perm _ _).mem_iff]at hp
 exact keyP_rng hs p hp
theorem prm_of {p:Prm}(h:(1≤p.chan∧p.chan≤999)∧0≤p.attr∧p.attr≤14):prmC 1 p=0:=by
 rw[prmC,if_neg (by omega)]
theorem magQ (h:s.ok)(hs:shoC s=0){lst:Int}{i:Nat}(hi:ix (fun x=>x.num == lst) s.lsts 0=i)(hlt:i<s.lsts.length)(hx:∀d,s.lsts.getD i d=x)(hxo:x.ok)(hlp:lstP x=0){cue:List UInt8}(hc:cue.length<140737488355328)(hp:plcE x cue=0) :
  MagH (HQ s x) g s lst cue x (entL x (plcV x cue).toNat) (parS s) where
 r65:=fun nx mem arr obj ty=>upQ (f74 h hs hi hlt hx)
 r80:=fun nx mem arr obj ty=>by
  have e:numC cue=0:=by
   unfold plcE at hp
   repeat' split at hp
   all_goals first|(rename_i a;exact absurd hp a)|exact Classical.not_not.1 (by assumption)|cases hp
  have:=upQ (s:=s) (x:=x) (f75 (s:=cue) (st:=⟨nx,mem,arr,⟨obj,g,ty⟩⟩) hc)
  rw[e]at this
  exact this
 r39:=fun nx mem arr obj ty=>by
  have:=q29 (s:=s) (x:=x) (f29 (s:=cue) (st:=⟨nx,mem,arr,⟨obj,g,ty⟩⟩) hxo hlp hc)
  rw[if_pos hp]at this
  exact this
 r40:=fun nx mem arr obj ty=>by
  have:=q30 (s:=s) (x:=x) (st:=⟨nx,mem,arr,⟨obj,g,ty⟩⟩)
  rw[hs]at this
  exact this
 ll:=by
  have:=ftpL_len hlp
  rw[entL,List.length_map];omega
 lp:=by
  have:=keyP_len hs
  rw[parS,if_pos hs,parP,List.length_mergeSort];omega
 q:=qHQ
def levQ (s:Sho)(x:Lst)(k:Nat)(p:Prm):Int:=levV s p (valF x.cues p k)
theorem parQ (h:s.ok)(hs:shoC s=0)(hlp:lstP x=0){k:Nat}(hk:k<x.cues.length):∀p∈parS s,ParH (HQ s x) (glK v) s ((entL x k).foldl insMg []) p (levQ s x k p) (Lib.itoa p.chan) (txtL (levQ s x k p)) (wrdA p.attr.toNat)∧p.chan≠0:=fun p hp=>by
 have hr:=par_prm hs hp
 have hG:glB (glK v)=true:=by kernel_rfl
 obtain⟨l1,l2⟩:=lev_ok (p:=p) hs (prm_of hr) (valF_ok (p:=p) (lst_val hlp) k hk)
 obtain⟨l2,lv3⟩:=l2
 have ha:((p.attr.toNat:Nat):Int)=p.attr:=Int.toNat_of_nonneg hr.2.1
 refine⟨⟨⟨levE s p (valF x.cues p k),fun nx mem arr obj ty=>?_⟩,⟨0,fun nx mem arr obj ty=>q76 (f76 l2 lv3 hG)⟩,⟨0,fun nx mem arr obj ty=>?_⟩,fun nx mem arr obj ty=>upQ (f58 (by omega) (by omega) hG),by have:=txt_len l2 lv3;exact Nat.le_trans this (by decide),wrdA_len,qHQ⟩,by omega⟩
 ·rw[valM_ent hk];exact upQ (f33 h)
 ·have:=a77 (v:=v) (k:=p.attr.toNat) (by omega) nx mem arr obj ty
  rw[ha]at this
  exact q77 this
end Go.Proofs.YtanojbajfgcjeaaGreatDoor

namespace Go.Proofs.YtanojbajfgcjeaaGreatDoor
open Go.Sha
set_option maxRecDepth 100000
def sE (a:List (Int×List UInt8)):List (V×V):=a.map fun x=>(.int .i64 x.1,.str x.2)
def sG:List (Int×List UInt8)→Int→List UInt8
 |[],_=>[]
 |x::r,u=>if u=x.1 then x.2 else sG r u
def sPut:List (Int×List UInt8)→Int→List UInt8→List (Int×List UInt8)
 |[],u,v=>[(u,v)]
 |x::r,u,v=>if u=x.1 then(u,v)::r else x::sPut r u v
theorem sG_put {u w:Int}{v:List UInt8}:∀{a:List (Int×List UInt8)},sG (sPut a u v) w=if w=u then v else sG a w
 |[]=>by simp[sPut,sG]
 |x::r=>by
  rw[sPut,sG]
  split
  ·rename_i h;subst h;rw[sG];split<;>rfl
  ·rename_i h
   rw[sG,sG_put]
   split
   ·rename_i h2;subst h2;rw[if_neg (by omega)]
   ·rfl
theorem find_sE {u:Int}{v:List UInt8}:∀{a:List (Int×List UInt8)}{i:Nat},(∃j,findV (.int .i64 u) (sE a) i=some (some (i+j,.str (sG a u)))∧(sE a).set j (.int .i64 u,.str v)=sE (sPut a u v))∨(findV (.int .i64 u) (sE a) i=some none∧sG a u=[]∧sE a++[(.int .i64 u,.str v)]=sE (sPut a u v))
 |[],i=>.inr ⟨rfl,rfl,rfl⟩
 |x::r,i=>by
  by_cases h:u=x.1
  ·refine .inl ⟨0,?_,?_⟩
   ·simp[sE,findV,sameV,h,sG]
   ·simp[sE,sPut,h]
  ·have e:findV (.int .i64 u) (sE (x::r)) i=findV (.int .i64 u) (sE r) (i+1):=by simp[sE,findV,sameV,beq_eq_false_iff_ne.2 h]
   rcases find_sE (u:=u) (v:=v) (a:=r) (i:=i+1) with⟨j,h1,h2⟩|⟨h1,h2,h3⟩
   ·refine .inl ⟨j+1,?_,?_⟩
    ·rw[e,h1,sG,if_neg h,show i+1+j=i+(j+1) by omega]
    ·rw[sPut,if_neg h]
     simp only[sE,List.map_cons,List.set_cons_succ]at h2 ⊢
     rw[h2]
   ·refine .inr ⟨by rw[e,h1],by rw[sG,if_neg h,h2],?_⟩
    rw[sPut,if_neg h]
    simp only[sE,List.map_cons,List.cons_append]at h3 ⊢
    rw[h3]
theorem look_sE {st:St}{a:List (Int×List UInt8)}{u:Int}:lookB st (.str []) false (findV (.int .i64 u) (sE a) 0)=some (.str (sG a u),st):=by
 rcases find_sE (u:=u) (v:=[]) (a:=a) (i:=0) with⟨j,h1,h2⟩|⟨h1,h2,h3⟩
 ·rw[h1];rfl
 ·rw[h1,h2];rfl
theorem mset_sE {st:St}{i:Nat}{a:List (Int×List UInt8)}{u:Int}{v:List UInt8}:msetB st i (sE a) (.int .i64 u) (.str v) (findV (.int .i64 u) (sE a) 0)=some (.und,⟨st.nx,st.mem,st.arr,⟨updO st.x.obj i (.map (sE (sPut a u v))),st.x.gl,st.x.ty⟩⟩):=by
 rcases find_sE (u:=u) (v:=v) (a:=a) (i:=0) with⟨j,h1,h2⟩|⟨h1,h2,h3⟩
 ·rw[h1,←h2];simp[msetB,putM]
 ·rw[h1,←h3];simp[msetB,putM]
@[push_cast]theorem sE_all {n:Nat}{a:List (Int×List UInt8)}:((sE a).all fun p=>p.1.bd n&&p.2.bd n)=true:=by simp[sE,V.bd]
theorem sE_nil:sE []=[]:=rfl
abbrev Rw:Type:=Int×List UInt8×List UInt8
def Rw.row (r:Rw):Row:=[Lib.itoa r.1,r.2.1,r.2.2]
section
variable {wrd txt:Prm→List UInt8}
def updR (wrd txt:Prm→List UInt8)(p:Prm)(r:Rw):Rw:=if p.attr=0 then(r.1,txt p,r.2.2) else(r.1,r.2.1,cell2 r.2.2 (wrd p) (txt p))
def stpR (wrd txt:Prm→List UInt8):List Rw→Prm→List Rw
 |[],p=>[updR wrd txt p (p.chan,[],[])]
 |r::q,p=>if p.chan=r.1 then updR wrd txt p r::q else updR wrd txt p (p.chan,[],[])::r::q
def InvR (x:Sht)(R:List Rw):Prop:=(R=[]∧x=sh0)∨∃r q,R=r::q∧x=⟨hdM::q.reverse.map Rw.row,some (Lib.itoa r.1,r.2.1,r.2.2),r.1⟩
theorem updR_T {p:Prm}{r:Rw}:rowT p (Lib.itoa r.1,r.2.1,r.2.2) (wrd p) (txt p)=(Lib.itoa (updR wrd txt p r).1,(updR wrd txt p r).2.1,(updR wrd txt p r).2.2):=by
 unfold rowT updR;split<;>rfl
theorem updR_1 {p:Prm}{r:Rw}:(updR wrd txt p r).1=r.1:=by unfold updR;split<;>rfl
theorem inv_step {x:Sht}{R:List Rw}{p:Prm}(hp:p.chan≠0)(h:InvR x R):InvR (stpM (fun p=>Lib.itoa p.chan) wrd txt x p) (stpR wrd txt R p):=by
 rcases h with⟨rfl,rfl⟩|⟨r,q,rfl,rfl⟩
 ·refine .inr ⟨_,[],rfl,?_⟩
  rw[stpM,openM,if_neg (by simpa [sh0] using hp)]
  simp only[sh0,Sht.rows,Option.map_some,List.append_nil]
  rw[show((Lib.itoa p.chan,[],[]):Trip)=(Lib.itoa ((p.chan,[],[]):Rw).1,((p.chan,[],[]):Rw).2.1,((p.chan,[],[]):Rw).2.2) from rfl,updR_T,updR_1]
  rfl
 ·by_cases hc:p.chan=r.1
  ·refine .inr ⟨updR wrd txt p r,q,by rw[stpR,if_pos hc],?_⟩
   rw[stpM,openM,if_pos hc]
   simp only[Option.map_some]
   rw[updR_T,updR_1,hc]
  ·refine .inr ⟨updR wrd txt p (p.chan,[],[]),r::q,by rw[stpR,if_neg hc],?_⟩
   rw[stpM,openM,if_neg hc]
   simp only[Option.map_some,Sht.rows]
   rw[show((Lib.itoa p.chan,[],[]):Trip)=(Lib.itoa ((p.chan,[],[]):Rw).1,((p.chan,[],[]):Rw).2.1,((p.chan,[],[]):Rw).2.2) from rfl,updR_T,updR_1,List.reverse_cons,List.map_append]
   rfl
theorem inv_fold:∀{ps:List Prm}{x:Sht}{R:List Rw},(∀p∈ps,p.chan≠0)→InvR x R→InvR (ps.foldl (stpM (fun p=>Lib.itoa p.chan) wrd txt) x) (ps.foldl (stpR wrd txt) R)
 |[],_,_,_,h=>h
 |p::r,_,_,hp,h=>inv_fold (ps:=r) (fun q hq=>hp q (List.mem_cons_of_mem _ hq)) (inv_step (hp p (List.mem_cons_self ..)) h)
theorem sht_rows {ps:List Prm}(hp:∀p∈ps,p.chan≠0):(shtM (fun p=>Lib.itoa p.chan) wrd txt ps).rows=hdM::(ps.foldl (stpR wrd txt) []).reverse.map Rw.row:=by
 rcases inv_fold (wrd:=wrd) (txt:=txt) hp (.inl ⟨rfl,rfl⟩) with⟨h1,h2⟩|⟨r,q,h1,h2⟩
 ·rw[h1,shtM,h2];rfl
 ·rw[h1,shtM,h2]
  simp only[Sht.rows,List.reverse_cons,List.map_append];rfl
theorem stpR_mem {R:List Rw}{p:Prm}{q:Rw}(h:q∈stpR wrd txt R p):q.1=p.chan∨∃r∈R,r.1=q.1:=by
 cases R with
 |nil=>rw[stpR,List.mem_singleton]at h;rw[h,updR_1];exact .inl rfl
 |cons r l =>
  rw[stpR]at h
  split at h
  ·rename_i hc
   rcases List.mem_cons.1 h with rfl|h
   ·rw[updR_1];exact .inl hc.symm
   ·exact .inr ⟨q,List.mem_cons_of_mem _ h,rfl⟩
  ·rcases List.mem_cons.1 h with rfl|h
   ·rw[updR_1];exact .inl rfl
   ·exact .inr ⟨q,h,rfl⟩
theorem stpR_nodup {R:List Rw}{p:Prm}(hR:(R.map (·.1)).Nodup)(h:∀r∈R,r.1≤p.chan)(hs:R.Pairwise fun a b=>b.1<a.1):(stpR wrd txt R p).Pairwise fun a b=>b.1<a.1:=by
 cases R with
 |nil=>exact List.pairwise_singleton ..
 |cons r l =>
  obtain⟨p1,p2⟩:=List.pairwise_cons.1 hs
  rw[stpR]
  split
  ·exact List.pairwise_cons.2 ⟨fun y hy=>by rw[updR_1];exact p1 y hy,p2⟩
  ·rename_i hc
   refine List.pairwise_cons.2 ⟨fun y hy=>?_,hs⟩
   rw[updR_1]
   have h1:=h r (List.mem_cons_self ..)
   rcases List.mem_cons.1 hy with rfl|hy
   ·show y.1<p.chan
    omega
   ·have:=p1 y hy
    show y.1<p.chan
    omega
theorem stpR_fold:∀{ps:List Prm}{R:List Rw},(∀p∈ps,0≤p.attr)→(ps.Pairwise fun a b=>befP a b=true)→(∀p∈ps,∀r∈R,r.1≤p.chan)→(∀p∈ps,p.attr=0→∀r∈R,r.1≠p.chan)→(R.Pairwise fun a b=>b.1<a.1) →
  ((ps.foldl (stpR wrd txt) R).Pairwise fun a b=>b.1<a.1)∧(∀r∈R,∃t,(r.1,r.2.1,t)∈ps.foldl (stpR wrd txt) R)∧(∀p∈ps,p.attr=0→∃t,(p.chan,txt p,t)∈ps.foldl (stpR wrd txt) R)∧∀q∈ps.foldl (stpR wrd txt) R,(∃p∈ps,q.1=p.chan)∨∃r∈R,r.1=q.1
 |[],R,_,_,_,_,hs=>⟨hs,fun r hr=>⟨r.2.2,hr⟩,fun p hp=>by simp at hp,fun q hq=>.inr ⟨q,hq,rfl⟩⟩
 |p::ps,R,ha,hb,hle,hne,hs=>by
  obtain⟨b1,b2⟩:=List.pairwise_cons.1 hb
  have hmn:(R.map (·.1)).Nodup:=by
   rw[List.Nodup,List.pairwise_map]
   exact hs.imp fun {a b} h=>by omega
  have hp0:=ha p (List.mem_cons_self ..)
  obtain⟨c1,c2,c3,c4⟩:=stpR_fold (ps:=ps) (R:=stpR wrd txt R p) (fun q hq=>ha q (List.mem_cons_of_mem _ hq)) b2 (fun z hz q hq=>by
    have hz':=befP_iff.1 (b1 z hz)
    rcases stpR_mem hq with h|⟨r,hr,h⟩
    ·omega
    ·rw[←h];exact hle z (List.mem_cons_of_mem _ hz) r hr) (fun z hz h0 q hq=>by
    have hz':=befP_iff.1 (b1 z hz)
    rcases stpR_mem hq with h|⟨r,hr,h⟩
    ·omega
    ·rw[←h];exact hne z (List.mem_cons_of_mem _ hz) h0 r hr) (stpR_nodup hmn (hle p (List.mem_cons_self ..)) hs)
  have keep:∀r∈R,∃t,(r.1,r.2.1,t)∈stpR wrd txt R p:=fun r hr=>by
   cases R with
   |nil=>simp at hr
   |cons z l =>
    rw[stpR]
    split
    ·rename_i hc
     rcases List.mem_cons.1 hr with rfl|hr
     ·have h0:¬p.attr=0:=fun h0=>hne p (List.mem_cons_self ..) h0 r (List.mem_cons_self ..) hc.symm
      exact⟨cell2 r.2.2 (wrd p) (txt p),by rw[updR,if_neg h0];exact List.mem_cons_self ..⟩
     ·exact⟨r.2.2,List.mem_cons_of_mem _ hr⟩
    ·exact⟨r.2.2,List.mem_cons_of_mem _ hr⟩
  refine⟨c1,fun r hr=>?_,fun z hz h0=>?_,fun q hq=>?_⟩
  ·obtain⟨t,ht⟩:=keep r hr
   exact c2 (r.1,r.2.1,t) ht
  ·rcases List.mem_cons.1 hz with rfl|hz
   ·have:(z.chan,txt z,[])∈stpR wrd txt R z:=by
     cases R with
     |nil=>rw[stpR,updR,if_pos h0];exact List.mem_cons_self ..
     |cons r l =>
      rw[stpR,if_neg (fun h=>hne z (List.mem_cons_self ..) h0 r (List.mem_cons_self ..) h.symm),updR,if_pos h0];exact List.mem_cons_self ..
    exact c2 _ this
   ·exact c3 z hz h0
  ·rcases c4 q hq with⟨z,hz,h⟩|⟨r,hr,h⟩
   ·exact .inl ⟨z,List.mem_cons_of_mem _ hz,h⟩
   ·rcases stpR_mem hr with h2|⟨r2,hr2,h2⟩
    ·exact .inl ⟨p,List.mem_cons_self ..,by rw[←h,h2]⟩
    ·exact .inr ⟨r2,hr2,by rw[h2,h]⟩
end
def lvlM (R:List Rw)(a:List (Int×List UInt8)):List (Int×List UInt8):=R.foldl (fun a r=>sPut a r.1 r.2.1) a
theorem lvlM_out {c:Int}:∀{R:List Rw}{a:List (Int×List UInt8)},(∀r∈R,r.1≠c)→sG (lvlM R a) c=sG a c
 |[],_,_=>rfl
 |r::l,a,h=>by
  show sG (lvlM l (sPut a r.1 r.2.1)) c=_
  rw[lvlM_out (fun z hz=>h z (List.mem_cons_of_mem _ hz)),sG_put,if_neg (fun e=>h r (List.mem_cons_self ..) e.symm)]
theorem lvlM_in {c:Int}{w t:List UInt8}:∀{R:List Rw}{a:List (Int×List UInt8)},(R.map (·.1)).Nodup→(c,w,t)∈R→sG (lvlM R a) c=w
 |[],_,_,h=>by simp at h
 |r::l,a,hn,h=>by
  rw[List.map_cons,List.nodup_cons]at hn
  show sG (lvlM l (sPut a r.1 r.2.1)) c=_
  rcases List.mem_cons.1 h with rfl|h
  ·rw[lvlM_out (c:=c) (fun z hz e=>hn.1 (List.mem_map.2 ⟨z,hz,e⟩)),sG_put,if_pos rfl]
  ·exact lvlM_in hn.2 h
theorem sheet_ok {ps:List Prm}{wrd txt:Prm→List UInt8}(h1:∀p∈ps,1≤p.chan∧0≤p.attr)(hb:ps.Pairwise fun a b=>befP a b=true):∃R:List Rw,(shtM (fun p=>Lib.itoa p.chan) wrd txt ps).rows=hdM::R.map Rw.row∧(∀q∈R,∃p∈ps,q.1=p.chan)∧R.length≤ps.length∧∀p∈ps,p.attr=0→sG (lvlM R []) p.chan=txt p:=by
 obtain⟨a1,a2,a3,a4⟩:=stpR_fold (wrd:=wrd) (txt:=txt) (ps:=ps) (R:=[]) (fun p hp=>(h1 p hp).2) hb (fun _ _ r hr=>by simp at hr) (fun _ _ _ r hr=>by simp at hr) List.Pairwise.nil
 refine⟨_,sht_rows (wrd:=wrd) (txt:=txt) (fun p hp=>by have:=(h1 p hp).1;omega),fun q hq=>?_,?_,fun p hp h0=>?_⟩
 ·rcases a4 q (List.mem_reverse.1 hq) with h|⟨r,hr,_⟩
  ·exact h
  ·simp at hr
 ·have:∀(l:List Prm) (R:List Rw),(l.foldl (stpR wrd txt) R).length≤R.length+l.length:=by
   intro l
   induction l with
   |nil=>intro R;simp
   |cons p l ih =>
    intro R
    have h2:(stpR wrd txt R p).length≤R.length+1:=by
     cases R with
     |nil=>simp[stpR]
     |cons r q=>rw[stpR];split<;>simp
    have:=ih (stpR wrd txt R p)
    rw[List.foldl_cons,List.length_cons];omega
  have:=this ps []
  rw[List.length_reverse];simpa using this
 ·obtain⟨t,ht⟩:=a3 p hp h0
  refine lvlM_in (t:=t) ?_ (List.mem_reverse.2 ht)
  rw[List.map_reverse,List.Nodup,List.pairwise_reverse,List.pairwise_map]
  exact a1.imp fun {a b} h=>by omega
end Go.Proofs.YtanojbajfgcjeaaGreatDoor

namespace Go.Proofs.YtanojbajfgcjeaaGreatDoor
open Go.Sha
set_option maxRecDepth 100000
variable {g:List (Nat×Obj)}{n:Nat}
theorem f107n {l:List Fixt}{ps:List Prof}(h1:12<l.length)(h2:l.length≤64){st:St}:run Tryz.prog HH 107 [.sl (l.map Fixt.v),.sl (ps.map Prof.v)] st=some (.ret (.bool false),st):=by
 have a1:(12:Int)<l.length:=by omega
 have a2:(l.length:Int)≤64:=by omega
 rw[run_shut F107 rfl rfl (by simp)]
 push_cast[a1,a2]
theorem f52n {x:Sho}(h:x.ok)(h1:12<x.fixts.length)(h2:x.fixts.length≤64){st:St}:run Tryz.prog HH 52 [x.v] st=some (.ret (.bool false),st):=by
 obtain⟨b1,h1'⟩:=f106 h.c.1
 have h2':=fun(st:St)=>f107n (ps:=x.profs) (st:=st) h1 h2
 obtain⟨b3,h3⟩:=f108 h.g.1
 obtain⟨b4,h4⟩:=f109 h.l.1
 obtain⟨b5,h5⟩:=f110 h.s.1
 obtain⟨b6,h6⟩:=f111 (l:=x.effs)
 rw[run_shut F52 rfl rfl (by simp)]
 push_cast[Sho.v,h1',h2',h3,h4,h5,h6]
theorem f20' {s:Sho}(h:s.ok):∃b,(b=true→shoC s=0∧s.fixts.length≤12)∧∀st,run Tryz.prog HH 20 [s.v] st=some (.ret (.bool b),st):=by
 obtain⟨b,hb⟩:=f52 h
 refine⟨b&&shoC s == 0,fun e=>?_,fun st=>?_⟩
 ·simp only[Bool.and_eq_true,beq_iff_eq]at e
  refine⟨e.2,?_⟩
  have h2:=(fix_ok (shoC_parts e.2).2.2.2.1).2.1
  rcases Nat.lt_or_ge 12 s.fixts.length with h1|h1
  ·have:=f52n h h1 h2 (st:=stG [])
   rw[hb,e.1]at this
   cases this
  ·exact h1
 ·have h1:=fun st=>f53 (st:=st) h
  push_cast[Sho.v]at hb h1
  rw[run_shut F20 rfl rfl (by simp)]
  cases b<;>push_cast[Sho.v,hb,h1]
def memD1:List Nat:=[21,35]
def memD2:List Nat:=[13]
def memD3:List Nat:=[20,22,23,24,26,36,37]
noncomputable def HD:EvF:=⟨[],fun f args st=>bif Nat.beq f 10 then run Tryz.prog HA f args st else bif memL f memD1 then run Tryz.prog HC f args st else bif memL f memD2 then run Tryz.prog HK f args st else bif memL f memD3 then run Tryz.prog HH f args st else none⟩
@[push_cast]theorem HD_raw:HD.raw=[]:=idq rfl
theorem HD_ok (h1:ESound Tryz.prog HH)(h2:ESound Tryz.prog HK)(h3:ESound Tryz.prog HA):ESound Tryz.prog HD:=fun f args st r s h=>by
 simp only[HD]at h
 cases hf:Nat.beq f 10 with
 |true=>rw[hf]at h;exact run_sound mixed h3 _ _ _ _ _ h
 |false =>
  rw[hf,cond_false]at h
  cases hi:memL f memD1 with
  |true=>rw[hi]at h;exact run_sound mixed (HC_ok h1) _ _ _ _ _ h
  |false =>
   rw[hi,cond_false]at h
   cases hi:memL f memD2 with
   |true=>rw[hi]at h;exact run_sound mixed h2 _ _ _ _ _ h
   |false =>
    rw[hi,cond_false]at h
    cases hi:memL f memD3 with
    |true=>rw[hi]at h;exact run_sound mixed h1 _ _ _ _ _ h
    |false=>rw[hi]at h;cases h
theorem upD3 {k:Nat}{args:List V}{st:St}{r:VRes×St}(h:run Tryz.prog HH k args st=some r)(h1:Nat.beq k 10=false:=by rfl)(h2:memL k memD1=false:=by rfl)(h3:memL k memD2=false:=by rfl)(h4:memL k memD3=true:=by rfl):run Tryz.prog HD k args st=some r:=by
 refine run_H ?_
 simp only[HD,h1,h2,h3,h4,cond_false,cond_true,h]
theorem awkD {st:St}{v:GV}(hg:st.x.gl=glK v):run Tryz.prog HD 10 [] st=some (.ret (.bool true),st):=by
 refine run_H ?_
 simp only[HD,show Nat.beq 10 10=true from rfl,cond_true]
 obtain⟨nx,mem,arr,⟨obj,gl,ty⟩⟩:=st
 cases hg
 exact f10 (v:=v) _ _ _ _ _
end Go.Proofs.YtanojbajfgcjeaaGreatDoor

namespace Go.Proofs.YtanojbajfgcjeaaGreatDoor
open Go.Sha
set_option maxRecDepth 100000
variable {g:List (Nat×Obj)}{n:Nat}{s:Sho}{x:Lst}{v:GV}
theorem f32 {e:Prm×Val}{p:Prm}{st:St}:run Tryz.prog HH 32 [entV e,.ep p.v 0] st=some (.ret (.bool (decide (e.1=p))),st):=by
 obtain⟨⟨a,b⟩,w⟩:=e
 obtain⟨c,d⟩:=p
 rw[run_shut F32 rfl rfl (by simp)]
 push_cast[Prm.v,entV]
 have e:(a == c&&b == d)=decide ((⟨a,b⟩:Prm)=⟨c,d⟩):=by rw[Bool.eq_iff_iff];simp
 rw[e]
theorem f31 {l:List (Prm×Val)}{p:Prm}(hl:l.length<140737488355328){st:St}:run Tryz.prog HH 31 [.sl (l.map entV),.fn (.func 32) [] [.ep p.v 0]] st=some (.ret (.int .i64 (ix (fun e=>decide (e.1=p)) l 0)),st) :=
 IxF (f:=entV) (n:=some 4) (fun _=>rfl) (fun _=>rfl) F31 rfl (by simp) hl (fun q _ _=>f32) (fun _ _=>rfl) (fun _=>rfl)
theorem thN_le {t:List UInt8}(h:thO t=true):0≤thN t∧thN t≤999999:=by
 unfold thO at h
 simp only[Bool.and_eq_true,Bool.not_eq_true']at h
 obtain⟨⟨h1,-⟩,h3⟩:=h
 unfold dgs at h1
 simp only[Bool.and_eq_true,decide_eq_true_eq]at h1
 obtain⟨⟨g1,g2⟩,g3⟩:=h1
 have hd3:((nR t++[48,48,48]).take 3).all isD=true:=by
  rw[List.all_eq_true]
  intro b hb
  have hb:=List.mem_of_mem_take hb
  cases d3:t.contains 46 with
  |true =>
   rw[d3]at h3
   simp only[Bool.true_and,Bool.not_eq_false']at h3
   unfold dgs at h3
   simp only[Bool.and_eq_true,decide_eq_true_eq]at h3
   rcases List.mem_append.1 hb with hb|hb
   ·exact List.all_eq_true.1 h3.2 b hb
   ·simp at hb;rw[hb];decide
  |false =>
   rw[(n_none d3).2]at hb
   simp at hb;rw[hb];decide
 have hl3:((nR t++[48,48,48]).take 3).length≤3:=List.length_take_le ..
 obtain⟨v1,v2⟩:=fld_le g2 g3
 obtain⟨w1,w2⟩:=fld_le hl3 hd3
 rw[thN,fld_add]
 have hk:((nR t++[48,48,48]).take 3).length=0∨((nR t++[48,48,48]).take 3).length=1∨((nR t++[48,48,48]).take 3).length=2∨((nR t++[48,48,48]).take 3).length=3:=by omega
 rcases hk with e|e|e|e<;>(rw[e];simp only[Int.pow_succ,Int.pow_zero];omega)
theorem pct_run {w:Int}(h0:0≤w)(h1:w≤65535){st:St}:run Tryz.prog HE 34 [.str (txtL w)] st=some (.ret (.tup [.int .i64 w,.int .i64 0]),st):=by
 have:=f34 (s:=txtL w) (st:=st) (by have:=txt_len h0 h1;omega) thN_le
 rw[pct_txt h0 h1]at this
 exact this
theorem ix_map {α β:Type}{f:α→β}{p:β→Bool}:∀{l:List α}{j:Nat},ix p (l.map f) j=ix (fun x=>p (f x)) l j
 |[],_=>rfl
 |a::r,j=>by rw[List.map_cons,ix,ix,ix_map]
theorem ix_spec {α:Type}[Inhabited α]{p:α→Bool}:∀{l:List α}{j:Nat},(ix p l j=-1∧∀a∈l,p a=false)∨∃i,ix p l j=((j+i:Nat):Int)∧i<l.length∧p (l.getD i default)=true
 |[],_=>.inl ⟨rfl,by simp⟩
 |a::r,j=>by
  rw[ix]
  split
  ·rename_i h;exact .inr ⟨0,rfl,by simp,h⟩
  ·rename_i h
   rcases ix_spec (p:=p) (l:=r) (j:=j+1) with⟨h1,h2⟩|⟨i,h1,h2,h3⟩
   ·exact .inl ⟨h1,fun b hb=>(List.mem_cons.1 hb).elim (fun e=>by rw[e];simpa using h) (h2 b)⟩
   ·exact .inr ⟨i+1,by rw[h1];omega,by simpa using h2,h3⟩
theorem look_val {p:Prm}{k:Nat}(hk:k<x.cues.length):(∃i:Nat,ix (fun e=>decide (e.1=p)) (entL x k) 0=i∧i<(entL x k).length∧∀d,(entL x k).getD i d=(p,valF x.cues p k))∨(ix (fun e=>decide (e.1=p)) (entL x k) 0=-1∧valF x.cues p k=⟨-1,0⟩):=by
 rcases ix_spec (p:=fun e:Prm×Val=>decide (e.1=p)) (l:=entL x k) (j:=0) with⟨h1,h2⟩|⟨i,h1,h2,h3⟩
 ·refine .inr ⟨h1,valF_none (fun c hc hp=>?_) k hk⟩
  have:=h2 (entF x k p) (List.mem_map_of_mem (ftpL_mem.2 ⟨c,hc,hp⟩))
  simp[entF]at this
 ·refine .inl ⟨i,by simpa using h1,h2,fun d=>?_⟩
  rw[decide_eq_true_eq]at h3
  have h4:i<(ftpL x).length:=by rw[entL,List.length_map]at h2;exact h2
  have e1:∀d,(entL x k).getD i d=entF x k (ftpL x)[i]:=fun d=>by
   rw[entL,List.getD_eq_getElem?_getD,List.getElem?_map,List.getElem?_eq_getElem h4];rfl
  rw[e1]at h3 ⊢
  have h5:(ftpL x)[i]=p:=h3
  rw[h5];rfl
def memW1:List Nat:=[29,30]
def memW2:List Nat:=[20,22,31,33]
open Classical in
noncomputable def HW (s:Sho)(x:Lst)(lst:Int)(cue:List UInt8)(tab:List Row):EvF:=⟨[],fun f args st=>bif Nat.beq f 10 then run Tryz.prog HA f args st else
 bif Nat.beq f 28 then(if(∃v,st.x.gl=glK v)∧args=[s.v,.int .i64 lst,.str cue] then some (.ret (.tup [.sl (tab.map rowV),.int .i64 0]),st) else none) else
 bif memL f memW1 then run Tryz.prog (HQ s x) f args st else bif Nat.beq f 34 then run Tryz.prog HE f args st else bif memL f memW2 then run Tryz.prog HH f args st else none⟩
section
variable {lst:Int}{cue:List UInt8}{tab:List Row}
@[push_cast]theorem HW_raw:(HW s x lst cue tab).raw=[]:=idq rfl
theorem HW_ok (h1:ESound Tryz.prog HH)(h2:ESound Tryz.prog HA)(h3:ESound Tryz.prog HE)(h4:ESound Tryz.prog (HQ s x))
  (h5:∀v st,st.x.gl=glK v→VCalls Tryz.prog 28 [s.v,.int .i64 lst,.str cue] st fun r z=>r=.ret (.tup [.sl (tab.map rowV),.int .i64 0])∧z=st):ESound Tryz.prog (HW s x lst cue tab):=fun f args st r z e=>by
 simp only[HW]at e
 cases hf:Nat.beq f 10 with
 |true=>rw[hf]at e;exact run_sound mixed h2 _ _ _ _ _ e
 |false =>
  rw[hf,cond_false]at e
  cases hi:Nat.beq f 28 with
  |true =>
   rw[hi,cond_true]at e
   have:=Nat.eq_of_beq_eq_true hi
   subst this
   split at e
   ·rename_i ha
    obtain⟨⟨v,hv⟩,rfl⟩:=ha
    cases e
    exact h5 v st hv
   ·cases e
  |false =>
   rw[hi,cond_false]at e
   cases hi:memL f memW1 with
   |true=>rw[hi]at e;exact run_sound mixed h4 _ _ _ _ _ e
   |false =>
    rw[hi,cond_false]at e
    cases hi:Nat.beq f 34 with
    |true=>rw[hi]at e;exact run_sound mixed h3 _ _ _ _ _ e
    |false =>
     rw[hi,cond_false]at e
     cases hi:memL f memW2 with
     |true=>rw[hi]at e;exact run_sound mixed h1 _ _ _ _ _ e
     |false=>rw[hi]at e;cases e
theorem upW {k:Nat}{args:List V}{st:St}{r:VRes×St}(h:run Tryz.prog HH k args st=some r)(h1:Nat.beq k 10=false:=by rfl)(h2:Nat.beq k 28=false:=by rfl)(h3:memL k memW1=false:=by rfl)(h4:Nat.beq k 34=false:=by rfl)(h5:memL k memW2=true:=by rfl):run Tryz.prog (HW s x lst cue tab) k args st=some r:=by
 refine run_H ?_
 simp only[HW,h1,h2,h3,h4,h5,cond_false,cond_true,h]
theorem upW1 {k:Nat}{args:List V}{st:St}{r:VRes×St}(h:run Tryz.prog (HQ s x) k args st=some r)(h1:Nat.beq k 10=false:=by rfl)(h2:Nat.beq k 28=false:=by rfl)(h3:memL k memW1=true:=by rfl):run Tryz.prog (HW s x lst cue tab) k args st=some r:=by
 refine run_H ?_
 simp only[HW,h1,h2,h3,cond_false,cond_true,h]
theorem w34 {args:List V}{st:St}{r:VRes×St}(h:run Tryz.prog HE 34 args st=some r):run Tryz.prog (HW s x lst cue tab) 34 args st=some r:=by
 refine run_H ?_
 simp only[HW,show Nat.beq 34 10=false from rfl,show Nat.beq 34 28=false from rfl,show memL 34 memW1=false from rfl,show Nat.beq 34 34=true from rfl,cond_false,cond_true,h]
theorem w28 {st:St}{v:GV}(hg:st.x.gl=glK v):run Tryz.prog (HW s x lst cue tab) 28 [s.v,.int .i64 lst,.str cue] st=some (.ret (.tup [.sl (tab.map rowV),.int .i64 0]),st):=by
 refine run_H ?_
 simp only[HW,show Nat.beq 28 10=false from rfl,show Nat.beq 28 28=true from rfl,cond_false,cond_true]
 rw[if_pos ⟨⟨v,hg⟩,rfl⟩]
theorem w10 {st:St}{v:GV}(hg:st.x.gl=glK v):run Tryz.prog (HW s x lst cue tab) 10 [] st=some (.ret (.bool true),st):=by
 refine run_H ?_
 simp only[HW,show Nat.beq 10 10=true from rfl,cond_true]
 obtain⟨nx,mem,arr,⟨obj,gl,ty⟩⟩:=st
 cases hg
 exact f10 (v:=v) _ _ _ _ _
end
end Go.Proofs.YtanojbajfgcjeaaGreatDoor

namespace Go.Proofs.YtanojbajfgcjeaaGreatDoor
open Go.Sha
set_option maxRecDepth 100000
variable {g:List (Nat×Obj)}{n:Nat}{s:Sho}{x:Lst}{v:GV}{lst:Int}{cue:List UInt8}{tab:List Row}
def stSm (g:List (Nat×Obj))(n:Nat)(a:List (Int×List UInt8)):St:=⟨n,[],[],⟨[(2,.map (sE a))],g,[]⟩⟩
@[push_cast]theorem stSm_eq {a:List (Int×List UInt8)}:stSm g n a=⟨n,[],[],⟨[(2,.map (sE a))],g,[]⟩⟩:=idq rfl
theorem L7_0 {R:List Rw}{v3 v11 v13:V}(b3:V.bd 3 v3=true)(b11:V.bd 3 v11=true)(b13:V.bd 3 v13=true)(hl:R.length<1000000)(hR:∀r∈R,1≤r.1∧r.1≤999):∀r j,R.drop j=r→∀a,
  runL Tryz.prog (HW s x lst cue tab) [3,11,13,15,96,97,98] 3 B7_0 [(3,v3),(11,v11),(13,v13),(15,.mp 2),(96,.sl ((R.map Rw.row).map rowV)),(97,.int .i64 R.length),(98,.int .i64 j)] (stSm g 3 a)
   = some (.exit 0,[(3,v3),(11,v11),(13,v13),(15,.mp 2)],stSm g 3 (lvlM r a)):=by
 refine drop_ind (fun j h a=>?_) (fun q r j h hx hd ih a=>?_)
 all_goals rw[runL_of B7_0.eq_1]
 ·have h1:¬(j:Int)<R.length:=by omega
  push_cast[h1,lvlM,List.foldl_nil,b3,b11,b13]
 ·have h1:(j:Int)<R.length:=by omega
  have hw:=iw1 (j:=j) (by omega)
  obtain⟨q1,q2⟩:=hR q (mem_at hd)
  have e1:=fun(st:St)=>upW (s:=s) (x:=x) (lst:=lst) (cue:=cue) (tab:=tab) (atoi_itoa (m:=q.1) (st:=st) (by omega) (by omega))
  have hm:=fun(st:St) (i:Nat)=>mset_sE (st:=st) (i:=i) (a:=a) (u:=q.1) (v:=q.2.1)
  have hx2:∀d,(R.map Rw.row).getD j d=Rw.row q:=fun d=>by
   have:=congrArg (·[0]?) hd
   simp at this
   rw[List.getD_eq_getElem?_getD,List.getElem?_map,this];rfl
  have ih:=ih (sPut a q.1 q.2.1)
  rw[show lvlM (q::r) a=lvlM r (sPut a q.1 q.2.1) from rfl]
  generalize lvlM r (sPut a q.1 q.2.1)=z at *
  push_cast[rowV]at ih
  push_cast[h1,hw,hx2,e1,hm,b3,b11,b13,Rw.row,rowV,List.map_cons,List.map_nil,List.length_cons,List.length_nil]at ih ⊢
  first|exact ih|exact dn_eq rfl ih
theorem L7_1 (h:s.ok)(hs:shoC s=0)(hlp:lstP x=0){k:Nat}(hk:k<x.cues.length){a:List (Int×List UInt8)}(ha:∀p∈parS s,p.attr=0→sG a p.chan=txtL (levQ s x k p)):∀r j,(parS s).drop j=r →
  runL Tryz.prog (HW s x lst cue tab) [3,11,15,122,123,124] 3 B7_1 [(3,.ep s.v 0),(11,.sl ((entL x k).map entV)),(15,.mp 2),(122,.sl ((parS s).map Prm.v)),(123,.int .i64 (parS s).length),(124,.int .i64 j)] (stSm g 3 a)
   = some (.exit 2,[],stSm g 3 a):=by
 have hln:(parS s).length≤20000:=by have:=keyP_len hs;rwa [parS,if_pos hs,parP,List.length_mergeSort]
 have hpr:=fun p hp=>par_prm (p:=p) hs hp
 generalize hps:parS s=ps at *
 refine drop_ind (fun j hj=>?_) (fun q r j hj hx hd ih=>?_)
 all_goals rw[runL_of B7_1.eq_1]
 ·have h1:¬(j:Int)<ps.length:=by omega
  push_cast[h1]
 ·have h1:(j:Int)<ps.length:=by omega
  have hw:=iw1 (j:=j) (by omega)
  have hq:=mem_at hd
  obtain⟨l1,l2⟩:=lev_ok (p:=q) hs (prm_of (hpr q hq)) (valF_ok (p:=q) (lst_val hlp) k hk)
  have hL:=ftpL_len hlp
  have el:(entL x k).length≤8192:=by rw[entL,List.length_map];exact hL
  have e31:=fun(st:St)=>upW (s:=s) (x:=x) (lst:=lst) (cue:=cue) (tab:=tab) (f31 (l:=entL x k) (p:=q) (st:=st) (by omega))
  have e33:=fun(st:St)=>upW (s:=s) (x:=x) (lst:=lst) (cue:=cue) (tab:=tab) (f33 (p:=q) (v:=valF x.cues q k) (st:=st) h)
  have hm:=fun(st:St)=>look_sE (st:=st) (a:=a) (u:=q.chan)
  by_cases h0:q.attr=0
  ·have e34:=fun(st:St)=>w34 (s:=s) (x:=x) (lst:=lst) (cue:=cue) (tab:=tab) (pct_run (w:=levQ s x k q) (st:=st) l2.1 l2.2)
   rw[ha q hq h0]at hm
   rw[l1]at e33
   rw[show levV s q (valF x.cues q k)=levQ s x k q from rfl]at e33
   rcases look_val (p:=q) (k:=k) (x:=x) hk with⟨i,g1,g2,g3⟩|⟨g1,g2⟩
   ·rw[g1]at e31
    have g4:(i:Int)<(entL x k).length:=by omega
    have g5:(0:Int)≤i:=by omega
    push_cast[Sho.v,Prm.v,Val.v]at ih
    push_cast[Sho.v,Prm.v,Val.v,h0]at e31 e33
    push_cast[h1,hw,hx,h0,e31,e33,e34,hm,g3,g4,g5,Sho.v,Prm.v,Val.v,entV]at ih ⊢
    exact ih
   ·rw[g1]at e31
    rw[g2]at e33
    push_cast[Sho.v,Prm.v,Val.v]at ih
    push_cast[Sho.v,Prm.v,Val.v,h0]at e31 e33
    push_cast[h1,hw,hx,h0,e31,e33,e34,hm,Sho.v,Prm.v,Val.v,entV]at ih ⊢
    exact ih
  ·push_cast[h1,hw,hx,h0,Sho.v,Prm.v,Val.v,entV]at ih ⊢
   exact ih
end Go.Proofs.YtanojbajfgcjeaaGreatDoor

namespace Go.Proofs.YtanojbajfgcjeaaGreatDoor
open Go.Sha
set_option maxRecDepth 100000
variable {g:List (Nat×Obj)}{n:Nat}{s:Sho}{x:Lst}{v:GV}
theorem l9a (h:s.ok){w c:Int}(hr:∀st,run Tryz.prog HH 20 [s.v] st=some (.ret (.bool false),st)){st:St}(hg:st.x.gl=glK v):run Tryz.prog HD 7 [s.v,.int .u8 w,.int .u8 c] st=some (.ret (.bool true),st):=by
 have h20:=fun st=>upD3 (hr st)
 have hA:=fun nx mem arr obj ty=>awkD (st:=⟨nx,mem,arr,⟨obj,st.x.gl,ty⟩⟩) hg
 rw[run_shut F7 rfl rfl (by simp)]
 push_cast[Sho.v]at h20
 push_cast[Sho.v,h20,hA]
theorem l9b (h:s.ok){w c:Int}(hr:∀st,run Tryz.prog HH 20 [s.v] st=some (.ret (.bool true),st))(hl:s.lsts=[]){st:St}(hg:st.x.gl=glK v):run Tryz.prog HD 7 [s.v,.int .u8 w,.int .u8 c] st=some (.ret (.bool true),st):=by
 have h20:=fun st=>upD3 (hr st)
 have hA:=fun nx mem arr obj ty=>awkD (st:=⟨nx,mem,arr,⟨obj,st.x.gl,ty⟩⟩) hg
 rw[run_shut F7 rfl rfl (by simp)]
 push_cast[Sho.v]at h20
 rw[hl]at h20
 push_cast[List.map_nil]at h20
 push_cast[Sho.v,hl,h20,hA,List.map_nil,List.length_nil]
theorem l9c (h:s.ok){w c:Int}{i:Nat}(h0:0≤w)(h1:w≤255)(hr:∀st,run Tryz.prog HH 20 [s.v] st=some (.ret (.bool true),st))(hi:i<s.lsts.length)(hw:w.tmod s.lsts.length=i)(hx:∀d,s.lsts.getD i d=x)(hl:x.cues=[]){st:St}(hg:st.x.gl=glK v):run Tryz.prog HD 7 [s.v,.int .u8 w,.int .u8 c] st=some (.ret (.bool true),st):=by
 have h20:=fun st=>upD3 (hr st)
 have hA:=fun nx mem arr obj ty=>awkD (st:=⟨nx,mem,arr,⟨obj,st.x.gl,ty⟩⟩) hg
 have z1:¬(s.lsts.length:Int)=0:=by omega
 have w1:IntKind.i64.wrap w=w:=iwrap (by omega) (by omega)
 have w2:IntKind.i64.wrap (i:Int)=i:=iwrap (by omega) (by have:=h.k.1;omega)
 have i1:(i:Int)<s.lsts.length:=by omega
 have i2:(0:Int)≤i:=by omega
 rw[run_shut F7 rfl rfl (by simp)]
 push_cast[Sho.v]at h20
 push_cast[Sho.v,Lst.v,hl,h20,hA,z1,w1,w2,hw,i1,i2,hx,List.map_nil,List.length_nil]
end Go.Proofs.YtanojbajfgcjeaaGreatDoor

namespace Go.Proofs.YtanojbajfgcjeaaGreatDoor
open Go.Sha
set_option maxRecDepth 100000
variable {g:List (Nat×Obj)}{n:Nat}{s:Sho}{x:Lst}{v:GV}
theorem l9d (h:s.ok)(hs:shoC s=0){w c:Int}{i j:Nat}{y:Cu}{cue:List UInt8}{R:List Rw}(h0:0≤w)(h1:w≤255)(h2:0≤c)(h3:c≤255)(hr:∀st,run Tryz.prog HH 20 [s.v] st=some (.ret (.bool true),st))(hi:i<s.lsts.length)(hw:w.tmod s.lsts.length=i)(hx:∀d,s.lsts.getD i d=x)
  (hxo:x.ok) (hlp:lstP x=0) (hj:j<x.cues.length) (hc:c.tmod x.cues.length=j) (hy:∀d,x.cues.getD j d=y) (hn:y.num=cue) (hcl:cue.length<140737488355328) (hp:plcE x cue=0)
  (hR1:∀q∈R,1≤q.1∧q.1≤999) (hR2:R.length<1000000) (hR3:∀p∈parS s,p.attr=0→sG (lvlM R []) p.chan=txtL (levQ s x (plcV x cue).toNat p)) {st:St} (hg:st.x.gl=glK v):run Tryz.prog (HW s x x.num cue (hdM::R.map Rw.row)) 7 [s.v,.int .u8 w,.int .u8 c] st=some (.ret (.bool true),st):=by
 obtain⟨p1,p2⟩:=plc_at hp
 have h20:=fun st=>upW (s:=s) (x:=x) (lst:=x.num) (cue:=cue) (tab:=hdM::R.map Rw.row) (hr st)
 have hA:=fun nx mem arr obj ty=>w10 (s:=s) (x:=x) (lst:=x.num) (cue:=cue) (tab:=hdM::R.map Rw.row) (st:=⟨nx,mem,arr,⟨obj,st.x.gl,ty⟩⟩) hg
 have hM:=fun nx mem arr obj ty=>w28 (s:=s) (x:=x) (lst:=x.num) (cue:=cue) (tab:=hdM::R.map Rw.row) (st:=⟨nx,mem,arr,⟨obj,st.x.gl,ty⟩⟩) hg
 have h29:=fun(st:St)=>upW1 (s:=s) (x:=x) (lst:=x.num) (cue:=cue) (tab:=hdM::R.map Rw.row) (q29 (f29 (s:=cue) (st:=st) hxo hlp hcl))
 have h30:=fun(st:St)=>upW1 (s:=s) (x:=x) (lst:=x.num) (cue:=cue) (tab:=hdM::R.map Rw.row) (q30 (s:=s) (x:=x) (st:=st))
 have hL0:=L7_0 (g:=st.x.gl) (s:=s) (x:=x) (lst:=x.num) (cue:=cue) (tab:=hdM::R.map Rw.row) (v3:=.ep s.v 0) (v11:=.sl ((entL x (plcV x cue).toNat).map entV)) (v13:=.sl ((parS s).map Prm.v)) sho_bd (by simp[V.bd,bdL_map',V.bdL]) prms_bd hR2 hR1 _ 0 rfl []
 have hL1:=L7_1 (g:=st.x.gl) (s:=s) (x:=x) (lst:=x.num) (cue:=cue) (tab:=hdM::R.map Rw.row) h hs hlp p2 hR3 _ 0 rfl
 rw[List.drop_zero]at hL0
 simp only[hp,if_true]at h29
 rw[hs]at h30
 have z1:¬(s.lsts.length:Int)=0:=by omega
 have z2:¬(x.cues.length:Int)=0:=by omega
 have w1:IntKind.i64.wrap w=w:=iwrap (by omega) (by omega)
 have w2:IntKind.i64.wrap (i:Int)=i:=iwrap (by omega) (by have:=h.k.1;omega)
 have w3:IntKind.i64.wrap c=c:=iwrap (by omega) (by omega)
 have w4:IntKind.i64.wrap (j:Int)=j:=iwrap (by omega) (by have:=hxo.a;omega)
 have i1:(i:Int)<s.lsts.length:=by omega
 have i2:(0:Int)≤i:=by omega
 have j1:(j:Int)<x.cues.length:=by omega
 have j2:(0:Int)≤j:=by omega
 have hz:¬(R.length:Int)+1=0:=by omega
 have ht:(R.map Rw.row).take R.length=R.map Rw.row:=List.take_of_length_le (by simp)
 generalize entL x (plcV x cue).toNat=lk at *
 generalize lvlM R []=M at *
 generalize parS s=ps at *
 rw[run_shut F7 rfl rfl (by simp)]
 push_cast[Sho.v,rowV,Lst.v,List.map_cons,List.map_nil,sE_nil]at h20 hM h29 h30 hL0 hL1
 push_cast[Sho.v,Lst.v,Cu.v,h20,hA,hM,h29,h30,hL0,hL1,z1,z2,w1,w2,w3,w4,hw,hc,i1,i2,j1,j2,hx,hy,hn,hz,ht,rowV,sE_nil,List.map_cons,List.map_nil,List.length_cons,List.length_nil,List.length_map]
 exact dn_eq ⟨by rw[List.all_eq_true];exact fun _ _=>rfl,by omega⟩ rfl
end Go.Proofs.YtanojbajfgcjeaaGreatDoor

namespace Go.Proofs.YtanojbajfgcjeaaGreatDoor
open Go.Sha Go.RowKit
open Go.Lib (below_grow)
set_option maxRecDepth 100000
theorem pred249 (w:World):PredAt Tryz.prog 249 #[] encR othR w:=fun W r _=>by
 unfold FnGives
 by_cases h1:r<48<;>by_cases h2:57<r
 all_goals
  have z1:(r:Int)<48↔r<48:=by omega
  have z2:(57:Int)<(r:Int)↔57<r:=by omega
  go_enter Tryz.func249,Tryz.ntmps249
  go_wp2
  all_goals first|(exfalso;omega)|(go_ret;exact⟨by simp[othR,h1,h2],0,rfl⟩)
theorem v168D (s:List UInt8)(st:St):VRet Tryz.prog 168 [.str s,.fn (.func 249) [] [],.bool true] st (.int .i64 (Lib.idxFunc othR true ⟨s.toArray⟩)) st:=by
 refine VRet_of_below callable168 (fun w A vs hw ha=>?_)
 obtain⟨hl,ha⟩:=ha
 match vs,hl with
 |[v0,v1,v2],_ =>
 have e0:=(ha 0 v0 _ rfl rfl).str_inv
 have r1:=ha 1 v1 _ rfl rfl
 have e2:=(ha 2 v2 _ rfl rfl).bool_inv
 have e1:v1=.func (.func 249) #[] #[]:=by
  cases r1 with
  |fn _ vs us _ _ e1 e2 _ _ =>
   have h1:vs=[]:=List.eq_nil_of_length_eq_zero e1
   have h2:us=[]:=List.eq_nil_of_length_eq_zero e2
   rw[h1,h2]
 subst e0;subst e1;subst e2
 refine(Tryz.strings_indexFunc 249 #[] (enters_of Tryz.func249 (by kernel_rfl) rfl) othR true ⟨s.toArray⟩ w (pred249 w)).mono fun e w' ⟨he,hb⟩=>?_
 subst he
 exact⟨_,rfl,fun w' A'=>.int _ _,hb⟩
theorem dig_from (s:ByteArray):∀(f pos:Nat),s.size≤pos+f→Lib.idxFuncFrom othR true s f pos=match(s.data.toList.drop pos).findIdx? (fun b=>!isD b) with|some i=>((pos+i:Nat):Int)|none=>-1
 |0,pos,h=>by
  rw[List.drop_eq_nil_of_le (by rw[Array.length_toList];exact h)];rfl
 |f+1,pos,h=>by
  unfold Lib.idxFuncFrom
  by_cases hp:pos<s.size
  ·have hp':pos<s.data.toList.length:=by rw[Array.length_toList];exact hp
   have hb:s.data.toList[pos]'hp'=s[pos]'hp:=rfl
   rw[if_pos hp,List.drop_eq_getElem_cons hp',List.findIdx?_cons,hb]
   by_cases ha:(s[pos]'hp).toNat<128
   ·rw[decode_ascii s pos hp ha]
    have ih:=dig_from s f (pos+1) (by omega)
    cases hd:isD (s[pos]'hp) with
    |true =>
     have:¬othR (s[pos]'hp).toNat=true:=by
      simp only[isD,Bool.and_eq_true,decide_eq_true_eq]at hd
      simp only[othR,Bool.or_eq_true,decide_eq_true_eq];omega
     rw[if_neg this,ih]
     simp only[Bool.not_true,Bool.false_eq_true,if_false]
     cases(s.data.toList.drop (pos+1)).findIdx? (fun b=>!isD b) with
     |none=>rfl
     |some i=>show((pos+1+i:Nat):Int)=((pos+(i+1):Nat):Int);rw[show pos+1+i=pos+(i+1) by omega]
    |false =>
     have:othR (s[pos]'hp).toNat=true:=by
      simp only[isD,Bool.and_eq_false_iff,decide_eq_false_iff_not]at hd
      simp only[othR,Bool.or_eq_true,decide_eq_true_eq];omega
     rw[if_pos this]
     simp
   ·obtain⟨h1,h2⟩:=decode_high s pos hp (by omega)
    have:othR (Utf8.decode s pos).1=true:=by
     simp only[othR,Bool.or_eq_true,decide_eq_true_eq];omega
    have hd:isD (s[pos]'hp)=false:=by
     simp only[isD,Bool.and_eq_false_iff,decide_eq_false_iff_not];omega
    rw[if_pos this,hd]
    simp
  ·rw[if_neg hp,List.drop_eq_nil_of_le (by rw[Array.length_toList];exact Nat.le_of_not_lt hp)];rfl
theorem dig_idx (s:List UInt8):Lib.idxFunc othR true ⟨s.toArray⟩=digI s:=by
 have:=dig_from ⟨s.toArray⟩ s.length 0 (by simp[ByteArray.size])
 have e:Lib.idxFunc othR true ⟨s.toArray⟩=Lib.idxFuncFrom othR true ⟨s.toArray⟩ s.length 0:=by simp[Lib.idxFunc,ByteArray.size]
 rw[e,this]
 unfold digI
 simp only[List.drop_zero]
 cases s.findIdx? (fun b=>!isD b) with
 |none=>rfl
 |some i=>simp
def q168D:List V→Option VRes
 |[.str s,.fn (.func 249) [] [],.bool true]=>some (.ret (.int .i64 (Lib.idxFunc othR true ⟨s.toArray⟩)))
 |_=>none
def HL2:EvF:=⟨[],fun f args st=>(bif Nat.beq f 168 then q168D args else none).map fun r=>(r,st)⟩
@[push_cast]theorem HL2_raw:HL2.raw=[]:=idq rfl
theorem HL2_ok:ESound Tryz.prog HL2:=fun f args st r s h=>by
 obtain⟨z,hz,e⟩:=Option.map_eq_some_iff.1 h
 cases e
 by_cases h3:f=168
 ·subst h3
  rw[show Nat.beq 168 168=true from rfl,cond_true]at hz
  unfold q168D at hz
  split at hz<;>cases hz
  exact v168D _ _
 rw[show Nat.beq f 168=false from Bool.eq_false_iff.2 fun e=>h3 (Nat.eq_of_beq_eq_true e),cond_false]at hz
 cases hz
theorem v96D {s:List UInt8}{st:St}:VRet Tryz.prog 96 [.str s,.fn (.func 249) [] []] st (.int .i64 (digI s)) st:=by
 have h:∀st,run Tryz.prog HL2 168 [.str s,.fn (.func 249) [] [],.bool true] st=some (.ret (.int .i64 (Lib.idxFunc othR true ⟨s.toArray⟩)),st):=fun st=>run_H rfl
 have h2:run Tryz.prog HL2 96 [.str s,.fn (.func 249) [] []] st=some (.ret (.int .i64 (digI s)),st):=by
  rw[run_shut F96 rfl rfl rfl]
  push_cast[h,dig_idx]
 exact run_sound mixed HL2_ok _ _ _ _ _ h2
theorem HE_ok:ESound Tryz.prog HE:=fun f args st r s h=>by
 simp only[HE]at h
 by_cases h1:f=96
 ·subst h1
  rw[show Nat.beq 96 96=true from rfl,cond_true]at h
  obtain⟨z,hz,e⟩:=Option.map_eq_some_iff.1 h
  cases e
  unfold hDig at hz
  split at hz
  ·cases hz;exact v96D
  ·cases hz
 rw[show Nat.beq f 96=false from Bool.eq_false_iff.2 fun e=>h1 (Nat.eq_of_beq_eq_true e),cond_false]at h
 cases hi:memL f memE with
 |true=>rw[hi]at h;exact run_sound mixed HH_ok _ _ _ _ _ h
 |false=>rw[hi]at h;cases h
theorem clos229 (x y:PB)(W:World):Calls Tryz.prog 229 #[.agg (encP x).toArray,.agg (encP y).toArray] W fun e w'=>e=.returned (.int .i64 (cmpB x y))∧∃q os',w'=Go.Sort.grow (W.drewN q) os':=by
 obtain⟨⟨a,b⟩,hx⟩:=x
 obtain⟨⟨c,d⟩,hy⟩:=y
 simp only at hx hy
 have w1:IntKind.i64.wrap (a-c)=a-c:=iwrap (by omega) (by omega)
 have w2:IntKind.i64.wrap (b-d)=b-d:=iwrap (by omega) (by omega)
 simp only[encP,cmpB]
 by_cases h:a=c
 ·rw[if_neg (by simp[h])]
  subst h
  go_enter Tryz.func229,Tryz.ntmps229
  go_wp2
  go_ret
  exact⟨rfl,0,_,by rw[Go.Sort.alloc_eq_grow,Go.Sort.alloc_eq_grow,Go.Sort.grow_grow];rfl⟩
 ·rw[if_pos h]
  go_enter Tryz.func229,Tryz.ntmps229
  go_wp2
  go_ret
  exact⟨rfl,0,_,by rw[Go.Sort.alloc_eq_grow,Go.Sort.alloc_eq_grow,Go.Sort.grow_grow];rfl⟩
theorem v81F {st:St}{id:Nat}{r:Arr}(hid:Sha.look st.arr id=some r)(hes:r.es=2)(hw:r.wr=true)(hbig:r.xs.length≤100000000)(hok:r.xs.all okPV=true) :
  VCalls Tryz.prog 81 [.osl id r.xs.length,.fn (.func 229) [] []] st fun x s=>x=.ret (.tup [])∧s=⟨st.nx,st.mem,updA st.arr id { r with xs:=r.xs.mergeSort leV },st.x⟩ :=
 v81g (enters_of Tryz.func229 (by kernel_rfl) rfl) clos229 hid hes hw hbig hok
theorem HSF_ok:ESound Tryz.prog HSF:=fun f args st r s h=>by
 simp only[HSF]at h
 by_cases h1:f=81
 ·subst h1
  rw[show Nat.beq 81 81=true from rfl,cond_true]at h
  unfold hSortF at h
  split at h
  ·rename_i id n
   unfold hSortA at h
   split at h
   ·rename_i r0 hr
    split at h
    ·rename_i hc
     cases h
     obtain⟨c1,c2,c3,c4,c5⟩:=hc
     subst c1
     exact v81F hr c3 c4 c2 c5
    ·cases h
   ·cases h
  ·cases h
 ·rw[show Nat.beq f 81=false from Bool.eq_false_iff.2 fun e=>h1 (Nat.eq_of_beq_eq_true e)]at h;cases h
end Go.Proofs.YtanojbajfgcjeaaGreatDoor

namespace Go.Proofs.YtanojbajfgcjeaaGreatDoor
open Go.Sha
set_option maxRecDepth 100000
variable {s:Sho}{x:Lst}{v:GV}
theorem rem_at {w:Int}{n:Nat}(h0:0≤w)(hn:0<n):∃i:Nat,w.tmod n=i∧i<n:=by
 refine⟨(w.tmod n).toNat,?_,?_⟩<;>rw[Int.tmod_eq_emod_of_nonneg h0]
 ·exact(Int.toNat_of_nonneg (Int.emod_nonneg _ (by omega))).symm
 ·have:=Int.emod_lt_of_pos w (show(0:Int)<n by omega)
  have:=Int.emod_nonneg w (show(n:Int)≠0 by omega)
  omega
theorem getD_at {α:Type}[Inhabited α]{l:List α}{i:Nat}(h:i<l.length):∀d,l.getD i d=l[i]:=fun d=>by
 rw[List.getD_eq_getElem?_getD,List.getElem?_eq_getElem h];rfl
theorem v7 (h:s.ok){w c:Int}(h0:0≤w)(h1:w≤255)(h2:0≤c)(h3:c≤255){st:St}(hg:st.x.gl=glK v):VRet Tryz.prog 7 [s.v,.int .u8 w,.int .u8 c] st (.bool true) st:=by
 have eA:ESound Tryz.prog HA:=HA_ok HK_ok
 have eD:ESound Tryz.prog HD:=HD_ok HH_ok HK_ok eA
 obtain⟨b,hb0,hb⟩:=f20' h
 cases b with
 |false=>exact run_sound mixed eD _ _ _ _ _ (l9a h hb hg)
 |true =>
  obtain⟨hs,-⟩:=hb0 rfl
  by_cases hl:s.lsts=[]
  ·exact run_sound mixed eD _ _ _ _ _ (l9b h hb hl hg)
  obtain⟨i,hi1,hi2⟩:=rem_at (w:=w) (n:=s.lsts.length) h0 (List.length_pos_iff.2 hl)
  have hx:=getD_at (l:=s.lsts) hi2
  have hxm:s.lsts[i]∈s.lsts:=List.getElem_mem hi2
  have hix:=ix_at (num:=Lst.num) (j:=0) (lsts_asc (shoC_parts hs).2.2.2.2.2.2.1) (List.getElem?_eq_getElem hi2)
  generalize s.lsts[i]=x at *
  have hlp:=(sho_parts hs).2.1 x hxm
  have hxo:=h.k.2 x hxm
  by_cases hc:x.cues=[]
  ·exact run_sound mixed eD _ _ _ _ _ (l9c h h0 h1 hb hi2 hi1 hx hc hg)
  obtain⟨j,hj1,hj2⟩:=rem_at (w:=c) (n:=x.cues.length) h2 (List.length_pos_iff.2 hc)
  have hy:=getD_at (l:=x.cues) hj2
  have hym:x.cues[j]∈x.cues:=List.getElem_mem hj2
  generalize x.cues[j]=y at *
  have hcl:=(hxo.b y hym).a
  have hp:plcE x y.num=0:=by
   have hge:0≤ix (fun z:Cu=>z.num == y.num) x.cues 0:=by
    rw[ix_ge,List.any_eq_true];exact⟨y,hym,by simp⟩
   rw[plcE,if_neg (by simpa using hlp),if_neg (by simpa using(lst_parts hlp).2.2.2 y hym),if_neg (by omega)]
  obtain⟨p1,p2⟩:=plc_at hp
  obtain⟨R,r1,r2,r3,r4⟩:=sheet_ok (ps:=parS s) (wrd:=fun p=>wrdA p.attr.toNat) (txt:=fun p=>txtL (levQ s x (plcV x y.num).toNat p)) (fun p hp=>by have:=par_prm hs hp;omega) (by rw[parS,if_pos hs];exact parP_ok.1)
  have hpl:(parS s).length≤20000:=by have:=keyP_len hs;rwa [parS,if_pos hs,parP,List.length_mergeSort]
  have eF:ESound Tryz.prog (HF x):=HF_ok HH_ok HSF_ok hlp
  have eQ:ESound Tryz.prog (HQ s x):=HQ_ok HH_ok eF HE_ok HK_ok h
  have eW:ESound Tryz.prog (HW s x x.num y.num (hdM::R.map Rw.row)):=HW_ok HH_ok eA HE_ok eQ (fun v st hv=>by
   have:=v28 eQ (st:=st) (magQ (g:=st.x.gl) h hs (lst:=x.num) (i:=i) (by simpa using hix) hi2 hx hxo hlp hcl hp) (by rw[hv];exact parQ h hs hlp p2) (by omega)
   rw[r1]at this
   exact this)
  exact run_sound mixed eW _ _ _ _ _ (l9d h hs h0 h1 h2 h3 hb hi2 hi1 hx hxo hlp hj2 hj1 hy rfl hcl hp (fun q hq=>by
   obtain⟨p,hp,e⟩:=r2 q hq
   have:=par_prm hs hp
   omega) (by omega) r4 hg)
end Go.Proofs.YtanojbajfgcjeaaGreatDoor

namespace Go.Proofs.YtanojbajfgcjeaaGreatDoor
open Go.Sha
def Pt.sh:List CSh:=[.int .i64,.int .i64]
structure Pt.Dk (z:Pt):Prop where
 x:-9223372036854775808≤z.x∧z.x≤9223372036854775807
 y:-9223372036854775808≤z.y∧z.y≤9223372036854775807
theorem Pt.rd {vs:List V}(h:OkCs Pt.sh vs):∃x:Pt,V.agg vs=x.v∧x.Dk:=by
 obtain⟨v0,r0,rfl,h0,t0⟩:=h.cons_inv
 obtain⟨v1,r1,rfl,h1,t1⟩:=t0.cons_inv
 obtain rfl:=t1.nil_inv
 obtain⟨y0,rfl,b0⟩:=h0.i64_inv
 obtain⟨y1,rfl,b1⟩:=h1.i64_inv
 exact⟨⟨y0,y1⟩,rfl,⟨b0,b1⟩⟩
def Slt.sh:List CSh:=[.str,.int .i64,.int .i64]
structure Slt.Dk (z:Slt):Prop where
 name:z.name.length≤140737488351232
 fr:-9223372036854775808≤z.fr∧z.fr≤9223372036854775807
 to_:-9223372036854775808≤z.to_∧z.to_≤9223372036854775807
theorem Slt.rd {vs:List V}(h:OkCs Slt.sh vs):∃x:Slt,V.agg vs=x.v∧x.Dk:=by
 obtain⟨v0,r0,rfl,h0,t0⟩:=h.cons_inv
 obtain⟨v1,r1,rfl,h1,t1⟩:=t0.cons_inv
 obtain⟨v2,r2,rfl,h2,t2⟩:=t1.cons_inv
 obtain rfl:=t2.nil_inv
 obtain⟨y0,rfl,b0⟩:=h0.str_inv
 obtain⟨y1,rfl,b1⟩:=h1.i64_inv
 obtain⟨y2,rfl,b2⟩:=h2.i64_inv
 exact⟨⟨y0,y1,y2⟩,rfl,⟨b0,b1,b2⟩⟩
def Ftr.sh:List CSh:=[.int .i64,.int .i64,.int .i64,.int .i64,.int .i64,.int .i64,.int .i64,.int .i64,.bool,.sl true 32 Slt.sh]
structure Ftr.Dk (z:Ftr):Prop where
 attr:-9223372036854775808≤z.attr∧z.attr≤9223372036854775807
 bits:-9223372036854775808≤z.bits∧z.bits≤9223372036854775807
 coarse:-9223372036854775808≤z.coarse∧z.coarse≤9223372036854775807
 fine:-9223372036854775808≤z.fine∧z.fine≤9223372036854775807
 curve:-9223372036854775808≤z.curve∧z.curve≤9223372036854775807
 home:-9223372036854775808≤z.home∧z.home≤9223372036854775807
 low:-9223372036854775808≤z.low∧z.low≤9223372036854775807
 high:-9223372036854775808≤z.high∧z.high≤9223372036854775807
 snap:True
 wheel:z.wheel.length≤140737488351232∧∀q∈z.wheel,q.Dk
theorem Ftr.rd {vs:List V}(h:OkCs Ftr.sh vs):∃x:Ftr,V.agg vs=x.v∧x.Dk:=by
 obtain⟨v0,r0,rfl,h0,t0⟩:=h.cons_inv
 obtain⟨v1,r1,rfl,h1,t1⟩:=t0.cons_inv
 obtain⟨v2,r2,rfl,h2,t2⟩:=t1.cons_inv
 obtain⟨v3,r3,rfl,h3,t3⟩:=t2.cons_inv
 obtain⟨v4,r4,rfl,h4,t4⟩:=t3.cons_inv
 obtain⟨v5,r5,rfl,h5,t5⟩:=t4.cons_inv
 obtain⟨v6,r6,rfl,h6,t6⟩:=t5.cons_inv
 obtain⟨v7,r7,rfl,h7,t7⟩:=t6.cons_inv
 obtain⟨v8,r8,rfl,h8,t8⟩:=t7.cons_inv
 obtain⟨v9,r9,rfl,h9,t9⟩:=t8.cons_inv
 obtain rfl:=t9.nil_inv
 obtain⟨y0,rfl,b0⟩:=h0.i64_inv
 obtain⟨y1,rfl,b1⟩:=h1.i64_inv
 obtain⟨y2,rfl,b2⟩:=h2.i64_inv
 obtain⟨y3,rfl,b3⟩:=h3.i64_inv
 obtain⟨y4,rfl,b4⟩:=h4.i64_inv
 obtain⟨y5,rfl,b5⟩:=h5.i64_inv
 obtain⟨y6,rfl,b6⟩:=h6.i64_inv
 obtain⟨y7,rfl,b7⟩:=h7.i64_inv
 obtain⟨y8,rfl⟩:=h8.bool_inv
 have b8:=trivial
 obtain⟨y9,rfl,b9⟩:=h9.agg_inv (f:=Slt.v) (by decide) (fun _=>Slt.rd)
 exact⟨⟨y0,y1,y2,y3,y4,y5,y6,y7,y8,y9⟩,rfl,⟨b0,b1,b2,b3,b4,b5,b6,b7,b8,b9⟩⟩
def Prof.sh:List CSh:=[.str,.int .i64,.int .i64,.sl true 96 Ftr.sh]
structure Prof.Dk (z:Prof):Prop where
 name:z.name.length≤140737488351232
 foot:-9223372036854775808≤z.foot∧z.foot≤9223372036854775807
 watts:-9223372036854775808≤z.watts∧z.watts≤9223372036854775807
 feats:z.feats.length≤140737488351232∧∀q∈z.feats,q.Dk
theorem Prof.rd {vs:List V}(h:OkCs Prof.sh vs):∃x:Prof,V.agg vs=x.v∧x.Dk:=by
 obtain⟨v0,r0,rfl,h0,t0⟩:=h.cons_inv
 obtain⟨v1,r1,rfl,h1,t1⟩:=t0.cons_inv
 obtain⟨v2,r2,rfl,h2,t2⟩:=t1.cons_inv
 obtain⟨v3,r3,rfl,h3,t3⟩:=t2.cons_inv
 obtain rfl:=t3.nil_inv
 obtain⟨y0,rfl,b0⟩:=h0.str_inv
 obtain⟨y1,rfl,b1⟩:=h1.i64_inv
 obtain⟨y2,rfl,b2⟩:=h2.i64_inv
 obtain⟨y3,rfl,b3⟩:=h3.agg_inv (f:=Ftr.v) (by decide) (fun _=>Ftr.rd)
 exact⟨⟨y0,y1,y2,y3⟩,rfl,⟨b0,b1,b2,b3⟩⟩
def Fixt.sh:List CSh:=[.int .i64,.int .i64,.str,.int .i64,.int .i64,.int .i64,.str]
structure Fixt.Dk (z:Fixt):Prop where
 chan:-9223372036854775808≤z.chan∧z.chan≤9223372036854775807
 part:-9223372036854775808≤z.part∧z.part≤9223372036854775807
 prof:z.prof.length≤140737488351232
 univ:-9223372036854775808≤z.univ∧z.univ≤9223372036854775807
 addr:-9223372036854775808≤z.addr∧z.addr≤9223372036854775807
 phase:-9223372036854775808≤z.phase∧z.phase≤9223372036854775807
 cable:z.cable.length≤140737488351232
theorem Fixt.rd {vs:List V}(h:OkCs Fixt.sh vs):∃x:Fixt,V.agg vs=x.v∧x.Dk:=by
 obtain⟨v0,r0,rfl,h0,t0⟩:=h.cons_inv
 obtain⟨v1,r1,rfl,h1,t1⟩:=t0.cons_inv
 obtain⟨v2,r2,rfl,h2,t2⟩:=t1.cons_inv
 obtain⟨v3,r3,rfl,h3,t3⟩:=t2.cons_inv
 obtain⟨v4,r4,rfl,h4,t4⟩:=t3.cons_inv
 obtain⟨v5,r5,rfl,h5,t5⟩:=t4.cons_inv
 obtain⟨v6,r6,rfl,h6,t6⟩:=t5.cons_inv
 obtain rfl:=t6.nil_inv
 obtain⟨y0,rfl,b0⟩:=h0.i64_inv
 obtain⟨y1,rfl,b1⟩:=h1.i64_inv
 obtain⟨y2,rfl,b2⟩:=h2.str_inv
 obtain⟨y3,rfl,b3⟩:=h3.i64_inv
 obtain⟨y4,rfl,b4⟩:=h4.i64_inv
 obtain⟨y5,rfl,b5⟩:=h5.i64_inv
 obtain⟨y6,rfl,b6⟩:=h6.str_inv
 exact⟨⟨y0,y1,y2,y3,y4,y5,y6⟩,rfl,⟨b0,b1,b2,b3,b4,b5,b6⟩⟩
def Prm.sh:List CSh:=[.int .i64,.int .i64]
structure Prm.Dk (z:Prm):Prop where
 chan:-9223372036854775808≤z.chan∧z.chan≤9223372036854775807
 attr:-9223372036854775808≤z.attr∧z.attr≤9223372036854775807
theorem Prm.rd {vs:List V}(h:OkCs Prm.sh vs):∃x:Prm,V.agg vs=x.v∧x.Dk:=by
 obtain⟨v0,r0,rfl,h0,t0⟩:=h.cons_inv
 obtain⟨v1,r1,rfl,h1,t1⟩:=t0.cons_inv
 obtain rfl:=t1.nil_inv
 obtain⟨y0,rfl,b0⟩:=h0.i64_inv
 obtain⟨y1,rfl,b1⟩:=h1.i64_inv
 exact⟨⟨y0,y1⟩,rfl,⟨b0,b1⟩⟩
def Val.sh:List CSh:=[.int .i64,.int .i64]
structure Val.Dk (z:Val):Prop where
 pal:-9223372036854775808≤z.pal∧z.pal≤9223372036854775807
 lev:-9223372036854775808≤z.lev∧z.lev≤9223372036854775807
theorem Val.rd {vs:List V}(h:OkCs Val.sh vs):∃x:Val,V.agg vs=x.v∧x.Dk:=by
 obtain⟨v0,r0,rfl,h0,t0⟩:=h.cons_inv
 obtain⟨v1,r1,rfl,h1,t1⟩:=t0.cons_inv
 obtain rfl:=t1.nil_inv
 obtain⟨y0,rfl,b0⟩:=h0.i64_inv
 obtain⟨y1,rfl,b1⟩:=h1.i64_inv
 exact⟨⟨y0,y1⟩,rfl,⟨b0,b1⟩⟩
def Grp.sh:List CSh:=[.int .i64,.sl false 8 [.int .i64]]
structure Grp.Dk (z:Grp):Prop where
 num:-9223372036854775808≤z.num∧z.num≤9223372036854775807
 chans:z.chans.length≤140737488351232∧∀q∈z.chans,-9223372036854775808≤q∧q≤9223372036854775807
theorem Grp.rd {vs:List V}(h:OkCs Grp.sh vs):∃x:Grp,V.agg vs=x.v∧x.Dk:=by
 obtain⟨v0,r0,rfl,h0,t0⟩:=h.cons_inv
 obtain⟨v1,r1,rfl,h1,t1⟩:=t0.cons_inv
 obtain rfl:=t1.nil_inv
 obtain⟨y0,rfl,b0⟩:=h0.i64_inv
 obtain⟨y1,rfl,b1⟩:=h1.one_inv (f:=V.int .i64) (by decide) (fun v h=>h.i64_inv)
 exact⟨⟨y0,y1⟩,rfl,⟨b0,b1⟩⟩
def Hue.sh:List CSh:=[.int .i64,.int .i64,.int .i64]
structure Hue.Dk (z:Hue):Prop where
 chan:-9223372036854775808≤z.chan∧z.chan≤9223372036854775807
 attr:-9223372036854775808≤z.attr∧z.attr≤9223372036854775807
 lev:-9223372036854775808≤z.lev∧z.lev≤9223372036854775807
theorem Hue.rd {vs:List V}(h:OkCs Hue.sh vs):∃x:Hue,V.agg vs=x.v∧x.Dk:=by
 obtain⟨v0,r0,rfl,h0,t0⟩:=h.cons_inv
 obtain⟨v1,r1,rfl,h1,t1⟩:=t0.cons_inv
 obtain⟨v2,r2,rfl,h2,t2⟩:=t1.cons_inv
 obtain rfl:=t2.nil_inv
 obtain⟨y0,rfl,b0⟩:=h0.i64_inv
 obtain⟨y1,rfl,b1⟩:=h1.i64_inv
 obtain⟨y2,rfl,b2⟩:=h2.i64_inv
 exact⟨⟨y0,y1,y2⟩,rfl,⟨b0,b1,b2⟩⟩
def Pal.sh:List CSh:=[.int .i64,.sl true 24 Hue.sh]
structure Pal.Dk (z:Pal):Prop where
 num:-9223372036854775808≤z.num∧z.num≤9223372036854775807
 hues:z.hues.length≤140737488351232∧∀q∈z.hues,q.Dk
theorem Pal.rd {vs:List V}(h:OkCs Pal.sh vs):∃x:Pal,V.agg vs=x.v∧x.Dk:=by
 obtain⟨v0,r0,rfl,h0,t0⟩:=h.cons_inv
 obtain⟨v1,r1,rfl,h1,t1⟩:=t0.cons_inv
 obtain rfl:=t1.nil_inv
 obtain⟨y0,rfl,b0⟩:=h0.i64_inv
 obtain⟨y1,rfl,b1⟩:=h1.agg_inv (f:=Hue.v) (by decide) (fun _=>Hue.rd)
 exact⟨⟨y0,y1⟩,rfl,⟨b0,b1⟩⟩
def Tim.sh:List CSh:=[.int .i64,.int .i64,.int .i64,.int .i64,.int .i64,.int .i64]
structure Tim.Dk (z:Tim):Prop where
 up:-9223372036854775808≤z.up∧z.up≤9223372036854775807
 down:-9223372036854775808≤z.down∧z.down≤9223372036854775807
 posi:-9223372036854775808≤z.posi∧z.posi≤9223372036854775807
 colour:-9223372036854775808≤z.colour∧z.colour≤9223372036854775807
 beam:-9223372036854775808≤z.beam∧z.beam≤9223372036854775807
 delay:-9223372036854775808≤z.delay∧z.delay≤9223372036854775807
theorem Tim.rd {vs:List V}(h:OkCs Tim.sh vs):∃x:Tim,V.agg vs=x.v∧x.Dk:=by
 obtain⟨v0,r0,rfl,h0,t0⟩:=h.cons_inv
 obtain⟨v1,r1,rfl,h1,t1⟩:=t0.cons_inv
 obtain⟨v2,r2,rfl,h2,t2⟩:=t1.cons_inv
 obtain⟨v3,r3,rfl,h3,t3⟩:=t2.cons_inv
 obtain⟨v4,r4,rfl,h4,t4⟩:=t3.cons_inv
 obtain⟨v5,r5,rfl,h5,t5⟩:=t4.cons_inv
 obtain rfl:=t5.nil_inv
 obtain⟨y0,rfl,b0⟩:=h0.i64_inv
 obtain⟨y1,rfl,b1⟩:=h1.i64_inv
 obtain⟨y2,rfl,b2⟩:=h2.i64_inv
 obtain⟨y3,rfl,b3⟩:=h3.i64_inv
 obtain⟨y4,rfl,b4⟩:=h4.i64_inv
 obtain⟨y5,rfl,b5⟩:=h5.i64_inv
 exact⟨⟨y0,y1,y2,y3,y4,y5⟩,rfl,⟨b0,b1,b2,b3,b4,b5⟩⟩
def Mov.sh:List CSh:=[.int .i64,.int .i64,.int .i64,.int .i64,.int .i64]
structure Mov.Dk (z:Mov):Prop where
 prm:z.prm.Dk
 val:z.val.Dk
 part:-9223372036854775808≤z.part∧z.part≤9223372036854775807
theorem Mov.rd {vs:List V}(h:OkCs Mov.sh vs):∃x:Mov,V.agg vs=x.v∧x.Dk:=by
 obtain⟨v0,r0,rfl,h0,t0⟩:=h.cons_inv
 obtain⟨v1,r1,rfl,h1,t1⟩:=t0.cons_inv
 obtain⟨v2,r2,rfl,h2,t2⟩:=t1.cons_inv
 obtain⟨v3,r3,rfl,h3,t3⟩:=t2.cons_inv
 obtain⟨v4,r4,rfl,h4,t4⟩:=t3.cons_inv
 obtain rfl:=t4.nil_inv
 obtain⟨y0,rfl,b0⟩:=h0.i64_inv
 obtain⟨y1,rfl,b1⟩:=h1.i64_inv
 obtain⟨y2,rfl,b2⟩:=h2.i64_inv
 obtain⟨y3,rfl,b3⟩:=h3.i64_inv
 obtain⟨y4,rfl,b4⟩:=h4.i64_inv
 exact⟨⟨⟨y0,y1⟩,⟨y2,y3⟩,y4⟩,rfl,⟨⟨b0,b1⟩,⟨b2,b3⟩,b4⟩⟩
def Cu.sh:List CSh:=[.str,.str,.sl true 40 Mov.sh,.sl true 48 Tim.sh,.bool,.bool,.int .i64,.str,.int .i64]
structure Cu.Dk (z:Cu):Prop where
 num:z.num.length≤140737488351232
 label:z.label.length≤140737488351232
 moves:z.moves.length≤140737488351232∧∀q∈z.moves,q.Dk
 parts:z.parts.length≤140737488351232∧∀q∈z.parts,q.Dk
 block:True
 mark:True
 follow:-9223372036854775808≤z.follow∧z.follow≤9223372036854775807
 link:z.link.length≤140737488351232
 loops:-9223372036854775808≤z.loops∧z.loops≤9223372036854775807
theorem Cu.rd {vs:List V}(h:OkCs Cu.sh vs):∃x:Cu,V.agg vs=x.v∧x.Dk:=by
 obtain⟨v0,r0,rfl,h0,t0⟩:=h.cons_inv
 obtain⟨v1,r1,rfl,h1,t1⟩:=t0.cons_inv
 obtain⟨v2,r2,rfl,h2,t2⟩:=t1.cons_inv
 obtain⟨v3,r3,rfl,h3,t3⟩:=t2.cons_inv
 obtain⟨v4,r4,rfl,h4,t4⟩:=t3.cons_inv
 obtain⟨v5,r5,rfl,h5,t5⟩:=t4.cons_inv
 obtain⟨v6,r6,rfl,h6,t6⟩:=t5.cons_inv
 obtain⟨v7,r7,rfl,h7,t7⟩:=t6.cons_inv
 obtain⟨v8,r8,rfl,h8,t8⟩:=t7.cons_inv
 obtain rfl:=t8.nil_inv
 obtain⟨y0,rfl,b0⟩:=h0.str_inv
 obtain⟨y1,rfl,b1⟩:=h1.str_inv
 obtain⟨y2,rfl,b2⟩:=h2.agg_inv (f:=Mov.v) (by decide) (fun _=>Mov.rd)
 obtain⟨y3,rfl,b3⟩:=h3.agg_inv (f:=Tim.v) (by decide) (fun _=>Tim.rd)
 obtain⟨y4,rfl⟩:=h4.bool_inv
 have b4:=trivial
 obtain⟨y5,rfl⟩:=h5.bool_inv
 have b5:=trivial
 obtain⟨y6,rfl,b6⟩:=h6.i64_inv
 obtain⟨y7,rfl,b7⟩:=h7.str_inv
 obtain⟨y8,rfl,b8⟩:=h8.i64_inv
 exact⟨⟨y0,y1,y2,y3,y4,y5,y6,y7,y8⟩,rfl,⟨b0,b1,b2,b3,b4,b5,b6,b7,b8⟩⟩
def Lst.sh:List CSh:=[.int .i64,.int .i64,.sl true 120 Cu.sh]
structure Lst.Dk (z:Lst):Prop where
 num:-9223372036854775808≤z.num∧z.num≤9223372036854775807
 prio:-9223372036854775808≤z.prio∧z.prio≤9223372036854775807
 cues:z.cues.length≤140737488351232∧∀q∈z.cues,q.Dk
theorem Lst.rd {vs:List V}(h:OkCs Lst.sh vs):∃x:Lst,V.agg vs=x.v∧x.Dk:=by
 obtain⟨v0,r0,rfl,h0,t0⟩:=h.cons_inv
 obtain⟨v1,r1,rfl,h1,t1⟩:=t0.cons_inv
 obtain⟨v2,r2,rfl,h2,t2⟩:=t1.cons_inv
 obtain rfl:=t2.nil_inv
 obtain⟨y0,rfl,b0⟩:=h0.i64_inv
 obtain⟨y1,rfl,b1⟩:=h1.i64_inv
 obtain⟨y2,rfl,b2⟩:=h2.agg_inv (f:=Cu.v) (by decide) (fun _=>Cu.rd)
 exact⟨⟨y0,y1,y2⟩,rfl,⟨b0,b1,b2⟩⟩
def Gan.sh:List CSh:=[.int .i64,.int .i64,.int .i64]
structure Gan.Dk (z:Gan):Prop where
 prm:z.prm.Dk
 lev:-9223372036854775808≤z.lev∧z.lev≤9223372036854775807
theorem Gan.rd {vs:List V}(h:OkCs Gan.sh vs):∃x:Gan,V.agg vs=x.v∧x.Dk:=by
 obtain⟨v0,r0,rfl,h0,t0⟩:=h.cons_inv
 obtain⟨v1,r1,rfl,h1,t1⟩:=t0.cons_inv
 obtain⟨v2,r2,rfl,h2,t2⟩:=t1.cons_inv
 obtain rfl:=t2.nil_inv
 obtain⟨y0,rfl,b0⟩:=h0.i64_inv
 obtain⟨y1,rfl,b1⟩:=h1.i64_inv
 obtain⟨y2,rfl,b2⟩:=h2.i64_inv
 exact⟨⟨⟨y0,y1⟩,y2⟩,rfl,⟨⟨b0,b1⟩,b2⟩⟩
def Sb.sh:List CSh:=[.int .i64,.int .i64,.bool,.sl true 24 Gan.sh]
structure Sb.Dk (z:Sb):Prop where
 num:-9223372036854775808≤z.num∧z.num≤9223372036854775807
 prio:-9223372036854775808≤z.prio∧z.prio≤9223372036854775807
 inh:True
 gains:z.gains.length≤140737488351232∧∀q∈z.gains,q.Dk
theorem Sb.rd {vs:List V}(h:OkCs Sb.sh vs):∃x:Sb,V.agg vs=x.v∧x.Dk:=by
 obtain⟨v0,r0,rfl,h0,t0⟩:=h.cons_inv
 obtain⟨v1,r1,rfl,h1,t1⟩:=t0.cons_inv
 obtain⟨v2,r2,rfl,h2,t2⟩:=t1.cons_inv
 obtain⟨v3,r3,rfl,h3,t3⟩:=t2.cons_inv
 obtain rfl:=t3.nil_inv
 obtain⟨y0,rfl,b0⟩:=h0.i64_inv
 obtain⟨y1,rfl,b1⟩:=h1.i64_inv
 obtain⟨y2,rfl⟩:=h2.bool_inv
 have b2:=trivial
 obtain⟨y3,rfl,b3⟩:=h3.agg_inv (f:=Gan.v) (by decide) (fun _=>Gan.rd)
 exact⟨⟨y0,y1,y2,y3⟩,rfl,⟨b0,b1,b2,b3⟩⟩
def Eff.sh:List CSh:=[.int .i64,.int .i64,.sl true 16 Pt.sh,.int .i64,.int .i64,.int .i64]
structure Eff.Dk (z:Eff):Prop where
 num:-9223372036854775808≤z.num∧z.num≤9223372036854775807
 attr:-9223372036854775808≤z.attr∧z.attr≤9223372036854775807
 wave:z.wave.length≤140737488351232∧∀q∈z.wave,q.Dk
 period:-9223372036854775808≤z.period∧z.period≤9223372036854775807
 spread:-9223372036854775808≤z.spread∧z.spread≤9223372036854775807
 size:-9223372036854775808≤z.size∧z.size≤9223372036854775807
theorem Eff.rd {vs:List V}(h:OkCs Eff.sh vs):∃x:Eff,V.agg vs=x.v∧x.Dk:=by
 obtain⟨v0,r0,rfl,h0,t0⟩:=h.cons_inv
 obtain⟨v1,r1,rfl,h1,t1⟩:=t0.cons_inv
 obtain⟨v2,r2,rfl,h2,t2⟩:=t1.cons_inv
 obtain⟨v3,r3,rfl,h3,t3⟩:=t2.cons_inv
 obtain⟨v4,r4,rfl,h4,t4⟩:=t3.cons_inv
 obtain⟨v5,r5,rfl,h5,t5⟩:=t4.cons_inv
 obtain rfl:=t5.nil_inv
 obtain⟨y0,rfl,b0⟩:=h0.i64_inv
 obtain⟨y1,rfl,b1⟩:=h1.i64_inv
 obtain⟨y2,rfl,b2⟩:=h2.agg_inv (f:=Pt.v) (by decide) (fun _=>Pt.rd)
 obtain⟨y3,rfl,b3⟩:=h3.i64_inv
 obtain⟨y4,rfl,b4⟩:=h4.i64_inv
 obtain⟨y5,rfl,b5⟩:=h5.i64_inv
 exact⟨⟨y0,y1,y2,y3,y4,y5⟩,rfl,⟨b0,b1,b2,b3,b4,b5⟩⟩
def Sho.sh:List CSh:=[.str,.sl false 24 [.sl true 16 Pt.sh],.sl true 56 Prof.sh,.sl true 72 Fixt.sh,.sl true 32 Grp.sh,.sl true 32 Pal.sh,.sl true 40 Lst.sh,.sl true 48 Sb.sh,.sl true 64 Eff.sh]
structure Sho.Dk (z:Sho):Prop where
 title:z.title.length≤140737488351232
 curves:z.curves.length≤140737488351232∧∀l∈z.curves,l.length≤140737488351232∧∀q∈l,q.Dk
 profs:z.profs.length≤140737488351232∧∀q∈z.profs,q.Dk
 fixts:z.fixts.length≤140737488351232∧∀q∈z.fixts,q.Dk
 grps:z.grps.length≤140737488351232∧∀q∈z.grps,q.Dk
 pals:z.pals.length≤140737488351232∧∀q∈z.pals,q.Dk
 lsts:z.lsts.length≤140737488351232∧∀q∈z.lsts,q.Dk
 subs:z.subs.length≤140737488351232∧∀q∈z.subs,q.Dk
 effs:z.effs.length≤140737488351232∧∀q∈z.effs,q.Dk
theorem Sho.rd {vs:List V}(h:OkCs Sho.sh vs):∃x:Sho,V.agg vs=x.v∧x.Dk:=by
 obtain⟨v0,r0,rfl,h0,t0⟩:=h.cons_inv
 obtain⟨v1,r1,rfl,h1,t1⟩:=t0.cons_inv
 obtain⟨v2,r2,rfl,h2,t2⟩:=t1.cons_inv
 obtain⟨v3,r3,rfl,h3,t3⟩:=t2.cons_inv
 obtain⟨v4,r4,rfl,h4,t4⟩:=t3.cons_inv
 obtain⟨v5,r5,rfl,h5,t5⟩:=t4.cons_inv
 obtain⟨v6,r6,rfl,h6,t6⟩:=t5.cons_inv
 obtain⟨v7,r7,rfl,h7,t7⟩:=t6.cons_inv
 obtain⟨v8,r8,rfl,h8,t8⟩:=t7.cons_inv
 obtain rfl:=t8.nil_inv
 obtain⟨y0,rfl,b0⟩:=h0.str_inv
 obtain⟨y1,rfl,b1⟩:=h1.one_inv (f:=Pt.vs) (by decide) (fun v h=>h.agg_inv (f:=Pt.v) (by decide) (fun _=>Pt.rd))
 obtain⟨y2,rfl,b2⟩:=h2.agg_inv (f:=Prof.v) (by decide) (fun _=>Prof.rd)
 obtain⟨y3,rfl,b3⟩:=h3.agg_inv (f:=Fixt.v) (by decide) (fun _=>Fixt.rd)
 obtain⟨y4,rfl,b4⟩:=h4.agg_inv (f:=Grp.v) (by decide) (fun _=>Grp.rd)
 obtain⟨y5,rfl,b5⟩:=h5.agg_inv (f:=Pal.v) (by decide) (fun _=>Pal.rd)
 obtain⟨y6,rfl,b6⟩:=h6.agg_inv (f:=Lst.v) (by decide) (fun _=>Lst.rd)
 obtain⟨y7,rfl,b7⟩:=h7.agg_inv (f:=Sb.v) (by decide) (fun _=>Sb.rd)
 obtain⟨y8,rfl,b8⟩:=h8.agg_inv (f:=Eff.v) (by decide) (fun _=>Eff.rd)
 exact⟨⟨y0,y1,y2,y3,y4,y5,y6,y7,y8⟩,rfl,⟨b0,b1,b2,b3,b4,b5,b6,b7,b8⟩⟩
theorem Pt.inj {x y:Pt}(h:x.v=y.v):x=y:=by
 obtain⟨x0,x1⟩:=x;obtain⟨y0,y1⟩:=y
 simp only[Pt.v,V.agg.injEq,List.cons.injEq,V.int.injEq,V.str.injEq,V.bool.injEq,V.sl.injEq,true_and,and_true]at h
 obtain⟨h0,h1⟩:=h
 cases h0
 cases h1
 rfl
theorem Slt.inj {x y:Slt}(h:x.v=y.v):x=y:=by
 obtain⟨x0,x1,x2⟩:=x;obtain⟨y0,y1,y2⟩:=y
 simp only[Slt.v,V.agg.injEq,List.cons.injEq,V.int.injEq,V.str.injEq,V.bool.injEq,V.sl.injEq,true_and,and_true]at h
 obtain⟨h0,h1,h2⟩:=h
 cases h0
 cases h1
 cases h2
 rfl
theorem Ftr.inj {x y:Ftr}(h:x.v=y.v):x=y:=by
 obtain⟨x0,x1,x2,x3,x4,x5,x6,x7,x8,x9⟩:=x;obtain⟨y0,y1,y2,y3,y4,y5,y6,y7,y8,y9⟩:=y
 simp only[Ftr.v,V.agg.injEq,List.cons.injEq,V.int.injEq,V.str.injEq,V.bool.injEq,V.sl.injEq,true_and,and_true]at h
 obtain⟨h0,h1,h2,h3,h4,h5,h6,h7,h8,h9⟩:=h
 cases h0
 cases h1
 cases h2
 cases h3
 cases h4
 cases h5
 cases h6
 cases h7
 cases h8
 cases map_inj Slt.inj h9
 rfl
theorem Prof.inj {x y:Prof}(h:x.v=y.v):x=y:=by
 obtain⟨x0,x1,x2,x3⟩:=x;obtain⟨y0,y1,y2,y3⟩:=y
 simp only[Prof.v,V.agg.injEq,List.cons.injEq,V.int.injEq,V.str.injEq,V.bool.injEq,V.sl.injEq,true_and,and_true]at h
 obtain⟨h0,h1,h2,h3⟩:=h
 cases h0
 cases h1
 cases h2
 cases map_inj Ftr.inj h3
 rfl
theorem Fixt.inj {x y:Fixt}(h:x.v=y.v):x=y:=by
 obtain⟨x0,x1,x2,x3,x4,x5,x6⟩:=x;obtain⟨y0,y1,y2,y3,y4,y5,y6⟩:=y
 simp only[Fixt.v,V.agg.injEq,List.cons.injEq,V.int.injEq,V.str.injEq,V.bool.injEq,V.sl.injEq,true_and,and_true]at h
 obtain⟨h0,h1,h2,h3,h4,h5,h6⟩:=h
 cases h0
 cases h1
 cases h2
 cases h3
 cases h4
 cases h5
 cases h6
 rfl
theorem Prm.inj {x y:Prm}(h:x.v=y.v):x=y:=by
 obtain⟨x0,x1⟩:=x;obtain⟨y0,y1⟩:=y
 simp only[Prm.v,V.agg.injEq,List.cons.injEq,V.int.injEq,V.str.injEq,V.bool.injEq,V.sl.injEq,true_and,and_true]at h
 obtain⟨h0,h1⟩:=h
 cases h0
 cases h1
 rfl
theorem Val.inj {x y:Val}(h:x.v=y.v):x=y:=by
 obtain⟨x0,x1⟩:=x;obtain⟨y0,y1⟩:=y
 simp only[Val.v,V.agg.injEq,List.cons.injEq,V.int.injEq,V.str.injEq,V.bool.injEq,V.sl.injEq,true_and,and_true]at h
 obtain⟨h0,h1⟩:=h
 cases h0
 cases h1
 rfl
theorem Grp.inj {x y:Grp}(h:x.v=y.v):x=y:=by
 obtain⟨x0,x1⟩:=x;obtain⟨y0,y1⟩:=y
 simp only[Grp.v,V.agg.injEq,List.cons.injEq,V.int.injEq,V.str.injEq,V.bool.injEq,V.sl.injEq,true_and,and_true]at h
 obtain⟨h0,h1⟩:=h
 cases h0
 cases map_inj (f:=V.int .i64) (fun h=>(V.int.inj h).2) h1
 rfl
theorem Hue.inj {x y:Hue}(h:x.v=y.v):x=y:=by
 obtain⟨x0,x1,x2⟩:=x;obtain⟨y0,y1,y2⟩:=y
 simp only[Hue.v,V.agg.injEq,List.cons.injEq,V.int.injEq,V.str.injEq,V.bool.injEq,V.sl.injEq,true_and,and_true]at h
 obtain⟨h0,h1,h2⟩:=h
 cases h0
 cases h1
 cases h2
 rfl
theorem Pal.inj {x y:Pal}(h:x.v=y.v):x=y:=by
 obtain⟨x0,x1⟩:=x;obtain⟨y0,y1⟩:=y
 simp only[Pal.v,V.agg.injEq,List.cons.injEq,V.int.injEq,V.str.injEq,V.bool.injEq,V.sl.injEq,true_and,and_true]at h
 obtain⟨h0,h1⟩:=h
 cases h0
 cases map_inj Hue.inj h1
 rfl
theorem Tim.inj {x y:Tim}(h:x.v=y.v):x=y:=by
 obtain⟨x0,x1,x2,x3,x4,x5⟩:=x;obtain⟨y0,y1,y2,y3,y4,y5⟩:=y
 simp only[Tim.v,V.agg.injEq,List.cons.injEq,V.int.injEq,V.str.injEq,V.bool.injEq,V.sl.injEq,true_and,and_true]at h
 obtain⟨h0,h1,h2,h3,h4,h5⟩:=h
 cases h0
 cases h1
 cases h2
 cases h3
 cases h4
 cases h5
 rfl
theorem Mov.inj {x y:Mov}(h:x.v=y.v):x=y:=by
 obtain⟨⟨x0,x1⟩,⟨x2,x3⟩,x4⟩:=x;obtain⟨⟨y0,y1⟩,⟨y2,y3⟩,y4⟩:=y
 simp only[Mov.v,V.agg.injEq,List.cons.injEq,V.int.injEq,V.str.injEq,V.bool.injEq,V.sl.injEq,true_and,and_true]at h
 obtain⟨h0,h1,h2,h3,h4⟩:=h
 cases h0
 cases h1
 cases h2
 cases h3
 cases h4
 rfl
theorem Cu.inj {x y:Cu}(h:x.v=y.v):x=y:=by
 obtain⟨x0,x1,x2,x3,x4,x5,x6,x7,x8⟩:=x;obtain⟨y0,y1,y2,y3,y4,y5,y6,y7,y8⟩:=y
 simp only[Cu.v,V.agg.injEq,List.cons.injEq,V.int.injEq,V.str.injEq,V.bool.injEq,V.sl.injEq,true_and,and_true]at h
 obtain⟨h0,h1,h2,h3,h4,h5,h6,h7,h8⟩:=h
 cases h0
 cases h1
 cases map_inj Mov.inj h2
 cases map_inj Tim.inj h3
 cases h4
 cases h5
 cases h6
 cases h7
 cases h8
 rfl
theorem Lst.inj {x y:Lst}(h:x.v=y.v):x=y:=by
 obtain⟨x0,x1,x2⟩:=x;obtain⟨y0,y1,y2⟩:=y
 simp only[Lst.v,V.agg.injEq,List.cons.injEq,V.int.injEq,V.str.injEq,V.bool.injEq,V.sl.injEq,true_and,and_true]at h
 obtain⟨h0,h1,h2⟩:=h
 cases h0
 cases h1
 cases map_inj Cu.inj h2
 rfl
theorem Gan.inj {x y:Gan}(h:x.v=y.v):x=y:=by
 obtain⟨⟨x0,x1⟩,x2⟩:=x;obtain⟨⟨y0,y1⟩,y2⟩:=y
 simp only[Gan.v,V.agg.injEq,List.cons.injEq,V.int.injEq,V.str.injEq,V.bool.injEq,V.sl.injEq,true_and,and_true]at h
 obtain⟨h0,h1,h2⟩:=h
 cases h0
 cases h1
 cases h2
 rfl
theorem Sb.inj {x y:Sb}(h:x.v=y.v):x=y:=by
 obtain⟨x0,x1,x2,x3⟩:=x;obtain⟨y0,y1,y2,y3⟩:=y
 simp only[Sb.v,V.agg.injEq,List.cons.injEq,V.int.injEq,V.str.injEq,V.bool.injEq,V.sl.injEq,true_and,and_true]at h
 obtain⟨h0,h1,h2,h3⟩:=h
 cases h0
 cases h1
 cases h2
 cases map_inj Gan.inj h3
 rfl
theorem Eff.inj {x y:Eff}(h:x.v=y.v):x=y:=by
 obtain⟨x0,x1,x2,x3,x4,x5⟩:=x;obtain⟨y0,y1,y2,y3,y4,y5⟩:=y
 simp only[Eff.v,V.agg.injEq,List.cons.injEq,V.int.injEq,V.str.injEq,V.bool.injEq,V.sl.injEq,true_and,and_true]at h
 obtain⟨h0,h1,h2,h3,h4,h5⟩:=h
 cases h0
 cases h1
 cases map_inj Pt.inj h2
 cases h3
 cases h4
 cases h5
 rfl
theorem Sho.inj {x y:Sho}(h:x.v=y.v):x=y:=by
 obtain⟨x0,x1,x2,x3,x4,x5,x6,x7,x8⟩:=x;obtain⟨y0,y1,y2,y3,y4,y5,y6,y7,y8⟩:=y
 simp only[Sho.v,V.agg.injEq,List.cons.injEq,V.int.injEq,V.str.injEq,V.bool.injEq,V.sl.injEq,true_and,and_true]at h
 obtain⟨h0,h1,h2,h3,h4,h5,h6,h7,h8⟩:=h
 cases h0
 cases map_inj (f:=Pt.vs) (fun h=>map_inj Pt.inj (V.sl.inj h)) h1
 cases map_inj Prof.inj h2
 cases map_inj Fixt.inj h3
 cases map_inj Grp.inj h4
 cases map_inj Pal.inj h5
 cases map_inj Lst.inj h6
 cases map_inj Sb.inj h7
 cases map_inj Eff.inj h8
 rfl
end Go.Proofs.YtanojbajfgcjeaaGreatDoor

namespace Go.Proofs.YtanojbajfgcjeaaGreatDoor
open Go.Sha
set_option maxRecDepth 100000
theorem Cu.Dk.ok {x:Cu}(h:x.Dk):x.ok:=⟨by have:=h.num;omega,by have:=h.label;omega,by have:=h.moves.1;omega,by have:=h.parts.1;omega,by have:=h.link;omega⟩
theorem Lst.Dk.ok {x:Lst}(h:x.Dk):x.ok:=⟨by have:=h.cues.1;omega,fun q hq=>(h.cues.2 q hq).ok⟩
theorem Prof.Dk.ok {x:Prof}(h:x.Dk):x.ok∧x.okR:=⟨⟨by have:=h.feats.1;omega,fun q hq=>by have:=(h.feats.2 q hq).wheel.1;omega,by have:=h.name;omega⟩,
 by have:=h.feats.1;omega,fun q hq=>⟨by have:=(h.feats.2 q hq).wheel.1;omega,fun z hz=>by have:=((h.feats.2 q hq).wheel.2 z hz).name;omega⟩,by have:=h.name;omega⟩
theorem Sho.Dk.ok {x : Sho}(h : x.Dk) : x.ok :=
  ⟨by have := h.title; omega, ⟨by have := h.curves.1; omega, fun q hq => by have := (h.curves.2 q hq).1; omega⟩, ⟨by have := h.profs.1; omega, fun q hq => (h.profs.2 q hq).ok.1, fun q hq => (h.profs.2 q hq).ok.2⟩,
   ⟨by have := h.fixts.1; omega, fun q hq => by have := (h.fixts.2 q hq).cable; omega⟩, ⟨by have := h.grps.1; omega, fun q hq => by have := (h.grps.2 q hq).chans.1; omega⟩, ⟨by have := h.pals.1; omega, fun q hq => by have := (h.pals.2 q hq).hues.1; omega⟩,
   ⟨by have := h.lsts.1; omega, fun q hq => (h.lsts.2 q hq).ok⟩, ⟨by have := h.subs.1; omega, fun q hq => by have := (h.subs.2 q hq).gains.1; omega⟩, ⟨by have := h.effs.1; omega, fun q hq => by have := (h.effs.2 q hq).wave.1; omega⟩⟩
end Go.Proofs.YtanojbajfgcjeaaGreatDoor

namespace Go.Proofs.YtanojbajfgcjeaaGreatDoor
open Go.ChangeShapes Go.WideShapes Go.ChangeAt Go.RowKit Go.Sha
theorem sk1:(laidOutB Tryz.prog)=true:=by kernel_rfl
theorem sk2:(mapsRowed Tryz.prog)=true:=by kernel_rfl
theorem sk6:(Tryz.prog.stops == [])=true:=by kernel_rfl
theorem sk8:(Tryz.prog.stopKnobs == [])=true:=by kernel_rfl
theorem sk22:(Rows.paperworkTablesRow.plainKeys == Tryz.prog.plainKeys)=true:=by kernel_rfl
theorem sk24:(Tryz.prog.stopsHeard)=true:=by kernel_rfl
theorem sk25:(Tryz.prog.mayEnter)=true:=by kernel_rfl
theorem sk26:(Rows.paperworkTablesRow.lifted == Tryz.prog.liftsFinal)=true:=by kernel_rfl
theorem sk27:(Tryz.prog.make == some Rows.paperworkTablesRow.make)=true:=by kernel_rfl
theorem sk15:(Rows.paperworkTablesRow.mapsOut == Tryz.prog.mapsAmong Tryz.f3.resultTypes.toList)=true:=by kernel_rfl
theorem sown:ownKnob Tryz.prog.godebug=none:=by kernel_rfl
theorem smain:Tryz.prog.mainIs=some (Rows.paperworkTablesCard.stood.harness.1,Rows.paperworkTablesCard.stood.harness.2.toList):=by kernel_rfl
theorem slooks:Rows.paperworkTablesCard.stood.looks=Tryz.prog.looks []:=by kernel_rfl
end Go.Proofs.YtanojbajfgcjeaaGreatDoor

