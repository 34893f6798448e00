/- tracking.value: its contract in worlds. tracking.value's contract over shadow values. The contracts of this seat's table hold. The contracts with the examples' show hold. From what a card lists of the .. -/
import Derived.Test.YtkpcomdhdjihlaaGreatDoorM2
import Derived.Test.YtkpcomdhdjihlaaGreatDoorM1
import Derived.Test.YtkpcomdhdjihlaaGreatDoorMShbEK
import Derived.Test.YtkpcomdhdjihlaaGreatDoorMShbZ
import Derived.Lib.AppendIntMem
import Derived.Test.YtkpcomdhdjihlaaGreatDoorMShbXI
import Derived.Test.YtkpcomdhdjihlaaGreatDoorRows
import Derived.Test.YtkpcomdhdjihlaaGreatDoorMShbAE
import Derived.Test.YtkpcomdhdjihlaaGreatDoorMShbYB
import Derived.Test.YtkpcomdhdjihlaaGreatDoorProg
import Derived.KernelRfl
import Derived.Lib.ItoaLen
import Derived.Lib.CountLaws
import Derived.Lib.IndexLaws
import Derived.Test.YtkpcomdhdjihlaaGreatDoorMShbAC
import Derived.Test.YtkpcomdhdjihlaaGreatDoorCards
import Derived.SizedLaws
import Derived.WalkKit
import Derived.ProofKit
import Derived.OpenShut
import Derived.ChangeMaps5
import Derived.LaidLaws
import Derived.LaidHandle
import Derived.Lay
import Derived.SevenTiedAt
set_option linter.unusedSimpArgs false
set_option linter.unusedVariables false
namespace Go.Proofs.YtkpcomdhdjihlaaGreatDoor
open Go.RowKit Go.Shelf
attribute [local go_sem] Oper.semAt_some
def Box9 (c0 c1 c2 c3:Nat→Value)(bl:Nat→Bool)(c5 c6 c7 c8:Nat→Value)(W:World)(b o x:Nat):Prop :=
 W.cell? ⟨b,o,none⟩=some (c0 x)∧W.cell? ⟨b,o+1,none⟩=some (c1 x)∧W.cell? ⟨b,o+2,none⟩=some (c2 x)∧W.cell? ⟨b,o+3,none⟩=some (c3 x) ∧
   W.cell? ⟨b,o+4,none⟩=some (.bool (bl x))∧W.cell? ⟨b,o+5,none⟩=some (c5 x)∧W.cell? ⟨b,o+6,none⟩=some (c6 x)∧W.cell? ⟨b,o+7,none⟩=some (c7 x)∧W.cell? ⟨b,o+8,none⟩=some (c8 x)
theorem back_stops (F:Fence)(n:Nat)(h7:F.fn 254)(hro:F.round=none)(hn:1≤n)(Ba Bl n₀ b off len cap a:Nat)(c0 c1 c2 c3 c5 c6 c7 c8:Nat→Value)(bl:Nat→Bool)(hlen:len*144≤140737488351232)(hb:b<n₀)(ha:a<len)
  (w:World) (hn0:n₀≤w.heap.size) (hBa:w.cell? ⟨Ba,0,none⟩=some (.int .i64 a)) (hBa0:Ba<w.heap.size) (hBl:w.cell? ⟨Bl,2,none⟩=some (.slice (some ⟨b,off,none⟩) len cap)) (hBl0:Bl<n₀)
  (hc:∀j,j<len→Box9 c0 c1 c2 c3 bl c5 c6 c7 c8 w b (off+j*9) j) :
  SeqStopsK F n Tryz.prog 254 #[.pointer (some ⟨Ba,0,none⟩),.pointer (some ⟨Bl,0,none⟩)] (fun x:Nat=>#[.agg #[c0 x,c1 x,c2 x,c3 x,.bool (bl x),c5 x,c6 x,c7 x,c8 x]]) (Below n₀)
   (fun xs=>∃k,k≤a+1∧xs=dnL a k∧(k=a+1∨0<k∧bl (a+1-k)=true)∧∀j,0<j→j<k→bl (a+1-j)=false)
   (fun xs=>∃k,k≤a+1∧xs=dnL a k∧∀j,0<j→j<k→bl (a+1-j)=false) (a+1) w:=fun l J Jx W hW _ _ hY h0=>by
 have hB:=hW.mono hn0
 refine(back1_in F n h7 hro hn l Ba Bl n₀ b off len cap a c0 c1 c2 c3 c5 c6 c7 c8 bl hlen hb ha J Jx hY W ((hW.cell (p:=⟨Ba,0,none⟩) hBa0).trans hBa) ((hB.cell (p:=⟨Bl,2,none⟩) hBl0).trans hBl) hBl0 (fun j hj=>?_) h0).mono ?_
 ·obtain⟨d0,d1,d2,d3,d4,d5,d6,d7,d8⟩:=hc j hj
  exact⟨(hB.cell (p:=⟨b,_,none⟩) hb).trans d0,(hB.cell (p:=⟨b,_,none⟩) hb).trans d1,(hB.cell (p:=⟨b,_,none⟩) hb).trans d2,(hB.cell (p:=⟨b,_,none⟩) hb).trans d3,(hB.cell (p:=⟨b,_,none⟩) hb).trans d4,(hB.cell (p:=⟨b,_,none⟩) hb).trans d5,(hB.cell (p:=⟨b,_,none⟩) hb).trans d6,(hB.cell (p:=⟨b,_,none⟩) hb).trans d7,(hB.cell (p:=⟨b,_,none⟩) hb).trans d8⟩
 ·rintro e W' ⟨he,⟨k,h1,h2,h3,h4⟩|⟨k,h1,h2,h3⟩⟩
  ·exact⟨he,.inl ⟨_,⟨k,h1,rfl,h3,h4⟩,h2⟩⟩
  ·exact⟨he,.inr ⟨_,⟨k,h1,rfl,h3⟩,h2⟩⟩
theorem heap5 (w:World)(o1 o2 o3 o4 o5:Obj):(((((w.alloc o1).alloc o2).alloc o3).alloc o4).alloc o5).heap[w.heap.size+1]?=some o2∧(((((w.alloc o1).alloc o2).alloc o3).alloc o4).alloc o5).heap[w.heap.size+1+1]?=some o3 ∧
  (((((w.alloc o1).alloc o2).alloc o3).alloc o4).alloc o5).heap[w.heap.size+1+1+1]?=some o4∧(((((w.alloc o1).alloc o2).alloc o3).alloc o4).alloc o5).heap[w.heap.size+1+1+1+1]?=some o5:=by
 have e:(((((w.alloc o1).alloc o2).alloc o3).alloc o4).alloc o5).heap=((((w.heap.push o1).push o2).push o3).push o4).push o5:=rfl
 rw[e]
 simp only[Array.getElem?_push,Array.size_push]
 refine⟨?_,?_,?_,?_⟩
 ·rw[if_neg (by omega),if_neg (by omega),if_neg (by omega),if_pos trivial]
 ·rw[if_neg (by omega),if_neg (by omega),if_pos trivial]
 ·rw[if_neg (by omega),if_pos trivial]
 ·rw[if_pos trivial]
theorem cell_at {W:World}{k i:Nat}{cs:Array Value}{T:TypeId}{fz:Nat×Nat}(h:W.heap[k]?=some (.cells cs T fz)):W.cell? ⟨k,i,none⟩=cs[i]?:=by simp[World.cell?,h]
theorem froz_below {n:Nat}{A B:World}(h:Below n A B){p:Addr}(hp:p.block<n):B.frozen? p=A.frozen? p:=by unfold World.frozen?;rw[h.block _ hp]
theorem keeps_below {A B:World}(h:Below A.heap.size A B):KeepsOthers A B:=⟨h.size,fun k o hk _=>by rw[h.block k (Array.getElem?_eq_some_iff.1 hk).1];exact hk⟩
theorem froz_at {W:World}{k i:Nat}{cs:Array Value}{T:TypeId}(h:W.heap[k]?=some (.cells cs T (0,0))):W.frozen? ⟨k,i,none⟩=false:=by simp[World.frozen?,h]
set_option maxRecDepth 100000 in
set_option maxHeartbeats 4000000 in
theorem value_calls (w : World)(b off len cap a : Nat)(s0 s1 s7 : Nat → ByteArray)(a2 a3 : Nat → Option Addr)(n2 k2 n3 k3 : Nat → Nat)(b5 : Nat → Bool)(i6 i8 : Nat → Int)(bl : Nat → Bool)(v0 v1 p0 p1 : Value)(m1 m2 : Nat → Int)(ok : Nat → Bool)(hlen : len * 144 ≤ 140737488351232)(hb : b < w.heap.size)(ha : a < len)
    (hc : ∀ j, j < len → Box9 (fun x => .string (s0 x)) (fun x => .string (s1 x)) (fun x => .slice (a2 x) (n2 x) (k2 x)) (fun x => .slice (a3 x) (n3 x) (k3 x)) bl (fun x => .bool (b5 x)) (fun x => .int .i64 (i6 x)) (fun x => .string (s7 x)) (fun x => .int .i64 (i8 x)) w b (off + j * 9) j)
    (hmove : ∀ x W, Below w.heap.size w W → Calls Tryz.prog 189 #[.agg #[.string (s0 x), .string (s1 x), .slice (a2 x) (n2 x) (k2 x), .slice (a3 x) (n3 x) (k3 x), .bool (bl x), .bool (b5 x), .int .i64 (i6 x), .string (s7 x), .int .i64 (i8 x)], .agg #[p0, p1]] W fun e W' => e = .returned (.tuple #[.agg #[.int .i64 (m1 x), .int .i64 (m2 x)], .bool (ok x)]) ∧ Below W.heap.size W W')
    (hhome : ∀ W, Calls Tryz.prog 190 #[] W fun e W' => e = .returned (.agg #[.int .i64 (-1), .int .i64 0]) ∧ Below W.heap.size W W') :
    Calls Tryz.prog 126 #[.agg #[v0, v1, .slice (some ⟨b, off, none⟩) len cap], .int .i64 a, .agg #[p0, p1]] w fun e W' =>
      ((∃ k, k ≤ a + 1 ∧ (∀ x ∈ dnL a k, ok x = false) ∧ (k = a + 1 ∨ 0 < k ∧ bl (a + 1 - k) = true) ∧ (∀ j, 0 < j → j < k → bl (a + 1 - j) = false) ∧ e = .returned (.agg #[.int .i64 (-1), .int .i64 0])) ∨
       (∃ k, k < a + 1 ∧ (∀ x ∈ dnL a k, ok x = false) ∧ ok (a - k) = true ∧ (∀ j, 0 < j → j ≤ k → bl (a + 1 - j) = false) ∧ e = .returned (.agg #[.int .i64 (m1 (a - k)), .int .i64 (m2 (a - k))]))) ∧ Below w.heap.size w W' := by
  refine (callsIn_wide (n := 3)).1 ?_
  refine callsIn_of_wp_marks Tryz.func126 rfl trivial ?_ rfl
  simp only [Tryz.ntmps126, List.size_toArray, List.length_cons, List.length_nil, Nat.reduceAdd, Nat.reduceSub, Array.replicate_succ, Array.replicate_zero, List.push_toArray, List.append_toArray, List.nil_append, List.cons_append]
  gi_wp2_with (refine ⟨trivial, ?_⟩; gi_at_call 188; refine (back_in Fence.wide _ trivial rfl _ _ _ _ _).mono ?_; rintro e w' ⟨rfl, rfl⟩)
  have hB0 : Below w.heap.size w (((((w.alloc (.cells #[v0, v1, .slice (some ⟨b, off, none⟩) len cap] 55)).alloc (.cells #[p0, p1] 71)).alloc (.cells #[.int .i64 0, .int .i64 0] 73)).alloc (.cells #[v0, v1, .slice (some ⟨b, off, none⟩) len cap] 55)).alloc (.cells #[.int .i64 a] 3)) :=
    (((((Below.refl _ w).alloc (Nat.le_refl _) _).alloc (by simp) _).alloc (by simp; omega) _).alloc (by simp; omega) _).alloc (by simp; omega) _
  have hs0 : (((((w.alloc (.cells #[v0, v1, .slice (some ⟨b, off, none⟩) len cap] 55)).alloc (.cells #[p0, p1] 71)).alloc (.cells #[.int .i64 0, .int .i64 0] 73)).alloc (.cells #[v0, v1, .slice (some ⟨b, off, none⟩) len cap] 55)).alloc (.cells #[.int .i64 a] 3)).heap.size = w.heap.size + 1 + 1 + 1 + 1 + 1 := by simp
  obtain ⟨g2, g3, g4, g5⟩ := heap5 w (.cells #[v0, v1, .slice (some ⟨b, off, none⟩) len cap] 55) (.cells #[p0, p1] 71) (.cells #[.int .i64 0, .int .i64 0] 73) (.cells #[v0, v1, .slice (some ⟨b, off, none⟩) len cap] 55) (.cells #[.int .i64 a] 3)
  generalize hW0 : (((((w.alloc (.cells #[v0, v1, .slice (some ⟨b, off, none⟩) len cap] 55)).alloc (.cells #[p0, p1] 71)).alloc (.cells #[.int .i64 0, .int .i64 0] 73)).alloc (.cells #[v0, v1, .slice (some ⟨b, off, none⟩) len cap] 55)).alloc (.cells #[.int .i64 a] 3)) = W0 at *
  have f0 : W0.cell? ⟨w.heap.size + 1 + 1 + 1 + 1, 0, none⟩ = some (.int .i64 a) := cell_at g5
  have fq1 : W0.cell? ⟨w.heap.size + 1 + 1 + 1, 2, none⟩ = some (.slice (some ⟨b, off, none⟩) len cap) := cell_at g4
  have fq3 : W0.cell? ⟨w.heap.size + 1, 0, none⟩ = some p0 := cell_at g2
  have fq4 : W0.cell? ⟨w.heap.size + 1, 1, none⟩ = some p1 := cell_at g2
  have fq5 : W0.cell? ⟨w.heap.size + 1 + 1, 0, none⟩ = some (.int .i64 0) := cell_at g3
  have fq6 : W0.cell? ⟨w.heap.size + 1 + 1, 1, none⟩ = some (.int .i64 0) := cell_at g3
  have fq7 : W0.frozen? ⟨w.heap.size + 1 + 1, 0, none⟩ = false := froz_at g3
  have fq8 : W0.frozen? ⟨w.heap.size + 1 + 1, 1, none⟩ = false := froz_at g3
  have hc0 : ∀ j, j < len → Box9 (fun x => .string (s0 x)) (fun x => .string (s1 x)) (fun x => .slice (a2 x) (n2 x) (k2 x)) (fun x => .slice (a3 x) (n3 x) (k3 x)) bl (fun x => .bool (b5 x)) (fun x => .int .i64 (i6 x)) (fun x => .string (s7 x)) (fun x => .int .i64 (i8 x)) W0 b (off + j * 9) j := fun j hj => by
    obtain ⟨d0, d1, d2, d3, d4, d5, d6, d7, d8⟩ := hc j hj
    exact ⟨(hB0.cell (p := ⟨b, _, none⟩) hb).trans d0, (hB0.cell (p := ⟨b, _, none⟩) hb).trans d1, (hB0.cell (p := ⟨b, _, none⟩) hb).trans d2, (hB0.cell (p := ⟨b, _, none⟩) hb).trans d3, (hB0.cell (p := ⟨b, _, none⟩) hb).trans d4, (hB0.cell (p := ⟨b, _, none⟩) hb).trans d5, (hB0.cell (p := ⟨b, _, none⟩) hb).trans d6, (hB0.cell (p := ⟨b, _, none⟩) hb).trans d7, (hB0.cell (p := ⟨b, _, none⟩) hb).trans d8⟩
  refine wpIn_rangeFunc_ownH rfl (by decide) (gf := 254) (lb := #[.pointer (some ⟨w.heap.size + 1 + 1 + 1 + 1, 0, none⟩), .pointer (some ⟨w.heap.size + 1 + 1 + 1, 0, none⟩)]) rfl trivial (enters_of Tryz.func254 (by kernel_rfl) rfl)
    (back_stops Fence.wide _ trivial rfl (by decide) (w.heap.size + 1 + 1 + 1 + 1) (w.heap.size + 1 + 1 + 1) W0.heap.size b off len cap a (fun x => .string (s0 x)) (fun x => .string (s1 x)) (fun x => .slice (a2 x) (n2 x) (k2 x)) (fun x => .slice (a3 x) (n3 x) (k3 x)) (fun x => .bool (b5 x)) (fun x => .int .i64 (i6 x)) (fun x => .string (s7 x)) (fun x => .int .i64 (i8 x)) bl hlen (by omega) ha W0 (Nat.le_refl _) f0 (by omega) fq1 (by omega) hc0)
    belowK_t (belowK_b (Nat.le_refl _)) (Below.refl _ _) (fun _ => rfl)
    (fun pre W => (∀ x ∈ pre, ok x = false) ∧ Below W0.heap.size W0 W)
    (fun c pre W => (c = .ret ∧ ∃ ini last, pre = ini ++ [last] ∧ (∀ x ∈ ini, ok x = false) ∧ ok last = true ∧ W.cell? ⟨w.heap.size + 1 + 1, 0, none⟩ = some (.int .i64 (m1 last)) ∧ W.cell? ⟨w.heap.size + 1 + 1, 1, none⟩ = some (.int .i64 (m2 last))) ∧ Below w.heap.size w W)
    (OwnFrom.and (Own.from (fun s A B row hs hg hr => hs) _) (ownFrom_below (Nat.le_refl _) (Nat.le_refl _)))
    (fun c => OwnFrom.and (Own.from (fun s A B row hs hg hr => by obtain ⟨hc, ini, last, e1, e2, e3, e4, e5⟩ := hs; exact ⟨hc, ini, last, e1, e2, e3, cell_kept e4 hg hr, cell_kept e5 hg hr⟩) _) (ownFrom_below (Nat.le_refl _) (by omega)))
    ⟨by simp, Below.refl _ _⟩
    (fun x a' W => ∃ Bx, w.heap.size + 1 + 1 + 1 + 1 + 1 ≤ Bx ∧ Box9 (fun x => .string (s0 x)) (fun x => .string (s1 x)) (fun x => .slice (a2 x) (n2 x) (k2 x)) (fun x => .slice (a3 x) (n3 x) (k3 x)) bl (fun x => .bool (b5 x)) (fun x => .int .i64 (i6 x)) (fun x => .string (s7 x)) (fun x => .int .i64 (i8 x)) W Bx 0 x ∧ a' = { tmps := #[.agg #[v0, v1, .slice (some ⟨b, off, none⟩) len cap], .int .i64 a, .agg #[p0, p1], .pointer (some ⟨w.heap.size, 0, none⟩), undef, .pointer (some ⟨w.heap.size + 1, 0, none⟩), .pointer (some ⟨w.heap.size + 1 + 1, 0, none⟩), .pointer (some ⟨Bx, 0, none⟩), undef, undef, .agg #[v0, v1, .slice (some ⟨b, off, none⟩) len cap], .int .i64 a, .func (.func 254) #[] #[.pointer (some ⟨w.heap.size + 1 + 1 + 1 + 1, 0, none⟩), .pointer (some ⟨w.heap.size + 1 + 1 + 1, 0, none⟩)], .agg #[.string (s0 x), .string (s1 x), .slice (a2 x) (n2 x) (k2 x), .slice (a3 x) (n3 x) (k3 x), .bool (bl x), .bool (b5 x), .int .i64 (i6 x), .string (s7 x), .int .i64 (i8 x)], undef, undef, undef, undef, undef, undef, undef, undef, undef], defers := [] })
    (fun x a' => Own.from (fun s A B row hs hg hr => by
      obtain ⟨Bx, h1, ⟨d0, d1, d2, d3, d4, d5, d6, d7, d8⟩, h3⟩ := hs
      exact ⟨Bx, h1, ⟨cell_kept d0 hg hr, cell_kept d1 hg hr, cell_kept d2 hg hr, cell_kept d3 hg hr, cell_kept d4 hg hr, cell_kept d5 hg hr, cell_kept d6 hg hr, cell_kept d7 hg hr, cell_kept d8 hg hr⟩, h3⟩) _) ?assign ?body ?done ?stop
  case assign =>
    rintro l pre x W K hi hK
    gi_wp2
    refine hK _ _ ((KeepsOthers.alloc _ _).from _) ((Below.refl _ W).alloc hi.2.size _) ⟨hi.1, hi.2.alloc hi.2.size _⟩ ⟨W.heap.size, by have := hi.2.size; omega, ?_, rfl⟩
    have hn := World.alloc_heap_new W (.cells #[.string (s0 x), .string (s1 x), .slice (a2 x) (n2 x) (k2 x), .slice (a3 x) (n3 x) (k3 x), .bool (bl x), .bool (b5 x), .int .i64 (i6 x), .string (s7 x), .int .i64 (i8 x)] 115)
    exact ⟨cell_at hn, cell_at hn, cell_at hn, cell_at hn, cell_at hn, cell_at hn, cell_at hn, cell_at hn, cell_at hn⟩
  case body =>
    rintro l pre x a' W hl ⟨r, hr⟩ ⟨hp, hB⟩ ⟨Bx, hBx, ⟨d0, d1, d2, d3, d4, d5, d6, d7, d8⟩, rfl⟩ hlt
    simp only [Nat.zero_add] at d1 d2 d3 d4 d5 d6 d7 d8
    have hBw : Below w.heap.size w W := hB0.trans (hB.mono (by omega))
    have q3 := (hB.cell (p := ⟨w.heap.size + 1, 0, none⟩) (by show w.heap.size + 1 < _; omega)).trans fq3
    have q4 := (hB.cell (p := ⟨w.heap.size + 1, 1, none⟩) (by show w.heap.size + 1 < _; omega)).trans fq4
    gi_wp2_with (refine ⟨trivial, ?_⟩; gi_at_call 189; refine (CallsIn.inRound l (callsIn_wide.2 (hmove x W hBw))).mono ?_; rintro e w' ⟨rfl, hBm⟩; have hs3 := hB.size; have hs4 := hBm.size; have hB3 : Below W0.heap.size W0 w' := hB.trans (hBm.mono hs3); have q5 : ∀ o, (w'.alloc o).cell? ⟨w.heap.size + 1 + 1, 0, none⟩ = some (.int .i64 0) := fun o => ((hB3.alloc (by omega) o).cell (p := ⟨w.heap.size + 1 + 1, 0, none⟩) (by show w.heap.size + 1 + 1 < _; omega)).trans fq5; have q6 : ∀ o, (w'.alloc o).cell? ⟨w.heap.size + 1 + 1, 1, none⟩ = some (.int .i64 0) := fun o => ((hB3.alloc (by omega) o).cell (p := ⟨w.heap.size + 1 + 1, 1, none⟩) (by show w.heap.size + 1 + 1 < _; omega)).trans fq6; have q7 : ∀ o, (w'.alloc o).frozen? ⟨w.heap.size + 1 + 1, 0, none⟩ = false := fun o => (froz_below (hB3.alloc (by omega) o) (by show w.heap.size + 1 + 1 < _; omega)).trans fq7; have q8 : ∀ o, (w'.alloc o).frozen? ⟨w.heap.size + 1 + 1, 1, none⟩ = false := fun o => (froz_below (hB3.alloc (by omega) o) (by show w.heap.size + 1 + 1 < _; omega)).trans fq8)
    all_goals first
      | (have hx : ok x = false := by first | assumption | simpa using (by assumption : ¬ ok x = true)
         exact ⟨((keeps_below hBm).trans (KeepsOthers.alloc _ _)).from _, (hBm.mono hs3).alloc (by omega) _, ⟨fun y hy => (List.mem_append.1 hy).elim (hp y) (fun e => by rw [List.mem_singleton.1 e]; exact hx), hB3.alloc (by omega) _⟩⟩)
      | skip
    have hx : ok x = true := by first | assumption | simpa using (by assumption : ¬ ok x = false)
    refine ⟨(((keeps_below hBm).trans (KeepsOthers.alloc _ _)).trans ((KeepsOthers.setCell _ _ _).trans (KeepsOthers.setCell _ _ _))).from _, ⟨rfl, pre, x, rfl, hp, hx, ?_, ?_⟩, ?_⟩
    · exact (World.cell?_setCell_other _ _ _ _ (by simp)).trans (World.cell?_setCell_same' _ _ _ (by rw [q5]; rfl))
    · exact World.cell?_setCell_same' _ _ _ (by rw [World.cell?_setCell_other _ _ _ _ (by simp), q6]; rfl)
    · exact (((hBw.trans (hBm.mono hBw.size)).alloc (by omega) _).setCell (p := ⟨w.heap.size + 1 + 1, 0, none⟩) (by show _ ≤ w.heap.size + 1 + 1; omega) _).setCell (p := ⟨w.heap.size + 1 + 1, 1, none⟩) (by show _ ≤ w.heap.size + 1 + 1; omega) _
  case done =>
    rintro D ys W hD ⟨k, h1, rfl, h2, h3⟩ ⟨hp, hB⟩ hK
    gi_wp2_with (refine ⟨trivial, ?_⟩; gi_at_call 190; refine (callsIn_wide.2 (hhome W)).mono ?_; rintro e w' ⟨rfl, hBh⟩; have hs3 := hB.size; have hs4 := hBh.size; have hB3 : Below W0.heap.size W0 w' := hB.trans (hBh.mono hs3); have q5 : w'.cell? ⟨w.heap.size + 1 + 1, 0, none⟩ = some (.int .i64 0) := (hB3.cell (p := ⟨w.heap.size + 1 + 1, 0, none⟩) (by show w.heap.size + 1 + 1 < _; omega)).trans fq5; have q6 : w'.cell? ⟨w.heap.size + 1 + 1, 1, none⟩ = some (.int .i64 0) := (hB3.cell (p := ⟨w.heap.size + 1 + 1, 1, none⟩) (by show w.heap.size + 1 + 1 < _; omega)).trans fq6; have q7 : w'.frozen? ⟨w.heap.size + 1 + 1, 0, none⟩ = false := (froz_below hB3 (by show w.heap.size + 1 + 1 < _; omega)).trans fq7; have q8 : w'.frozen? ⟨w.heap.size + 1 + 1, 1, none⟩ = false := (froz_below hB3 (by show w.heap.size + 1 + 1 < _; omega)).trans fq8)
    have hKh : w'.heap[D]? = some (.deferred (some [])) := (hBh.block D (Array.getElem?_eq_some_iff.1 hK).1).trans hK
    have hK' := (KeepsOthers.setCell (w'.setCell ⟨w.heap.size + 1 + 1, 0, none⟩ (.int .i64 (-1))) ⟨w.heap.size + 1 + 1, 1, none⟩ (.int .i64 0)).same D _ ((KeepsOthers.setCell w' ⟨w.heap.size + 1 + 1, 0, none⟩ (.int .i64 (-1))).same D _ hKh rfl) rfl
    refine ⟨by simp, .inl ⟨_, _, rfl, run_takeDeferred hK', ?_⟩⟩
    have k0 : ((w'.setCell ⟨w.heap.size + 1 + 1, 0, none⟩ (.int .i64 (-1))).setCell ⟨w.heap.size + 1 + 1, 1, none⟩ (.int .i64 0)).cell? ⟨w.heap.size + 1 + 1, 0, none⟩ = some (.int .i64 (-1)) :=
      (World.cell?_setCell_other _ _ _ _ (by simp)).trans (World.cell?_setCell_same' _ _ _ (by rw [q5]; rfl))
    have k1 : ((w'.setCell ⟨w.heap.size + 1 + 1, 0, none⟩ (.int .i64 (-1))).setCell ⟨w.heap.size + 1 + 1, 1, none⟩ (.int .i64 0)).cell? ⟨w.heap.size + 1 + 1, 1, none⟩ = some (.int .i64 0) :=
      World.cell?_setCell_same' _ _ _ (by rw [World.cell?_setCell_other _ _ _ _ (by simp), q6]; rfl)
    have hc5 := cell_kept k0 (grownBy_putObj' _ D (.deferred none)) (fun r e => by cases e; exact ⟨_, hK', rfl⟩)
    have hc6 := cell_kept k1 (grownBy_putObj' _ D (.deferred none)) (fun r e => by cases e; exact ⟨_, hK', rfl⟩)
    refine ⟨.agg #[.int .i64 (-1), .int .i64 0], ?_, .inl ⟨k, h1, hp, h2, h3, rfl⟩, (((hB0.trans (hB3.mono (by omega))).setCell (p := ⟨w.heap.size + 1 + 1, 0, none⟩) (by show _ ≤ w.heap.size + 1 + 1; omega) _).setCell (p := ⟨w.heap.size + 1 + 1, 1, none⟩) (by show _ ≤ w.heap.size + 1 + 1; omega) _).trans (belowK_b (w := w) (Nat.le_refl _) _ D _ _ (by omega) hK' rfl rfl)⟩
    simp [results, Tryz.f126, go_sem, hc5, hc6]
  case stop =>
    rintro D c pre W hD ⟨k, h1, rfl, h2⟩ ⟨⟨rfl, ini, last, e1, e2, e3, e4, e5⟩, hB⟩ hK
    gi_wp2
    obtain ⟨k', rfl⟩ : ∃ k', k = k' + 1 := by
      cases k with
      | zero => simp [dnL] at e1
      | succ k' => exact ⟨k', rfl⟩
    rw [dnL_succ] at e1
    obtain ⟨rfl, e6⟩ := List.append_inj' e1 rfl
    obtain rfl : a - k' = last := by simpa using e6
    refine ⟨by simp, .inl ⟨_, _, rfl, run_takeDeferred hK, ?_⟩⟩
    have hc5 := cell_kept e4 (grownBy_putObj' _ D (.deferred none)) (fun r e => by cases e; exact ⟨_, hK, rfl⟩)
    have hc6 := cell_kept e5 (grownBy_putObj' _ D (.deferred none)) (fun r e => by cases e; exact ⟨_, hK, rfl⟩)
    refine ⟨.agg #[.int .i64 (m1 (a - k')), .int .i64 (m2 (a - k'))], ?_, .inr ⟨k', by omega, e2, e3, fun j h3 h4 => h2 j h3 (by omega), rfl⟩, hB.trans (belowK_b (w := w) (Nat.le_refl _) W D _ _ (by omega) hK rfl rfl)⟩
    simp [results, Tryz.f126, go_sem, hc5, hc6]
end Go.Proofs.YtkpcomdhdjihlaaGreatDoor

namespace Go.Proofs.YtkpcomdhdjihlaaGreatDoor
open Go.Sha Go.RowKit
set_option maxRecDepth 100000
theorem calls_of {P:Program}{f:FuncId}{fn:Func}(hf:P.funcs[f]?=some fn)(hname:(fn.name == "runtime.NumGoroutine")=false)(hb:fn.body.isNone=false){ds:List V}{st':St}{r:V}(h:VRet P f ds st0 r st'){w:World}{vs:List Value}(ha:Reps w (abs0 w) vs ds) :
  Calls P f vs.toArray w fun e w'=>(∃v A',e=.returned v∧Rep w' A' v r)∧Below w.heap.size w w':=by
 refine(VCalls.calls hf hname hb h (sim0 w) ha).mono fun e w' ⟨r',A',s,⟨hr,_⟩,he,_,hx⟩=>?_
 subst hr
 cases e with
 |returned v=>exact⟨⟨v,A',rfl,he⟩,⟨hx.os,hx.tape,hx.output,hx.size,fun i hi=>hx.fr i hi rfl⟩⟩
 |panicked ch=>exact he.elim
 |outgrown=>exact he.elim
theorem rdL_map {α:Type}{f:V→Option α}{g:α→V}(h:∀v x,f v=some x→v=g x):∀{l:List V}{xs:List α},rdL f l=some xs→l=xs.map g
 |[],xs,e=>by cases e;rfl
 |v::r,xs,e=>by
  rw[rdL]at e
  split at e
  ·rename_i x l h1 h2
   cases e
   rw[List.map_cons,←rdL_map h h2,←h v x h1]
  ·cases e
theorem rdMov_v (v:V)(x:Mov)(h:rdMov v=some x):v=x.v:=by
 unfold rdMov at h;split at h
 ·cases h;rfl
 ·cases h
theorem rdTim_v (v:V)(x:Tim)(h:rdTim v=some x):v=x.v:=by
 unfold rdTim at h;split at h
 ·cases h;rfl
 ·cases h
theorem rdCu_v (v:V)(x:Cu)(h:rdCu v=some x):v=x.v:=by
 unfold rdCu at h;split at h
 ·split at h
  ·rename_i h1 h2
   cases h
   rw[rdL_map rdMov_v h1,rdL_map rdTim_v h2]
  ·cases h
 ·cases h
theorem rep_sl {w:World}{A:Abs}{v:Value}{l:List V}(h:Rep w A v (.sl l)):∃a n k,v=.slice a n k:=by
 cases h with
 |sl=>exact⟨_,_,_,rfl⟩
 |slnil a=>exact⟨_,_,_,rfl⟩
theorem cues_at {w:World}{A:Abs}{v:Value}{l:List Cu}(h:Rep w A v (.sl (l.map Cu.v)))(hne:l≠[]) :
  ∃b o cap,∃cell:Nat→Nat→Value,v=.slice (some ⟨b,o,none⟩) l.length cap∧∀j x,l[j]?=some x→∀k c,x.v.cells[k]?=some c→A.C b (o+(j*9+k))∧w.cell? ⟨b,o+(j*9+k),none⟩=some (cell j k)∧Rep w A (cell j k) c:=by
 generalize hd:V.sl (l.map Cu.v)=d at h
 cases h with
 |sl ys b o cap es cell hes hcap hm hC hr =>
  cases hd
  have e1:es=9:=by
   obtain⟨x,hx⟩:=List.exists_mem_of_ne_nil _ hne
   exact(hes x.v (List.mem_map.2 ⟨x,hx,rfl⟩)).symm.trans rfl
  subst e1
  refine⟨b,o,cap,cell,by rw[List.length_map],fun j x hj k c hk=>?_⟩
  have hj':(l.map Cu.v)[j]?=some x.v:=by rw[List.getElem?_map,hj];rfl
  obtain⟨g1,g2,_⟩:=hC j k _ c hj' hk
  exact⟨g1,g2,hr j k _ c hj' hk⟩
 |slnil a=>cases l with|nil=>exact absurd rfl hne|cons x l=>cases hd
 |_=>cases hd
theorem agg9 {w:World}{A:Abs}{c:Cu}{a2 a3:Option Addr}{n2 k2 n3 k3:Nat}(h2:Rep w A (.slice a2 n2 k2) (.sl (c.moves.map Mov.v)))(h3:Rep w A (.slice a3 n3 k3) (.sl (c.parts.map Tim.v))) :
  Rep w A (.agg #[.string ⟨c.num.toArray⟩,.string ⟨c.label.toArray⟩,.slice a2 n2 k2,.slice a3 n3 k3,.bool c.block,.bool c.mark,.int .i64 c.follow,.string ⟨c.link.toArray⟩,.int .i64 c.loops]) c.v:=by
 refine Rep.agg [.string ⟨c.num.toArray⟩,.string ⟨c.label.toArray⟩,.slice a2 n2 k2,.slice a3 n3 k3,.bool c.block,.bool c.mark,.int .i64 c.follow,.string ⟨c.link.toArray⟩,.int .i64 c.loops] _ rfl (fun v hv=>?_) (fun i v d h4 h5=>?_)
 ·simp at hv;rcases hv with rfl|rfl|rfl|rfl|rfl|rfl|rfl|rfl|rfl<;>rfl
 ·match i,h4,h5 with
  |0,h4,h5=>simp at h4 h5;subst h4 h5;exact .str _
  |1,h4,h5=>simp at h4 h5;subst h4 h5;exact .str _
  |2,h4,h5=>simp at h4 h5;subst h4 h5;exact h2
  |3,h4,h5=>simp at h4 h5;subst h4 h5;exact h3
  |4,h4,h5=>simp at h4 h5;subst h4 h5;exact .bool _
  |5,h4,h5=>simp at h4 h5;subst h4 h5;exact .bool _
  |6,h4,h5=>simp at h4 h5;subst h4 h5;exact .int _ _
  |7,h4,h5=>simp at h4 h5;subst h4 h5;exact .str _
  |8,h4,h5=>simp at h4 h5;subst h4 h5;exact .int _ _
  |n+9,h4,h5=>simp at h4
theorem prm_inv {w:World}{A:Abs}{v:Value}{a b:Int}(h:Rep w A v (.agg [.int .i64 a,.int .i64 b])):v=.agg #[.int .i64 a,.int .i64 b]:=by
 obtain⟨vs,rfl,hl,_,hr⟩:=h.agg_inv
 match vs,hl,hr with
 |[x,y],_,hr =>
  have e1:=(hr 0 x _ rfl rfl).int_inv
  have e2:=(hr 1 y _ rfl rfl).int_inv
  subst e1 e2;rfl
theorem prm_rep {w:World}{A:Abs}{a b:Int}:Rep w A (.agg #[.int .i64 a,.int .i64 b]) (.agg [.int .i64 a,.int .i64 b]):=by
 refine Rep.agg [.int .i64 a,.int .i64 b] _ rfl (fun v hv=>?_) (fun i v d h4 h5=>?_)
 ·simp at hv;rcases hv with rfl|rfl<;>rfl
 ·match i,h4,h5 with
  |0,h4,h5=>simp at h4 h5;subst h4 h5;exact .int _ _
  |1,h4,h5=>simp at h4 h5;subst h4 h5;exact .int _ _
  |n+2,h4,h5=>simp at h4
theorem valF_at {l:List Cu}{q:Prm}:∀{a k:Nat},k≤a→(∀j,j<k→movF (l.getD (a-j) default).moves q=none∧(l.getD (a-j) default).block=false)→valF l q a=valF l q (a-k)
 |a,0,_,_=>rfl
 |0,k+1,h,_=>by omega
 |a+1,k+1,h,hj=>by
  obtain⟨h1,h2⟩:=hj 0 (by omega)
  simp only[Nat.sub_zero]at h1 h2
  rw[valF,h1,h2]
  simp only[Bool.false_eq_true,if_false]
  rw[valF_at (a:=a) (k:=k) (by omega) (fun j hjk=>by have:=hj (j+1) (by omega);rwa [show a+1-(j+1)=a-j by omega]at this)]
  congr 1;omega
theorem callable126:Callable Tryz.prog 126:=⟨_,Tryz.func126,by kernel_rfl,by kernel_rfl⟩
theorem v126 (x y:Int)(l:List Cu)(a:Nat)(q:Prm)(st:St)(ha:a<l.length)(hl:l.length≤1000000)(hq:okP q=true)(hm:∀c∈l,okMs c.moves=true)(hml:∀c∈l,c.moves.length<140737488355328) :
  VRet Tryz.prog 126 [.agg [.int .i64 x,.int .i64 y,.sl (l.map Cu.v)],.int .i64 a,.agg [.int .i64 q.chan,.int .i64 q.attr]] st (valF l q a).v st:=by
 refine VRet_of_below callable126 (fun w A vs hw hv=>?_)
 obtain⟨u0,u1,u2,rfl,r0,r1,r2⟩:∃u0 u1 u2,vs=[u0,u1,u2]∧Rep w A u0 (.agg [.int .i64 x,.int .i64 y,.sl (l.map Cu.v)])∧Rep w A u1 (.int .i64 a)∧Rep w A u2 (.agg [.int .i64 q.chan,.int .i64 q.attr]):=by
  obtain⟨hlen,hr⟩:=hv
  match vs,hlen,hr with
  |[u0,u1,u2],_,hr=>exact⟨u0,u1,u2,rfl,hr 0 _ _ rfl rfl,hr 1 _ _ rfl rfl,hr 2 _ _ rfl rfl⟩
 obtain rfl:=r1.int_inv
 obtain rfl:=prm_inv r2
 obtain⟨us,rfl,hus,_,hur⟩:=r0.agg_inv
 obtain⟨t0,t1,t2,rfl⟩:∃t0 t1 t2,us=[t0,t1,t2]:=by
  match us,hus with
  |[t0,t1,t2],_=>exact⟨t0,t1,t2,rfl⟩
 have hne:l≠[]:=by intro e;rw[e]at ha;simp at ha
 obtain⟨b,o,cap,cell,rfl,hc⟩:=cues_at (hur 2 _ _ rfl rfl) hne
 have hget:∀j,j<l.length→l[j]?=some (l.getD j default):=fun j hj=>by rw[List.getD_eq_getElem?_getD,List.getElem?_eq_getElem hj];rfl
 have hb:b<w.heap.size:=hw.Clt _ _ (hc a _ (hget a ha) 0 _ rfl).1
 have hs:∀j,∃a2:Option Addr,∃n2 k2:Nat,∃a3:Option Addr,∃n3 k3:Nat,(j<l.length→w.cell? ⟨b,o+j*9+2,none⟩=some (.slice a2 n2 k2)∧w.cell? ⟨b,o+j*9+3,none⟩=some (.slice a3 n3 k3))∧Rep w A (.slice a2 n2 k2) (.sl ((l.getD j default).moves.map Mov.v))∧Rep w A (.slice a3 n3 k3) (.sl ((l.getD j default).parts.map Tim.v)):=fun j=>by
  by_cases hj:j<l.length
  ·obtain⟨_,g2,g3⟩:=hc j _ (hget j hj) 2 _ rfl
   obtain⟨_,g4,g5⟩:=hc j _ (hget j hj) 3 _ rfl
   obtain⟨a2,n2,k2,e2⟩:=rep_sl g3
   obtain⟨a3,n3,k3,e3⟩:=rep_sl g5
   rw[e2]at g2 g3
   rw[e3]at g4 g5
   exact⟨a2,n2,k2,a3,n3,k3,fun _=>⟨by rw[Nat.add_assoc];exact g2,by rw[Nat.add_assoc];exact g4⟩,g3,g5⟩
  ·have e:l.getD j default=default:=by rw[List.getD_eq_getElem?_getD,List.getElem?_eq_none (by omega)];rfl
   rw[e]
   exact⟨none,0,0,none,0,0,fun h=>absurd h hj,.slnil _,.slnil _⟩
 obtain⟨a2,hs⟩:=Classical.axiomOfChoice hs
 obtain⟨n2,hs⟩:=Classical.axiomOfChoice hs
 obtain⟨k2,hs⟩:=Classical.axiomOfChoice hs
 obtain⟨a3,hs⟩:=Classical.axiomOfChoice hs
 obtain⟨n3,hs⟩:=Classical.axiomOfChoice hs
 obtain⟨k3,hs⟩:=Classical.axiomOfChoice hs
 have hok:∀j,okMs (l.getD j default).moves=true∧(l.getD j default).moves.length<140737488355328:=fun j=>by
  by_cases hj:j<l.length
  ·have:=List.mem_of_getElem? (hget j hj)
   exact⟨hm _ this,hml _ this⟩
  ·have e:l.getD j default=default:=by rw[List.getD_eq_getElem?_getD,List.getElem?_eq_none (by omega)];rfl
   rw[e];exact⟨rfl,by decide⟩
 have hmove:∀j W,Below w.heap.size w W→Calls Tryz.prog 189 #[.agg #[.string ⟨(l.getD j default).num.toArray⟩,.string ⟨(l.getD j default).label.toArray⟩,.slice (a2 j) (n2 j) (k2 j),.slice (a3 j) (n3 j) (k3 j),.bool (l.getD j default).block,.bool (l.getD j default).mark,.int .i64 (l.getD j default).follow,.string ⟨(l.getD j default).link.toArray⟩,.int .i64 (l.getD j default).loops],.agg #[.int .i64 q.chan,.int .i64 q.attr]] W fun e W' =>
   e=.returned (.tuple #[.agg #[.int .i64 ((movF (l.getD j default).moves q).getD ⟨-1,0⟩).pal,.int .i64 ((movF (l.getD j default).moves q).getD ⟨-1,0⟩).lev],.bool (movF (l.getD j default).moves q).isSome])∧Below W.heap.size W W':=fun j W hB=>by
  obtain⟨_,g2,g3⟩:=hs j
  have hx:=Ext.below hw hB
  have hwW:=hw.below hB
  have h0:Reps W A [.agg #[.string ⟨(l.getD j default).num.toArray⟩,.string ⟨(l.getD j default).label.toArray⟩,.slice (a2 j) (n2 j) (k2 j),.slice (a3 j) (n3 j) (k3 j),.bool (l.getD j default).block,.bool (l.getD j default).mark,.int .i64 (l.getD j default).follow,.string ⟨(l.getD j default).link.toArray⟩,.int .i64 (l.getD j default).loops],.agg #[.int .i64 q.chan,.int .i64 q.attr]] [(l.getD j default).v,q.v] :=
   ⟨rfl,fun i v c h1 h2=>by
    match i,h1,h2 with
    |0,h1,h2=>simp at h1 h2;subst h1 h2;exact agg9 (g2.mono hx) (g3.mono hx)
    |1,h1,h2=>simp at h1 h2;subst h1 h2;exact prm_rep
    |n+2,h1,h2=>simp at h1⟩
  have h1:=h0.data (B:=abs0 W) (fun b o h=>hwW.Clt b o h) (by simp[V.bdL,Cu.bd,Prm.bd])
  have hV:VRet Tryz.prog 189 [(l.getD j default).v,q.v] st0 (.tup [((movF (l.getD j default).moves q).getD ⟨-1,0⟩).v,.bool (movF (l.getD j default).moves q).isSome]) st0:=run_sound mixed HN0_ok _ _ _ _ _ (f189 (hok j).1 hq (hok j).2)
  refine(calls_of Tryz.func189 (by kernel_rfl) (by kernel_rfl) hV h1).mono fun e W' ⟨⟨v,A',he,hr⟩,hb⟩=>⟨?_,hb⟩
  obtain⟨ws,rfl,hws,hwr⟩:=hr.tup_inv
  obtain⟨y0,y1,rfl⟩:∃y0 y1,ws=[y0,y1]:=by
   match ws,hws with
   |[y0,y1],_=>exact⟨y0,y1,rfl⟩
  obtain rfl:=prm_inv (hwr 0 _ _ rfl rfl)
  obtain rfl:=(hwr 1 _ _ rfl rfl).bool_inv
  exact he
 have hhome:∀W,Calls Tryz.prog 190 #[] W fun e W'=>e=.returned (.agg #[.int .i64 (-1),.int .i64 0])∧Below W.heap.size W W':=fun W=>by
  have hV:VRet Tryz.prog 190 [] st0 (.agg [.int .i64 (-1),.int .i64 0]) st0:=run_sound mixed HN0_ok _ _ _ _ _ f190
  refine(calls_of (vs:=[]) (w:=W) Tryz.func190 (by kernel_rfl) (by kernel_rfl) hV ⟨rfl,fun i v c h1 h2=>by simp at h1⟩).mono fun e W' ⟨⟨v,A',he,hr⟩,hb⟩=>⟨?_,hb⟩
  rw[prm_inv hr]at he;exact he
 have hbox:∀j,j<l.length→Box9 (fun x=>.string ⟨(l.getD x default).num.toArray⟩) (fun x=>.string ⟨(l.getD x default).label.toArray⟩) (fun x=>.slice (a2 x) (n2 x) (k2 x)) (fun x=>.slice (a3 x) (n3 x) (k3 x)) (fun x=>(l.getD x default).block) (fun x=>.bool (l.getD x default).mark) (fun x=>.int .i64 (l.getD x default).follow) (fun x=>.string ⟨(l.getD x default).link.toArray⟩) (fun x=>.int .i64 (l.getD x default).loops) w b (o+j*9) j:=fun j hj=>by
  have hg:=hget j hj
  obtain⟨_,e0,d0⟩:=hc j _ hg 0 _ rfl
  obtain⟨_,e1,d1⟩:=hc j _ hg 1 _ rfl
  obtain⟨_,e4,d4⟩:=hc j _ hg 4 _ rfl
  obtain⟨_,e5,d5⟩:=hc j _ hg 5 _ rfl
  obtain⟨_,e6,d6⟩:=hc j _ hg 6 _ rfl
  obtain⟨_,e7,d7⟩:=hc j _ hg 7 _ rfl
  obtain⟨_,e8,d8⟩:=hc j _ hg 8 _ rfl
  rw[d0.str_inv]at e0
  rw[d1.str_inv]at e1
  rw[d4.bool_inv]at e4
  rw[d5.bool_inv]at e5
  rw[d6.int_inv]at e6
  rw[d7.str_inv]at e7
  rw[d8.int_inv]at e8
  obtain⟨e2,e3⟩:=(hs j).1 hj
  simp only[←Nat.add_assoc,Nat.add_zero]at e0 e1 e4 e5 e6 e7 e8
  exact⟨e0,e1,e2,e3,e4,e5,e6,e7,e8⟩
 refine(value_calls w b o l.length cap a (fun x=>⟨(l.getD x default).num.toArray⟩) (fun x=>⟨(l.getD x default).label.toArray⟩) (fun x=>⟨(l.getD x default).link.toArray⟩) a2 a3 n2 k2 n3 k3 (fun x=>(l.getD x default).mark) (fun x=>(l.getD x default).follow) (fun x=>(l.getD x default).loops) (fun x=>(l.getD x default).block) t0 t1 (.int .i64 q.chan) (.int .i64 q.attr)
  (fun x=>((movF (l.getD x default).moves q).getD ⟨-1,0⟩).pal) (fun x=>((movF (l.getD x default).moves q).getD ⟨-1,0⟩).lev) (fun x=>(movF (l.getD x default).moves q).isSome) (by omega) hb ha hbox hmove hhome).mono fun e W' ⟨he,hB⟩=>?_
 have hmem:∀{k j:Nat},j<k→(a-j)∈dnL a k:=fun {k j} hj=>by unfold dnL;exact List.mem_map.2 ⟨j,List.mem_range.2 hj,rfl⟩
 rcases he with⟨k,h1,h2,h3,h4,rfl⟩|⟨k,h1,h2,h3,h4,rfl⟩
 ·refine⟨_,rfl,fun w' A'=>?_,hB⟩
  have hk0:0<k:=by rcases h3 with h3|h3<;>omega
  have hn:∀j,j<k→movF (l.getD (a-j) default).moves q=none:=fun j hj=>by
   have:=h2 _ (hmem hj)
   cases hx:movF (l.getD (a-j) default).moves q with
   |none=>rfl
   |some v=>rw[hx]at this;simp at this
  have e1:=valF_at (l:=l) (q:=q) (a:=a) (k:=k-1) (by omega) (fun j hj=>⟨hn j (by omega),by have:=h4 (j+1) (by omega) (by omega);rwa [show a+1-(j+1)=a-j by omega]at this⟩)
  have e2:valF l q (a-(k-1))=⟨-1,0⟩:=by
   have hz:=hn (k-1) (by omega)
   cases hy:a-(k-1) with
   |zero=>rw[valF];rw[hy]at hz;rw[hz];rfl
   |succ y =>
    rw[hy]at hz
    rw[valF,hz]
    rcases h3 with h3|⟨_,h3⟩
    ·omega
    ·rw[show a+1-k=y+1 by omega]at h3
     simp only[h3,if_true]
  rw[e1,e2]
  exact prm_rep
 ·refine⟨_,rfl,fun w' A'=>?_,hB⟩
  have hn:∀j,j<k→movF (l.getD (a-j) default).moves q=none:=fun j hj=>by
   have:=h2 _ (hmem hj)
   cases hx:movF (l.getD (a-j) default).moves q with
   |none=>rfl
   |some v=>rw[hx]at this;simp at this
  have e1:=valF_at (l:=l) (q:=q) (a:=a) (k:=k) (by omega) (fun j hj=>⟨hn j hj,by have:=h4 (j+1) (by omega) (by omega);rwa [show a+1-(j+1)=a-j by omega]at this⟩)
  rw[e1]
  obtain⟨v,hv⟩:=Option.isSome_iff_exists.1 h3
  have e2:valF l q (a-k)=v:=by
   cases hy:a-k with
   |zero=>rw[valF];rw[hy]at hv;rw[hv];rfl
   |succ y=>rw[hy]at hv;rw[valF,hv]
  rw[e2]
  simp only[hv,Option.getD_some]
  exact prm_rep
end Go.Proofs.YtkpcomdhdjihlaaGreatDoor

namespace Go.Proofs.YtkpcomdhdjihlaaGreatDoor
open Go.Sha Go.RowKit
open Go.Lib (below_grow)
set_option maxRecDepth 100000
variable {g:List (Nat×Obj)}{n:Nat}
theorem intsB_eq {k:IntKind}:∀{zs:List Int}{vs:List Value},intsB k zs vs=true→vs=zs.map fun z=>Value.int k z
 |[],[],_=>rfl
 |[],_::_,h=>by cases h
 |z::zs,v::vs,h=>by
  unfold intsB at h
  split at h
  ·rename_i h1 h2;cases h1
  ·rename_i z' zs' j n' r h1 h2
   cases h1;cases h2
   simp only[Bool.and_eq_true,decide_eq_true_eq]at h
   obtain⟨⟨h3,h4⟩,h5⟩:=h
   subst h3;subst h4
   rw[intsB_eq h5];rfl
  ·cases h
 |z::zs,[],h=>by unfold intsB at h;cases h
theorem tab_at {gl:List (Nat×Obj)}{v:Nat}{k:IntKind}{zs:List Int}(h:gl.any (tabB v k zs)=true):∃T fz,(v,Obj.cells (zs.map fun z=>Value.int k z).toArray T fz)∈gl:=by
 obtain⟨p,hp,hh⟩:=List.any_eq_true.1 h
 obtain⟨i,o⟩:=p
 simp only[tabB,Bool.and_eq_true,decide_eq_true_eq]at hh
 obtain⟨hi,hh⟩:=hh
 subst hi
 split at hh
 ·rename_i cs T fz
  have:=intsB_eq hh
  refine⟨T,fz,?_⟩
  rw[←this]
  exact hp
 ·cases hh
theorem tab_is {w:World}{A:Abs}{st:St}(hw:Sim w A st){v:Nat}{name:String}{k:IntKind}{zs:List Int}(hn:Tryz.prog.globalNamed name=some v)(h:st.x.gl.any (tabB v k zs)=true):Lib.TabIs Tryz.prog w name k zs:=by
 obtain⟨T,fz,hm⟩:=tab_at h
 have:=(hw.x.gl _ hm).1
 simp only[Lib.TabIs,World.var?,hn,Option.bind_some,this]
theorem callable72:Callable Tryz.prog 72:=⟨_,Tryz.func72,by kernel_rfl,by kernel_rfl⟩
theorem v72 {n:Int}(h0:-9223372036854775808≤n)(h1:n≤9223372036854775807){st:St}(hG:glB st.x.gl=true):VRet Tryz.prog 72 [.int .i64 n] st (.str (Lib.itoa n)) st:=by
 simp only[glB,Bool.and_eq_true]at hG
 refine VRet_of_below callable72 (fun w A vs hw ha=>?_)
 obtain⟨u,rfl,h2⟩:=ha.one
 have e1:=h2.int_inv
 subst e1
 refine(Tryz.strconv_Itoa n h0 h1 w (tab_is hw (by kernel_rfl) hG.1)).mono fun e w' ⟨he,k,os,hw'⟩=>?_
 subst he
 exact⟨_,rfl,fun _ _=>.str _,by rw[hw'];exact below_grow _ w (Nat.le_refl _) k os⟩
theorem callable52:Callable Tryz.prog 52:=⟨_,Tryz.func52,by kernel_rfl,by kernel_rfl⟩
theorem v52 {s:List UInt8}{n:Int}(h0:0≤n)(hn:n≤1000000)(h1:s.length*n.toNat≤1000000){st:St}:VRet Tryz.prog 52 [.str s,.int .i64 n] st (.str (Lib.repeatL s n.toNat)) st:=by
 refine VRet_of_below callable52 (fun w A vs hw ha=>?_)
 obtain⟨hl,ha⟩:=ha
 match vs,hl with
 |[u,v],_ =>
 have e1:=(ha 0 u _ rfl rfl).str_inv
 have e2:=(ha 1 v _ rfl rfl).int_inv
 subst e1;subst e2
 obtain⟨m,rfl⟩:∃m:Nat,n=m:=⟨n.toNat,by omega⟩
 rw[Int.toNat_natCast]at h1 ⊢
 refine(Tryz.strings_Repeat ⟨s.toArray⟩ m w (by omega) (by simp[ByteArray.size];omega)).mono fun e w' ⟨he,hb⟩=>?_
 subst he
 exact⟨_,rfl,fun _ _=>.str _,hb⟩
theorem callable59:Callable Tryz.prog 59:=⟨_,Tryz.func59,by kernel_rfl,by kernel_rfl⟩
theorem strsV_map:∀{l:List V}{ss:List (List UInt8)},strsV l=some ss→l=ss.map .str
 |[],ss,h=>by cases h;rfl
 |v::r,ss,h=>by
  unfold strsV at h
  split at h
  ·rename_i h1;cases h1
  ·rename_i s r' h1
   cases h1
   obtain⟨x,hx,rfl⟩:=Option.map_eq_some_iff.1 h
   rw[strsV_map hx];rfl
  ·cases h
theorem v59 {ss:List (List UInt8)}{t:List UInt8}(hn:ss.length≤1000000)(hl:(Lib.join ss t).length≤100000000000){st:St}:VRet Tryz.prog 59 [.sl (ss.map .str),.str t] st (.str (Lib.join ss t)) st:=by
 refine VRet_of_below callable59 (fun w A vs hw ha=>?_)
 obtain⟨hlen,ha⟩:=ha
 match vs,hlen with
 |[u,v],_ =>
 have h1:=ha 0 u _ rfl rfl
 have e2:=(ha 1 v _ rfl rfl).str_inv
 subst e2
 have hbytes:(ss.map fun l=>(⟨l.toArray⟩:ByteArray)).map (·.data.toList)=ss:=by simp[Function.comp_def]
 generalize hd:V.sl (ss.map .str)=d at h1
 cases h1 with
 |sl ys b o cap es cell hes hcap hm hC hr =>
  cases hd
  cases hss:ss with
  |nil =>
   subst hss
   refine(Tryz.strings_Join_none _ cap ⟨t.toArray⟩ w).mono fun e w' ⟨he,hb⟩=>?_
   subst he;subst hb
   exact⟨_,rfl,fun _ _=>.str _,Below.refl _ _⟩
  |cons x r =>
   rw[←hss]
   have e1:es=1:=(hes (.str x) (by rw[hss];simp)).symm.trans rfl
   subst e1
   have hbk:b<w.heap.size:=by
    have hx0:(ss.map V.str)[0]?=some (.str x):=by rw[hss];rfl
    exact hw.Clt _ _ (hC 0 0 _ _ hx0 rfl).1
   have:=Tryz.strings_Join b o cap (ss.map fun l=>(⟨l.toArray⟩:ByteArray)) ⟨t.toArray⟩ w (fun j y hj=>?_) hbk (by rw[List.length_map];omega) (by rw[List.length_map];rw[List.length_map]at hcap;exact hcap) (by rw[hbytes];show(Lib.join ss t).length≤_;omega)
   ·rw[hbytes,List.length_map]at this
    rw[List.length_map]
    refine this.mono fun e w' ⟨he,hb⟩=>?_
    subst he
    exact⟨_,rfl,fun _ _=>.str _,hb⟩
   ·rw[List.getElem?_map]at hj
    obtain⟨l,hl1,rfl⟩:=Option.map_eq_some_iff.1 hj
    have hjx:(ss.map V.str)[j]?=some (.str l):=by rw[List.getElem?_map,hl1];rfl
    obtain⟨_,g2,_⟩:=hC j 0 _ _ hjx rfl
    have g3:=hr j 0 _ _ hjx rfl
    rw[g3.str_inv]at g2
    simpa using g2
 |slnil a =>
  have hss:ss=[]:=by
   cases ss with
   |nil=>rfl
   |cons x r=>cases hd
  subst hss
  refine(Tryz.strings_Join_none _ _ ⟨t.toArray⟩ w).mono fun e w' ⟨he,hb⟩=>?_
  subst he;subst hb
  exact⟨_,rfl,fun _ _=>.str _,Below.refl _ _⟩
 |_=>cases hd
theorem weak_back {st:St}(h:st.Wf){a:Arr}:Weak st.nx ⟨st.nx+1,st.mem,(st.nx,a)::st.arr,st.x⟩ st where
 nx:=rfl
 le:=Nat.le_succ _
 mem id cs hl:=⟨(h.mem id cs hl).1,hl⟩
 arr id a' hl:=⟨(h.arr id a' hl).1,by
  have:=(h.arr id a' hl).1
  simp only[Sha.look];rw[if_neg (by omega)];exact hl⟩
 bdm id cs hl:=(h.mem id cs hl).2
 bda id a' hl:=(h.arr id a' hl).2
 x:=⟨fun id o hl=>⟨(h.x id o hl).1,hl⟩,rfl,fun id T hl=>⟨h.t id T hl,hl⟩⟩
 bdx id o hl:=(h.x id o hl).2
theorem fresh_sl {w:World}{A:Abs}{st:St}(hw:Sim w A st)(l:List (List UInt8))(hl:l.length≤1000000):∃r A' st',(r=.ret (.sl (l.map .str))∧st'=st)∧EndRel (w.alloc (.cells (l.map fun l=>Value.string ⟨l.toArray⟩).toArray 9)) A' (.returned (.slice (some ⟨w.heap.size,0,none⟩) l.length l.length)) r∧Sim (w.alloc (.cells (l.map fun l=>Value.string ⟨l.toArray⟩).toArray 9)) A' st'∧Ext w A (w.alloc (.cells (l.map fun l=>Value.string ⟨l.toArray⟩).toArray 9)) A':=by
 have h1:=Sim.newArr (w0:=w) (cur:=(l.map fun l=>Value.string ⟨l.toArray⟩).toArray) (xs:=l.map V.str) (e:=9) (es:=1) (cap:=l.length) (wr:=false) (fz:=false) hw ⟨rfl,rfl,rfl,rfl⟩ (fun x hx=>by obtain⟨y,_,rfl⟩:=List.mem_map.1 hx;rfl) (by rw[List.length_map];exact Nat.le_refl _) (by unfold maxLen;omega) (by simp) (fun i j x c hi hj=>by
  rw[List.getElem?_map]at hi
  obtain⟨y,hy,rfl⟩:=Option.map_eq_some_iff.1 hi
  cases j with
  |zero=>simp[V.cells]at hj;subst hj;exact⟨_,by simp[hy],rfl,.str _⟩
  |succ j=>simp[V.cells]at hj)
 have hx:=Ext.newArr (w0:=w) hw ⟨rfl,rfl,rfl,rfl⟩ (.cells (l.map fun l=>Value.string ⟨l.toArray⟩).toArray 9) (l.map V.str).length (.slice (some ⟨w.heap.size,0,none⟩) (l.map V.str).length l.length) (!false) ((l.map V.str).length*1)
 have hR:Rep (w.alloc (.cells (l.map fun l=>Value.string ⟨l.toArray⟩).toArray 9)) (A.newArr w.heap.size (l.map V.str).length (.slice (some ⟨w.heap.size,0,none⟩) (l.map V.str).length l.length) (!false) ((l.map V.str).length*1)) (.slice (some ⟨w.heap.size,0,none⟩) (l.map V.str).length l.length) (.osl A.nx (l.map V.str).length):=Rep.newArr
 have hS:=snapA_rep h1 hR (d':=.sl (l.map V.str)) (by rw[←hw.nx];simp[snapA_osl,Sha.look,snapO])
 have hown0:∀b id,A.own b=some id→id<A.nx:=fun b id h=>(hw.ownlt b id h).2
 refine⟨_,_,_,⟨rfl,rfl⟩,?_,h1.cut (weak_back hw.wf),hx.cut hown0 (by rw[←hw.nx];exact Nat.le_refl _)⟩
 have:=hS.cut (n:=st.nx) (by simp[V.bd,bdL_map'])
 rw[List.length_map]at this ⊢
 exact this
theorem cntF_le:∀(l:List UInt8) (b:Bool),Lib.cntF b l≤l.length
 |[],_=>Nat.le_refl _
 |x::l,b=>by
  have:=cntF_le l (Lib.isSp x)
  unfold Lib.cntF
  rw[List.length_cons]
  split<;>omega
theorem callable138:Callable Tryz.prog 138:=⟨_,Tryz.func138,by kernel_rfl,by kernel_rfl⟩
theorem v138 {s:List UInt8}(h1:s.length≤1000)(h2:∀b∈s,b.toNat<128){st:St}(hG:glB st.x.gl=true):VRet Tryz.prog 138 [.str s] st (.sl ((Lib.fields s).map .str)) st:=by
 simp only[glB,Bool.and_eq_true]at hG
 refine .inl ⟨callable138,fun w A vs hw ha=>?_⟩
 obtain⟨u,rfl,h3⟩:=ha.one
 have e1:=h3.str_inv
 subst e1
 refine(Tryz.strings_Fields ⟨s.toArray⟩ w (by simp[ByteArray.size];omega) (fun j b hj=>h2 b (List.mem_of_getElem? hj)) (tab_is hw (by kernel_rfl) hG.2)).mono fun e w' ⟨he,hb⟩=>?_
 subst he
 change w'=w.alloc (.cells ((Lib.fields s).map fun l=>Value.string ⟨l.toArray⟩).toArray 9) at hb
 subst hb
 exact fresh_sl hw (Lib.fields s) (by rw[Lib.fields_length];have:=cntF_le s true;omega)
def oddR (r:Nat):Bool:=decide (r<32)||decide (126<r)
theorem pred129 (w:World):PredAt Tryz.prog 168 #[] encR oddR w:=fun W r _=>by
 unfold FnGives
 by_cases h1:r<32<;>by_cases h2:126<r
 all_goals
  have z1:(r:Int)<32↔r<32:=by omega
  have z2:(126:Int)<(r:Int)↔126<r:=by omega
  go_enter Tryz.func168,Tryz.ntmps168
  go_wp2
  all_goals first|(exfalso;omega)|(go_ret;exact⟨by simp[oddR,h1,h2],0,rfl⟩)
theorem v235' (s:List UInt8)(st:St):VRet Tryz.prog 235 [.str s,.fn (.func 168) [] [],.bool true] st (.int .i64 (Lib.idxFunc oddR true ⟨s.toArray⟩)) st:=by
 refine VRet_of_below callable235 (fun w A vs hw ha=>?_)
 obtain⟨hl,ha⟩:=ha
 match vs,hl with
 |[v0,v1,v2],_ =>
 have e0:=(ha 0 v0 _ rfl rfl).str_inv
 have r1:=ha 1 v1 _ rfl rfl
 have e2:=(ha 2 v2 _ rfl rfl).bool_inv
 have e1:v1=.func (.func 168) #[] #[]:=by
  cases r1 with
  |fn _ vs us _ _ e1 e2 _ _ =>
   have h1:vs=[]:=List.eq_nil_of_length_eq_zero e1
   have h2:us=[]:=List.eq_nil_of_length_eq_zero e2
   rw[h1,h2]
 subst e0;subst e1;subst e2
 refine(Tryz.strings_indexFunc 168 #[] (enters_of Tryz.func168 (by kernel_rfl) rfl) oddR true ⟨s.toArray⟩ w (pred129 w)).mono fun e w' ⟨he,hb⟩=>?_
 subst he
 exact⟨_,rfl,fun w' A'=>.int _ _,hb⟩
theorem odd_from (s:ByteArray):∀(f pos:Nat),s.size≤pos+f→Lib.idxFuncFrom oddR true s f pos=match(s.data.toList.drop pos).findIdx? (fun b=>!plainB b) with|some i=>((pos+i:Nat):Int)|none=>-1
 |0,pos,h=>by
  rw[List.drop_eq_nil_of_le (by rw[Array.length_toList];exact h)];rfl
 |f+1,pos,h=>by
  unfold Lib.idxFuncFrom
  by_cases hp:pos<s.size
  ·have hp':pos<s.data.toList.length:=by rw[Array.length_toList];exact hp
   have hb:s.data.toList[pos]'hp'=s[pos]'hp:=rfl
   rw[if_pos hp,List.drop_eq_getElem_cons hp',List.findIdx?_cons,hb]
   by_cases ha:(s[pos]'hp).toNat<128
   ·rw[decode_ascii s pos hp ha]
    have ih:=odd_from s f (pos+1) (by omega)
    cases hd:plainB (s[pos]'hp) with
    |true =>
     have:¬oddR (s[pos]'hp).toNat=true:=by
      simp only[plainB,Bool.and_eq_true,decide_eq_true_eq]at hd
      simp only[oddR,Bool.or_eq_true,decide_eq_true_eq];omega
     rw[if_neg this,ih]
     simp only[Bool.not_true,Bool.false_eq_true,if_false]
     cases(s.data.toList.drop (pos+1)).findIdx? (fun b=>!plainB b) with
     |none=>rfl
     |some i=>show((pos+1+i:Nat):Int)=((pos+(i+1):Nat):Int);rw[show pos+1+i=pos+(i+1) by omega]
    |false =>
     have:oddR (s[pos]'hp).toNat=true:=by
      simp only[plainB,Bool.and_eq_false_iff,decide_eq_false_iff_not]at hd
      simp only[oddR,Bool.or_eq_true,decide_eq_true_eq];omega
     rw[if_pos this]
     simp
   ·obtain⟨h1,h2⟩:=decode_high s pos hp (by omega)
    have:oddR (Utf8.decode s pos).1=true:=by
     simp only[oddR,Bool.or_eq_true,decide_eq_true_eq];omega
    have hd:plainB (s[pos]'hp)=false:=by
     simp only[plainB,Bool.and_eq_false_iff,decide_eq_false_iff_not];omega
    rw[if_pos this,hd]
    simp
  ·rw[if_neg hp,List.drop_eq_nil_of_le (by rw[Array.length_toList];exact Nat.le_of_not_lt hp)];rfl
theorem odd_idx (s:List UInt8):Lib.idxFunc oddR true ⟨s.toArray⟩=oddI s:=by
 have:=odd_from ⟨s.toArray⟩ s.length 0 (by simp[ByteArray.size])
 have e:Lib.idxFunc oddR true ⟨s.toArray⟩=Lib.idxFuncFrom oddR true ⟨s.toArray⟩ s.length 0:=by simp[Lib.idxFunc,ByteArray.size]
 rw[e,this]
 unfold oddI
 simp only[List.drop_zero]
 cases s.findIdx? (fun b=>!plainB b) with
 |none=>rfl
 |some i=>simp
def q235':List V→Option VRes
 |[.str s,.fn (.func 168) [] [],.bool true]=>some (.ret (.int .i64 (Lib.idxFunc oddR true ⟨s.toArray⟩)))
 |_=>none
def HL1:EvF:=⟨[],fun f args st=>(bif Nat.beq f 235 then q235' args else none).map fun r=>(r,st)⟩
@[push_cast]theorem HL1_raw:HL1.raw=[]:=idq rfl
theorem HL1_ok:ESound Tryz.prog HL1:=fun f args st r s h=>by
 obtain⟨z,hz,e⟩:=Option.map_eq_some_iff.1 h
 cases e
 by_cases h3:f=235
 ·subst h3
  rw[show Nat.beq 235 235=true from rfl,cond_true]at hz
  unfold q235' at hz
  split at hz<;>cases hz
  exact v235' _ _
 rw[show Nat.beq f 235=false from Bool.eq_false_iff.2 fun e=>h3 (Nat.eq_of_beq_eq_true e),cond_false]at hz
 cases hz
theorem v169 {s:List UInt8}{st:St}:VRet Tryz.prog 169 [.str s,.fn (.func 168) [] []] st (.int .i64 (oddI s)) st:=by
 have h:∀st,run Tryz.prog HL1 235 [.str s,.fn (.func 168) [] [],.bool true] st=some (.ret (.int .i64 (Lib.idxFunc oddR true ⟨s.toArray⟩)),st):=fun st=>run_H rfl
 have h2:run Tryz.prog HL1 169 [.str s,.fn (.func 168) [] []] st=some (.ret (.int .i64 (oddI s)),st):=by
  rw[run_shut F169 rfl rfl rfl]
  push_cast[h,odd_idx]
 exact run_sound mixed HL1_ok _ _ _ _ _ h2
theorem HH_ok:ESound Tryz.prog HH:=fun f args st r s h=>by
 simp only[HH]at h
 by_cases h1:f=70
 ·subst h1
  rw[show Nat.beq 70 70=true from rfl,cond_true]at h
  unfold hSort at h
  split at h
  ·rename_i id n
   unfold hSortA at h
   split at h
   ·rename_i r0 hr
    split at h
    ·rename_i hc
     cases h
     obtain⟨c1,c2,c3,c4,c5⟩:=hc
     subst c1
     exact v70 hr c3 c4 c2 c5
    ·cases h
   ·cases h
  ·cases h
 rw[show Nat.beq f 70=false from Bool.eq_false_iff.2 fun e=>h1 (Nat.eq_of_beq_eq_true e),cond_false]at h
 obtain⟨z,hz,e⟩:=Option.map_eq_some_iff.1 h
 cases e
 by_cases h1:f=61
 ·subst h1
  rw[show Nat.beq 61 61=true from rfl,cond_true]at hz
  unfold hCut at hz
  split at hz
  ·split at hz
   ·rename_i hl;cases hz;exact run_sound mixed HL0_ok _ _ _ _ _ (k61 hl)
   ·cases hz
  ·cases hz
 rw[show Nat.beq f 61=false from Bool.eq_false_iff.2 fun e=>h1 (Nat.eq_of_beq_eq_true e),cond_false]at hz
 by_cases h1:f=65
 ·subst h1
  rw[show Nat.beq 65 65=true from rfl,cond_true]at hz
  unfold hSuf at hz
  split at hz
  ·split at hz
   ·rename_i hl;cases hz;exact run_sound mixed HL0_ok _ _ _ _ _ (k65 hl.1 hl.2)
   ·cases hz
  ·cases hz
 rw[show Nat.beq f 65=false from Bool.eq_false_iff.2 fun e=>h1 (Nat.eq_of_beq_eq_true e),cond_false]at hz
 by_cases h1:f=121
 ·subst h1
  rw[show Nat.beq 121 121=true from rfl,cond_true]at hz
  unfold hAny at hz
  split at hz
  ·cases hz;exact run_sound mixed HL0_ok _ _ _ _ _ k121
  ·cases hz
 rw[show Nat.beq f 121=false from Bool.eq_false_iff.2 fun e=>h1 (Nat.eq_of_beq_eq_true e),cond_false]at hz
 by_cases h1:f=372
 ·subst h1
  rw[show Nat.beq 372 372=true from rfl,cond_true]at hz
  unfold hAtoi at hz
  split at hz
  ·split at hz
   ·rename_i hl;cases hz;exact v372 _ _ hl.1 hl.2.1 hl.2.2
   ·cases hz
  ·cases hz
 rw[show Nat.beq f 372=false from Bool.eq_false_iff.2 fun e=>h1 (Nat.eq_of_beq_eq_true e),cond_false]at hz
 by_cases h1:f=323
 ·subst h1
  rw[show Nat.beq 323 323=true from rfl,cond_true]at hz
  unfold hTrim at hz
  split at hz
  ·split at hz
   ·rename_i hl
    obtain⟨e1,e2⟩:=hl
    subst e1
    cases hz;exact run_sound mixed HL0_ok _ _ _ _ _ (k323 e2)
   ·cases hz
  ·cases hz
 rw[show Nat.beq f 323=false from Bool.eq_false_iff.2 fun e=>h1 (Nat.eq_of_beq_eq_true e),cond_false]at hz
 by_cases h1:f=72
 ·subst h1
  rw[show Nat.beq 72 72=true from rfl,cond_true]at hz
  unfold hItoa at hz
  split at hz
  ·split at hz
   ·rename_i hl
    simp only[Bool.and_eq_true,decide_eq_true_eq]at hl
    cases hz;exact v72 hl.1.1 hl.1.2 hl.2
   ·cases hz
  ·cases hz
 rw[show Nat.beq f 72=false from Bool.eq_false_iff.2 fun e=>h1 (Nat.eq_of_beq_eq_true e),cond_false]at hz
 by_cases h1:f=52
 ·subst h1
  rw[show Nat.beq 52 52=true from rfl,cond_true]at hz
  unfold hRep at hz
  split at hz
  ·split at hz
   ·rename_i hl
    simp only[Bool.and_eq_true,decide_eq_true_eq]at hl
    cases hz;exact v52 hl.1.1 hl.1.2 hl.2
   ·cases hz
  ·cases hz
 rw[show Nat.beq f 52=false from Bool.eq_false_iff.2 fun e=>h1 (Nat.eq_of_beq_eq_true e),cond_false]at hz
 by_cases h1:f=59
 ·subst h1
  rw[show Nat.beq 59 59=true from rfl,cond_true]at hz
  unfold hJoin at hz
  split at hz
  ·split at hz
   ·rename_i ss hs
    split at hz
    ·rename_i hl
     simp only[Bool.and_eq_true,decide_eq_true_eq]at hl
     cases hz;exact strsV_map hs▸v59 hl.1 hl.2
    ·cases hz
   ·cases hz
  ·cases hz
 rw[show Nat.beq f 59=false from Bool.eq_false_iff.2 fun e=>h1 (Nat.eq_of_beq_eq_true e),cond_false]at hz
 by_cases h1:f=138
 ·subst h1
  rw[show Nat.beq 138 138=true from rfl,cond_true]at hz
  unfold hFields at hz
  split at hz
  ·split at hz
   ·rename_i hl
    simp only[Bool.and_eq_true,decide_eq_true_eq,List.all_eq_true]at hl
    cases hz;exact v138 hl.1.1 hl.1.2 hl.2
   ·cases hz
  ·cases hz
 rw[show Nat.beq f 138=false from Bool.eq_false_iff.2 fun e=>h1 (Nat.eq_of_beq_eq_true e),cond_false]at hz
 by_cases h1:f=184
 ·subst h1
  rw[show Nat.beq 184 184=true from rfl,cond_true]at hz
  unfold hIdx at hz
  split at hz
  ·cases hz;exact v184 _ _ _
  ·cases hz
 rw[show Nat.beq f 184=false from Bool.eq_false_iff.2 fun e=>h1 (Nat.eq_of_beq_eq_true e),cond_false]at hz
 by_cases h1:f=169
 ·subst h1
  rw[show Nat.beq 169 169=true from rfl,cond_true]at hz
  unfold hOdd at hz
  split at hz
  ·cases hz;exact v169
  ·cases hz
 rw[show Nat.beq f 169=false from Bool.eq_false_iff.2 fun e=>h1 (Nat.eq_of_beq_eq_true e),cond_false]at hz
 by_cases h1:f=126
 ·subst h1
  rw[show Nat.beq 126 126=true from rfl,cond_true]at hz
  unfold hVal at hz
  split at hz
  ·rename_i x y cs a c d
   split at hz
   ·rename_i l hl
    split at hz
    ·rename_i hc
     simp only[Bool.and_eq_true,decide_eq_true_eq,List.all_eq_true]at hc
     obtain⟨⟨⟨⟨c1,c2⟩,c3⟩,c4⟩,c5⟩:=hc
     cases hz
     have ea:a=(a.toNat:Int):=by omega
     have:=v126 x y l a.toNat ⟨c,d⟩ st (by omega) c3 c4 (fun z hz=>(c5 z hz).1) (fun z hz=>by have:=(c5 z hz).2;omega)
     rw[←ea,←rdL_map rdCu_v hl]at this
     exact this
    ·cases hz
   ·cases hz
  ·cases hz
 rw[show Nat.beq f 126=false from Bool.eq_false_iff.2 fun e=>h1 (Nat.eq_of_beq_eq_true e),cond_false]at hz
 cases hz
end Go.Proofs.YtkpcomdhdjihlaaGreatDoor

namespace Go.Proofs.YtkpcomdhdjihlaaGreatDoor
open Go.Sha
set_option maxRecDepth 100000
theorem thS_C:shoC thS=0:=by kernel_rfl
theorem thS_par:parS thS=[⟨1,0⟩,⟨1,1⟩,⟨2,0⟩,⟨2,1⟩]:=by
 rw[parS,if_pos thS_C,par_eq (fix_chan thS_C)];kernel_rfl
theorem thS_ok:thS.ok:=by
 refine⟨by decide,⟨by decide,by simp[thS,theatre]⟩,⟨by decide,?_,?_⟩,⟨by decide,?_⟩,⟨by decide,by simp[thS,theatre]⟩,⟨by decide,?_⟩,⟨by decide,?_⟩,⟨by decide,by simp[thS,theatre]⟩,⟨by decide,by simp[thS,theatre]⟩⟩
 ·intro q hq;simp[thS,theatre]at hq;subst hq;exact⟨by decide,by simp,by decide⟩
 ·intro q hq;simp[thS,theatre]at hq;subst hq;exact⟨by decide,fun z hz=>by simp at hz;rcases hz with rfl|rfl<;>exact⟨by decide,by simp⟩,by decide⟩
 ·intro q hq;simp[thS,theatre]at hq;rcases hq with rfl|rfl<;>decide
 ·intro q hq;simp[thS,theatre]at hq;subst hq;decide
 ·intro q hq;simp[thS]at hq;subst hq;exact⟨by decide,fun z hz=>by simp at hz;subst hz;exact⟨by decide,by decide,by decide,by decide,by decide⟩⟩
theorem HK_ok:ESound Tryz.prog HK:=fun f args st r s h=>by
 simp only[HK]at h
 by_cases h1:f=170
 ·subst h1
  rw[show Nat.beq 170 170=true from rfl,cond_true]at h
  obtain⟨z,hz,e⟩:=Option.map_eq_some_iff.1 h
  cases e
  unfold hNoE at hz
  split at hz
  ·cases hz;exact noEscape_v Tryz.func170 (by kernel_rfl) (by kernel_rfl) (by kernel_rfl) (by kernel_rfl) _ _
  ·cases hz
 rw[show Nat.beq f 170=false from Bool.eq_false_iff.2 fun e=>h1 (Nat.eq_of_beq_eq_true e),cond_false]at h
 by_cases h1:f=27
 ·subst h1
  rw[show Nat.beq 27 27=true from rfl,cond_true]at h
  obtain⟨z,hz,e⟩:=Option.map_eq_some_iff.1 h
  cases e
  unfold hPar at hz
  split at hz
  ·split at hz
   ·rename_i hb
    cases V.beq_eq _ _ hb
    cases hz
    have:=v27 HH_ok thS_ok (st:=st)
    rw[thS_par,thS_C]at this
    exact this
   ·cases hz
  ·cases hz
 rw[show Nat.beq f 27=false from Bool.eq_false_iff.2 fun e=>h1 (Nat.eq_of_beq_eq_true e),cond_false]at h
 exact HH_ok _ _ _ _ _ h
end Go.Proofs.YtkpcomdhdjihlaaGreatDoor

namespace Go.Proofs.YtkpcomdhdjihlaaGreatDoor
set_option maxRecDepth 100000
open Go.Sha Go.ChangeShapes Go.WideShapes Go.ChangeAt Go.RowKit
theorem laid_glK {laid:List (String×DataW Unit)}{W:World}(hn:(laid.all fun x=>x.2.handleName?.isNone)=true)(m2:("strings.asciiSpace",Rows.laid_strings_asciiSpace)∈laid)(m3:("internal/strconv.uint64pow10",Rows.laid_internal_strconv_uint64pow10)∈laid)
  (h:laidMetH Tryz.prog laid W) (hs:W.ShapedOpen Tryz.prog):∃v,∀p∈glK v,W.heap[p.1]?=some p.2:=by
 rw[MakeChecks.laidMetH_plain _ _ _ hn]at h
 obtain⟨ps,hv,_⟩:=h
 obtain⟨g2,t2,cs2,T2,fz2,f2,p2,a2,b2,c2,d2⟩:=vars_read hv _ _ m2
 obtain⟨g3,t3,cs3,T3,fz3,f3,p3,a3,b3,c3,d3⟩:=vars_read hv _ _ m3
 obtain⟨m,hm⟩:=int_of_shape (zero:=#[.int .i64 0]) (g:=1) (t:=3) (k:=.i64) hs (of_decide_eq_true (by kernel_rfl)) (by kernel_rfl) rfl (by kernel_rfl) (by kernel_rfl) Tryz.underlying3
 have q2:(Rows.laid_strings_asciiSpace:DataW Unit)=Lib.tabData .u8 Lib.asciiSpaceTab:=by kernel_rfl
 have q3:(Rows.laid_internal_strconv_uint64pow10:DataW Unit)=Lib.tabData .u64 Lib.pow10Tab:=by kernel_rfl
 rw[q2]at d2
 rw[q3]at d3
 have k2:Tryz.prog.globalNamed "strings.asciiSpace"=some 0:=by kernel_rfl
 have k3:Tryz.prog.globalNamed "internal/strconv.uint64pow10"=some 3:=by kernel_rfl
 obtain rfl:=Option.some.inj (k2.symm.trans a2)
 obtain rfl:=Option.some.inj (k3.symm.trans a3)
 have u2:(match(Tryz.prog.globals[0]?).map (·.type) with|some t=>(match Tryz.prog.underlying t with|some (.array m e)=>decide (m=256)&&(match Tryz.prog.underlying e with|some (.int k')=>decide (k'=.u8)|_=>false)&&decide (Tryz.prog.cellsOf e=1)&&decide (Tryz.prog.cellsOf t=256)|_=>false)|none=>false)=true:=by kernel_rfl
 have u3:(match(Tryz.prog.globals[3]?).map (·.type) with|some t=>(match Tryz.prog.underlying t with|some (.array m e)=>decide (m=20)&&(match Tryz.prog.underlying e with|some (.int k')=>decide (k'=.u64)|_=>false)&&decide (Tryz.prog.cellsOf e=1)&&decide (Tryz.prog.cellsOf t=20)|_=>false)|none=>false)=true:=by kernel_rfl
 rw[b2]at u2
 rw[b3]at u3
 have e2:=tab_read u2 d2
 have e3:=tab_read u3 d3
 subst e2;subst e3
 refine⟨⟨T3,T2,3,fz3,fz2,(0,0),m⟩,fun p hp=>?_⟩
 simp only[glK,List.mem_cons,List.not_mem_nil,or_false]at hp
 rcases hp with rfl|rfl|rfl
 ·exact c3
 ·exact c2
 ·exact hm
end Go.Proofs.YtkpcomdhdjihlaaGreatDoor

namespace Go.Proofs.YtkpcomdhdjihlaaGreatDoor
open Go.Sha
set_option maxRecDepth 10000
def B322_0:Cd:=(.join [0,1,5,6,7] (.g [.m 12 7,.m 13 0,.u 14 13,.b 15 .lss 12 14] (.i 15 .skip (.exit [0,1,5,6] 2))) (.join [0,1,5,6,7] (.block 3 (.join [0,1,5,6,7,33] (.reg [.m 18 0,.m 19 7,.r 20 7 18 19,.a 21 0 20,.l 22 21,.m 23 1,.b 24 .eql 22 23,.m 25 24,.my 26 0 25,.my 27 7 25,.ry 28 7 26 27 25,.ay 29 1 28 25,.ly 30 29 25,.my 31 6 25,.by' 32 .eql 30 31 25,.e 33 25 32]) (.i 33 (.reg [.m 34 5,.m 35 0,.m 36 7,.r 37 7 35 36,.d 38 7 37,.s 39 (.bslice 123 7 [.t 38]),.s 40 (.append 123 7 72 (.t 34) (.t 39)),.m 5 40]) .skip))) (.reg [.m 16 7,.v 17 .add 16 1,.m 7 17])))
def B322_1:Cd:=(.join [0,1,5,6] (.g [.m 8 6,.v 9 .leq 8 64] (.i 9 .skip (.exit [5] 0))) (.join [0,1,5,6] (.block 1 (.g [.c 7 0] (.block 2 (.loop [0,1,5,6,7] [(5,(123,7))] B322_0)))) (.reg [.m 10 6,.v 11 .add 10 1,.m 6 11])))
theorem F322:compF Tryz.prog 322=some ⟨42,[.tmp 4],(.g [.s 4 (.mv (.c .nils))] (.g [.s 5 (.mv (.c .nils))] (.join [5] (.g [.c 6 1] (.block 0 (.loop [0,1,5,6] [(5,(123,7))] B322_1))) (.g [.m 41 5,.m 4 41] (.ret [4])))))⟩:=by kernel_rfl
def B283_0:Cd:=(.join [1,5,6,7,9,10,11,12] (.g [.m 34 12,.m 35 11,.u 36 35,.b 37 .lss 34 36] (.i 37 .skip (.exit [1,5,6,7,9,10] 2))) (.join [1,5,6,7,9,10,11,12] (.block 3 (.q (.dreg 8 [.m 40 11,.m 41 12,.r 42 10 40 41,.a 43 0 42,.l 44 43,.a 45 1 5,.l 46 45,.b 47 .eql 44 46]) (.i 47 (.join [6,7,8] (.greg [[],[],[],[],[],[],[],[],[true,true,true,true,false,false,false,false],[false,false,false,false,false,false,false,false,false],[]] [.m 48 9,.m 49 10,.r 50 7 48 49,.d 51 7 50,.m 52 11,.m 53 12,.r 54 10 52 53,.d 55 10 54,.w 7 6 51,.w 10 7 55,.k 8 true]) (.ret [6,7,8])) .skip))) (.reg [.m 38 12,.v 39 .add 38 1,.m 12 39])))
def B283_1:Cd:=(.join [1,5,6,7,9,10] (.g [.m 17 10,.m 18 9,.u 19 18,.b 20 .lss 17 19] (.i 20 .skip (.exit [6,7] 0))) (.join [1,5,6,7,9,10] (.block 1 (.g [.m 23 1,.m 24 1,.m 25 9,.m 26 10,.r 27 7 25 26,.a 28 2 27,.l 29 28,.g' 30 141 24 29,.r 31 4 23 30,.a 32 3 31,.l 33 32,.m 11 33] (.g [.c 12 0] (.block 2 (.loop [1,5,6,7,9,10,11,12] [] B283_0))))) (.reg [.m 21 10,.v 22 .add 21 1,.m 10 22])))
theorem F283:compF Tryz.prog 283=some ⟨58,[.cell 6 (some 7),.cell 7 (some 10),.tmp 8],(.g [.q 5 71 2,.s 6 (.alloc 123 [.i 0,.i 0,(.str []),.i 0,.i 0,.i 0,(.str [])]),.s 7 (.alloc 110 [.i 0,.i 0,.i 0,.i 0,.i 0,.i 0,.i 0,.i 0,(.bool false),.nils]),.k 8 false] (.z [5] (.g [.m 13 0,.a 14 0 5,.l 15 14,.g' 16 322 13 15,.m 9 16] (.join [6,7] (.g [.c 10 0] (.block 0 (.loop [1,5,6,7,9,10] [] B283_1))) (.g [.s 56 (.build [.i 0,.i 0,(.str []),.i 0,.i 0,.i 0,(.str [])] []),.s 57 (.build [.i 0,.i 0,.i 0,.i 0,.i 0,.i 0,.i 0,.i 0,(.bool false),.nils] []),.w 7 6 56,.w 10 7 57,.k 8 false] (.ret [6,7,8]))))))⟩:=by kernel_rfl
theorem F220:compF Tryz.prog 220=some ⟨21,[.cell 4 (some 10),.tmp 5],(.g [.q 2 31 0,.q 3 71 1,.s 4 (.alloc 110 [.i 0,.i 0,.i 0,.i 0,.i 0,.i 0,.i 0,.i 0,(.bool false),.nils]),.k 5 false] (.z [2,3] (.g [.a 10 3 2,.l 11 10,.a 12 2 2,.l 13 12,.d 14 2 3,.s 15 (.f 283 [.t 11,.t 13,.t 14]),.m 9 15,.j 16 0 9,.j 17 1 9,.j 18 2 9,.s 6 (.alloc 123 [.i 0,.i 0,(.str []),.i 0,.i 0,.i 0,(.str [])]),.s 7 (.alloc 110 [.i 0,.i 0,.i 0,.i 0,.i 0,.i 0,.i 0,.i 0,(.bool false),.nils]),.w 7 6 16,.w 10 7 17,.m 8 18] (.z [6,7] (.g [.d 19 10 7,.m 20 8,.w 10 4 19,.m 5 20] (.ret [4,5]))))))⟩:=by kernel_rfl
theorem F144:compF Tryz.prog 144=some ⟨17,[.tmp 4],(.g [.q 2 31 0,.q 3 71 1,.c 4 0] (.z [2,3] (.g [.d 8 9 2,.d 9 2 3,.g' 10 220 8 9,.m 7 10,.j 11 0 7,.j 12 1 7,.s 5 (.alloc 110 [.i 0,.i 0,.i 0,.i 0,.i 0,.i 0,.i 0,.i 0,(.bool false),.nils]),.w 10 5 11,.m 6 12] (.z [5] (.join [5] (.g [.m 13 6,.z 14 13] (.i 14 (.g [.c 4 0] (.ret [4])) .skip)) (.g [.a 15 5 5,.l 16 15,.m 4 16] (.ret [4])))))))⟩:=by kernel_rfl
theorem F82:compF Tryz.prog 82=some ⟨15,[.tmp 4,.tmp 5],(.g [.q 2 31 0,.c 4 0,.c 5 0] (.z [2] (.join [1] (.g [.d 7 9 2,.f 8 140 7,.m 6 8] (.g [.m 9 6,.v 10 .neq 9 0] (.i 10 (.g [.m 11 6,.c 4 0,.m 5 11] (.ret [4,5])) .skip))) (.join [1] (.g [.m 12 1,.v 13 .lss 12 0] (.i 13 (.g [.c 4 0,.c 5 6] (.ret [4,5])) .skip)) (.g [.m 14 1,.m 4 14,.c 5 0] (.ret [4,5]))))))⟩:=by kernel_rfl
def B83_0:Cd:=(.join [1,2,5] (.g [.m 6 5,.a 7 6 2,.l 8 7,.u 9 8,.b 10 .lss 6 9] (.i 10 .skip (.exit [] 0))) (.join [1,2,5] (.block 1 (.g [.a 13 6 2,.l 14 13,.m 15 5,.r 16 3 14 15,.a 17 0 16,.l 18 17,.m 19 1,.b 20 .eql 18 19] (.i 20 (.g [.m 21 5,.m 4 21] (.ret [4])) .skip))) (.reg [.m 11 5,.v 12 .add 11 1,.m 5 12])))
theorem F83:compF Tryz.prog 83=some ⟨22,[.tmp 4],(.g [.q 2 31 0,.c 4 0] (.z [2] (.join [] (.g [.c 5 0] (.block 0 (.loop [1,2,5] [] B83_0))) (.g [.c 4 (-1)] (.ret [4])))))⟩:=by kernel_rfl
theorem F33:compF Tryz.prog 33=some ⟨13,[.tmp 4,.tmp 5],(.g [.q 2 31 0,.c 4 0,.c 5 0] (.z [2] (.q (.dreg 9 [.d 6 9 2,.d 7 9 2,.m 8 1,.g' 9 83 7 8,.g' 10 82 6 9,.j 11 0 10,.j 12 1 10,.m 4 11,.m 5 12]) (.ret [4,5]))))⟩:=by kernel_rfl
def B281_0:Cd:=(.join [0,1,5] (.g [.m 6 5,.m 7 0,.u 8 7,.b 9 .lss 6 8] (.i 9 .skip (.exit [] 0))) (.join [0,1,5] (.block 1 (.g [.m 12 0,.m 13 5,.r 14 2 12 13,.a 15 0 14,.l 16 15,.m 17 1,.b 18 .eql 16 17] (.i 18 (.g [.m 19 5,.m 4 19] (.ret [4])) .skip))) (.reg [.m 10 5,.v 11 .add 10 1,.m 5 11])))
theorem F281:compF Tryz.prog 281=some ⟨20,[.tmp 4],(.g [.c 4 0] (.join [] (.g [.c 5 0] (.block 0 (.loop [0,1,5] [] B281_0))) (.g [.c 4 (-1)] (.ret [4]))))⟩:=by kernel_rfl
def B282_0:Cd:=(.join [0,1,2,8] (.g [.m 9 8,.m 10 0,.u 11 10,.b 12 .lss 9 11] (.i 12 .skip (.exit [] 0))) (.join [0,1,2,8] (.block 1 (.join [0,1,2,8,30] (.reg [.m 15 0,.m 16 8,.r 17 3 15 16,.a 18 0 17,.l 19 18,.m 20 1,.b 21 .eql 19 20,.m 22 21,.my 23 0 22,.my 24 8 22,.ry 25 3 23 24 22,.ay 26 1 25 22,.ly 27 26 22,.my 28 2 22,.by' 29 .eql 27 28 22,.e 30 22 29]) (.i 30 (.g [.m 31 0,.m 32 8,.r 33 3 31 32,.a 34 2 33,.l 35 34,.m 6 35,.k 7 true] (.ret [6,7])) .skip))) (.reg [.m 13 8,.v 14 .add 13 1,.m 8 14])))
theorem F282:compF Tryz.prog 282=some ⟨36,[.tmp 6,.tmp 7],(.g [.c 6 0,.k 7 false] (.join [] (.g [.c 8 0] (.block 0 (.loop [0,1,2,8] [] B282_0))) (.g [.c 6 0,.k 7 false] (.ret [6,7]))))⟩:=by kernel_rfl
theorem F219:compF Tryz.prog 219=some ⟨41,[.tmp 6,.tmp 7],(.g [.q 5 71 2,.c 6 0,.k 7 false] (.z [5] (.g [.m 11 0,.m 12 1,.g' 13 281 11 12,.m 8 13] (.join [0,5,8] (.g [.m 14 8,.v 15 .lss 14 0] (.i 15 (.g [.c 6 0,.k 7 false] (.ret [6,7])) .skip)) (.q (.dreg 15 [.m 17 0,.m 18 8,.r 19 2 17 18,.a 20 1 19,.l 21 20,.a 22 0 5,.l 23 22,.a 24 1 5,.l 25 24,.s 26 (.f 282 [.t 21,.t 23,.t 25]),.m 16 26,.j 27 0 16,.j 28 1 16,.m 9 27,.m 10 28]) (.join [0,5,8] (.g [.m 29 10] (.i 29 (.g [.m 30 9,.m 6 30,.k 7 true] (.ret [6,7])) .skip)) (.q (.dreg 12 [.m 31 0,.m 32 8,.r 33 2 31 32,.a 34 1 33,.l 35 34,.a 36 1 5,.l 37 36,.s 38 (.f 282 [.t 35,.i 0,.t 37]),.j 39 0 38,.j 40 1 38,.m 6 39,.m 7 40]) (.ret [6,7]))))))))⟩:=by kernel_rfl
theorem F143:compF Tryz.prog 143=some ⟨27,[.tmp 8],(.g [.q 5 73 1,.q 6 71 2,.c 8 0] (.z [5,6] (.join [0,3,5,6] (.g [.a 11 0 5,.l 12 11,.v 13 .eql 12 0] (.i 13 (.g [.a 14 1 5,.l 15 14,.m 8 15] (.ret [8])) .skip)) (.g [.m 17 0,.a 18 0 5,.l 19 18,.d 20 2 6,.s 21 (.f 219 [.t 17,.t 19,.t 20]),.m 16 21,.j 22 0 16,.j 23 1 16,.m 9 22,.m 10 23] (.join [3] (.g [.m 24 10] (.i 24 (.g [.m 25 9,.m 8 25] (.ret [8])) .skip)) (.g [.m 26 3,.m 8 26] (.ret [8])))))))⟩:=by kernel_rfl
theorem F89:compF Tryz.prog 89=some ⟨15,[.tmp 6],(.g [.q 3 31 0,.q 4 71 1,.q 5 73 2,.c 6 0] (.z [3,4,5] (.q (.dreg 9 [.a 7 5 3,.l 8 7,.d 9 2 5,.d 10 2 4,.d 11 9 3,.d 12 2 4,.g' 13 144 11 12,.s 14 (.f 143 [.t 8,.t 9,.t 10,.t 13]),.m 6 14]) (.ret [6]))))⟩:=by kernel_rfl
def B142_0:Cd:=(.join [0,1,5,6] (.join [0,1,5,6,18] (.reg [.m 7 6,.m 8 0,.u 9 8,.b 10 .lss 7 9,.m 11 10,.my 12 0 11,.my 13 6 11,.ry 14 1 12 13 11,.ly 15 14 11,.my 16 1 11,.by' 17 .lss 15 16 11,.e 18 11 17]) (.i 18 .skip (.exit [0,1,5,6] 0))) (.block 1 (.g [.m 19 5,.m 20 0,.m 21 6,.r 22 1 20 21,.l 23 22,.s 24 (.bslice 3 1 [.t 23]),.s 25 (.append 3 1 8 (.t 19) (.t 24)),.m 5 25] (.reg [.m 26 6,.v 27 .add 26 1,.m 6 27]))))
theorem F142:compF Tryz.prog 142=some ⟨49,[.tmp 4],(.g [.s 4 (.mv (.c .nils))] (.g [.s 5 (.mv (.c .nils))] (.g [.c 6 0] (.join [0,1,5,6] (.block 0 (.loop [0,1,5,6] [(5,(3,1))] B142_0)) (.join [0,5,6] (.join [0,1,5,6,39] (.reg [.m 28 6,.m 29 0,.u 30 29,.b 31 .eql 28 30,.m 32 31,.mx 33 0 32,.mx 34 6 32,.x 35 (.iadr 1 (.t 33) (.t 34)) 32,.lx 36 35 32,.mx 37 1 32,.bx 38 .neq 36 37 32,.o 39 32 38]) (.i 39 (.reg [.m 40 5,.m 41 1,.s 42 (.bslice 3 1 [.t 41]),.s 43 (.append 3 1 8 (.t 40) (.t 42)),.m 5 43]) .skip)) (.g [.m 44 5,.m 45 0,.m 46 6,.s 47 (.slice 1 (.t 45) (some (.t 46)) none none),.s 48 (.append 3 1 8 (.t 44) (.t 47)),.m 4 48] (.ret [4])))))))⟩:=by kernel_rfl
def B86_0:Cd:=(.join [0,1,2,7,8,9,10] (.g [.m 35 10,.m 36 9,.u 37 36,.b 38 .lss 35 37] (.i 38 .skip (.exit [0,1,2,7,8] 2))) (.join [0,1,2,7,8,9,10] (.block 3 (.reg [.m 41 7,.m 42 9,.m 43 10,.r 44 10 42 43,.a 45 0 44,.l 46 45,.g' 47 142 41 46,.m 7 47])) (.reg [.m 39 10,.v 40 .add 39 1,.m 10 40])))
def B86_1:Cd:=(.join [0,1,2,7,8] (.g [.m 11 8,.m 12 0,.u 13 12,.b 14 .lss 11 13] (.i 14 .skip (.exit [7] 0))) (.join [0,1,2,7,8] (.block 1 (.join [0,1,2,7,8] (.g [.m 17 0,.m 18 8,.r 19 7 17 18,.a 20 0 19,.l 21 20,.m 22 2,.b 23 .neq 21 22] (.i 23 (.exit [0,1,2,7,8] 1) .skip)) (.g [.m 24 1,.m 25 1,.m 26 0,.m 27 8,.r 28 7 26 27,.a 29 2 28,.l 30 29,.g' 31 141 25 30,.r 32 4 24 31,.a 33 3 32,.l 34 33,.m 9 34] (.g [.c 10 0] (.block 2 (.loop [0,1,2,7,8,9,10] [] B86_0)))))) (.reg [.m 15 8,.v 16 .add 15 1,.m 8 16])))
theorem F86:compF Tryz.prog 86=some ⟨49,[.tmp 6],(.g [.s 6 (.mv (.c .nils))] (.g [.s 7 (.mv (.c .nils))] (.join [7] (.g [.c 8 0] (.block 0 (.loop [0,1,2,7,8] [] B86_1))) (.g [.m 48 7,.m 6 48] (.ret [6])))))⟩:=by kernel_rfl
def B36_0:Cd:=(.join [1,3,4,5,6] (.g [.m 17 6,.m 18 5,.u 19 18,.b 20 .lss 17 19] (.i 20 .skip (.exit [1,3,4] 2))) (.join [1,3,4,5,6] (.block 3 (.reg [.m 23 3,.m 24 4,.m 25 5,.m 26 6,.r 27 1 25 26,.l 28 27,.s 29 (.build [.i 0,.i 0] [(0,1,(.t 24)),(1,1,(.t 28))]),.s 30 (.bslice 71 2 [.t 29]),.s 31 (.append 71 2 16 (.t 23) (.t 30)),.m 3 31])) (.reg [.m 21 6,.v 22 .add 21 1,.m 6 22])))
def B36_1:Cd:=(.join [1,3,4] (.g [.m 7 4,.v 8 .leq 7 999] (.i 8 .skip (.exit [3] 0))) (.join [1,3,4] (.block 1 (.g [.a 11 3 1,.l 12 11,.a 13 2 1,.l 14 13,.m 15 4,.s 16 (.f 86 [.t 12,.t 14,.t 15]),.m 5 16] (.g [.c 6 0] (.block 2 (.loop [1,3,4,5,6] [(3,(71,2))] B36_0))))) (.reg [.m 9 4,.v 10 .add 9 1,.m 4 10])))
theorem F36:compF Tryz.prog 36=some ⟨33,[.tmp 2],(.g [.q 1 31 0,.s 2 (.mv (.c .nils))] (.z [1] (.g [.s 3 (.mv (.c .nils))] (.join [3] (.g [.c 4 1] (.block 0 (.loop [1,3,4] [(3,(71,2))] B36_1))) (.g [.m 32 3,.m 2 32] (.ret [2]))))))⟩:=by kernel_rfl
end Go.Proofs.YtkpcomdhdjihlaaGreatDoor

namespace Go.Proofs.YtkpcomdhdjihlaaGreatDoor
open Go.Sha
set_option maxRecDepth 100000
variable {g:List (Nat×Obj)}{n:Nat}
theorem L322_0 {l:List Fixt}{c:Int}{k:Int}(hl:l.length<140737488355328):∀r j,l.drop j=r→∀a,a.length+r.length≤1000000 →
  runL Tryz.prog HH [0,1,5,6,7] (n+1) B322_0 [(0,.sl (l.map Fixt.v)),(1,.int .i64 c),(5,.osl n a.length),(6,.int .i64 k),(7,.int .i64 j)] (stA g n a)
   = some (.exit 2,[(0,.sl (l.map Fixt.v)),(1,.int .i64 c),(5,.osl n (a++partK r c k).length),(6,.int .i64 k)],stA g n (a++partK r c k)):=by
 refine drop_ind (fun j h a ha=>?_) (fun q r j h hx hd ih a ha=>?_)
 all_goals rw[runL_of B322_0.eq_1]
 ·have h1:¬(j:Int)<l.length:=by omega
  push_cast[h1,partK,List.filter_nil,Fixt.v]
 ·have h1:(j:Int)<l.length:=by omega
  have hw:=iw1 (j:=j) (by omega)
  by_cases h2:q.chan=c∧q.part=k
  ·have ih:=ih (a++[q]) (by simp at ha ⊢;omega)
   have h3:=eq_true h2
   have h4:roomV (a.length+1) 72=true:=roomV_lit (by simp at ha;omega) (by simp at ha;omega)
   push_cast[h1,hw,hx,Fixt.v,h3,h4,List.map_append]at ih ⊢
   rw[show partK (q::r) c k=q::partK r c k by simp[partK,h2]]
   push_cast[List.map_append,Fixt.v]
   exact ih
  ·have ih:=ih a (by simp at ha ⊢;omega)
   have h3:=eq_false h2
   rw[show partK (q::r) c k=partK r c k by unfold partK;rw[List.filter_cons_of_neg (by simpa using h2)]]
   push_cast[h1,hw,hx,Fixt.v,h3]at ih ⊢
   exact ih
theorem L322_1 {l:List Fixt}{c:Int}(hl:l.length≤64):∀(m k:Nat),k+m=65→∀a,a.length+m*64≤10000 →
  runL Tryz.prog HH [0,1,5,6] (n+1) B322_1 [(0,.sl (l.map Fixt.v)),(1,.int .i64 c),(5,.osl n a.length),(6,.int .i64 k)] (stA g n a)
   = some (.exit 0,[(5,.osl n (a++partsF l c k m).length)],stA g n (a++partsF l c k m)):=by
 intro m
 induction m with
 |zero =>
  intro k hk a ha
  have h1:¬(k:Int)≤64:=by omega
  rw[runL_of B322_1.eq_1]
  push_cast[h1,partsF]
 |succ m ih =>
  intro k hk a ha
  have h1:(k:Int)≤64:=by omega
  have hw:IntKind.i64.wrap ((k:Int)+1)=((k+1:Nat):Int):=iwrap (by omega) (by omega)
  have hle:=partK_le (l:=l) (c:=c) (k:=k)
  have h0:=L322_0 (g:=g) (n:=n) (l:=l) (c:=c) (k:=k) (by omega) l 0 rfl a (by omega)
  have ih:=ih (k+1) (by omega) (a++partK l c k) (by simp;omega)
  rw[runL_of B322_1.eq_1]
  push_cast[Fixt.v]at h0
  push_cast[h1,hw,Fixt.v,h0,partsF]at ih ⊢
  exact ih
theorem f322 {l:List Fixt}{c:Int}(hl:l.length≤64){st:St}:run Tryz.prog HH 322 [.sl (l.map Fixt.v),.int .i64 c] st=some (.ret (.sl ((partsF l c 1 64).map Fixt.v)),st):=by
 have h0:=L322_1 (g:=st.x.gl) (n:=0) (c:=c) hl 64 1 rfl [] (by simp)
 rw[run_shut F322 rfl rfl (by simp)]
 push_cast[Fixt.v]at h0
 push_cast[Fixt.v,h0]
theorem L283_0 {l:List Ftr}{p:Prm}{xs:List Fixt}{i:Nat}{x:Fixt}{e1:V}(hl:l.length<140737488355328)(hi:i<xs.length)(hx0:∀d,xs.getD i d=x):∀r j,l.drop j=r →
  runL Tryz.prog HH [1,5,6,7,9,10,11,12] 3 B283_0 [(1,e1),(5,.ep p.v 0),(6,.ptr 1 0),(7,.ptr 2 0),(9,.sl (xs.map Fixt.v)),(10,.int .i64 i),(11,.sl (l.map Ftr.v)),(12,.int .i64 j)] (stH g (fcV none) zX)
   = match ffF p.attr r with
    |none=>some (.exit 2,[(1,e1),(5,.ep p.v 0),(6,.ptr 1 0),(7,.ptr 2 0),(9,.sl (xs.map Fixt.v)),(10,.int .i64 i)],stH g (fcV none) zX)
    |some f=>some (.ret,[(6,.ptr 1 0),(7,.ptr 2 0),(8,.bool true)],stH g f.v.cells x.v.cells):=by
 have hi':(i:Int)<xs.length:=by omega
 refine drop_ind (fun j h=>?_) (fun q r j h hx hd ih=>?_)
 all_goals rw[runL_of B283_0.eq_1]
 ·have h1:¬(j:Int)<l.length:=by omega
  rw[ffF]
  push_cast[h1,List.find?_nil,Fixt.v,Ftr.v,Prm.v]
 ·have h1:(j:Int)<l.length:=by omega
  have hw:=iw1 (j:=j) (by omega)
  by_cases h2:q.attr=p.attr
  ·have h3:=eq_true h2
   rw[show ffF p.attr (q::r)=some q by simp[ffF,h2]]
   clear ih
   push_cast[h1,hw,hx,Fixt.v,Ftr.v,Prm.v,h3,fcV,zX,hi',hx0]
  ·have h3:=eq_false h2
   rw[show ffF p.attr (q::r)=ffF p.attr r by simp[ffF,h2]]
   push_cast[h1,hw,hx,Fixt.v,Ftr.v,Prm.v,h3]at ih ⊢
   exact ih
theorem L283_1 {xs:List Fixt}{ps:List Prof}{p:Prm}(hl:xs.length<140737488355328)(hp:ps.length<140737488355328)(hq:∀q∈ps,q.feats.length<140737488355328)(hf:∀x∈xs,(pfx ps x.prof).isSome=true):∀r j,xs.drop j=r →
  runL Tryz.prog HH [1,5,6,7,9,10] 3 B283_1 [(1,.sl (ps.map Prof.v)),(5,.ep p.v 0),(6,.ptr 1 0),(7,.ptr 2 0),(9,.sl (xs.map Fixt.v)),(10,.int .i64 j)] (stH g (fcV none) zX)
   = match havL ps p.attr r with
    |none=>some (.exit 0,[(6,.ptr 1 0),(7,.ptr 2 0)],stH g (fcV none) zX)
    |some y=>some (.ret,[(6,.ptr 1 0),(7,.ptr 2 0),(8,.bool true)],stH g y.2.v.cells y.1.v.cells):=by
 refine drop_ind (fun j h=>?_) (fun x r j h hx hd ih=>?_)
 all_goals rw[runL_of B283_1.eq_1]
 ·have h1:¬(j:Int)<xs.length:=by omega
  push_cast[h1,havL,Fixt.v,Prm.v]
 ·have h1:(j:Int)<xs.length:=by omega
  have hw:=iw1 (j:=j) (by omega)
  obtain⟨q,hq1⟩:=Option.isSome_iff_exists.1 (hf x (mem_at hd))
  have hq2:=hq q (List.mem_of_find?_eq_some hq1)
  obtain⟨k,k1,k2,k3⟩:=(ix_find (j:=0)).2 q hq1
  rw[Nat.zero_add]at k1
  have k4:(k:Int)<ps.length:=by omega
  have h142:=fun(st:St)=>f141 (s:=x.prof) (st:=st) hp
  rw[k1]at h142
  have h0:=L283_0 (g:=g) (p:=p) (e1:=.sl (ps.map Prof.v)) hq2 h hx _ 0 rfl
  have e:havL ps p.attr (x::r)=match ffF p.attr q.feats with
   |some f=>some (x,f)
   |none=>havL ps p.attr r:=by rw[havL,hq1];rfl
  rw[e]
  cases hff:ffF p.attr q.feats with
  |none =>
   rw[List.drop_zero,hff]at h0
   push_cast[Fixt.v,Prm.v,Prof.v,fcV,zX]at h0
   push_cast[h1,hw,hx,Fixt.v,Prm.v,Prof.v,fcV,zX,h142,k3,k4,h0]at ih ⊢
   exact ih
  |some f =>
   clear ih
   rw[List.drop_zero,hff]at h0
   push_cast[Fixt.v,Prm.v,Prof.v,fcV,zX,Ftr.v]at h0
   push_cast[h1,hw,hx,Fixt.v,Prm.v,Prof.v,fcV,zX,Ftr.v,h142,k3,k4,h0]
theorem f283 {fx:List Fixt}{ps:List Prof}{p:Prm}(hl:fx.length≤64)(hp:ps.length<140737488355328)(hq:∀q∈ps,q.feats.length<140737488355328)(hf:∀x∈fx,(pfx ps x.prof).isSome=true){st:St} :
  run Tryz.prog HH 283 [.sl (fx.map Fixt.v),.sl (ps.map Prof.v),p.v] st=some (.ret (.tup [((havR fx ps p).map (·.1) |>.getD X0).v,((havR fx ps p).map (·.2) |>.getD F0).v,.bool (havR fx ps p).isSome]),st):=by
 have hlen:=partsF_len (c:=p.chan) hl (m:=64) (k:=1)
 have h167:=fun(st:St)=>f322 (c:=p.chan) (st:=st) hl
 have h0:=L283_1 (g:=st.x.gl) (p:=p) (xs:=partsF fx p.chan 1 64) (by omega) hp hq (fun x hx=>hf x (partsF_mem hx).1) _ 0 rfl
 rw[List.drop_zero,show havL ps p.attr (partsF fx p.chan 1 64)=havR fx ps p from rfl]at h0
 cases hh:havR fx ps p with
 |none =>
  rw[hh]at h0
  push_cast[Fixt.v,Prof.v,Prm.v,fcV,zX]at h0 h167
  rw[run_shut F283 rfl rfl (by simp)]
  push_cast[Fixt.v,Prof.v,Prm.v,h167,h0,X0,F0,Ftr.v]
  rfl
 |some y =>
  rw[hh]at h0
  push_cast[Fixt.v,Prof.v,Prm.v,fcV,zX,Ftr.v]at h0 h167
  rw[run_shut F283 rfl rfl (by simp)]
  push_cast[Fixt.v,Prof.v,Prm.v,h167,h0,Ftr.v]
  rfl
theorem f220 {s:Sho}{p:Prm}(h:s.ok)(hs:shoC s=0){st:St}:run Tryz.prog HH 220 [s.v,p.v] st=some (.ret (.tup [((ownR s p).getD F0).v,.bool (ownR s p).isSome]),st):=by
 have hf:=fix_ok (shoC_parts hs).2.2.2.1
 have h122:=fun(st:St)=>f283 (p:=p) (st:=st) hf.2.1 (by omega) (fun q hq=>(h.p.2.1 q hq).a) (fun x hx=>aloC_some (hf.2.2.2 x hx))
 rw[run_shut F220 rfl rfl (by simp)]
 rw[show(havR s.fixts s.profs p).isSome=(ownR s p).isSome by simp[ownR]]at h122
 push_cast[Prm.v,Fixt.v,Prof.v,Ftr.v]at h122
 push_cast[Sho.v,Prm.v,Fixt.v,Prof.v,Ftr.v,h122,ownR]
theorem f144 {s:Sho}{p:Prm}(h:s.ok)(hs:shoC s=0){st:St}:run Tryz.prog HH 144 [s.v,p.v] st=some (.ret (.int .i64 ((ownR s p).getD F0).home),st):=by
 have h75:=fun(st:St)=>f220 (p:=p) (st:=st) h hs
 push_cast[Sho.v,Prm.v,Ftr.v]at h75
 rw[run_shut F144 rfl rfl (by simp)]
 push_cast[Sho.v,Prm.v,Ftr.v,h75]
 cases ownR s p<;>simp[F0]
theorem f82 {s:Sho}{i:Int}(h:s.ok){st:St}:run Tryz.prog HH 82 [s.v,.int .i64 i] st=some (.ret (.tup [.int .i64 (fndI' (shoC s) i),.int .i64 (fndE (shoC s) i)]),st):=by
 have h16:=fun(st:St)=>f140 (st:=st) h
 push_cast[Sho.v]at h16
 rw[run_shut F82 rfl rfl (by simp)]
 push_cast[Sho.v,h16,fndI',fndE]
theorem L83 {s:Sho}{v:Int}(h0:s.ok):∀r j,s.lsts.drop j=r→runL Tryz.prog HH [1,2,5] n B83_0 [(1,.int .i64 v),(2,.ep s.v 0),(5,.int .i64 j)] (stN g n)=lpI (stN g n) [] 4 (ix (fun x=>x.num == v) r j):=by
 have hl:=h0.k.1
 refine drop_ind (fun j h=>?_) (fun q r j h hx hd ih=>?_)
 all_goals rw[runL_of B83_0.eq_1]
 ·have h1:¬(j:Int)<s.lsts.length:=by omega
  push_cast[h1,ix,Sho.v,Lst.v]
 ·have h1:(j:Int)<s.lsts.length:=by omega
  have hw:=iw1 (j:=j) (by omega)
  push_cast[h1,hw,hx,Sho.v,Lst.v]at ih ⊢
  simp only[ih,ix,lps,Int.reduceEq,not_false_eq_true]
  all_goals ((repeat' split)<;>simp_all)
theorem f83 {s:Sho}{v:Int}(h:s.ok){st:St}:run Tryz.prog HH 83 [s.v,.int .i64 v] st=some (.ret (.int .i64 (ix (fun x=>x.num == v) s.lsts 0)),st):=by
 rw[run_shut F83 rfl rfl (by simp)]
 have hL0:=fun n=>L83 (g:=st.x.gl) (n:=n) (v:=v) h _ 0 rfl
 push_cast[Sho.v]at hL0
 push_cast[Sho.v,hL0,lpE,lpX,lpI,lpB]
theorem f33 {s:Sho}{v:Int}(h:s.ok){st:St}:run Tryz.prog HH 33 [s.v,.int .i64 v] st=some (.ret (.tup [.int .i64 (fndI' (shoC s) (ix (fun x=>x.num == v) s.lsts 0)),.int .i64 (fndE (shoC s) (ix (fun x=>x.num == v) s.lsts 0))]),st):=by
 have h1:=fun(st:St)=>f83 (v:=v) (st:=st) h
 have h2:=fun(st:St) (i:Int)=>f82 (i:=i) (st:=st) h
 push_cast[Sho.v]at h1 h2
 rw[run_shut F33 rfl rfl (by simp)]
 push_cast[Sho.v,h1,h2]
theorem L281 {l:List Pal}{v:Int}(hl:l.length<140737488355328):∀r j,l.drop j=r→runL Tryz.prog HH [0,1,5] n B281_0 [(0,.sl (l.map Pal.v)),(1,.int .i64 v),(5,.int .i64 j)] (stN g n)=lpI (stN g n) [] 4 (ix (fun x=>x.num == v) r j):=by
 refine drop_ind (fun j h=>?_) (fun q r j h hx hd ih=>?_)
 all_goals rw[runL_of B281_0.eq_1]
 ·have h1:¬(j:Int)<l.length:=by omega
  push_cast[h1,ix,Pal.v]
 ·have h1:(j:Int)<l.length:=by omega
  have hw:=iw1 (j:=j) (by omega)
  push_cast[h1,hw,hx,Pal.v]at ih ⊢
  simp only[ih,ix,lps,Int.reduceEq,not_false_eq_true]
  all_goals ((repeat' split)<;>simp_all)
theorem f281 {l:List Pal}{v:Int}(hl:l.length<140737488355328){st:St}:run Tryz.prog HH 281 [.sl (l.map Pal.v),.int .i64 v] st=some (.ret (.int .i64 (ix (fun x=>x.num == v) l 0)),st):=by
 rw[run_shut F281 rfl rfl (by simp)]
 have hL0:=fun n=>L281 (g:=st.x.gl) (n:=n) (v:=v) hl l 0 rfl
 push_cast at hL0
 push_cast[hL0,lpE,lpX,lpI,lpB]
theorem L282 {l:List Hue}{c a:Int}(hl:l.length<140737488355328):∀r j,l.drop j=r→runL Tryz.prog HH [0,1,2,8] n B282_0 [(0,.sl (l.map Hue.v)),(1,.int .i64 c),(2,.int .i64 a),(8,.int .i64 j)] (stN g n)
  = match hueF r c a with
   |none=>some (.exit 0,[],stN g n)
   |some y=>some (.ret,[(6,.int .i64 y.lev),(7,.bool true)],stN g n):=by
 refine drop_ind (fun j h=>?_) (fun q r j h hx hd ih=>?_)
 all_goals rw[runL_of B282_0.eq_1]
 ·have h1:¬(j:Int)<l.length:=by omega
  rw[show hueF [] c a=none from rfl]
  push_cast[h1,Hue.v]
 ·have h1:(j:Int)<l.length:=by omega
  have hw:=iw1 (j:=j) (by omega)
  by_cases h2:q.chan=c∧q.attr=a
  ·have h3:=eq_true h2
   rw[show hueF (q::r) c a=some q by simp[hueF,h2]]
   clear ih
   push_cast[h1,hw,hx,Hue.v,h3]
  ·have h3:=eq_false h2
   rw[show hueF (q::r) c a=hueF r c a by unfold hueF;rw[List.find?_cons_of_neg (by simpa using h2)]]
   push_cast[h1,hw,hx,Hue.v,h3]at ih ⊢
   exact ih
theorem f282 {l:List Hue}{c a:Int}(hl:l.length<140737488355328){st:St}:run Tryz.prog HH 282 [.sl (l.map Hue.v),.int .i64 c,.int .i64 a] st=some (.ret (.tup [.int .i64 ((hueF l c a).map Hue.lev |>.getD 0),.bool (hueF l c a).isSome]),st):=by
 have h0:=fun n=>L282 (g:=st.x.gl) (n:=n) (c:=c) (a:=a) hl l 0 rfl
 cases hy:hueF l c a with
 |none =>
  rw[hy]at h0
  push_cast at h0
  rw[run_shut F282 rfl rfl (by simp)]
  push_cast[h0,Option.isSome_none]
 |some y =>
  rw[hy]at h0
  push_cast at h0
  rw[run_shut F282 rfl rfl (by simp)]
  push_cast[h0,Option.isSome_some]
theorem f219 {l:List Pal}{v:Int}{p:Prm}(hl:l.length<140737488355328)(hb:∀q∈l,q.hues.length<140737488355328){st:St}:run Tryz.prog HH 219 [.sl (l.map Pal.v),.int .i64 v,p.v] st=some (.ret (.tup [.int .i64 ((hueV l v p).getD 0),.bool (hueV l v p).isSome]),st):=by
 have h208:=fun(st:St)=>f281 (v:=v) (st:=st) hl
 have e0:palF l v=l.find? fun x=>x.num == v:=rfl
 cases hx:palF l v with
 |none =>
  rw[(ix_find (j:=0)).1 (e0▸hx)]at h208
  rw[run_shut F219 rfl rfl (by simp)]
  push_cast[Prm.v,Pal.v,h208,hueV,hx,Option.bind_none,Option.isSome_none]
 |some x =>
  obtain⟨k,k1,k2,k3⟩:=(ix_find (j:=0)).2 x (e0▸hx)
  rw[Nat.zero_add]at k1
  rw[k1]at h208
  have k4:(k:Int)<l.length:=by omega
  have k5:¬(k:Int)<0:=by omega
  have h209:=fun(st:St) (c:Int)=>f282 (c:=c) (a:=p.attr) (st:=st) (hb x (List.mem_of_find?_eq_some hx))
  have e:hueV l v p=((hueF x.hues p.chan p.attr).or (hueF x.hues 0 p.attr)).map Hue.lev:=by rw[hueV,hx];rfl
  rw[e]
  cases hy:hueF x.hues p.chan p.attr with
  |some y =>
   rw[run_shut F219 rfl rfl (by simp)]
   push_cast[Prm.v,Pal.v,Hue.v,h208,h209,k3,k4,k5,hy,Option.some_or,Option.isSome_some]
  |none =>
   rw[run_shut F219 rfl rfl (by simp)]
   push_cast[Prm.v,Pal.v,Hue.v,h208,h209,k3,k4,k5,hy,Option.none_or,Option.isSome_none]
   cases hueF x.hues 0 p.attr<;>rfl
theorem f143 {l:List Pal}{v:Val}{p:Prm}{home:Int}(hl:l.length<140737488355328)(hb:∀q∈l,q.hues.length<140737488355328){st:St}:run Tryz.prog HH 143 [.sl (l.map Pal.v),v.v,p.v,.int .i64 home] st=some (.ret (.int .i64 (lvV l v p home)),st):=by
 have h166:=fun(st:St)=>f219 (v:=v.pal) (p:=p) (st:=st) hl hb
 cases hx:hueV l v.pal p with
 |none =>
  rw[hx]at h166
  push_cast[Prm.v,Option.isSome_none]at h166
  rw[run_shut F143 rfl rfl (by simp)]
  push_cast[Prm.v,Pal.v,Val.v,h166,lvV,hx]
 |some y =>
  rw[hx]at h166
  push_cast[Prm.v,Option.isSome_some]at h166
  rw[run_shut F143 rfl rfl (by simp)]
  push_cast[Prm.v,Pal.v,Val.v,h166,lvV,hx]
theorem f89 {s:Sho}{p:Prm}{v:Val}(h:s.ok)(hs:shoC s=0){st:St}:run Tryz.prog HH 89 [s.v,p.v,v.v] st=some (.ret (.int .i64 (lvV s.pals v p ((ownR s p).getD F0).home)),st):=by
 have h76:=fun(st:St)=>f144 (p:=p) (st:=st) h hs
 have h121:=fun(st:St)=>f143 (v:=v) (p:=p) (home:=((ownR s p).getD F0).home) (st:=st) h.l.1 h.l.2
 push_cast[Sho.v,Prm.v,Val.v,Pal.v]at h76 h121
 rw[run_shut F89 rfl rfl (by simp)]
 push_cast[Sho.v,Prm.v,Val.v,Pal.v,h76,h121]
theorem L142 {l:List Int}{v:Int}(hl:l.length≤1000000):∀r j,l.drop j=r→∀a,a.length+r.length≤1000000 →
  runL Tryz.prog HH [0,1,5,6] (n+1) B142_0 [(0,.sl (l.map (V.int .i64))),(1,.int .i64 v),(5,.osl n a.length),(6,.int .i64 j)] (stI g n a)
   = some (.exit 0,[(0,.sl (l.map (V.int .i64))),(1,.int .i64 v),(5,.osl n (a++r.takeWhile fun x=>decide (x<v)).length),(6,.int .i64 (j+(r.takeWhile fun x=>decide (x<v)).length:Nat))],stI g n (a++r.takeWhile fun x=>decide (x<v))):=by
 refine drop_ind (fun j h a ha=>?_) (fun q r j h hx hd ih a ha=>?_)
 all_goals rw[runL_of B142_0.eq_1]
 ·have h1:¬(j:Int)<l.length:=by omega
  push_cast[h1,List.takeWhile_nil,List.length_nil]
 ·have h1:(j:Int)<l.length:=by omega
  have hw:=iw1 (j:=j) (by omega)
  by_cases h2:q<v
  ·have ih:=ih (a++[q]) (by simp at ha ⊢;omega)
   have h3:=eq_true h2
   have h4:roomV (a.length+1) 8=true:=roomV_lit (by simp at ha;omega) (by simp at ha;omega)
   rw[List.takeWhile_cons_of_pos (by simpa using h2)]
   push_cast[h1,hw,hx,h3,h4,List.map_append]at ih ⊢
   rw[ih]
   simp only[Int.add_assoc,Int.add_comm 1,List.append_assoc,List.cons_append,List.nil_append]
  ·have h3:=eq_false h2
   rw[List.takeWhile_cons_of_neg (by simpa using h2)]
   clear ih
   push_cast[h1,hw,hx,h3,List.length_nil]
theorem f142 {l:List Int}{v:Int}(hl:l.length≤100000){st:St}:run Tryz.prog HH 142 [.sl (l.map (V.int .i64)),.int .i64 v] st=some (.ret (.sl ((putR v l).map (V.int .i64))),st):=by
 have h0:=L142 (g:=st.x.gl) (n:=0) (l:=l) (v:=v) (by omega) l 0 rfl [] (by simp;omega)
 have e:=putR_tw (v:=v) (l:=l)
 have hd:=List.takeWhile_append_dropWhile (p:=fun x=>decide (x<v)) (l:=l)
 rw[List.nil_append,Nat.zero_add]at h0
 generalize l.takeWhile (fun x=>decide (x<v))=a at *
 generalize l.dropWhile (fun x=>decide (x<v))=d at *
 subst hd
 rw[List.length_append]at hl
 have r1:roomV (a.length+1) 8=true:=roomV_lit (by omega) (by omega)
 cases d with
 |nil =>
  rw[List.append_nil]at *
  push_cast[List.length_nil]at h0
  rw[run_shut F142 rfl rfl bdI]
  push_cast[h0,r1,e,List.take_length,List.drop_length,List.map_append]
  exact dn_eq (by omega) rfl
 |cons y r =>
  rw[List.length_cons]at hl
  have h1:¬(a.length:Int)=a.length+(r.length+1):=by omega
  have r2:roomV (a.length+(r.length+1)) 8=true:=roomV_lit (by omega) (by omega)
  have r3:roomV (a.length+1+(r.length+1)) 8=true:=roomV_lit (by omega) (by omega)
  have h2:(a.length:Int)<a.length+(r.length+1):=by omega
  have h5:List.drop a.length (List.take (a.length+(r.length+1)) (a++y::r))=y::r:=by rw[List.take_of_length_le (by simp),List.drop_left]
  push_cast[List.length_nil,List.length_append,List.length_cons]at h0
  rw[run_shut F142 rfl rfl bdI]
  have e:putR v (a++y::r)=a++(if y=v then y::r else v::y::r):=e
  by_cases hy:y=v
  ·rw[if_pos hy]at e
   have hy:=eq_true hy
   push_cast[h0,r1,r2,r3,e,h1,h2,hy,h5,mapO_map,getD_app,List.length_append,List.length_cons]
   exact dn_eq ⟨by omega,by simp[V.cells]⟩ (by simp)
  ·rw[if_neg hy]at e
   have hy:=eq_false hy
   have h6:a.length+(r.length+1+1)=a.length+1+(r.length+1):=by omega
   push_cast[h0,r1,r2,r3,e,h1,h2,hy,h5,h6,mapO_map,getD_app,List.length_append,List.length_cons]
   exact dn_eq ⟨by omega,by simp[V.cells]⟩ (by simp)
theorem L86_0 {l:List Ftr}{e0 e1 e2 e8:V}(hl:l.length<140737488355328)(b0:V.bd n e0=true)(b1:V.bd n e1=true)(b2:V.bd n e2=true)(b8:V.bd n e8=true):∀r j,l.drop j=r→∀a,a.length+r.length≤100000 →
  runL Tryz.prog HH [0,1,2,7,8,9,10] n B86_0 [(0,e0),(1,e1),(2,e2),(7,nI a),(8,e8),(9,.sl (l.map Ftr.v)),(10,.int .i64 j)] (stN g n)
   = some (.exit 2,[(0,e0),(1,e1),(2,e2),(7,nI (r.foldl (fun a f=>putR f.attr a) a)),(8,e8)],stN g n):=by
 refine drop_ind (fun j h a ha=>?_) (fun q r j h hx hd ih a ha=>?_)
 all_goals rw[runL_of B86_0.eq_1]
 ·have h1:¬(j:Int)<l.length:=by omega
  push_cast[h1,List.foldl_nil,Ftr.v]
 ·have h1:(j:Int)<l.length:=by omega
  have hw:=iw1 (j:=j) (by omega)
  have hp:=putR_len (v:=q.attr) (l:=a)
  have h143:=fun(st:St)=>f142 (l:=a) (v:=q.attr) (st:=st) (by simp at ha;omega)
  have ih:=ih (putR q.attr a) (by simp at ha;omega)
  push_cast[h1,hw,hx,Ftr.v,h143,nI_put,List.foldl_cons,b0,b1,b2,b8]at ih ⊢
  exact ih
theorem L86_1 {xs:List Fixt}{ps:List Prof}{c:Int}(hl:xs.length≤64)(hp:ps.length<140737488355328)(hq:∀q∈ps,q.feats.length≤16)(hf:∀x∈xs,(pfx ps x.prof).isSome=true):∀r j,xs.drop j=r→∀a,a.length+16*r.length≤2000 →
  runL Tryz.prog HH [0,1,2,7,8] n B86_1 [(0,.sl (xs.map Fixt.v)),(1,.sl (ps.map Prof.v)),(2,.int .i64 c),(7,nI a),(8,.int .i64 j)] (stN g n)
   = some (.exit 0,[(7,nI (r.foldl (givX ps c) a))],stN g n):=by
 refine drop_ind (fun j h a ha=>?_) (fun x r j h hx hd ih a ha=>?_)
 all_goals rw[runL_of B86_1.eq_1]
 ·have h1:¬(j:Int)<xs.length:=by omega
  push_cast[h1,List.foldl_nil,Fixt.v,Prof.v]
 ·have h1:(j:Int)<xs.length:=by omega
  have hw:=iw1 (j:=j) (by omega)
  rw[List.length_cons]at ha
  rw[List.foldl_cons,givX]
  by_cases hc:x.chan=c
  ·obtain⟨q,hq1⟩:=Option.isSome_iff_exists.1 (hf x (mem_at hd))
   have hq2:=hq q (List.mem_of_find?_eq_some hq1)
   obtain⟨k,k1,k2,k3⟩:=(ix_find (j:=0)).2 q hq1
   rw[Nat.zero_add]at k1
   have k4:(k:Int)<ps.length:=by omega
   have h142:=fun(st:St)=>f141 (s:=x.prof) (st:=st) hp
   rw[k1]at h142
   have h0:=L86_0 (g:=g) (n:=n) (l:=q.feats) (e0:=.sl (xs.map Fixt.v)) (e1:=.sl (ps.map Prof.v)) (e2:=.int .i64 c) (e8:=.int .i64 j) (by omega) (by simp[V.bd,bdL_map',V.bdL]) (by simp[V.bd,bdL_map',V.bdL]) rfl rfl _ 0 rfl a (by simp;omega)
   have hlen:=foldF_len (l:=q.feats) (a:=a)
   rw[if_pos hc,show ftsX ps x=q.feats by simp[ftsX,hq1]]
   have ih:=ih (q.feats.foldl (fun a f=>putR f.attr a) a) (by omega)
   have h3:=eq_true hc
   push_cast[Fixt.v,Prof.v,Ftr.v]at h0 h142
   push_cast[h1,hw,hx,Fixt.v,Prof.v,Ftr.v,h3,h142,k3,k4,h0]at ih ⊢
   exact ih
  ·rw[if_neg hc]
   have ih:=ih a (by omega)
   have h3:=eq_false hc
   push_cast[h1,hw,hx,Fixt.v,Prof.v,h3]at ih ⊢
   exact ih
theorem f86 {s:Sho}{c:Int}(h:s.ok)(hs:shoC s=0){st:St}:run Tryz.prog HH 86 [.sl (s.fixts.map Fixt.v),.sl (s.profs.map Prof.v),.int .i64 c] st=some (.ret (.sl ((givR s c).map (V.int .i64))),st):=by
 have hf:=fix_ok (shoC_parts hs).2.2.2.1
 have h0:=fun n=>L86_1 (g:=st.x.gl) (n:=n) (c:=c) hf.2.1 (by omega) (fun q hq=>prof_len hs hq) (fun x hx=>aloC_some (hf.2.2.2 x hx)) _ 0 rfl [] (by simp;omega)
 rw[List.drop_zero,show s.fixts.foldl (givX s.profs c) []=givR s c from rfl]at h0
 push_cast[Fixt.v,Prof.v]at h0
 rw[run_shut F86 rfl rfl (by simp)]
 push_cast[Fixt.v,Prof.v,h0]
theorem L36_0 {l:List Int}{c:Int}{e1:V}(hl:l.length≤1024)(b1:V.bd (n+1) e1=true):∀r j,l.drop j=r→∀a,a.length+r.length≤10000000 →
  runL Tryz.prog HH [1,3,4,5,6] (n+1) B36_0 [(1,e1),(3,.osl n a.length),(4,.int .i64 c),(5,.sl (l.map (V.int .i64))),(6,.int .i64 j)] (stQ g n a)
   = some (.exit 2,[(1,e1),(3,.osl n (a++r.map fun x=>(⟨c,x⟩:Prm)).length),(4,.int .i64 c)],stQ g n (a++r.map fun x=>(⟨c,x⟩:Prm))):=by
 refine drop_ind (fun j h a ha=>?_) (fun q r j h hx hd ih a ha=>?_)
 all_goals rw[runL_of B36_0.eq_1]
 ·have h1:¬(j:Int)<l.length:=by omega
  push_cast[h1,List.map_nil,Prm.v]
 ·have h1:(j:Int)<l.length:=by omega
  have hw:=iw1 (j:=j) (by omega)
  have ih:=ih (a++[⟨c,q⟩]) (by simp at ha ⊢;omega)
  have h4:roomV (a.length+1) 16=true:=roomV_lit (by simp at ha;omega) (by simp at ha;omega)
  push_cast[h1,hw,hx,h4,Prm.v,List.map_append,b1]at ih ⊢
  rw[ih]
theorem L36_1 {s:Sho}(h:s.ok)(hs:shoC s=0):∀(m k:Nat),k+m=1000→∀a,a.length+m*1024≤2000000 →
  runL Tryz.prog HH [1,3,4] (n+1) B36_1 [(1,.ep s.v 0),(3,.osl n a.length),(4,.int .i64 k)] (stQ g n a)
   = some (.exit 0,[(3,.osl n (a++patC s k m).length)],stQ g n (a++patC s k m)):=by
 intro m
 induction m with
 |zero =>
  intro k hk a ha
  have h1:¬(k:Int)≤999:=by omega
  rw[runL_of B36_1.eq_1]
  push_cast[h1,patC,Prm.v,Sho.v]
 |succ m ih =>
  intro k hk a ha
  have h1:(k:Int)≤999:=by omega
  have hw:IntKind.i64.wrap ((k:Int)+1)=((k+1:Nat):Int):=iwrap (by omega) (by omega)
  have hle:=givR_len (c:=k) hs
  have h96:=fun(st:St)=>f86 (c:=k) (st:=st) h hs
  have h0:=L36_0 (g:=g) (n:=n) (l:=givR s k) (c:=k) (e1:=.ep s.v 0) hle (by simp[V.bd,bdL_map',V.bdL]) _ 0 rfl a (by simp;omega)
  have ih:=ih (k+1) (by omega) (a++(givR s k).map fun x=>(⟨k,x⟩:Prm)) (by simp;omega)
  rw[runL_of B36_1.eq_1]
  push_cast[Sho.v,Prm.v]at h0 h96
  push_cast[h1,hw,Sho.v,Prm.v,h96,h0,patC]at ih ⊢
  exact ih
theorem f36 {s:Sho}(h:s.ok)(hs:shoC s=0){st:St}:run Tryz.prog HH 36 [s.v] st=some (.ret (.sl ((patC s 1 999).map Prm.v)),st):=by
 have h0:=L36_1 (g:=st.x.gl) (n:=1) h hs 999 1 rfl [] (by simp)
 rw[run_shut F36 rfl rfl (by simp)]
 push_cast[Sho.v,Prm.v]at h0
 push_cast[Sho.v,Prm.v,h0]
end Go.Proofs.YtkpcomdhdjihlaaGreatDoor

namespace Go.Proofs.YtkpcomdhdjihlaaGreatDoor
open Go.Sha
set_option maxRecDepth 100000
variable {g:List (Nat×Obj)}{n:Nat}
def Nice (l:List Row):Prop:=l.length≤5000∧(l.getD 0 default).length≤40∧∀c∈l,∀s∈c,s.length≤20000
end Go.Proofs.YtkpcomdhdjihlaaGreatDoor

namespace Go.Proofs.YtkpcomdhdjihlaaGreatDoor
open Go.Sha
set_option maxRecDepth 10000
theorem F29:compF Tryz.prog 29=some ⟨5,[.tmp 2],(.g [.s 2 (.mv (.w []))] (.g [.m 3 0,.f 4 72 3,.m 2 4] (.ret [2])))⟩:=by kernel_rfl
end Go.Proofs.YtkpcomdhdjihlaaGreatDoor

namespace Go.Proofs.YtkpcomdhdjihlaaGreatDoor
open Go.Sha
set_option maxRecDepth 100000
variable {g:List (Nat×Obj)}{n:Nat}
theorem f29 {m:Int}(h0:-9223372036854775808≤m)(h1:m≤9223372036854775807){st:St}(hG:glB st.x.gl=true):run Tryz.prog HH 29 [.int .i64 m] st=some (.ret (.str (Lib.itoa m)),st):=by
 have hI:∀st':St,st'.x.gl=st.x.gl→run Tryz.prog HH 72 [.int .i64 m] st'=some (.ret (.str (Lib.itoa m)),st'):=fun st' e=>run_H (by
  show(hItoa st'.x.gl [.int .i64 m]).map (fun r=>(r,st'))=_
  rw[hItoa,e,hG,decide_eq_true h0,decide_eq_true h1];rfl)
 rw[run_shut F29 rfl rfl (by simp)]
 push_cast[hI]
end Go.Proofs.YtkpcomdhdjihlaaGreatDoor

namespace Go.Proofs.YtkpcomdhdjihlaaGreatDoor
open Go.Sha
set_option maxRecDepth 100000
variable {g:List (Nat×Obj)}{n:Nat}
theorem num_chars {s:List UInt8}(h:numC s=0):s.length≤8∧∀b∈s,isD b=true∨b=46:=by
 obtain⟨a1,a2,a3,a4⟩:=numC_parts h
 have e:s=nW s++s.dropWhile (· != 46):=(List.takeWhile_append_dropWhile ..).symm
 have e2:s.dropWhile (· != 46)=[]∨s.dropWhile (· != 46)=46::nR s:=by
  unfold nR
  cases hd:s.dropWhile (· != 46) with
  |nil=>exact .inl rfl
  |cons b r =>
   have:(b != 46)=false:=by
    have:=List.head_dropWhile_not (p:=(· != (46:UInt8))) (l:=s) (by rw[hd];simp)
    simpa [hd] using this
   have hb:b=46:=by simpa using this
   rw[hb];exact .inr rfl
 rcases e2 with e2|e2
 ·rw[e2,List.append_nil]at e
  exact⟨by rw[e];omega,fun b hb=>.inl (a1 b (by rw[←e];exact hb))⟩
 ·rw[e2]at e
  refine⟨by rw[e,List.length_append,List.length_cons];omega,fun b hb=>?_⟩
  rw[e]at hb
  rcases List.mem_append.1 hb with hb|hb
  ·exact .inl (a1 b hb)
  ·rcases List.mem_cons.1 hb with hb|hb
   ·exact .inr hb
   ·exact .inl (a2 b hb)
theorem cuesP_all {l:List Cu}:∀{r:List Cu}{j:Nat},cuesP l r j=0→∀c∈r,numC c.num=0
 |[],_,_,c,hc=>by simp at hc
 |q::r,j,h,c,hc=>by
  rw[cuesP]at h
  repeat' split at h
  all_goals first|(rename_i a;exact absurd h a)|cases h|skip
  rename_i a _
  rw[cue_eq]at a
  rcases List.mem_cons.1 hc with rfl|hc
  ·exact cueP_num (Classical.not_not.1 a)
  ·exact cuesP_all h c hc
theorem lst_parts {x:Lst}(h:lstP x=0):1≤x.num∧x.num≤1048576∧x.cues.length≤64∧∀c∈x.cues,numC c.num=0:=by
 unfold lstP lstB at h
 split at h
 ·cases h
 ·split at h
  ·cases h
  ·exact⟨by omega,by omega,by omega,cuesP_all h⟩
theorem lstsL_all {l:List Lst}:∀{r:List Lst}{j:Nat},lstsL l r j=0→∀c∈r,lstP c=0
 |[],_,_,c,hc=>by simp at hc
 |q::r,j,h,c,hc=>by
  rw[lstsL]at h
  repeat' split at h
  all_goals first|(rename_i a;exact absurd h a)|cases h|skip
  rename_i a _
  rcases List.mem_cons.1 hc with rfl|hc
  ·rw[lst_eq];exact Classical.not_not.1 a
  ·exact lstsL_all h c hc
theorem sho_parts {s:Sho}(h:shoC s=0):s.lsts.length≤8∧(∀x∈s.lsts,lstP x=0)∧s.pals.length≤32∧∀x∈s.pals,1≤x.num∧x.num≤1048576:=by
 obtain⟨_,_,_,_,_,h1,h2,_⟩:=shoC_parts h
 unfold lstsC at h2
 unfold palsCR at h1
 split at h1
 ·cases h1
 ·split at h2
  ·cases h2
  ·exact⟨by omega,lstsL_all h2,by omega,fun x hx=>have:=(palsR_all (j:=0) rfl h1).1 x hx;⟨this.1,this.2.1⟩⟩
end Go.Proofs.YtkpcomdhdjihlaaGreatDoor

namespace Go.Proofs.YtkpcomdhdjihlaaGreatDoor
open Go.Sha
set_option maxRecDepth 10000
theorem F24:compF Tryz.prog 24=some ⟨23,[.cell 4 (some 3),.tmp 5],(.g [.q 2 31 0,.s 4 (.alloc 55 [.i 0,.i 0,.nils]),.c 5 0] (.z [2] (.g [.d 9 9 2,.m 10 1,.g' 11 60 9 10,.m 8 11,.j 12 0 8,.j 13 1 8,.m 6 12,.m 7 13] (.join [2,4,6] (.g [.m 14 7,.v 15 .neq 14 0] (.i 15 (.g [.s 16 (.build [.i 0,.i 0,.nils] []),.m 17 7,.w 3 4 16,.m 5 17] (.ret [4,5])) .skip)) (.g [.a 18 6 2,.l 19 18,.m 20 6,.r 21 3 19 20,.d 22 3 21,.w 3 4 22,.c 5 0] (.ret [4,5]))))))⟩:=by kernel_rfl
theorem F80:compF Tryz.prog 80=some ⟨15,[.tmp 6],(.g [.c 6 0] (.join [] (.join [14] (.reg [.m 7 0,.m 8 1,.b 9 .lss 7 8,.m 10 9,.mx 11 0 10,.mx 12 2 10,.bx 13 .gtr 11 12 10,.o 14 10 13]) (.i 14 (.g [.c 6 2] (.ret [6])) .skip)) (.g [.c 6 0] (.ret [6]))))⟩:=by kernel_rfl
end Go.Proofs.YtkpcomdhdjihlaaGreatDoor

namespace Go.Proofs.YtkpcomdhdjihlaaGreatDoor
open Go.Sha
set_option maxRecDepth 100000
variable {g:List (Nat×Obj)}{n:Nat}
end Go.Proofs.YtkpcomdhdjihlaaGreatDoor

namespace Go.Proofs.YtkpcomdhdjihlaaGreatDoor
open Go.Sha
set_option maxRecDepth 100000
variable {g:List (Nat×Obj)}{n:Nat}
end Go.Proofs.YtkpcomdhdjihlaaGreatDoor

namespace Go.Proofs.YtkpcomdhdjihlaaGreatDoor
open Go.Sha
set_option maxRecDepth 10000
end Go.Proofs.YtkpcomdhdjihlaaGreatDoor

namespace Go.Proofs.YtkpcomdhdjihlaaGreatDoor
open Go.Sha
set_option maxRecDepth 100000
variable {g:List (Nat×Obj)}{n:Nat}
def ltK (key:Fixt→Int×Int)(x y:Fixt):Prop:=(key x).1<(key y).1∨(key x).1=(key y).1∧(key x).2<(key y).2
instance {key:Fixt→Int×Int}{x y:Fixt}:Decidable (ltK key x y):=by unfold ltK;exact inferInstance
@[reducible] def keyV (k:Nat):V:=.ep (.agg [.fn (.func k) [] []]) 0
end Go.Proofs.YtkpcomdhdjihlaaGreatDoor

namespace Go.Proofs.YtkpcomdhdjihlaaGreatDoor
open Go.Sha
set_option maxRecDepth 100000
variable {g:List (Nat×Obj)}{n:Nat}
end Go.Proofs.YtkpcomdhdjihlaaGreatDoor

namespace Go.Proofs.YtkpcomdhdjihlaaGreatDoor
open Go.Sha
set_option maxRecDepth 100000
variable {g:List (Nat×Obj)}{n:Nat}
def numOk (n:Nat):Bool:=decide (Lib.itoa n≠[])&&(Lib.itoa n).all isD&&decide ((Lib.itoa n).length≤18)&&decide (natOf (Lib.itoa n)=n)
theorem numOk_all:(List.range 2100).all numOk=true:=by decide +kernel
theorem numOk_at {m:Int}(h0:0≤m)(h:m<2100):Lib.itoa m≠[]∧(Lib.itoa m).all isD=true∧(Lib.itoa m).length≤18∧(natOf (Lib.itoa m):Int)=m:=by
 have:=List.all_eq_true.1 numOk_all m.toNat (List.mem_range.2 (by omega))
 simp only[numOk,Bool.and_eq_true,decide_eq_true_eq,Int.toNat_of_nonneg h0]at this
 exact⟨this.1.1.1,this.1.1.2,this.1.2,by omega⟩
section
variable {α:Type}{lt:α→α→Prop} [∀x y,Decidable (lt x y)]
end
def Disj (ps:List Prof)(x y:Fixt):Prop:=x.univ=y.univ→x.addr+footS ps x≤y.addr∨y.addr+footS ps y≤x.addr
theorem Disj.symm {ps:List Prof}{x y:Fixt}(h:Disj ps x y):Disj ps y x:=fun e=>(h e.symm).symm
end Go.Proofs.YtkpcomdhdjihlaaGreatDoor

namespace Go.Proofs.YtkpcomdhdjihlaaGreatDoor
open Go.Sha
set_option maxRecDepth 100000
variable {g:List (Nat×Obj)}{n:Nat}
theorem cue_parts {x:Cu}(h:cueP x=0):numC x.num=0∧labC x.label=0∧movCP x.moves=0∧parC x=0∧nxtC x=0:=by
 unfold cueP at h
 repeat' split at h
 all_goals first|(rename_i a;exact absurd h a)|skip
 rename_i a1 a2 a3 a4
 exact⟨Classical.not_not.1 a1,Classical.not_not.1 a2,Classical.not_not.1 a3,Classical.not_not.1 a4,h⟩
structure CuR (x:Cu):Prop where
 num:numC x.num=0
 label:labC x.label=0
 moves:x.moves.length≤128
 part:∃t r,x.parts=t::r∧tim t.up∧tim t.down∧tim t.delay
 follow:x.follow=-1∨(25≤x.follow∧x.follow≤10000000)
 link:x.link=[]∨numC x.link=0
 loops:0≤x.loops∧x.loops≤100
theorem f24 {s:Sho}{v:Int}{i:Nat}{x:Lst}(h:s.ok)(hs:shoC s=0)(hi:ix (fun x=>x.num == v) s.lsts 0=i)(hlt:i<s.lsts.length)(hx:∀d,s.lsts.getD i d=x){st:St}:run Tryz.prog HH 24 [s.v,.int .i64 v] st=some (.ret (.tup [x.v,.int .i64 0]),st):=by
 have h1:=fun(st:St)=>f60 (v:=v) (st:=st) h
 have hlt':(i:Int)<s.lsts.length:=by omega
 have e1:fndI' (shoC s) (ix (fun x=>x.num == v) s.lsts 0)=i:=by rw[fndI',if_neg (by simp[hs]),hi,if_neg (by omega)]
 have e2:fndE (shoC s) (ix (fun x=>x.num == v) s.lsts 0)=0:=by rw[fndE,if_neg (by simp[hs]),hi,if_neg (by omega)]
 rw[e1,e2]at h1
 rw[run_shut F24 rfl rfl (by simp)]
 push_cast[Sho.v,Lst.v]at h1
 push_cast[Sho.v,Lst.v,h1,hlt',hx]
end Go.Proofs.YtkpcomdhdjihlaaGreatDoor

namespace Go.Proofs.YtkpcomdhdjihlaaGreatDoor
open Go.Sha
set_option maxRecDepth 10000
def B87_0:Cd:=(.join [0,3,4] (.g [.m 9 4,.v 10 .neq 9 0] (.i 10 .skip (.exit [0,3] 0))) (.join [0,3,4] (.block 1 (.g [.m 13 4,.v 14 .rem 13 10,.m 5 14] (.join [0,3,4,5] (.g [.m 15 5,.v 16 .lss 15 0] (.i 16 (.reg [.m 17 5,.s 18 (.un .neg (.t 17)),.m 5 18]) .skip)) (.reg [.m 19 5,.s 20 (.bin .add (.i 48) (.t 19)),.s 21 (.cvi .u8 (.t 20)),.s 22 (.bslice 5 1 [.t 21]),.s 23 (.cvbs (.t 22)),.m 24 3,.b 25 .add 23 24,.m 3 25])))) (.reg [.m 11 4,.v 12 .quo 11 10,.m 4 12])))
theorem F87:compF Tryz.prog 87=some ⟨31,[.tmp 2],(.g [.s 2 (.mv (.w []))] (.join [0] (.g [.m 6 0,.v 7 .eql 6 0] (.i 7 (.g [.s 2 (.mv (.w [48]))] (.ret [2])) .skip)) (.g [.s 3 (.mv (.w []))] (.join [0,3] (.g [.m 8 0,.m 4 8] (.block 0 (.loop [0,3,4] [] B87_0))) (.join [3] (.g [.m 26 0,.v 27 .lss 26 0] (.i 27 (.reg [.m 28 3,.s 29 (.bin .add (.w [45]) (.t 28)),.m 3 29]) .skip)) (.g [.m 30 3,.m 2 30] (.ret [2])))))))⟩:=by kernel_rfl
theorem F37:compF Tryz.prog 37=some ⟨5,[.tmp 2],(.g [.s 2 (.mv (.w []))] (.g [.m 3 0,.f 4 87 3,.m 2 4] (.ret [2])))⟩:=by kernel_rfl
def B8_0:Cd:=(.join [0,1,5] (.g [.m 11 5,.m 12 0,.u 13 12,.b 14 .lss 11 13] (.i 14 .skip (.exit [] 0))) (.join [0,1,5] (.block 1 (.q (.dreg 10 [.m 17 0,.m 18 5,.r 19 1 17 18,.l 20 19,.m 21 1,.m 22 5,.r 23 1 21 22,.l 24 23,.g' 25 41 20 24,.z 26 25]) (.i 26 (.g [.k 4 false] (.ret [4])) .skip))) (.reg [.m 15 5,.v 16 .add 15 1,.m 5 16])))
theorem F8:compF Tryz.prog 8=some ⟨27,[.tmp 4],(.g [.k 4 false] (.join [0,1] (.g [.m 6 0,.u 7 6,.m 8 1,.u 9 8,.b 10 .neq 7 9] (.i 10 (.g [.k 4 false] (.ret [4])) .skip)) (.join [] (.g [.c 5 0] (.block 0 (.loop [0,1,5] [] B8_0))) (.g [.k 4 true] (.ret [4])))))⟩:=by kernel_rfl
end Go.Proofs.YtkpcomdhdjihlaaGreatDoor

namespace Go.Proofs.YtkpcomdhdjihlaaGreatDoor
open Go.Sha
set_option maxRecDepth 100000
variable {g:List (Nat×Obj)}{n:Nat}
def dgt (k:Nat):List UInt8:=if k=0 then[] else Lib.decDigits k
theorem dgt_step {k:Nat}(h:k≠0):dgt k=dgt (k / 10)++[UInt8.ofNat (48+k % 10)]:=by
 rw[dgt,if_neg h,Lib.decDigits]
 by_cases h1:k<10
 ·rw[dif_pos h1,dgt,if_pos (by omega),Nat.mod_eq_of_lt h1];rfl
 ·rw[dif_neg h1,dgt,if_neg (by omega)]
theorem dgt_itoa {m:Int}(h:0<m):dgt m.toNat=Lib.itoa m:=by
 rw[dgt,if_neg (by omega),Lib.itoa,if_neg (by omega)]
theorem byt {d:Nat}(h:d<10):byteV (.int .u8 (48+(d:Int)))=some (UInt8.ofNat (48+d)):=by
 have h':d=0∨d=1∨d=2∨d=3∨d=4∨d=5∨d=6∨d=7∨d=8∨d=9:=by omega
 rcases h' with rfl|rfl|rfl|rfl|rfl|rfl|rfl|rfl|rfl|rfl<;>rfl
theorem L87 {v0:V}(b0:V.bd n v0=true):∀(j k:Nat) (s:List UInt8),k<10 ^ j→j≤18→s.length+j≤1000 →
  runL Tryz.prog HH [0,3,4] n B87_0 [(0,v0),(3,.str s),(4,.int .i64 k)] (stN g n)=some (.exit 0,[(0,v0),(3,.str (dgt k++s))],stN g n):=by
 intro j
 induction j with
 |zero =>
  intro k s hk _ _
  have h0:k=0:=by simpa using hk
  subst h0
  rw[runL_of B87_0.eq_1]
  push_cast[dgt,b0,List.nil_append]
 |succ j ih =>
  intro k s hk hj hs
  rw[runL_of B87_0.eq_1]
  by_cases h0:k=0
  ·subst h0
   push_cast[dgt,b0,List.nil_append]
  ·have hk':k<10 ^ 18:=Nat.lt_of_lt_of_le hk (Nat.pow_le_pow_right (by omega) hj)
   have h1:¬(k:Int)=0:=by omega
   have t1:(k:Int).tmod 10=((k % 10:Nat):Int):=by rw[Int.tmod_eq_emod_of_nonneg (by omega)];rfl
   have t2:(k:Int).tdiv 10=((k / 10:Nat):Int):=by rw[Int.tdiv_eq_ediv_of_nonneg (by omega)];rfl
   have w1:IntKind.i64.wrap ((k % 10:Nat):Int)=((k % 10:Nat):Int):=iwrap (by omega) (by omega)
   have w2:IntKind.i64.wrap ((k / 10:Nat):Int)=((k / 10:Nat):Int):=iwrap (by omega) (by omega)
   have w3:IntKind.i64.wrap (48+((k % 10:Nat):Int))=48+((k % 10:Nat):Int):=iwrap (by omega) (by omega)
   have hd9:k % 10<10:=Nat.mod_lt _ (by decide)
   have w4:IntKind.u8.wrap (48+((k % 10:Nat):Int))=48+((k % 10:Nat):Int):=by simp[IntKind.wrap,IntKind.bits,IntKind.signed];omega
   have n1:¬((k % 10:Nat):Int)<0:=by omega
   have ih:=ih (k / 10) (UInt8.ofNat (48+k % 10)::s) (by rw[Nat.pow_succ]at hk;omega) (by omega) (by simp;omega)
   rw[dgt_step h0,List.append_assoc,List.singleton_append]
   generalize hz:dgt (k / 10)++UInt8.ofNat (48+k % 10)::s=z at *
   generalize k % 10=d at *
   generalize k / 10=e at *
   have hcv:cvbsV ⟨n+1,[],[(n,⟨5,1,[.int .u8 (48+(d:Int))],false,false⟩)],⟨[],g,[]⟩⟩ (.osl n 1)=some (.str [UInt8.ofNat (48+d)]):=by
    have hb:=byt hd9
    simp only[cvbsV,elemsV,Sha.look,if_true,List.length_cons,List.length_nil,bytesV,hb,Option.map_some]
   push_cast[h1,t1,t2,w1,w2,w3,w4,n1,b0,hcv]at ih ⊢
   exact dn_eq (by omega) ih
theorem f87 {m:Int}(h0:0≤m)(h1:m<1000000000000000000){st:St}:run Tryz.prog HH 87 [.int .i64 m] st=some (.ret (.str (Lib.itoa m)),st):=by
 by_cases hm:m=0
 ·subst hm
  rw[run_shut F87 rfl rfl (by simp)]
  push_cast
  rw[Lib.itoa,if_neg (by decide),Lib.decDigits,dif_pos (by decide)]
  rfl
 ·have hL:=fun n=>L87 (g:=st.x.gl) (n:=n) (v0:=.int .i64 m) rfl 18 m.toNat [] (by omega) (Nat.le_refl _) (by simp)
  rw[Int.toNat_of_nonneg h0,dgt_itoa (by omega),List.append_nil]at hL
  have n1:¬m<0:=by omega
  rw[run_shut F87 rfl rfl (by simp)]
  push_cast at hL
  push_cast[hm,hL,n1]
theorem f37 {m:Int}(h0:0≤m)(h1:m<1000000000000000000){st:St}:run Tryz.prog HH 37 [.int .i64 m] st=some (.ret (.str (Lib.itoa m)),st):=by
 have e:=fun(st:St)=>f87 (st:=st) h0 h1
 rw[run_shut F37 rfl rfl (by simp)]
 push_cast[e]
end Go.Proofs.YtkpcomdhdjihlaaGreatDoor

namespace Go.Proofs.YtkpcomdhdjihlaaGreatDoor
open Go.Sha
set_option maxRecDepth 10000
theorem F26:compF Tryz.prog 26=some ⟨20,[.tmp 4,.tmp 5],(.g [.q 2 55 0,.s 4 (.mv (.c .nils)),.c 5 0] (.z [2] (.g [.d 9 3 2,.m 10 1,.g' 11 67 9 10,.m 8 11,.j 12 0 8,.j 13 1 8,.m 6 12,.m 7 13] (.join [2,6] (.g [.m 14 7,.v 15 .neq 14 0] (.i 15 (.g [.m 16 7,.s 4 (.mv (.c .nils)),.m 5 16] (.ret [4,5])) .skip)) (.g [.d 17 3 2,.m 18 6,.g' 19 68 17 18,.m 4 19,.c 5 0] (.ret [4,5]))))))⟩:=by kernel_rfl
def B31_0:Cd:=(.join [0,5,6] (.g [.m 18 6,.v 19 .lss 18 3] (.i 19 .skip (.exit [0] 0))) (.join [0,5,6] (.block 1 (.join [0,5,6] (.g [.m 23 0,.m 24 5,.m 25 6,.s 26 (.f 78 [.t 23,.t 24,.t 25]),.m 22 26,.j 27 0 22,.j 28 1 22,.m 7 27,.m 8 28] (.g [.m 29 8] (.i 29 (.g [.m 30 7,.m 2 30,.c 3 0] (.ret [2,3])) .skip))) (.reg [.m 31 5,.v 32 .quo 31 10,.m 5 32]))) (.reg [.m 20 6,.v 21 .add 20 1,.m 6 21])))
theorem F31:compF Tryz.prog 31=some ⟨39,[.tmp 2,.tmp 3],(.g [.s 2 (.mv (.w [])),.c 3 0] (.join [0] (.g [.m 11 0,.f 12 77 11,.m 4 12] (.g [.m 13 4,.v 14 .neq 13 0] (.i 14 (.g [.m 15 4,.s 2 (.mv (.w [])),.m 3 15] (.ret [2,3])) .skip))) (.join [0] (.g [.m 16 0,.v 17 .eql 16 65535] (.i 17 (.g [.s 2 (.mv (.w [102,117,108,108])),.c 3 0] (.ret [2,3])) .skip)) (.g [.c 5 1000] (.join [0] (.g [.c 6 0] (.block 0 (.loop [0,5,6] [] B31_0))) (.g [.m 34 0,.s 35 (.f 78 [.t 34,.i 1,.i 3]),.m 33 35,.j 36 0 33,.j 37 1 33,.m 9 36,.m 10 37] (.g [.m 38 9,.m 2 38,.c 3 0] (.ret [2,3]))))))))⟩:=by kernel_rfl
theorem F67:compF Tryz.prog 67=some ⟨24,[.tmp 4,.tmp 5],(.g [.q 2 55 0,.c 4 0,.c 5 0] (.z [2] (.g [.d 10 3 2,.m 11 1,.g' 12 124 10 11,.m 9 12,.j 13 0 9,.j 14 1 9,.j 15 2 9,.m 6 13,.m 7 14,.m 8 15] (.join [6] (.block 0 (.g [.m 17 8,.v 18 .neq 17 0,.m 16 18] (.i 16 (.g [.m 19 8,.c 4 0,.m 5 19] (.ret [4,5])) (.g [.m 21 7,.z 22 21,.m 20 22] (.i 20 (.g [.c 4 0,.c 5 6] (.ret [4,5])) .skip))))) (.g [.m 23 6,.m 4 23,.c 5 0] (.ret [4,5]))))))⟩:=by kernel_rfl
def B68_0:Cd:=(.g [.b 12 .lss 11 10] (.join [1,2,5,9,10,11] (.i 12 .skip (.exit [5] 0)) (.join [1,2,5,9,10,11] (.block 1 (.g [.r 13 2 9 11,.d 14 2 13,.s 7 (.alloc 71 [.i 0,.i 0]),.w 2 7 14] (.z [7] (.greg [[],[],[],[],[],[],[],[false,false,false,false,false,false,true],[false,false,false,false,false,false,false,false],[]] [.m 15 5,.d 16 2 7,.d 17 3 2,.m 18 1,.d 19 2 7,.s 20 (.f 126 [.t 17,.t 18,.t 19]),.s 21 (.build [.i 0,.i 0,.i 0,.i 0] [(0,2,(.t 16)),(2,2,(.t 20))]),.s 22 (.bslice 75 4 [.t 21]),.s 23 (.append 75 4 32 (.t 15) (.t 22)),.m 5 23])))) (.reg [.v 24 .add 11 1,.m 11 24]))))
theorem F68:compF Tryz.prog 68=some ⟨26,[.tmp 4],(.g [.q 2 55 0,.s 4 (.mv (.c .nils))] (.z [2] (.g [.s 5 (.mv (.c .nils))] (.join [5] (.g [.d 8 3 2,.f 9 125 8,.u 10 9,.c 11 0] (.block 0 (.loop [1,2,5,9,10,11] [(5,(75,4))] B68_0))) (.g [.m 25 5,.m 4 25] (.ret [4]))))))⟩:=by kernel_rfl
theorem F136:compF Tryz.prog 136=some ⟨7,[.tmp 2],(.g [.c 2 0] (.g [.m 3 0,.s 4 (.bin .mul (.i 65535) (.t 3)),.v 5 .add 4 50000,.v 6 .quo 5 100000,.m 2 6] (.ret [2])))⟩:=by kernel_rfl
theorem F77:compF Tryz.prog 77=some ⟨9,[.tmp 2],(.g [.c 2 0] (.join [] (.join [8] (.reg [.m 3 0,.v 4 .lss 3 0,.m 5 4,.mx 6 0 5,.vx 7 .gtr 6 65535 5,.o 8 5 7]) (.i 8 (.g [.c 2 2] (.ret [2])) .skip)) (.g [.c 2 0] (.ret [2]))))⟩:=by kernel_rfl
theorem F78:compF Tryz.prog 78=some ⟨45,[.tmp 6,.tmp 7],(.g [.s 6 (.mv (.w [])),.k 7 false] (.g [.m 11 0,.s 12 (.bin .mul (.i 100000) (.t 11)),.v 13 .sub 12 50000,.m 14 1,.s 15 (.bin .mul (.i 65535) (.t 14)),.b 16 .add 13 15,.v 17 .sub 16 1,.m 18 1,.s 19 (.bin .mul (.i 65535) (.t 18)),.b 20 .quo 17 19,.s 21 (.gen .mx [.i 0,.t 20]),.m 8 21] (.join [1,2,8] (.g [.m 22 8,.m 23 1,.b 24 .mul 22 23,.f 25 136 24,.m 26 0,.b 27 .neq 25 26] (.i 27 (.g [.s 6 (.mv (.w [])),.k 7 false] (.ret [6,7])) .skip)) (.g [.m 28 1,.s 29 (.bin .quo (.i 1000) (.t 28)),.m 9 29] (.g [.m 30 8,.m 31 9,.b 32 .quo 30 31,.s 33 (.f 137 [.t 32,.i 1]),.m 10 33] (.join [10] (.g [.m 34 2,.v 35 .gtr 34 0] (.i 35 (.reg [.m 36 10,.m 37 8,.m 38 9,.b 39 .rem 37 38,.m 40 2,.g' 41 137 39 40,.s 42 (.bin .add (.w [46]) (.t 41)),.b 43 .add 36 42,.m 10 43]) .skip)) (.g [.m 44 10,.m 6 44,.k 7 true] (.ret [6,7]))))))))⟩:=by kernel_rfl
theorem F124:compF Tryz.prog 124=some ⟨24,[.tmp 4,.tmp 5,.tmp 6],(.g [.q 2 55 0,.c 4 0,.k 5 false,.c 6 0] (.z [2] (.join [1,2] (.g [.d 9 3 2,.m 10 1,.s 11 (.bslice 9 1 [.t 10]),.g' 12 185 9 11,.m 7 12] (.g [.m 13 7,.v 14 .neq 13 0] (.i 14 (.g [.m 15 7,.c 4 0,.k 5 false,.m 6 15] (.ret [4,5,6])) .skip))) (.g [.d 16 3 2,.s 17 (.build [.i 0,.i 0,.nils] [(0,3,(.t 16))]),.m 18 1,.g' 19 186 17 18,.m 8 19] (.g [.m 20 8,.s 21 (.gen .mx [.t 20,.i 0]),.m 22 8,.v 23 .geq 22 0,.m 4 21,.m 5 23,.c 6 0] (.ret [4,5,6]))))))⟩:=by kernel_rfl
def B125_0:Cd:=(.g [.b 21 .lss 20 19] (.join [3,4,11,12,13,18,19,20] (.i 21 .skip (.exit [3,4,11,12,13] 2)) (.join [3,4,11,12,13,18,19,20] (.block 3 (.g [.r 22 5 18 20,.d 23 5 22,.s 8 (.alloc 117 [.i 0,.i 0,.i 0,.i 0,.i 0]),.w 5 8 23] (.z [8] (.g [.m 24 3,.a 25 0 8,.d 26 2 25,.s 27 (.act (.look (.a [.i,.i]) (.bool false) false) [.t 24,.t 26]),.z 28 27] (.i 28 (.g [.m 29 3,.a 30 0 8,.d 31 2 30,.n (.act (.mset (.a [.i,.i])) [.t 29,.t 31,(.c (.bool true))])] (.reg [.m 32 4,.a 33 0 8,.d 34 2 33,.s 35 (.bslice 71 2 [.t 34]),.s 36 (.append 71 2 16 (.t 32) (.t 35)),.m 4 36])) .skip))))) (.reg [.v 37 .add 20 1,.m 20 37]))))
def B125_1:Cd:=(.g [.b 14 .lss 13 12] (.join [3,4,11,12,13] (.i 14 .skip (.exit [4] 0)) (.join [3,4,11,12,13] (.block 1 (.g [.r 15 9 11 13,.d 16 9 15,.s 6 (.alloc 115 [(.str []),(.str []),.nils,.nils,(.bool false),(.bool false),.i 0,(.str []),.i 0]),.w 9 6 16] (.z [6] (.g [.a 17 2 6,.l 18 17,.u 19 18,.c 20 0] (.block 2 (.loop [3,4,11,12,13,18,19,20] [(4,(71,2))] B125_0)))))) (.reg [.v 38 .add 13 1,.m 13 38]))))
theorem F125:compF Tryz.prog 125=some ⟨42,[.tmp 2],(.g [.q 1 55 0,.s 2 (.mv (.c .nils))] (.z [1] (.g [.s 9 (.act .mkmap []),.m 3 9] (.g [.s 4 (.mv (.c .nils))] (.join [4] (.g [.a 10 2 1,.l 11 10,.u 12 11,.c 13 0] (.block 0 (.loop [3,4,11,12,13] [(4,(71,2))] B125_1))) (.g [.m 39 4,.s 40 (.f 70 [.t 39,(.c (.fn (.func 187) [] []))])] (.g [.m 41 4,.m 2 41] (.ret [2]))))))))⟩:=by kernel_rfl
theorem F137:compF Tryz.prog 137=some ⟨16,[.tmp 4],(.g [.s 4 (.mv (.w []))] (.g [.m 6 0,.f 7 208 6,.m 5 7] (.g [.m 8 1,.m 9 5,.s 10 (.lens (.t 9)),.b 11 .sub 8 10,.s 12 (.gen .mx [.i 0,.t 11]),.s 13 (.f 52 [(.w [48]),.t 12]),.m 14 5,.b 15 .add 13 14,.m 4 15] (.ret [4]))))⟩:=by kernel_rfl
def B185_0:Cd:=(.g [.b 17 .lss 16 15] (.join [14,15,16] (.i 17 .skip (.exit [] 0)) (.join [14,15,16] (.block 1 (.g [.r 18 1 14 16,.l 19 18,.m 7 19] (.g [.m 20 7,.f 21 25 20,.m 8 21] (.g [.m 22 8,.v 23 .neq 22 0] (.i 23 (.g [.m 24 8,.m 4 24] (.ret [4])) .skip))))) (.reg [.v 25 .add 16 1,.m 16 25]))))
theorem F185:compF Tryz.prog 185=some ⟨26,[.tmp 4],(.g [.q 2 55 0,.c 4 0] (.z [2] (.join [1] (.g [.d 9 3 2,.f 10 113 9,.m 5 10] (.g [.m 11 5,.v 12 .neq 11 0] (.i 12 (.g [.m 13 5,.m 4 13] (.ret [4])) .skip))) (.join [] (.g [.m 14 1,.u 15 14,.c 16 0] (.block 0 (.loop [14,15,16] [] B185_0))) (.g [.c 4 0] (.ret [4]))))))⟩:=by kernel_rfl
theorem F186:compF Tryz.prog 186=some ⟨10,[.tmp 4],(.g [.q 2 208 0,.q 3 9 1,.c 4 0] (.z [2,3] (.g [.a 5 0 2,.a 6 2 5,.l 7 6,.s 8 (.mkfn (.func 253) [] [.t 3]),.g' 9 252 7 8,.m 4 9] (.ret [4]))))⟩:=by kernel_rfl
theorem F208:compF Tryz.prog 208=some ⟨5,[.tmp 2],(.g [.s 2 (.mv (.w []))] (.g [.m 3 0,.f 4 72 3,.m 2 4] (.ret [2])))⟩:=by kernel_rfl
def B252_0:Cd:=(.g [.b 9 .lss 8 7] (.join [0,1,7,8] (.i 9 .skip (.exit [] 0)) (.join [0,1,7,8] (.block 1 (.g [.m 10 8,.m 5 10] (.g [.m 11 1,.m 12 0,.m 13 5,.r 14 9 12 13,.d 15 9 14,.s 16 (.call (.t 11) [.t 15])] (.i 16 (.g [.m 17 5,.m 4 17] (.ret [4])) .skip)))) (.reg [.v 18 .add 8 1,.m 8 18]))))
theorem F252:compF Tryz.prog 252=some ⟨19,[.tmp 4],(.g [.c 4 0] (.join [] (.g [.m 6 0,.u 7 6,.c 8 0] (.block 0 (.loop [0,1,7,8] [] B252_0))) (.g [.c 4 (-1)] (.ret [4]))))⟩:=by kernel_rfl
theorem F253:compF Tryz.prog 253=some ⟨8,[.tmp 3],(.g [.q 2 115 0,.k 3 false] (.z [2] (.g [.a 4 0 2,.l 5 4,.l 6 1,.b 7 .eql 5 6,.m 3 7] (.ret [3]))))⟩:=by kernel_rfl
end Go.Proofs.YtkpcomdhdjihlaaGreatDoor

namespace Go.Proofs.YtkpcomdhdjihlaaGreatDoor
open Go.Sha
set_option maxRecDepth 100000
variable {g:List (Nat×Obj)}{n:Nat}
theorem f253 {x:Cu}{s:List UInt8}{st:St}:run Tryz.prog HH 253 [x.v,.ep (.agg [.str s]) 0] st=some (.ret (.bool (x.num == s)),st):=by
 rw[run_shut F253 rfl rfl (by simp)]
 push_cast[Cu.v]
theorem f252 {l:List Cu}{s:List UInt8}(hl:l.length<140737488355328){st:St}:run Tryz.prog HH 252 [.sl (l.map Cu.v),.fn (.func 253) [] [.ep (.agg [.str s]) 0]] st=some (.ret (.int .i64 (ix (fun x=>x.num == s) l 0)),st) :=
 IxF (f:=Cu.v) (n:=some 9) (fun _=>rfl) (fun _=>rfl) F252 rfl (by simp) hl (fun q _ _=>f253) (fun _ _=>rfl) (fun _=>rfl)
theorem f186 {x:Lst}{s:List UInt8}(hl:x.cues.length<140737488355328){st:St}:run Tryz.prog HH 186 [x.v,.str s] st=some (.ret (.int .i64 (ix (fun x=>x.num == s) x.cues 0)),st):=by
 have h1:=fun(st:St)=>f252 (s:=s) (st:=st) hl
 rw[run_shut F186 rfl rfl (by simp)]
 push_cast[Lst.v,h1]
theorem f185 {x:Lst}(h:x.ok){s:List UInt8}(hs:s.length<140737488355328){st:St}:run Tryz.prog HH 185 [x.v,.sl [.str s]] st=some (.ret (.int .i64 (if ¬lstP x=0 then lstP x else numC s)),st):=by
 have h1:=fun(st:St)=>f113 (st:=st) h
 have h2:=fun(st:St)=>f25 (st:=st) hs
 push_cast[Lst.v]at h1
 rw[run_shut F185 rfl rfl (by simp)]
 push_cast[Lst.v,h1,h2,runL_of B185_0.eq_1,List.length_cons,List.length_nil]
def plcE (x:Lst)(s:List UInt8):Int:=if ¬lstP x=0 then lstP x else if ¬numC s=0 then numC s else if ix (fun x=>x.num == s) x.cues 0<0 then 6 else 0
def plcV (x:Lst)(s:List UInt8):Int:=if plcE x s=0 then ix (fun x=>x.num == s) x.cues 0 else 0
theorem ix_rng {α:Type}{p:α→Bool}:∀{l:List α}{j:Nat},ix p l j=-1∨(j:Int)≤ix p l j∧ix p l j<j+l.length
 |[],j=>.inl rfl
 |x::r,j=>by
  unfold ix
  split
  ·exact .inr ⟨by omega,by simp;omega⟩
  ·rcases ix_rng (p:=p) (l:=r) (j:=j+1) with h|h
   ·exact .inl h
   ·exact .inr ⟨by omega,by simp;omega⟩
theorem plc_at {x:Lst}{s:List UInt8}(h:plcE x s=0):0≤plcV x s∧(plcV x s).toNat<x.cues.length:=by
 rw[plcV,if_pos h]
 unfold plcE at h
 repeat' split at h
 all_goals first|(rename_i a;exact absurd h a)|cases h|skip
 rcases ix_rng (p:=fun c:Cu=>c.num == s) (l:=x.cues) (j:=0) with h|h<;>omega
theorem f124 {x:Lst}(h:x.ok){s:List UInt8}(hs:s.length<140737488355328){st:St}:run Tryz.prog HH 124 [x.v,.str s] st=some (.ret (if ¬lstP x=0 then .tup [.int .i64 0,.bool false,.int .i64 (lstP x)] else if ¬numC s=0 then .tup [.int .i64 0,.bool false,.int .i64 (numC s)] else
  .tup [.int .i64 (if ix (fun x=>x.num == s) x.cues 0<0 then 0 else ix (fun x=>x.num == s) x.cues 0),.bool (decide (0≤ix (fun x=>x.num == s) x.cues 0)),.int .i64 0]),st):=by
 have h1:=fun(st:St)=>f185 (st:=st) h hs
 have h2:=fun(st:St)=>f186 (s:=s) (st:=st) h.1
 push_cast[Lst.v]at h1 h2
 rw[run_shut F124 rfl rfl (by simp)]
 by_cases h3:lstP x=0
 ·by_cases h4:numC s=0
  ·push_cast[Lst.v,h1,h2,h3,h4]
  ·push_cast[Lst.v,h1,h2,h3,h4]
 ·push_cast[Lst.v,h1,h3]
theorem f67 {x:Lst}(h:x.ok){s:List UInt8}(hs:s.length<140737488355328){st:St}:run Tryz.prog HH 67 [x.v,.str s] st=some (.ret (.tup [.int .i64 (plcV x s),.int .i64 (plcE x s)]),st):=by
 have h1:=fun(st:St)=>f124 (st:=st) h hs
 rw[run_shut F67 rfl rfl (by simp)]
 unfold plcV plcE
 by_cases h3:lstP x=0
 ·by_cases h4:numC s=0
  ·by_cases h5:ix (fun x=>x.num == s) x.cues 0<0
   ·have h6:¬0≤ix (fun x=>x.num == s) x.cues 0:=by omega
    push_cast[Lst.v,h3,h4,h5,h6]at h1
    push_cast[Lst.v,h1,h3,h4,h5,h6]
   ·have h6:0≤ix (fun x=>x.num == s) x.cues 0:=by omega
    push_cast[Lst.v,h3,h4,h5,h6]at h1
    push_cast[Lst.v,h1,h3,h4,h5,h6]
  ·push_cast[Lst.v,h3,h4]at h1
   push_cast[Lst.v,h1,h3,h4]
 ·push_cast[Lst.v,h3]at h1
  push_cast[Lst.v,h1,h3]
end Go.Proofs.YtkpcomdhdjihlaaGreatDoor

namespace Go.Proofs.YtkpcomdhdjihlaaGreatDoor
open Go.Sha
set_option maxRecDepth 100000
theorem dec_digs:∀(k u:Nat),u<k→∀b∈Lib.decDigits u,isD b=true
 |0,_,h,_,_=>absurd h (Nat.not_lt_zero _)
 |k+1,u,h,b,hb=>by
  rw[Lib.decDigits]at hb
  have hd:∀m,m<10→isD (UInt8.ofNat (48+m))=true:=by decide
  split at hb
  ·rename_i h1
   rw[List.mem_singleton]at hb;subst hb
   exact hd u h1
  ·rcases List.mem_append.1 hb with hb|hb
   ·exact dec_digs k (u / 10) (by omega) b hb
   ·rw[List.mem_singleton]at hb;subst hb
    exact hd (u % 10) (by omega)
theorem itoa_digs {m:Int}(h:0≤m):∀b∈Lib.itoa m,isD b=true:=by
 unfold Lib.itoa
 rw[if_neg (by omega)]
 exact dec_digs _ _ (Nat.lt_succ_self _)
theorem join_two {x y:List UInt8}{r:List (List UInt8)}{t:List UInt8}:Lib.join (x::y::r) t=x++(t++Lib.join (y::r) t):=by
 rw[Lib.join_cons,Lib.join_cons]
 simp[Lib.joinTail]
end Go.Proofs.YtkpcomdhdjihlaaGreatDoor

namespace Go.Proofs.YtkpcomdhdjihlaaGreatDoor
open Go.Sha
set_option maxRecDepth 100000
variable {g:List (Nat×Obj)}{n:Nat}
theorem asc_gen {α:Type}[Inhabited α]{num:α→Int}{l:List α}{F:List α→Nat→Int}(hF:∀q r j,F (q::r) j=0→¬(0<j∧num q≤num (l.getD (j-1) default))∧F r (j+1)=0) :
  ∀{r:List α}{j:Nat},l.drop j=r→F r j=0→(l.take j).Pairwise (fun a b=>num a<num b)→l.Pairwise fun a b=>num a<num b
 |[],j,hd,_,hp=>by
  have:l.length≤j:=List.drop_eq_nil_iff.1 hd
  rwa [List.take_of_length_le this]at hp
 |q::r,j,hd,h,hp=>by
  obtain⟨h2,h3⟩:=hF q r j h
  refine asc_gen hF (drop_succ hd) h3 ?_
  rw[take_snoc hd]
  refine List.pairwise_append.2 ⟨hp,List.pairwise_singleton ..,fun y hy z hz=>?_⟩
  rw[List.mem_singleton.1 hz]
  obtain⟨k,hk⟩:=List.mem_iff_getElem?.1 hy
  have hj:=drop_le hd
  rw[List.getElem?_take]at hk
  split at hk
  ·rename_i hkj
   have e:l.getD (j-1) default=l[j-1]:=by rw[List.getD_eq_getElem?_getD,List.getElem?_eq_getElem (by omega)];rfl
   rw[e]at h2
   rw[List.getElem?_eq_getElem (by omega)]at hk
   rw[←Option.some.inj hk]
   rcases Nat.lt_or_ge k (j-1) with hk2|hk2
   ·have hm:=List.pairwise_iff_getElem.1 hp k (j-1) (by simp;omega) (by simp;omega) hk2
    rw[List.getElem_take,List.getElem_take]at hm
    omega
   ·have:k=j-1:=by omega
    subst this
    omega
  ·cases hk
def Pl (s:List UInt8):Prop:=(∀b∈s,plainB b=true)∧s.length≤20000
theorem Pl.nil:Pl []:=⟨fun _ h=>by simp at h,by simp⟩
theorem Pl.cons {c:UInt8}{t:List UInt8}(hc:plainB c=true)(k:Pl t)(hl:t.length<20000):Pl (c::t) :=
 ⟨fun b hb=>(List.mem_cons.1 hb).elim (fun e=>by rw[e];exact hc) (k.1 b),by rw[List.length_cons];omega⟩
theorem isD_plain {b:UInt8}(h:isD b=true):plainB b=true:=by
 unfold isD at h;unfold plainB
 simp only[Bool.and_eq_true,decide_eq_true_eq]at h ⊢;omega
theorem Pl.itoa {m:Int}(h0:0≤m)(h1:m≤9223372036854775807):Pl (Lib.itoa m) :=
 ⟨fun b hb=>isD_plain (itoa_digs h0 b hb),by have:=Lib.itoa_length_le m (by omega) h1;omega⟩
theorem Pl.num {s:List UInt8}(h:numC s=0):Pl s:=by
 obtain⟨h1,h2⟩:=num_chars h
 refine⟨fun b hb=>?_,by omega⟩
 rcases h2 b hb with h|rfl
 ·exact isD_plain h
 ·rfl
theorem labL_plain:∀{s:List UInt8},labL s=0→∀b∈s,plainB b=true
 |[],_,b,hb=>by simp at hb
 |q::r,h,b,hb=>by
  rw[labL]at h
  split at h
  ·cases h
  ·rename_i a
   rcases List.mem_cons.1 hb with rfl|hb
   ·unfold plainB;simp only[Bool.and_eq_true,decide_eq_true_eq];omega
   ·exact labL_plain h b hb
theorem Pl.label {s:List UInt8}(h:labC s=0):Pl s:=by
 unfold labC at h
 split at h
 ·cases h
 ·exact⟨labL_plain h,by omega⟩
theorem Pl.name {s:List UInt8}(h:nameS s=true):Pl s:=by
 unfold nameS at h
 simp only[Bool.and_eq_true,decide_eq_true_eq]at h
 obtain⟨⟨⟨h1,h2⟩,h3⟩,h4⟩:=h
 refine⟨fun b hb=>?_,by omega⟩
 have:=List.all_eq_true.1 h4 b hb
 unfold nmC isL at this
 unfold plainB
 simp only[Bool.or_eq_true,Bool.and_eq_true,decide_eq_true_eq]at this ⊢
 omega
theorem Pl.sub {s t:List UInt8}(h:Pl s)(hs:∀b∈t,b∈s)(hl:t.length≤20000):Pl t:=⟨fun b hb=>h.1 b (hs b hb),hl⟩
theorem Pl.join {l:List (List UInt8)}{t:List UInt8}(h:∀s∈l,Pl s)(ht:∀b∈t,plainB b=true)(hl:(Lib.join l t).length≤20000):Pl (Lib.join l t):=by
 refine⟨?_,hl⟩
 clear hl
 induction l with
 |nil=>intro b hb;simp[Lib.join_nil]at hb
 |cons x r ih =>
  intro b hb
  cases r with
  |nil=>rw[Lib.join_one]at hb;exact(h x (by simp)).1 b hb
  |cons y r =>
   rw[join_two]at hb
   rcases List.mem_append.1 hb with hb|hb
   ·exact(h x (by simp)).1 b hb
   ·rcases List.mem_append.1 hb with hb|hb
    ·exact ht b hb
    ·exact ih (fun s hs=>h s (List.mem_cons_of_mem _ hs)) b hb
structure Tb (l:List Row):Prop where
 e:tabE l=0
 n:Nice l
 t:Tok l
end Go.Proofs.YtkpcomdhdjihlaaGreatDoor

namespace Go.Proofs.YtkpcomdhdjihlaaGreatDoor
open Go.Sha
set_option maxRecDepth 100000
def keyN (p:Prm):Int:=15*p.chan+p.attr
theorem movsR_rng {l:List Mov}:∀{r:List Mov}{j:Nat},movsR l r j=0→∀q∈r,prmC 1 q.prm=0
 |[],_,_,q,hq=>by simp at hq
 |x::r,j,h,q,hq=>by
  rw[movsR]at h
  repeat' split at h
  all_goals first|(rename_i a;exact absurd h a)|cases h|skip
  rename_i a _ _ _
  rcases List.mem_cons.1 hq with rfl|hq
  ·exact Classical.not_not.1 a
  ·exact movsR_rng h q hq
theorem prm_rng {p:Prm}(h:prmC 1 p=0):(1≤p.chan∧p.chan≤999)∧0≤p.attr∧p.attr≤14:=by
 unfold prmC at h
 split at h
 ·cases h
 ·omega
theorem movs_asc {l:List Mov}(h:movCP l=0):(∀q∈l,prmC 1 q.prm=0)∧l.Pairwise fun a b=>keyN a.prm<keyN b.prm:=by
 rw[movC_eq]at h
 unfold movCR at h
 split at h
 ·cases h
 ·have ha:=movsR_rng h
  have hd:∀k,0≤(l.getD k default).prm.attr∧(l.getD k default).prm.attr≤14:=fun k=>by
   rw[List.getD_eq_getElem?_getD]
   by_cases hk:k<l.length
   ·rw[List.getElem?_eq_getElem hk];exact(prm_rng (ha _ (List.getElem_mem hk))).2
   ·rw[List.getElem?_eq_none (by omega)];exact⟨by decide,by decide⟩
  refine⟨ha,asc_gen (num:=fun m:Mov=>keyN m.prm) (F:=movsR l) (fun q r j h=>?_) (j:=0) rfl h List.Pairwise.nil⟩
  rw[movsR]at h
  repeat' split at h
  all_goals first|(rename_i a;exact absurd h a)|cases h|skip
  rename_i a _ _ b
  refine⟨?_,h⟩
  have h1:=prm_rng (Classical.not_not.1 a)
  have h2:=hd (j-1)
  simp only[keyN]
  rintro⟨j0,hk⟩
  refine b ⟨j0,?_⟩
  rw[←Bool.not_eq_true,befP_iff]
  omega
theorem okP_of {p:Prm}(h:(1≤p.chan∧p.chan≤999)∧0≤p.attr∧p.attr≤14):okP p=true:=by
 simp only[okP,Bool.and_eq_true,decide_eq_true_eq];omega
theorem okMs_of:∀{l:List Mov},(∀q∈l,prmC 1 q.prm=0)→(l.Pairwise fun a b=>keyN a.prm<keyN b.prm)→okMs l=true
 |[],_,_=>rfl
 |m::r,h,hp=>by
  obtain⟨p1,p2⟩:=List.pairwise_cons.1 hp
  have hm:=prm_rng (h m (List.mem_cons_self ..))
  simp only[okMs,Bool.and_eq_true,List.all_eq_true]
  refine⟨⟨okP_of hm,fun n hn=>?_⟩,okMs_of (fun q hq=>h q (List.mem_cons_of_mem _ hq)) p2⟩
  have hn':=prm_rng (h n (List.mem_cons_of_mem _ hn))
  have:=p1 n hn
  simp only[keyN]at this
  simp only[ltP,Bool.or_eq_true,Bool.and_eq_true,decide_eq_true_eq]
  omega
theorem lst_cue {x:Lst}(h:lstP x=0):∀c∈x.cues,cueP c=0:=by
 unfold lstP lstB at h
 split at h
 ·cases h
 ·split at h
  ·cases h
  ·have key:∀(r:List Cu) (j:Nat),cuesP x.cues r j=0→∀c∈r,cueP c=0:=by
    intro r
    induction r with
    |nil=>intro j _ c hc;simp at hc
    |cons q r ih =>
     intro j h c hc
     rw[cuesP]at h
     repeat' split at h
     all_goals first|(rename_i a;exact absurd h a)|cases h|skip
     rename_i a _
     rcases List.mem_cons.1 hc with rfl|hc
     ·exact Classical.not_not.1 a
     ·exact ih _ h c hc
   exact key _ _ h
theorem lst_mov {x:Lst}(h:lstP x=0):∀c∈x.cues,c.moves.length≤128∧(∀q∈c.moves,prmC 1 q.prm=0)∧c.moves.Pairwise fun a b=>keyN a.prm<keyN b.prm:=fun c hc=>by
 obtain⟨h1,h2,h3,h4,h5⟩:=cue_parts (lst_cue h c hc)
 refine⟨?_,movs_asc h3⟩
 unfold movCP at h3
 split at h3
 ·cases h3
 ·omega
end Go.Proofs.YtkpcomdhdjihlaaGreatDoor

namespace Go.Proofs.YtkpcomdhdjihlaaGreatDoor
open Go.Sha
set_option maxRecDepth 100000
variable {g:List (Nat×Obj)}{n:Nat}
def hSortF:List V→St→Rt
 |[.osl id n,.fn (.func 187) [] []],st=>hSortA st id n (Sha.look st.arr id)
 |_,_=>none
def HSF:EvF:=⟨HH.raw,fun f args st=>bif Nat.beq f 70 then hSortF args st else none⟩
@[push_cast]theorem HSF_raw:HSF.raw=[70,98,166,233,234,300,344]:=idq rfl
theorem look_esP {st:St}{a:List Prm}{p:Prm}:lookB st (.bool false) false (findV p.v (esP a) 0)=some (.bool (decide (p∈a)),st):=by
 by_cases h:p∈a
 ·obtain⟨j,j1,j2⟩:=(find_esP (i:=0)).2 h
  rw[j2,decide_eq_true h];rfl
 ·rw[(find_esP (i:=0)).1 h,decide_eq_false h];rfl
def stFp (g:List (Nat×Obj))(n:Nat)(a:List Prm):St:=⟨n,[],[(2,⟨71,2,a.map Prm.v,true,false⟩)],⟨[(1,.map (esP a))],g,[]⟩⟩
@[push_cast]theorem stFp_eq {a:List Prm}:stFp g n a=⟨n,[],[(2,⟨71,2,a.map Prm.v,true,false⟩)],⟨[(1,.map (esP a))],g,[]⟩⟩:=idq rfl
theorem insK_len {a:List Prm}{p:Prm}:(insK a p).length≤a.length+1:=by unfold insK;split<;>simp
theorem L125_0 {l:List Mov}{cs:List Cu}{j:Nat}(hl:l.length<1000000):∀r k,l.drop k=r→∀a:List Prm,a.length+r.length≤1000000 →
  runL Tryz.prog HSF [3,4,11,12,13,18,19,20] 4 B125_0 [(3,.mp 1),(4,.osl 2 a.length),(11,.sl (cs.map Cu.v)),(12,.int .i64 cs.length),(13,.int .i64 j),(18,.sl (l.map Mov.v)),(19,.int .i64 l.length),(20,.int .i64 k)] (stFp g 4 a)
   = some (.exit 2,[(3,.mp 1),(4,.osl 2 ((r.map Mov.prm).foldl insK a).length),(11,.sl (cs.map Cu.v)),(12,.int .i64 cs.length),(13,.int .i64 j)],stFp g 4 ((r.map Mov.prm).foldl insK a)):=by
 refine drop_ind (fun k h a ha=>?_) (fun q r k h hx hd ih a ha=>?_)
 all_goals rw[runL_of B125_0.eq_1]
 ·have h1:¬(k:Int)<l.length:=by omega
  push_cast[h1,List.foldl_nil,List.map_nil,Cu.v]
 ·have h1:(k:Int)<l.length:=by omega
  have hw:=iw1 (j:=k) (by omega)
  have hk:=fun(st:St)=>look_esP (st:=st) (a:=a) (p:=q.prm)
  have hm:=fun(st:St) (i:Nat)=>mset_esP (st:=st) (i:=i) (a:=a) (p:=q.prm)
  have hro:roomV (a.length+1) 16=true:=roomV_lit (by rw[List.length_cons]at ha;omega) (by rw[List.length_cons]at ha;omega)
  have ih:=ih (insK a q.prm) (by have:=insK_len (a:=a) (p:=q.prm);rw[List.length_cons]at ha;omega)
  rw[List.map_cons,List.foldl_cons]
  generalize (r.map Mov.prm).foldl insK (insK a q.prm)=z at *
  by_cases hp:q.prm∈a
  ·have e1:insK a q.prm=a:=by rw[insK,if_pos hp]
   rw[e1]at ih hm
   push_cast[Prm.v,hp]at hk hm
   push_cast[h1,hw,hx,hk,Cu.v,Mov.v,Prm.v]at ih ⊢
   exact dn_eq rfl ih
  ·have e1:insK a q.prm=a++[q.prm]:=by rw[insK,if_neg hp]
   rw[e1]at ih hm
   push_cast[Prm.v,hp]at hk hm
   push_cast[h1,hw,hx,hk,hm,hro,Cu.v,Mov.v,Prm.v,List.map_append,List.map_cons,List.map_nil,List.length_append,List.length_cons,List.length_nil]at ih ⊢
   exact dn_eq rfl ih
def keyL (cs:List Cu)(a:List Prm):List Prm:=cs.foldl (fun a c=>(c.moves.map Mov.prm).foldl insK a) a
theorem insKs_len:∀{l a:List Prm},(l.foldl insK a).length≤a.length+l.length
 |[],a=>by simp
 |p::l,a=>by
  have:=insKs_len (l:=l) (a:=insK a p)
  have:=insK_len (a:=a) (p:=p)
  rw[List.foldl_cons,List.length_cons];omega
theorem L125_1 {cs:List Cu}(hl:cs.length≤64)(hc:∀c∈cs,c.moves.length≤128):∀r j,cs.drop j=r→∀a:List Prm,a.length≤128*j →
  runL Tryz.prog HSF [3,4,11,12,13] 3 B125_1 [(3,.mp 1),(4,.osl 2 a.length),(11,.sl (cs.map Cu.v)),(12,.int .i64 cs.length),(13,.int .i64 j)] (stFp g 3 a)
   = some (.exit 0,[(4,.osl 2 (keyL r a).length)],stFp g 3 (keyL r a)):=by
 refine drop_ind (fun k h a ha=>?_) (fun q r k h hx hd ih a ha=>?_)
 all_goals rw[runL_of B125_1.eq_1]
 ·have h1:¬(k:Int)<cs.length:=by omega
  push_cast[h1,keyL,List.foldl_nil]
 ·have h1:(k:Int)<cs.length:=by omega
  have hw:=iw1 (j:=k) (by omega)
  have hq:=hc q (mem_at hd)
  have hz:=insKs_len (l:=q.moves.map Mov.prm) (a:=a)
  rw[List.length_map]at hz
  have hL:=L125_0 (g:=g) (l:=q.moves) (cs:=cs) (j:=k) (by omega) _ 0 rfl a (by rw[List.drop_zero];omega)
  have ih:=ih ((q.moves.map Mov.prm).foldl insK a) (by omega)
  rw[List.drop_zero]at hL
  rw[show keyL (q::r) a=keyL r ((q.moves.map Mov.prm).foldl insK a) from rfl]
  generalize (q.moves.map Mov.prm).foldl insK a=b at *
  push_cast[Cu.v]at ih hL
  push_cast[h1,hw,hx,hL,Cu.v]at ih ⊢
  exact ih
def ftpL (x:Lst):List Prm:=(keyL x.cues []).mergeSort leP
def pre151:Cd:=.g [.q 1 55 0,.s 2 (.mv (.c .nils))] (.z [1] (.g [.s 9 (.act .mkmap []),.m 3 9] (.g [.s 4 (.mv (.c .nils))] .skip)))
def len151:Cd:=.reg [.a 10 2 1,.l 11 10,.u 12 11,.c 13 0]
def post151:Cd:=.g [.m 39 4,.s 40 (.f 70 [.t 39,(.c (.fn (.func 187) [] []))])] (.g [.m 41 4,.m 2 41] (.ret [2]))
def mid151:Cd:=.join [4] (.seq len151 (.block 0 (.loop [3,4,11,12,13] [(4,(71,2))] B125_1))) post151
theorem F125':compF Tryz.prog 125=some ⟨42,[.tmp 2],pre151.put mid151⟩:=F125
theorem run_pre151 {x:Lst}:∃e,runC Tryz.prog HSF pre151 (argEnv 0 [x.v]) (stN g 0)=some (.normal,e,stZ g 2 [])∧Sha.look e 1=some (.ep x.v 0)∧Sha.look e 3=some (.mp 1)∧Sha.look e 4=some .nils:=by
 generalize hz:runC Tryz.prog HSF pre151 _ _=z
 rw[pre151]at hz
 push_cast[Lst.v]at hz
 subst hz
 exact⟨_,rfl,rfl,rfl,rfl⟩
theorem run_len151 {x:Lst}{st:St}:∃e,runC Tryz.prog HSF len151 [(1,.ep x.v 0),(3,.mp 1),(4,.nils)] st=some (.normal,e,st)∧Sha.look e 3=some (.mp 1)∧Sha.look e 4=some .nils∧Sha.look e 11=some (.sl (x.cues.map Cu.v))∧Sha.look e 12=some (.int .i64 x.cues.length)∧Sha.look e 13=some (.int .i64 0):=by
 generalize hz:runC Tryz.prog HSF len151 _ _=z
 rw[len151]at hz
 push_cast[Lst.v]at hz
 subst hz
 exact⟨_,rfl,rfl,rfl,rfl,rfl,rfl⟩
theorem keyL_rng:∀{cs:List Cu}{a:List Prm},(∀c∈cs,∀q∈c.moves,prmC 1 q.prm=0)→(∀p∈a,prmC 1 p=0)→∀p∈keyL cs a,prmC 1 p=0
 |[],a,_,h,p,hp=>h p hp
 |c::r,a,hc,h,p,hp=>by
  refine keyL_rng (cs:=r) (a:=(c.moves.map Mov.prm).foldl insK a) (fun x hx=>hc x (List.mem_cons_of_mem _ hx)) (fun p hp=>?_) p hp
  have key:∀(l a:List Prm),p∈l.foldl insK a→p∈a∨p∈l:=by
   intro l
   induction l with
   |nil=>intro a h;exact .inl h
   |cons q l ih =>
    intro a h
    rcases ih _ h with h|h
    ·unfold insK at h
     split at h
     ·exact .inl h
     ·rcases List.mem_append.1 h with h|h
      ·exact .inl h
      ·rw[List.mem_singleton.1 h];exact .inr (List.mem_cons_self ..)
    ·exact .inr (List.mem_cons_of_mem _ h)
  rcases key _ _ hp with hp|hp
  ·exact h p hp
  ·obtain⟨q,hq,rfl⟩:=List.mem_map.1 hp
   exact hc c (List.mem_cons_self ..) q hq
def stFs (g:List (Nat×Obj))(a:List Prm):St:=⟨3,[],[(2,⟨71,2,(a.map Prm.v).mergeSort leV,true,false⟩)],⟨[(1,.map (esP a))],g,[]⟩⟩
theorem run_post151 {a:List Prm}(ha:∀p∈a,prmC 1 p=0)(hl:a.length≤100000):runC Tryz.prog HSF post151 [(4,.osl 2 a.length)] (stFp g 3 a)=some (.ret,[(2,.osl 2 a.length)],stFs g a):=by
 have h1:run Tryz.prog HSF 70 [.osl 2 a.length,.fn (.func 187) [] []] (stFp g 3 a)=some (.ret (.tup []),stFs g a):=by
  refine run_H ?_
  have hc:(a.map Prm.v).length=a.length∧a.length≤100000000∧2=2∧true=true∧(a.map Prm.v).all okPV=true:=by
   refine⟨by simp,by omega,rfl,rfl,?_⟩
   rw[List.all_map,List.all_eq_true]
   intro p hpm
   exact ok_prm (prm_rng (ha p hpm))
  show(if(a.map Prm.v).length=a.length∧a.length≤100000000∧2=2∧true=true∧(a.map Prm.v).all okPV=true then _ else _)=_
  rw[if_pos hc];rfl
 rw[post151]
 rw[stFs]at *
 push_cast at h1
 push_cast[h1]
theorem bp_exit {i:Nat}{Q:Post}{e:Env}{s:St}(h:Q .normal e s):blockPost i Q (.exit i) e s:=by simp only[blockPost,if_true];exact h
theorem keyL_len:∀{cs:List Cu}{a:List Prm},(∀c∈cs,c.moves.length≤128)→(keyL cs a).length≤a.length+128*cs.length
 |[],a,_=>by simp[keyL]
 |c::r,a,h=>by
  have h1:=keyL_len (cs:=r) (a:=(c.moves.map Mov.prm).foldl insK a) fun x hx=>h x (List.mem_cons_of_mem _ hx)
  have h2:=insKs_len (l:=c.moves.map Mov.prm) (a:=a)
  have h3:=h c (List.mem_cons_self ..)
  rw[List.length_map]at h2
  rw[show keyL (c::r) a=keyL r ((c.moves.map Mov.prm).foldl insK a) from rfl,List.length_cons];omega
theorem v125 (hH:ESound Tryz.prog HSF){x:Lst}(h:lstP x=0){st:St}:VCalls Tryz.prog 125 [x.v] st fun y s=>y=.ret (.sl ((ftpL x).map Prm.v))∧s=st:=by
 have hm:=lst_mov h
 have h64:=(lst_parts h).2.2.1
 have hrg:=keyL_rng (cs:=x.cues) (a:=[]) (fun c hc=>(hm c hc).2.1) (by simp)
 have hln:=keyL_len (cs:=x.cues) (a:=[]) (fun c hc=>(hm c hc).1)
 rw[List.length_nil]at hln
 refine VCalls_shutW (by simp) (VCalls_WD F125' (Nat.le_of_ble_eq_true rfl) fun N=>?_)
 show WD _ ⟨N,[]⟩ (pre151.put mid151) (argEnv 0 [x.v]) (stN st.x.gl 0) _
 obtain⟨e0,hr0,q1,q2,q3⟩:=run_pre151 (g:=st.x.gl) (x:=x)
 refine WD.run mixed hH hr0 ?_
 show WD _ _ mid151 _ _ _
 refine WD.sub (env':=[(1,.ep x.v 0),(3,.mp 1),(4,.nils)]) (fun i v hv=>?_) ?_
 ·simp only[Sha.look]at hv
  (repeat' split at hv)<;>first|(cases hv;done)|(rename_i e;subst e;cases hv;assumption)
 obtain⟨e1,hr1,u1,u2,u3,u4,u5⟩:=run_len151 (x:=x) (st:=stZ st.x.gl 2 [])
 refine WD.join (WD.seq (WD.ev mixed hH hr1 ?_))
 show WD _ _ (.block 0 (.loop [3,4,11,12,13] [(4,(71,2))] B125_1)) _ _ _
 refine WD.block (WD.ownW u2 ?_)
 refine WD.sub (env':=[(3,.mp 1),(4,.osl 2 0),(11,.sl (x.cues.map Cu.v)),(12,.int .i64 x.cues.length),(13,.int .i64 0)]) (fun i v hv=>?_) ?_
 ·simp only[Sha.look]at hv
  (repeat' split at hv)<;>first|(cases hv;done)|(rename_i e;subst e;cases hv;simp[Sha.look,stZ];try assumption)
 have hL:=L125_1 (g:=st.x.gl) (cs:=x.cues) h64 (fun c hc=>(hm c hc).1) _ 0 rfl [] (Nat.zero_le _)
 rw[List.drop_zero]at hL
 generalize hK:keyL x.cues []=K at *
 refine WD.ev mixed hH (x:=.exit 0) (e:=[(4,.osl 2 K.length)]) (s:=stFp st.x.gl 3 K) ?_ ?_
 ·push_cast[Cu.v,List.map_nil,List.length_nil,esP_nil]at hL
  push_cast[hL,stZ,Cu.v]
 refine bp_exit ?_
 show WD _ _ post151 [(4,.osl 2 K.length)] (stFp st.x.gl 3 K) _
 refine WD.ev mixed hH (run_post151 hrg (by omega)) ⟨.ret (.osl 2 K.length),stFs st.x.gl K,rfl,?_⟩
 have e:(K.map Prm.v).mergeSort leV=(ftpL x).map Prm.v:=by
  rw[ftpL,hK,←List.map_mergeSort (r:=leP) (f:=Prm.v) (fun a _ b _=>by cases a;cases b;rfl)]
 have hlen:(ftpL x).length=K.length:=by rw[ftpL,hK,List.length_mergeSort]
 rw[stFs,e]
 push_cast[hlen,Prm.v]
end Go.Proofs.YtkpcomdhdjihlaaGreatDoor

namespace Go.Proofs.YtkpcomdhdjihlaaGreatDoor
open Go.Sha
set_option maxRecDepth 100000
variable {g:List (Nat×Obj)}{n:Nat}{x:Lst}
def memF:List Nat:=[67,126]
open Classical in
noncomputable def HF (x:Lst):EvF:=⟨HH.raw,fun f args st=>bif Nat.beq f 125 then(if args=[x.v] then some (.ret (.sl ((ftpL x).map Prm.v)),st) else none) else bif memL f memF then run Tryz.prog HH f args st else none⟩
@[push_cast]theorem HF_raw:(HF x).raw=[70,98,166,233,234,300,344]:=idq rfl
theorem upF {k:Nat}{args:List V}{st:St}{r:VRes×St}(h:run Tryz.prog HH k args st=some r)(h1:Nat.beq k 125=false:=by rfl)(h2:memL k memF=true:=by rfl):run Tryz.prog (HF x) k args st=some r:=by
 refine run_H ?_
 simp only[HF,h1,h2,cond_false,cond_true,h]
theorem f125 {st:St}:run Tryz.prog (HF x) 125 [x.v] st=some (.ret (.sl ((ftpL x).map Prm.v)),st):=by
 refine run_H ?_
 simp only[HF,show Nat.beq 125 125=true from rfl,cond_true,if_true]
theorem HF_ok (h1:ESound Tryz.prog HH)(h2:ESound Tryz.prog HSF)(h:lstP x=0):ESound Tryz.prog (HF x):=fun f args st r s e=>by
 simp only[HF]at e
 cases hf:Nat.beq f 125 with
 |true =>
  rw[hf,cond_true]at e
  have:=Nat.eq_of_beq_eq_true hf
  subst this
  split at e
  ·rename_i ha
   subst ha
   cases e
   exact v125 h2 h
  ·cases e
 |false =>
  rw[hf,cond_false]at e
  cases hi:memL f memF with
  |true=>rw[hi]at e;exact run_sound mixed h1 _ _ _ _ _ e
  |false=>rw[hi]at e;cases e
theorem rdL_v {α:Type}{f:V→Option α}{v:α→V}(h:∀x,f (v x)=some x):∀{l:List α},rdL f (l.map v)=some l
 |[]=>rfl
 |x::r=>by rw[List.map_cons,rdL,h,rdL_v h]
theorem rdCu_of {c:Cu}:rdCu c.v=some c:=by
 unfold rdCu
 simp only[Cu.v]
 rw[rdL_v (f:=rdMov) (v:=Mov.v) (fun _=>rfl),rdL_v (f:=rdTim) (v:=Tim.v) (fun _=>rfl)]
theorem f126 {p:Prm}{k:Nat}(h:lstP x=0)(hk:k<x.cues.length)(hp:prmC 1 p=0){st:St}:run Tryz.prog (HF x) 126 [x.v,.int .i64 k,p.v] st=some (.ret (valF x.cues p k).v,st):=upF (run_H (by
 have hm:=lst_mov h
 have h64:=(lst_parts h).2.2.1
 show(hVal [x.v,.int .i64 k,p.v]).map (fun r=>(r,st))=_
 simp only[Lst.v,Prm.v,hVal]
 rw[rdL_v (f:=rdCu) (v:=Cu.v) (fun _=>rdCu_of)]
 have c1:(decide (0≤(k:Int))&&decide ((k:Int)<x.cues.length)&&decide (x.cues.length≤1000000)&&okP ⟨p.chan,p.attr⟩&&x.cues.all (fun c=>okMs c.moves&&decide (c.moves.length≤1000000)))=true:=by
  simp only[Bool.and_eq_true,decide_eq_true_eq,List.all_eq_true]
  refine⟨⟨⟨⟨by omega,by omega⟩,by omega⟩,okP_of (prm_rng hp)⟩,fun c hc=>⟨okMs_of (hm c hc).2.1 (hm c hc).2.2,by have:=(hm c hc).1;omega⟩⟩
 dsimp only
 rw[if_pos c1,Int.toNat_natCast];rfl))
theorem ftpL_rng (h:lstP x=0):∀p∈ftpL x,prmC 1 p=0:=fun p hp=>by
 have hm:=lst_mov h
 rw[ftpL,(List.mergeSort_perm _ _).mem_iff]at hp
 exact keyL_rng (cs:=x.cues) (a:=[]) (fun c hc=>(hm c hc).2.1) (by simp) p hp
theorem ftpL_len (h:lstP x=0):(ftpL x).length≤8192:=by
 have hm:=lst_mov h
 have h64:=(lst_parts h).2.2.1
 have hln:=keyL_len (cs:=x.cues) (a:=[]) (fun c hc=>(hm c hc).1)
 rw[ftpL,List.length_mergeSort]
 rw[List.length_nil]at hln;omega
def entF (x:Lst)(k:Nat)(p:Prm):Prm×Val:=(p,valF x.cues p k)
def entL (x:Lst)(k:Nat):List (Prm×Val):=(ftpL x).map (entF x k)
def stLk (g:List (Nat×Obj))(n:Nat)(a:List (Prm×Val)):St:=⟨n+1,[],[(n,⟨75,4,a.map entV,false,false⟩)],⟨[],g,[]⟩⟩
@[push_cast]theorem stLk_eq {a:List (Prm×Val)}:stLk g n a=⟨n+1,[],[(n,⟨75,4,a.map entV,false,false⟩)],⟨[],g,[]⟩⟩:=idq rfl
theorem L68 {k:Nat}(h:lstP x=0)(hk:k<x.cues.length):∀r j,(ftpL x).drop j=r→∀a,a.length≤j →
  runL Tryz.prog (HF x) [1,2,5,9,10,11] (n+1) B68_0 [(1,.int .i64 k),(2,.ep x.v 0),(5,.osl n a.length),(9,.sl ((ftpL x).map Prm.v)),(10,.int .i64 (ftpL x).length),(11,.int .i64 j)] (stLk g n a)
   = some (.exit 0,[(5,.osl n (a++r.map (entF x k)).length)],stLk g n (a++r.map (entF x k))):=by
 have hln:=ftpL_len h
 have hrg:=ftpL_rng h
 generalize ftpL x=l at *
 refine drop_ind (fun j hj a ha=>?_) (fun q r j hj hx hd ih a ha=>?_)
 all_goals rw[runL_of B68_0.eq_1]
 ·have h1:¬(j:Int)<l.length:=by omega
  push_cast[h1,List.map_nil,List.append_nil]
 ·have h1:(j:Int)<l.length:=by omega
  have hw:=iw1 (j:=j) (by omega)
  have e1:=fun(st:St)=>f126 (x:=x) (p:=q) (k:=k) (st:=st) h hk (hrg q (mem_at hd))
  have hro:roomV (a.length+1) 32=true:=roomV_lit (by omega) (by omega)
  have ih:=ih (a++[entF x k q]) (by simp;omega)
  rw[List.map_cons]
  have hE:entV (entF x k q)=.agg [.int .i64 q.chan,.int .i64 q.attr,.int .i64 (valF x.cues q k).pal,.int .i64 (valF x.cues q k).lev]:=rfl
  generalize entF x k=F at *
  push_cast[Lst.v,Prm.v,Val.v]at ih e1
  push_cast[h1,hw,hx,e1,hro,hE,Lst.v,Prm.v,Val.v,List.map_append,List.map_cons,List.map_nil,List.append_assoc,List.singleton_append]at ih ⊢
  first|exact ih|exact dn_eq (by omega) ih
theorem f68 {k:Nat}(h:lstP x=0)(hk:k<x.cues.length){st:St}:run Tryz.prog (HF x) 68 [x.v,.int .i64 k] st=some (.ret (.sl ((entL x k).map entV)),st):=by
 have e1:=fun(st:St)=>f125 (x:=x) (st:=st)
 have hL:=L68 (g:=st.x.gl) (n:=1) h hk _ 0 rfl [] (Nat.le_refl _)
 rw[List.drop_zero,List.nil_append]at hL
 rw[entL]
 generalize (ftpL x).map (entF x k)=z at *
 generalize ftpL x=l at *
 rw[run_shut F68 rfl rfl (by simp)]
 push_cast[Lst.v,Prm.v,List.map_nil,List.length_nil]at hL e1
 push_cast[Lst.v,Prm.v,e1,hL]
theorem f26 {s:List UInt8}(h:x.ok)(hx:lstP x=0)(hs:s.length<140737488355328){st:St}:run Tryz.prog (HF x) 26 [x.v,.str s] st=some (.ret (if plcE x s=0 then .tup [.sl ((entL x (plcV x s).toNat).map entV),.int .i64 0] else .tup [.sl [],.int .i64 (plcE x s)]),st):=by
 have e0:=fun(st:St)=>upF (x:=x) (f67 (st:=st) h hs)
 rw[run_shut F26 rfl rfl (by simp)]
 by_cases hp:plcE x s=0
 ·obtain⟨p1,p2⟩:=plc_at hp
  have e1:=fun(st:St)=>f68 (k:=(plcV x s).toNat) (st:=st) hx p2
  rw[Int.toNat_of_nonneg p1]at e1
  push_cast[Lst.v]at e0 e1
  push_cast[Lst.v,e0,e1,hp]
 ·push_cast[Lst.v]at e0
  push_cast[Lst.v,e0,hp]
end Go.Proofs.YtkpcomdhdjihlaaGreatDoor

namespace Go.Proofs.YtkpcomdhdjihlaaGreatDoor
open Go.Sha
set_option maxRecDepth 100000
variable {g:List (Nat×Obj)}{n:Nat}
def memE:List Nat:=[52,72,61]
noncomputable def HE:EvF:=⟨HH.raw,fun f args st=>bif memL f memE then run Tryz.prog HH f args st else none⟩
@[push_cast]theorem HE_raw:HE.raw=[70,98,166,233,234,300,344]:=idq rfl
theorem upE {k:Nat}{args:List V}{st:St}{r:VRes×St}(h:run Tryz.prog HH k args st=some r)(h2:memL k memE=true:=by rfl):run Tryz.prog HE k args st=some r:=by
 refine run_H ?_
 simp only[HE,h2,cond_true,h]
theorem itoaE {m:Int}(h0:-9223372036854775808≤m)(h1:m≤9223372036854775807){st:St}(hG:glB st.x.gl=true):run Tryz.prog HE 72 [.int .i64 m] st=some (.ret (.str (Lib.itoa m)),st):=upE (run_H (by
 show(hItoa st.x.gl [.int .i64 m]).map (fun r=>(r,st))=_
 rw[hItoa,hG,decide_eq_true h0,decide_eq_true h1];rfl))
theorem f208 {m:Int}(h0:-9223372036854775808≤m)(h1:m≤9223372036854775807){st:St}(hG:glB st.x.gl=true):run Tryz.prog HE 208 [.int .i64 m] st=some (.ret (.str (Lib.itoa m)),st):=by
 have e1:=fun nx mem arr obj ty=>itoaE (m:=m) (st:=⟨nx,mem,arr,⟨obj,st.x.gl,ty⟩⟩) h0 h1 hG
 rw[run_shut F208 rfl rfl (by simp)]
 push_cast[e1]
def decT (m:Int)(k:Nat):List UInt8:=List.replicate (k-(Lib.itoa m).length) 48++Lib.itoa m
theorem rep48 {k:Nat}:Lib.repeatL [48] k=List.replicate k 48:=by
 induction k with
 |zero=>rfl
 |succ k ih=>rw[Lib.repeatL,ih];rfl
theorem f137 {m:Int}{k:Nat}(h0:0≤m)(h1:m≤1000000)(hk:k≤3){st:St}(hG:glB st.x.gl=true):run Tryz.prog HE 137 [.int .i64 m,.int .i64 k] st=some (.ret (.str (decT m k)),st):=by
 have e1:=fun nx mem arr obj ty=>f208 (m:=m) (st:=⟨nx,mem,arr,⟨obj,st.x.gl,ty⟩⟩) (by omega) (by omega) hG
 have l1:=Lib.itoa_length_le m (by omega) (by omega)
 generalize hi:Lib.itoa m=s at *
 have w1:IntKind.i64.wrap ((k:Int)-s.length)=(k:Int)-s.length:=iwrap (by omega) (by omega)
 have hx:(if(k:Int)-s.length>0 then(k:Int)-s.length else 0)=((k-s.length:Nat):Int):=by split<;>omega
 have e2:∀st:St,run Tryz.prog HE 52 [.str [48],.int .i64 ((k-s.length:Nat):Int)] st=some (.ret (.str (List.replicate (k-s.length) 48)),st):=fun st=>upE (run_H (by
  show(hRep [.str [48],.int .i64 ((k-s.length:Nat):Int)]).map (fun r=>(r,st))=_
  rw[hRep]
  simp only[Int.toNat_natCast]
  rw[rep48,decide_eq_true (show(0:Int)≤((k-s.length:Nat):Int) by omega),decide_eq_true (show((k-s.length:Nat):Int)≤1000000 by omega),decide_eq_true (show[(48:UInt8)].length*(k-s.length)≤1000000 by simp;omega)]
  rfl))
 rw[run_shut F137 rfl rfl (by simp)]
 push_cast[e1,w1,hx,e2,decT,hi]
 exact dn_eq (by first|omega|(simp;omega)) rfl
def ofL (m:Int):Int:=(65535*m+50000) / 100000
theorem f136 {m:Int}(h0:0≤m)(h1:m≤1000000){st:St}:run Tryz.prog HE 136 [.int .i64 m] st=some (.ret (.int .i64 (ofL m)),st):=by
 have w1:IntKind.i64.wrap (65535*m)=65535*m:=iwrap (by omega) (by omega)
 have w2:IntKind.i64.wrap (65535*m+50000)=65535*m+50000:=iwrap (by omega) (by omega)
 have t1:(65535*m+50000).tdiv 100000=(65535*m+50000) / 100000:=Int.tdiv_eq_ediv_of_nonneg (by omega)
 have w3:IntKind.i64.wrap ((65535*m+50000) / 100000)=(65535*m+50000) / 100000:=iwrap (by omega) (by omega)
 rw[run_shut F136 rfl rfl (by simp)]
 push_cast[w1,w2,t1,w3,ofL]
def Unt (u:Int)(d:Nat):Prop:=(u=1000∧d=0)∨(u=100∧d=1)∨(u=10∧d=2)∨(u=1∧d=3)
def wN (v u:Int):Int:=(100000*v-50000+65535*u-1) / (65535*u)
def wT (v u:Int)(d:Nat):List UInt8:=decT (wN v u / (1000 / u)) 1++(if 0<d then 46::decT (wN v u % (1000 / u)) d else[])
theorem f78 {v u:Int}{d:Nat}(h0:0≤v)(h1:v≤65535)(hu:Unt u d){st:St}(hG:glB st.x.gl=true):run Tryz.prog HE 78 [.int .i64 v,.int .i64 u,.int .i64 d] st=some (.ret (if ofL (wN v u*u)=v then .tup [.str (wT v u d),.bool true] else .tup [.str [],.bool false]),st):=by
 have hn0:0≤wN v u:=by rcases hu with⟨rfl,_⟩|⟨rfl,_⟩|⟨rfl,_⟩|⟨rfl,_⟩<;>(unfold wN;omega)
 have hn1:wN v u≤100000∧wN v u*u≤200000:=by rcases hu with⟨rfl,_⟩|⟨rfl,_⟩|⟨rfl,_⟩|⟨rfl,_⟩<;>(unfold wN;omega)
 have hu1:1≤u∧u≤1000:=by rcases hu with⟨rfl,_⟩|⟨rfl,_⟩|⟨rfl,_⟩|⟨rfl,_⟩<;>omega
 have hd:d≤3:=by rcases hu with⟨_,rfl⟩|⟨_,rfl⟩|⟨_,rfl⟩|⟨_,rfl⟩<;>omega
 have hp:1≤1000 / u∧1000 / u≤1000:=by rcases hu with⟨rfl,_⟩|⟨rfl,_⟩|⟨rfl,_⟩|⟨rfl,_⟩<;>decide
 have w1:IntKind.i64.wrap (100000*v)=100000*v:=iwrap (by omega) (by omega)
 have w2:IntKind.i64.wrap (100000*v-50000)=100000*v-50000:=iwrap (by omega) (by omega)
 have w3:IntKind.i64.wrap (65535*u)=65535*u:=iwrap (by omega) (by omega)
 have w4:IntKind.i64.wrap (100000*v-50000+65535*u)=100000*v-50000+65535*u:=iwrap (by omega) (by omega)
 have w5:IntKind.i64.wrap (100000*v-50000+65535*u-1)=100000*v-50000+65535*u-1:=iwrap (by omega) (by omega)
 have t1:(100000*v-50000+65535*u-1).tdiv (65535*u)=wN v u:=Int.tdiv_eq_ediv_of_nonneg (by omega)
 have z1:¬65535*u=0:=by omega
 have z2:¬u=0:=by omega
 have w6:IntKind.i64.wrap (wN v u)=wN v u:=iwrap (by omega) (by omega)
 have hm:(if wN v u>0 then wN v u else 0)=wN v u:=by split<;>omega
 have w7:IntKind.i64.wrap (wN v u*u)=wN v u*u:=iwrap (by have:=Int.mul_nonneg hn0 (show 0≤u by omega);omega) (by omega)
 have t2:(1000:Int).tdiv u=1000 / u:=Int.tdiv_eq_ediv_of_nonneg (by decide)
 have w8:IntKind.i64.wrap (1000 / u)=1000 / u:=iwrap (by omega) (by omega)
 have z3:¬1000 / u=0:=by omega
 have t3:(wN v u).tdiv (1000 / u)=wN v u / (1000 / u):=Int.tdiv_eq_ediv_of_nonneg hn0
 have t4:(wN v u).tmod (1000 / u)=wN v u % (1000 / u):=Int.tmod_eq_emod_of_nonneg hn0
 have e0:=fun(st:St)=>f136 (m:=wN v u*u) (st:=st) (by have:=Int.mul_nonneg hn0 (show 0≤u by omega);omega) (by omega)
 have hq0:0≤wN v u / (1000 / u):=Int.ediv_nonneg hn0 (by omega)
 have hq1:wN v u / (1000 / u)≤wN v u:=Int.ediv_le_self _ hn0
 have hr0:0≤wN v u % (1000 / u):=Int.emod_nonneg _ z3
 have hr1:wN v u % (1000 / u)<1000 / u:=Int.emod_lt_of_pos _ (by omega)
 have w9:IntKind.i64.wrap (wN v u / (1000 / u))=wN v u / (1000 / u):=iwrap (by omega) (by omega)
 have w10:IntKind.i64.wrap (wN v u % (1000 / u))=wN v u % (1000 / u):=iwrap (by omega) (by omega)
 have e1:=fun nx mem arr obj ty=>f137 (m:=wN v u / (1000 / u)) (k:=1) (st:=⟨nx,mem,arr,⟨obj,st.x.gl,ty⟩⟩) hq0 (by omega) (by decide) hG
 have e2:=fun nx mem arr obj ty=>f137 (m:=wN v u % (1000 / u)) (k:=d) (st:=⟨nx,mem,arr,⟨obj,st.x.gl,ty⟩⟩) hr0 (by omega) hd hG
 have l1:∀m k,0≤m→m≤1000000→k≤3→(decT m k).length≤40:=fun m k a b c=>by
  have:=Lib.itoa_length_le m (by omega) (by omega)
  simp[decT];omega
 have l2:=l1 _ 1 hq0 (by omega) (by decide)
 have hl3:=l1 _ d hr0 (by omega) hd
 rw[run_shut F78 rfl rfl (by simp)]
 push_cast at e1
 by_cases hof:ofL (wN v u*u)=v
 ·by_cases hd0:0<d
  ·have hd1:(0:Int)<d:=by omega
   have hd2:(d:Int)>0:=hd1
   push_cast[w1,w2,w3,w4,w5,t1,z1,z2,w6,hm,w7,t2,w8,z3,t3,t4,w9,w10,e0,e1,e2,hof,hd0,hd1,hd2,wT]
   exact dn_eq (by omega) rfl
  ·have hd1:¬(0:Int)<d:=by omega
   have hd2:¬(d:Int)>0:=hd1
   push_cast[w1,w2,w3,w4,w5,t1,z1,z2,w6,hm,w7,t2,w8,z3,t3,t4,w9,w10,e0,e1,e2,hof,hd0,hd1,hd2,wT]
 ·push_cast[w1,w2,w3,w4,w5,t1,z1,z2,w6,hm,w7,e0,hof]
theorem f77 {v:Int}(h0:0≤v)(h1:v≤65535){st:St}:run Tryz.prog HE 77 [.int .i64 v] st=some (.ret (.int .i64 0),st):=by
 have a1:¬v<0:=by omega
 have a2:¬65535<v:=by omega
 rw[run_shut F77 rfl rfl (by simp)]
 push_cast[a1,a2]
def txtL (v:Int):List UInt8:=if v=65535 then[102,117,108,108] else if ofL (wN v 1000*1000)=v then wT v 1000 0 else if ofL (wN v 100*100)=v then wT v 100 1 else if ofL (wN v 10*10)=v then wT v 10 2 else wT v 1 3
theorem of_one {v:Int}(h0:0≤v)(h1:v≤65535):ofL (wN v 1*1)=v:=by unfold ofL wN;omega
theorem f31 {v:Int}(h0:0≤v)(h1:v≤65535){st:St}(hG:glB st.x.gl=true):run Tryz.prog HE 31 [.int .i64 v] st=some (.ret (.tup [.str (txtL v),.int .i64 0]),st):=by
 have e0:=fun(st:St)=>f77 (st:=st) h0 h1
 have a1:=fun nx mem arr obj ty=>f78 (u:=1000) (d:=0) (st:=⟨nx,mem,arr,⟨obj,st.x.gl,ty⟩⟩) h0 h1 (.inl ⟨rfl,rfl⟩) hG
 have a2:=fun nx mem arr obj ty=>f78 (u:=100) (d:=1) (st:=⟨nx,mem,arr,⟨obj,st.x.gl,ty⟩⟩) h0 h1 (.inr (.inl ⟨rfl,rfl⟩)) hG
 have a3:=fun nx mem arr obj ty=>f78 (u:=10) (d:=2) (st:=⟨nx,mem,arr,⟨obj,st.x.gl,ty⟩⟩) h0 h1 (.inr (.inr (.inl ⟨rfl,rfl⟩))) hG
 have a4:=fun nx mem arr obj ty=>f78 (u:=1) (d:=3) (st:=⟨nx,mem,arr,⟨obj,st.x.gl,ty⟩⟩) h0 h1 (.inr (.inr (.inr ⟨rfl,rfl⟩))) hG
 have w1:IntKind.i64.wrap ((1000:Int).tdiv 10)=100:=by decide
 have w2:IntKind.i64.wrap ((100:Int).tdiv 10)=10:=by decide
 have w3:IntKind.i64.wrap ((10:Int).tdiv 10)=1:=by decide
 rw[if_pos (of_one h0 h1)]at a4
 unfold txtL
 generalize wT v 1 3=t4 at *
 generalize wT v 10 2=t3 at *
 generalize wT v 100 1=t2 at *
 generalize wT v 1000 0=t1 at *
 rw[run_shut F31 rfl rfl (by simp)]
 push_cast at a1 a2 a3 a4
 by_cases hv:v=65535
 ·subst hv
  push_cast[e0]
 ·by_cases b1:ofL (wN v 1000*1000)=v
  ·rw[if_pos b1]at a1
   push_cast[e0,hv,b1,a1,runL_of B31_0.eq_1]
  ·rw[if_neg b1]at a1
   by_cases b2:ofL (wN v 100*100)=v
   ·rw[if_pos b2]at a2
    push_cast[e0,hv,b1,b2,a1,a2,w1,runL_of B31_0.eq_1]
   ·rw[if_neg b2]at a2
    by_cases b3:ofL (wN v 10*10)=v
    ·rw[if_pos b3]at a3
     push_cast[e0,hv,b1,b2,b3,a1,a2,a3,w1,w2,runL_of B31_0.eq_1]
    ·rw[if_neg b3]at a3
     push_cast[e0,hv,b1,b2,b3,a1,a2,a3,a4,w1,w2,w3,runL_of B31_0.eq_1]
end Go.Proofs.YtkpcomdhdjihlaaGreatDoor

namespace Go.Proofs.YtkpcomdhdjihlaaGreatDoor
open Go.Sha
set_option maxRecDepth 10000
theorem F32:compF Tryz.prog 32=some ⟨15,[.tmp 2,.tmp 3],(.g [.s 2 (.mv (.w [])),.c 3 0] (.join [0] (.join [0,11] (.reg [.m 4 0,.f 5 79 4,.z 6 5,.m 7 6,.my 8 0 7,.y 9 (.f 80 [.t 8,.i 0,.i 14]) 7,.vy 10 .neq 9 0 7,.e 11 7 10]) (.i 11 (.g [.s 2 (.mv (.w [])),.c 3 2] (.ret [2,3])) .skip)) (.g [.s 12 (.f 81 []),.m 13 0,.s 14 (.act (.look (.i .i64) (.str []) false) [.t 12,.t 13]),.m 2 14,.c 3 0] (.ret [2,3]))))⟩:=by kernel_rfl
theorem F79:compF Tryz.prog 79=some ⟨6,[.tmp 2],(.g [.k 2 false] (.g [.m 3 0,.s 4 (.f 80 [.t 3,.i 16,.i 18]),.v 5 .eql 4 0,.m 2 5] (.ret [2])))⟩:=by kernel_rfl
end Go.Proofs.YtkpcomdhdjihlaaGreatDoor

namespace Go.Proofs.YtkpcomdhdjihlaaGreatDoor
open Go.Sha
set_option maxRecDepth 100000
variable {g:List (Nat×Obj)}{n:Nat}{s:Sho}{x:Lst}{v:GV}
theorem huesR_lvl {l:List Hue}:∀{r:List Hue}{j:Nat},huesR l r j=0→∀x∈r,lvl x.lev
 |[],_,_,x,hx=>by simp at hx
 |q::r,j,h,x,hx=>by
  rw[huesR]at h
  repeat' split at h
  all_goals first|cases h|skip
  rename_i a _
  rcases List.mem_cons.1 hx with rfl|hx
  ·exact Classical.not_not.1 fun h=>a (.inr (.inr (.inr (.inr h))))
  ·exact huesR_lvl h x hx
theorem palsR_hue {l:List Pal}:∀{r:List Pal}{j:Nat},palsR l r j=0→∀x∈r,hueLR x.hues=0
 |[],_,_,x,hx=>by simp at hx
 |q::r,j,h,x,hx=>by
  rw[palsR]at h
  repeat' split at h
  all_goals first|cases h|skip
  ·rename_i a
   rcases List.mem_cons.1 hx with rfl|hx
   ·exact a
   ·exact palsR_hue h x hx
  ·rename_i a;exact absurd h a
theorem hue_lvl {l:List Pal}{v:Int}{p:Prm}{x:Int}(h:palsCR l=0)(hx:hueV l v p=some x):lvl x:=by
 unfold palsCR at h
 split at h
 ·cases h
 ·unfold hueV at hx
  cases hp:palF l v with
  |none=>rw[hp]at hx;cases hx
  |some y =>
   rw[hp,Option.bind_some]at hx
   obtain⟨z,hz,rfl⟩:=Option.map_eq_some_iff.1 hx
   have hy:=palsR_hue h y (List.mem_of_find?_eq_some hp)
   unfold hueLR at hy
   split at hy
   ·cases hy
   ·refine huesR_lvl hy z ?_
    unfold hueF at hz
    cases h1:y.hues.find? (fun x=>decide (x.chan=p.chan∧x.attr=p.attr)) with
    |some w=>rw[h1]at hz;cases hz;exact List.mem_of_find?_eq_some h1
    |none=>rw[h1]at hz;exact List.mem_of_find?_eq_some hz
theorem lev_ok {s:Sho}{p:Prm}{v:Val}(hs:shoC s=0)(hp:prmC 1 p=0)(hv:valC v=0):levE s p v=0∧lvl (levV s p v):=by
 have h0:levE s p v=0:=by rw[levE,if_neg (by simpa using hs),if_neg (by simpa using hv),hp]
 refine⟨h0,?_⟩
 rw[levV,if_pos h0,lvV]
 split
 ·rename_i h
  unfold valC at hv
  split at hv
  ·rename_i h2
   rcases h2 with h2|h2
   ·exact h2.2
   ·exact absurd h h2.2.1
  ·cases hv
 ·cases h:hueV s.pals v.pal p with
  |none=>exact own_home (p:=p) hs
  |some x=>exact hue_lvl (shoC_parts hs).2.2.2.2.2.1 h
theorem movsR_val {l:List Mov}:∀{r:List Mov}{j:Nat},movsR l r j=0→∀q∈r,valC q.val=0
 |[],_,_,q,hq=>by simp at hq
 |x::r,j,h,q,hq=>by
  rw[movsR]at h
  repeat' split at h
  all_goals first|(rename_i a;exact absurd h a)|cases h|skip
  rename_i a _ _
  rcases List.mem_cons.1 hq with rfl|hq
  ·exact Classical.not_not.1 a
  ·exact movsR_val h q hq
theorem lst_val (h:lstP x=0):∀c∈x.cues,∀q∈c.moves,valC q.val=0:=fun c hc=>by
 obtain⟨h1,h2,h3,h4,h5⟩:=cue_parts (lst_cue h c hc)
 rw[movC_eq]at h3
 unfold movCR at h3
 split at h3
 ·cases h3
 ·exact movsR_val h3
theorem movF_val {l:List Mov}{p:Prm}{w:Val}(h:∀q∈l,valC q.val=0)(e:movF l p=some w):valC w=0:=by
 obtain⟨m,hm,rfl⟩:=Option.map_eq_some_iff.1 e
 exact h m (List.mem_of_find?_eq_some hm)
theorem getD_mem {α:Type}[Inhabited α]{l:List α}{k:Nat}(h:k<l.length):l.getD k default∈l:=by
 rw[List.getD_eq_getElem?_getD,List.getElem?_eq_getElem h];exact List.getElem_mem h
theorem valF_ok {l:List Cu}{p:Prm}(h:∀c∈l,∀q∈c.moves,valC q.val=0):∀k,k<l.length→valC (valF l p k)=0
 |0,hk=>by
  rw[valF]
  cases e:movF (l.getD 0 default).moves p with
  |none=>decide
  |some w=>exact movF_val (h _ (getD_mem hk)) e
 |k+1,hk=>by
  rw[valF]
  split
  ·rename_i w e;exact movF_val (h _ (getD_mem hk)) e
  ·split
   ·decide
   ·exact valF_ok h k (by omega)
theorem keyL_mem:∀{cs:List Cu}{a:List Prm},a.Nodup→(keyL cs a).Nodup∧∀p,p∈keyL cs a↔p∈a∨∃c∈cs,p∈c.moves.map Mov.prm
 |[],a,h=>⟨h,fun p=>by simp[keyL]⟩
 |c::r,a,h=>by
  obtain⟨b1,b2⟩:=insK_fold (r:=c.moves.map Mov.prm) h
  obtain⟨a1,a2⟩:=keyL_mem (cs:=r) b1
  exact⟨a1,fun p=>by
   rw[show keyL (c::r) a=keyL r ((c.moves.map Mov.prm).foldl insK a) from rfl,a2,b2]
   constructor
   ·rintro((h|h)|⟨c',h1,h2⟩)
    ·exact .inl h
    ·exact .inr ⟨c,List.mem_cons_self ..,h⟩
    ·exact .inr ⟨c',List.mem_cons_of_mem _ h1,h2⟩
   ·rintro(h|⟨c',h1,h2⟩)
    ·exact .inl (.inl h)
    ·rcases List.mem_cons.1 h1 with rfl|h1
     ·exact .inl (.inr h2)
     ·exact .inr ⟨c',h1,h2⟩⟩
theorem ftpL_nodup:(ftpL x).Nodup:=(List.mergeSort_perm _ _).nodup_iff.2 (keyL_mem List.nodup_nil).1
theorem ftpL_mem {p:Prm}:p∈ftpL x↔∃c∈x.cues,p∈c.moves.map Mov.prm:=by
 rw[ftpL,(List.mergeSort_perm _ _).mem_iff,(keyL_mem List.nodup_nil).2];simp
theorem movF_none {l:List Mov}{p:Prm}(h:p ∉ l.map Mov.prm):movF l p=none:=by
 rw[movF,Option.map_eq_none_iff,List.find?_eq_none]
 intro m hm
 have:¬m.prm=p:=fun e=>h (e▸List.mem_map_of_mem hm)
 intro h2
 simp only[Bool.and_eq_true,decide_eq_true_eq]at h2
 exact this (by cases p;cases hq:m.prm;rw[hq]at h2;simp only at h2;rw[h2.1,h2.2])
theorem valF_none {l:List Cu}{p:Prm}(h:∀c∈l,p ∉ c.moves.map Mov.prm):∀k,k<l.length→valF l p k=⟨-1,0⟩
 |0,hk=>by rw[valF,movF_none (h _ (getD_mem hk))];rfl
 |k+1,hk=>by
  rw[valF,movF_none (h _ (getD_mem hk))]
  dsimp only
  split
  ·rfl
  ·exact valF_none h k (by omega)
theorem mapF_none {a:List (Prm×Val)}{p:Prm}(h:∀y∈a,y.1≠p):mapF a p=none:=by
 rw[mapF,Option.map_eq_none_iff,List.findIdx?_eq_none_iff]
 intro y hy
 have:=h y hy
 simpa using fun e=>this e.symm
theorem insMg_fold:∀{l a:List (Prm×Val)},(∀e∈l,∀y∈a,y.1≠e.1)→(l.Pairwise fun y z=>y.1≠z.1)→l.foldl insMg a=a++l
 |[],a,_,_=>by simp
 |e::l,a,h,hp=>by
  obtain⟨p1,p2⟩:=List.pairwise_cons.1 hp
  have e1:insMg a e=a++[e]:=by rw[insMg,mapF_none (h e (List.mem_cons_self ..))]
  rw[List.foldl_cons,e1,insMg_fold (fun z hz y hy=>?_) p2]
  ·simp
  ·rcases List.mem_append.1 hy with hy|hy
   ·exact h z (List.mem_cons_of_mem _ hz) y hy
   ·rw[List.mem_singleton.1 hy];exact p1 z hz
theorem valM_map {l:List Prm}{F:Prm→Val}{p:Prm}:valM (l.map fun q=>(q,F q)) p=if p∈l then F p else⟨-1,0⟩:=by
 unfold valM mapF
 have e:(l.map fun q=>(q,F q)).findIdx? (fun y=>decide (p=y.1))=l.findIdx? (fun q=>decide (p=q)):=by rw[List.findIdx?_map];rfl
 rw[e]
 cases h:l.findIdx? fun q=>decide (p=q) with
 |none =>
  rw[List.findIdx?_eq_none_iff]at h
  rw[if_neg (fun hp=>by have:=h p hp;simp at this)];rfl
 |some i =>
  obtain⟨hi,h1,_⟩:=List.findIdx?_eq_some_iff_getElem.1 h
  rw[decide_eq_true_eq]at h1
  rw[if_pos (h1▸List.getElem_mem hi)]
  simp only[Option.map_some]
  rw[List.getD_eq_getElem?_getD,List.getElem?_map,List.getElem?_eq_getElem hi]
  simp only[Option.map_some,Option.getD_some,←h1]
theorem ent_pair {k:Nat}:(entL x k).Pairwise fun y z=>y.1≠z.1:=by
 rw[entL,List.pairwise_map]
 exact ftpL_nodup.imp fun h=>h
theorem valM_ent {k:Nat}{p:Prm}(hk:k<x.cues.length):valM ((entL x k).foldl insMg []) p=valF x.cues p k:=by
 rw[insMg_fold (fun _ _ y hy=>by simp at hy) ent_pair,List.nil_append,entL]
 show valM ((ftpL x).map fun q=>(q,valF x.cues q k)) p=_
 rw[valM_map]
 split
 ·rfl
 ·rename_i h
  refine(valF_none (fun c hc hp=>h (ftpL_mem.2 ⟨c,hc,hp⟩)) k hk).symm
def wrdA (k:Nat):List UInt8:=[[105,110,116,101,110,115,105,116,121],[112,97,110],[116,105,108,116],[114,101,100],[103,114,101,101,110],[98,108,117,101],[119,104,105,116,101],[97,109,98,101,114],[99,121,97,110],[109,97,103,101,110,116,97],[121,101,108,108,111,119],[103,111,98,111],[115,104,117,116,116,101,114],[122,111,111,109],[102,111,99,117,115]].getD k []
def wrdK:List V:=[.int .i64 0,.int .i64 1,.int .i64 2,.int .i64 3,.int .i64 4,.int .i64 5,.int .i64 6,.int .i64 7,.int .i64 8,.int .i64 9,.int .i64 10,.int .i64 11,.int .i64 12,.int .i64 13,.int .i64 14,.int .i64 16,.int .i64 17,.int .i64 18]
def wrdV:List V:=[.str [105,110,116,101,110,115,105,116,121],.str [112,97,110],.str [116,105,108,116],.str [114,101,100],.str [103,114,101,101,110],.str [98,108,117,101],.str [119,104,105,116,101],.str [97,109,98,101,114],.str [99,121,97,110],.str [109,97,103,101,110,116,97],.str [121,101,108,108,111,119],.str [103,111,98,111],.str [115,104,117,116,116,101,114],.str [122,111,111,109],.str [102,111,99,117,115],.str [112,111,115,105,116,105,111,110],.str [99,111,108,111,117,114],.str [98,101,97,109]]
theorem e149:evK Tryz.prog HK 60 60 81 [] (stG (glK v))=some (.ret (.mpc wrdK wrdV),stG (glK v)):=by kernel_rfl
theorem f148K {a b c:Int}{st:St}:run Tryz.prog HK 80 [.int .i64 a,.int .i64 b,.int .i64 c] st=some (.ret (.int .i64 (if a<b∨c<a then 2 else 0)),st):=by
 rw[run_shut F80 rfl rfl (by simp)]
 push_cast
theorem f147K {a:Int}{st:St}:run Tryz.prog HK 79 [.int .i64 a] st=some (.ret (.bool (decide (¬(a<16∨18<a)))),st):=by
 rw[run_shut F79 rfl rfl (by simp)]
 push_cast[f148K]
 all_goals ((repeat' split)<;>simp_all)
theorem a77 {k:Nat}(hk:k<15):RunAt HK (glK v) 32 [.int .i64 k] (.ret (.tup [.str (wrdA k),.int .i64 0])):=by
 intro nx mem arr obj ty
 have e1:RunAt HK (glK v) 81 [] (.ret (.mpc wrdK wrdV)):=runAt e149 (by kernel_rfl) (fun _=>rfl) rfl
 have hf:findV (.int .i64 k) (wrdK.zip wrdV) 0=some (some (k,.str (wrdA k))):=by
  have h:k=0∨k=1∨k=2∨k=3∨k=4∨k=5∨k=6∨k=7∨k=8∨k=9∨k=10∨k=11∨k=12∨k=13∨k=14:=by omega
  rcases h with rfl|rfl|rfl|rfl|rfl|rfl|rfl|rfl|rfl|rfl|rfl|rfl|rfl|rfl|rfl<;>rfl
 have e2:∀st:St,run Tryz.prog HK 79 [.int .i64 k] st=some (.ret (.bool false),st):=fun st=>by
  rw[f147K,show decide (¬((k:Int)<16∨18<(k:Int)))=false from decide_eq_false (by omega)]
 have e3:∀st:St,run Tryz.prog HK 80 [.int .i64 k,.int .i64 0,.int .i64 14] st=some (.ret (.int .i64 0),st):=fun st=>by
  rw[f148K,if_neg (by omega)]
 have hl:wrdK.length=wrdV.length:=rfl
 have hmo:∀st:St,mapOf st (.mpc wrdK wrdV)=some (wrdK.zip wrdV):=fun st=>by rw[mapOf,if_pos hl]
 generalize wrdK=ks at *
 generalize wrdV=vs at *
 generalize wrdA k=w at *
 generalize glK v=g at *
 rw[run_shut F32 rfl rfl (by simp)]
 push_cast[e1,e2,e3,hf,hl,hmo]
theorem wrdA_len {k:Nat}:(wrdA k).length≤1000:=by
 unfold wrdA
 by_cases hk:k<15
 ·have h:k=0∨k=1∨k=2∨k=3∨k=4∨k=5∨k=6∨k=7∨k=8∨k=9∨k=10∨k=11∨k=12∨k=13∨k=14:=by omega
  rcases h with rfl|rfl|rfl|rfl|rfl|rfl|rfl|rfl|rfl|rfl|rfl|rfl|rfl|rfl|rfl<;>decide
 ·rw[List.getD_eq_getElem?_getD,List.getElem?_eq_none (by simp;omega)];decide
theorem wT_len {w u:Int}{d:Nat}(h0:0≤w)(h1:w≤65535)(hu:Unt u d):(wT w u d).length≤200:=by
 have hn0:0≤wN w u:=by rcases hu with⟨rfl,_⟩|⟨rfl,_⟩|⟨rfl,_⟩|⟨rfl,_⟩<;>(unfold wN;omega)
 have hn1:wN w u≤100000:=by rcases hu with⟨rfl,_⟩|⟨rfl,_⟩|⟨rfl,_⟩|⟨rfl,_⟩<;>(unfold wN;omega)
 have l1:∀m k,0≤m→m≤1000000→k≤3→(decT m k).length≤40:=fun m k a b c=>by
  have:=Lib.itoa_length_le m (by omega) (by omega)
  simp[decT];omega
 unfold wT
 generalize wN w u=z at *
 rcases hu with⟨rfl,rfl⟩|⟨rfl,rfl⟩|⟨rfl,rfl⟩|⟨rfl,rfl⟩
 ·have:=l1 (z / (1000 / 1000)) 1 (by omega) (by omega) (by decide)
  rw[if_neg (by decide),List.append_nil];omega
 ·have a:=l1 (z / (1000 / 100)) 1 (by omega) (by omega) (by decide)
  have b:=l1 (z % (1000 / 100)) 1 (by omega) (by omega) (by decide)
  rw[if_pos (by decide),List.length_append,List.length_cons];omega
 ·have a:=l1 (z / (1000 / 10)) 1 (by omega) (by omega) (by decide)
  have b:=l1 (z % (1000 / 10)) 2 (by omega) (by omega) (by decide)
  rw[if_pos (by decide),List.length_append,List.length_cons];omega
 ·have a:=l1 (z / (1000 / 1)) 1 (by omega) (by omega) (by decide)
  have b:=l1 (z % (1000 / 1)) 3 (by omega) (by omega) (by decide)
  rw[if_pos (by decide),List.length_append,List.length_cons];omega
theorem txt_len {w:Int}(h0:0≤w)(h1:w≤65535):(txtL w).length≤200:=by
 unfold txtL
 repeat' split
 ·decide
 ·exact wT_len h0 h1 (.inl ⟨rfl,rfl⟩)
 ·exact wT_len h0 h1 (.inr (.inl ⟨rfl,rfl⟩))
 ·exact wT_len h0 h1 (.inr (.inr (.inl ⟨rfl,rfl⟩)))
 ·exact wT_len h0 h1 (.inr (.inr (.inr ⟨rfl,rfl⟩)))
def memQ:List Nat:=[24,25,30,29]
open Classical in
noncomputable def HQ (s:Sho)(x:Lst):EvF:=⟨HH.raw,fun f args st=>bif Nat.beq f 27 then(if args=[s.v] then some (.ret (.tup [.sl ((parS s).map Prm.v),.int .i64 (shoC s)]),st) else none) else
 bif Nat.beq f 26 then run Tryz.prog (HF x) f args st else bif Nat.beq f 31 then run Tryz.prog HE f args st else bif Nat.beq f 32 then run Tryz.prog HK f args st else bif memL f memQ then run Tryz.prog HH f args st else none⟩
@[push_cast]theorem HQ_raw:(HQ s x).raw=[70,98,166,233,234,300,344]:=idq rfl
theorem HQ_ok (h1:ESound Tryz.prog HH)(h2:ESound Tryz.prog (HF x))(h3:ESound Tryz.prog HE)(h4:ESound Tryz.prog HK)(h:s.ok):ESound Tryz.prog (HQ s x):=fun f args st r z e=>by
 simp only[HQ]at e
 cases hf:Nat.beq f 27 with
 |true =>
  rw[hf,cond_true]at e
  have:=Nat.eq_of_beq_eq_true hf
  subst this
  split at e
  ·rename_i ha
   subst ha
   cases e
   exact v27 h1 h
  ·cases e
 |false =>
  rw[hf,cond_false]at e
  cases hi:Nat.beq f 26 with
  |true=>rw[hi]at e;exact run_sound mixed h2 _ _ _ _ _ e
  |false =>
   rw[hi,cond_false]at e
   cases hi:Nat.beq f 31 with
   |true=>rw[hi]at e;exact run_sound mixed h3 _ _ _ _ _ e
   |false =>
    rw[hi,cond_false]at e
    cases hi:Nat.beq f 32 with
    |true=>rw[hi]at e;exact run_sound mixed h4 _ _ _ _ _ e
    |false =>
     rw[hi,cond_false]at e
     cases hi:memL f memQ with
     |true=>rw[hi]at e;exact run_sound mixed h1 _ _ _ _ _ e
     |false=>rw[hi]at e;cases e
theorem upQ {k:Nat}{args:List V}{st:St}{r:VRes×St}(h:run Tryz.prog HH k args st=some r)(h1:Nat.beq k 27=false:=by rfl)(h2:Nat.beq k 26=false:=by rfl)(h3:Nat.beq k 31=false:=by rfl)(h4:Nat.beq k 32=false:=by rfl)(h5:memL k memQ=true:=by rfl):run Tryz.prog (HQ s x) k args st=some r:=by
 refine run_H ?_
 simp only[HQ,h1,h2,h3,h4,h5,cond_false,cond_true,h]
theorem q26 {args:List V}{st:St}{r:VRes×St}(h:run Tryz.prog (HF x) 26 args st=some r):run Tryz.prog (HQ s x) 26 args st=some r:=by
 refine run_H ?_
 simp only[HQ,show Nat.beq 26 27=false from rfl,show Nat.beq 26 26=true from rfl,cond_false,cond_true,h]
theorem q31 {args:List V}{st:St}{r:VRes×St}(h:run Tryz.prog HE 31 args st=some r):run Tryz.prog (HQ s x) 31 args st=some r:=by
 refine run_H ?_
 simp only[HQ,show Nat.beq 31 27=false from rfl,show Nat.beq 31 26=false from rfl,show Nat.beq 31 31=true from rfl,cond_false,cond_true,h]
theorem q32 {args:List V}{st:St}{r:VRes×St}(h:run Tryz.prog HK 32 args st=some r):run Tryz.prog (HQ s x) 32 args st=some r:=by
 refine run_H ?_
 simp only[HQ,show Nat.beq 32 27=false from rfl,show Nat.beq 32 26=false from rfl,show Nat.beq 32 31=false from rfl,show Nat.beq 32 32=true from rfl,cond_false,cond_true,h]
theorem q27 {st:St}:run Tryz.prog (HQ s x) 27 [s.v] st=some (.ret (.tup [.sl ((parS s).map Prm.v),.int .i64 (shoC s)]),st):=by
 refine run_H ?_
 simp only[HQ,show Nat.beq 27 27=true from rfl,cond_true,if_true]
theorem qHQ:QT (HQ s x):=⟨rfl,fun _ _=>rfl⟩
theorem par_prm (hs:shoC s=0){p:Prm}(hp:p∈parS s):(1≤p.chan∧p.chan≤999)∧0≤p.attr∧p.attr≤14:=by
 rw[parS,if_pos hs,parP,(List.mergeSort_perm _ _).mem_iff]at hp
 exact keyP_rng hs p hp
theorem prm_of {p:Prm}(h:(1≤p.chan∧p.chan≤999)∧0≤p.attr∧p.attr≤14):prmC 1 p=0:=by
 rw[prmC,if_neg (by omega)]
theorem magQ (h:s.ok)(hs:shoC s=0){lst:Int}{i:Nat}(hi:ix (fun x=>x.num == lst) s.lsts 0=i)(hlt:i<s.lsts.length)(hx:∀d,s.lsts.getD i d=x)(hxo:x.ok)(hlp:lstP x=0){cue:List UInt8}(hc:cue.length<140737488355328)(hp:plcE x cue=0) :
  MagH (HQ s x) g s lst cue x (entL x (plcV x cue).toNat) (parS s) where
 r65:=fun nx mem arr obj ty=>upQ (f24 h hs hi hlt hx)
 r80:=fun nx mem arr obj ty=>by
  have e:numC cue=0:=by
   unfold plcE at hp
   repeat' split at hp
   all_goals first|(rename_i a;exact absurd hp a)|exact Classical.not_not.1 (by assumption)|cases hp
  have:=upQ (s:=s) (x:=x) (f25 (s:=cue) (st:=⟨nx,mem,arr,⟨obj,g,ty⟩⟩) hc)
  rw[e]at this
  exact this
 r39:=fun nx mem arr obj ty=>by
  have:=q26 (s:=s) (x:=x) (f26 (s:=cue) (st:=⟨nx,mem,arr,⟨obj,g,ty⟩⟩) hxo hlp hc)
  rw[if_pos hp]at this
  exact this
 r40:=fun nx mem arr obj ty=>by
  have:=q27 (s:=s) (x:=x) (st:=⟨nx,mem,arr,⟨obj,g,ty⟩⟩)
  rw[hs]at this
  exact this
 ll:=by
  have:=ftpL_len hlp
  rw[entL,List.length_map];omega
 lp:=by
  have:=keyP_len hs
  rw[parS,if_pos hs,parP,List.length_mergeSort];omega
 q:=qHQ
def levQ (s:Sho)(x:Lst)(k:Nat)(p:Prm):Int:=levV s p (valF x.cues p k)
theorem parQ (h:s.ok)(hs:shoC s=0)(hlp:lstP x=0){k:Nat}(hk:k<x.cues.length):∀p∈parS s,ParH (HQ s x) (glK v) s ((entL x k).foldl insMg []) p (levQ s x k p) (Lib.itoa p.chan) (txtL (levQ s x k p)) (wrdA p.attr.toNat)∧p.chan≠0:=fun p hp=>by
 have hr:=par_prm hs hp
 have hG:glB (glK v)=true:=by kernel_rfl
 obtain⟨l1,l2⟩:=lev_ok (p:=p) hs (prm_of hr) (valF_ok (p:=p) (lst_val hlp) k hk)
 obtain⟨l2,lv3⟩:=l2
 have ha:((p.attr.toNat:Nat):Int)=p.attr:=Int.toNat_of_nonneg hr.2.1
 refine⟨⟨⟨levE s p (valF x.cues p k),fun nx mem arr obj ty=>?_⟩,⟨0,fun nx mem arr obj ty=>q31 (f31 l2 lv3 hG)⟩,⟨0,fun nx mem arr obj ty=>?_⟩,fun nx mem arr obj ty=>upQ (f29 (by omega) (by omega) hG),by have:=txt_len l2 lv3;exact Nat.le_trans this (by decide),wrdA_len,qHQ⟩,by omega⟩
 ·rw[valM_ent hk];exact upQ (f30 h)
 ·have:=a77 (v:=v) (k:=p.attr.toNat) (by omega) nx mem arr obj ty
  rw[ha]at this
  exact q32 this
end Go.Proofs.YtkpcomdhdjihlaaGreatDoor

namespace Go.Proofs.YtkpcomdhdjihlaaGreatDoor
open Go.Sha
set_option maxRecDepth 10000
def B7_0:Cd:=(.join [3,11,12,13,14,15] (.g [.m 47 15,.m 48 14,.u 49 48,.b 50 .lss 47 49] (.i 50 .skip (.exit [13] 0))) (.join [3,11,12,13,14,15] (.block 1 (.g [.m 53 14,.m 54 15,.r 55 2 53 54,.d 56 2 55,.s 16 (.alloc 71 [.i 0,.i 0]),.w 2 16 56] (.z [16] (.join [3,11,12,13,14,15,16] (.join [3,11,12,13,14,15,16,69] (.dreg 13 [.m 57 15,.v 58 .eql 57 0,.m 59 58,.mx 60 14 59,.mx 61 15 59,.vx 62 .sub 61 1 59,.x 63 (.iadr 2 (.t 60) (.t 62)) 59,.ax 64 0 63 59,.lx 65 64 59,.ax 66 0 16 59,.lx 67 66 59,.bx 68 .neq 65 67 59,.o 69 59 68]) (.i 69 (.reg [.m 70 13,.a 71 0 16,.l 72 71,.f 73 37 72,.s 74 (.bslice 9 1 [.t 73,(.w []),(.w [])]),.s 75 (.bslice 58 1 [.t 74]),.s 76 (.append 58 1 24 (.t 70) (.t 75)),.m 13 76]) .skip)) (.g [.m 77 13,.m 78 13,.u 79 78,.v 80 .sub 79 1,.r 81 1 77 80,.l 82 81,.m 17 82] (.g [.d 83 9 3,.d 84 3 11,.m 85 12,.d 86 2 16,.s 87 (.f 39 [.t 83,.t 84,.t 85,.t 86]),.f 88 38 87,.m 18 88] (.join [3,11,12,13,14,15,16,17,18] (.g [.a 89 1 16,.l 90 89,.v 91 .eql 90 0] (.i 91 (.g [.m 92 17,.m 93 18,.s 94 (.iadr 1 (.t 92) (.i 1)),.w 1 94 93] (.exit [3,11,12,13,14,15] 1)) .skip)) (.join [3,11,12,13,14,15,16,17,18] (.g [.m 95 17,.s 96 (.iadr 1 (.t 95) (.i 2)),.l 97 96,.s 98 (.bin .neq (.t 97) (.w []))] (.i 98 (.reg [.m 99 17,.s 100 (.iadr 1 (.t 99) (.i 2)),.l 101 100,.s 102 (.bin .add (.t 101) (.w [44,32])),.s 103 (.iadr 1 (.t 99) (.i 2)),.w 1 103 102]) .skip)) (.dreg 11 [.m 104 17,.s 105 (.iadr 1 (.t 104) (.i 2)),.l 106 105,.a 107 1 16,.l 108 107,.f 109 40 108,.s 110 (.bin .add (.t 109) (.w [32])),.m 111 18,.b 112 .add 110 111,.b 113 .add 106 112,.s 114 (.iadr 1 (.t 104) (.i 2)),.w 1 114 113]))))))))) (.reg [.m 51 15,.v 52 .add 51 1,.m 15 52])))
theorem F7:compF Tryz.prog 7=some ⟨116,[.tmp 6,.tmp 7],(.g [.q 3 31 0,.s 6 (.mv (.c .nils)),.c 7 0] (.z [3] (.g [.d 20 9 3,.m 21 1,.g' 22 33 20 21,.m 19 22,.j 23 0 19,.j 24 1 19,.m 8 23,.m 9 24] (.join [2,3,8] (.g [.m 25 9,.v 26 .neq 25 0] (.i 26 (.g [.m 27 9,.s 6 (.mv (.c .nils)),.m 7 27] (.ret [6,7])) .skip)) (.join [2,3,8] (.g [.m 28 2,.f 29 34 28,.m 10 29] (.g [.m 30 10,.v 31 .neq 30 0] (.i 31 (.g [.m 32 10,.s 6 (.mv (.c .nils)),.m 7 32] (.ret [6,7])) .skip))) (.g [.a 33 6 3,.l 34 33,.m 35 8,.r 36 3 34 35,.d 37 3 36,.s 11 (.alloc 55 [.i 0,.i 0,.nils]),.w 3 11 37] (.z [11] (.g [.d 38 3 11,.m 39 2,.g' 40 35 38 39,.m 12 40] (.join [3,11,12] (.g [.m 41 12,.v 42 .lss 41 0] (.i 42 (.g [.s 6 (.mv (.c .nils)),.c 7 6] (.ret [6,7])) .skip)) (.g [.s 43 (.bslice 9 1 [(.w [99,104,97,110,110,101,108]),(.w [105,110,116,101,110,115,105,116,121]),(.w [111,116,104,101,114,115])]),.s 44 (.bslice 58 1 [.t 43]),.m 13 44] (.g [.d 45 9 3,.f 46 36 45,.m 14 46] (.join [13] (.g [.c 15 0] (.block 0 (.loop [3,11,12,13,14,15] [(13,(58,1))] B7_0))) (.g [.m 115 13,.m 6 115,.c 7 0] (.ret [6,7]))))))))))))))⟩:=by kernel_rfl
def B35_0:Cd:=(.join [1,2,5] (.g [.m 6 5,.a 7 2 2,.l 8 7,.u 9 8,.b 10 .lss 6 9] (.i 10 .skip (.exit [] 0))) (.join [1,2,5] (.block 1 (.g [.a 13 2 2,.l 14 13,.m 15 5,.r 16 9 14 15,.a 17 0 16,.l 18 17,.m 19 1,.b 20 .eql 18 19] (.i 20 (.g [.m 21 5,.m 4 21] (.ret [4])) .skip))) (.reg [.m 11 5,.v 12 .add 11 1,.m 5 12])))
theorem F35:compF Tryz.prog 35=some ⟨22,[.tmp 4],(.g [.q 2 55 0,.c 4 0] (.z [2] (.join [] (.g [.c 5 0] (.block 0 (.loop [1,2,5] [] B35_0))) (.g [.c 4 (-1)] (.ret [4])))))⟩:=by kernel_rfl
def B38_0:Cd:=(.join [0,3,4,5] (.g [.m 14 5,.v 15 .leq 14 100000] (.i 15 .skip (.exit [0,3,4] 2))) (.join [0,3,4,5] (.block 3 (.join [4,5] (.g [.m 19 5,.f 20 88 19,.m 21 0,.b 22 .neq 20 21] (.i 22 (.exit [0,3,4,5] 3) .skip)) (.g [.m 23 5,.v 24 .quo 23 1000,.f 25 87 24,.m 6 25] (.join [6] (.g [.m 26 4,.v 27 .gtr 26 0] (.i 27 (.g [.m 28 5,.v 29 .rem 28 1000,.s 30 (.bin .add (.i 1000) (.t 29)),.f 31 87 30,.m 7 31] (.reg [.m 32 6,.m 33 7,.m 34 4,.s 35 (.bin .add (.i 1) (.t 34)),.s 36 (.slices (.t 33) (some (.i 1)) (some (.t 35))),.s 37 (.bin .add (.w [46]) (.t 36)),.b 38 .add 32 37,.m 6 38])) .skip)) (.g [.m 39 6,.m 2 39] (.ret [2])))))) (.reg [.m 16 5,.m 17 3,.b 18 .add 16 17,.m 5 18])))
def B38_1:Cd:=(.join [0,3,4] (.g [.m 10 4,.v 11 .leq 10 3] (.i 11 .skip (.exit [] 0))) (.join [0,3,4] (.block 1 (.join [0,3,4] (.g [.c 5 0] (.block 2 (.loop [0,3,4,5] [] B38_0))) (.reg [.m 40 3,.v 41 .quo 40 10,.m 3 41]))) (.reg [.m 12 4,.v 13 .add 12 1,.m 4 13])))
theorem F38:compF Tryz.prog 38=some ⟨42,[.tmp 2],(.g [.s 2 (.mv (.w []))] (.join [0] (.g [.m 8 0,.v 9 .eql 8 65535] (.i 9 (.g [.s 2 (.mv (.w [102,117,108,108]))] (.ret [2])) .skip)) (.g [.c 3 1000] (.join [] (.g [.c 4 0] (.block 0 (.loop [0,3,4] [] B38_1))) (.g [.s 2 (.mv (.w []))] (.ret [2]))))))⟩:=by kernel_rfl
theorem F88:compF Tryz.prog 88=some ⟨7,[.tmp 2],(.g [.c 2 0] (.g [.m 3 0,.s 4 (.bin .mul (.i 65535) (.t 3)),.v 5 .add 4 50000,.v 6 .quo 5 100000,.m 2 6] (.ret [2])))⟩:=by kernel_rfl
theorem F39:compF Tryz.prog 39=some ⟨16,[.tmp 8],(.g [.q 4 31 0,.q 5 55 1,.q 7 71 3,.c 8 0] (.z [4,5,7] (.q (.dreg 8 [.d 9 9 4,.d 10 2 7,.d 11 3 5,.m 12 2,.d 13 2 7,.s 14 (.f 90 [.t 11,.t 12,.t 13]),.s 15 (.f 89 [.t 9,.t 10,.t 14]),.m 8 15]) (.ret [8]))))⟩:=by kernel_rfl
theorem F90:compF Tryz.prog 90=some ⟨32,[.cell 6 (some 2)],(.g [.q 3 55 0,.q 5 71 2,.s 6 (.alloc 73 [.i 0,.i 0])] (.z [3,5] (.g [.d 8 3 3,.m 9 1,.d 10 2 5,.s 11 (.f 145 [.t 8,.t 9,.t 10]),.m 7 11] (.join [3,5,6,7] (.g [.m 12 7,.v 13 .lss 12 0] (.i 13 (.g [.s 14 (.f 146 []),.w 2 6 14] (.ret [6])) .skip)) (.q (.dreg 17 [.a 15 2 3,.l 16 15,.m 17 7,.r 18 9 16 17,.a 19 2 18,.l 20 19,.a 21 2 3,.l 22 21,.m 23 7,.r 24 9 22 23,.a 25 2 24,.l 26 25,.d 27 2 5,.g' 28 147 26 27,.r 29 5 20 28,.a 30 2 29,.d 31 2 30,.w 2 6 31]) (.ret [6]))))))⟩:=by kernel_rfl
def B145_0:Cd:=(.join [3,5,7] (.g [.m 9 7,.v 10 .geq 9 0] (.i 10 .skip (.exit [] 0))) (.join [3,5,7] (.block 1 (.join [3,5,7] (.q (.dreg 9 [.a 13 2 3,.l 14 13,.m 15 7,.r 16 9 14 15,.a 17 2 16,.l 18 17,.d 19 2 5,.g' 20 147 18 19,.v 21 .geq 20 0]) (.i 21 (.g [.m 22 7,.m 6 22] (.ret [6])) .skip)) (.g [.a 23 2 3,.l 24 23,.m 25 7,.r 26 9 24 25,.a 27 4 26,.l 28 27] (.i 28 (.g [.c 6 (-1)] (.ret [6])) .skip)))) (.reg [.m 11 7,.v 12 .sub 11 1,.m 7 12])))
theorem F145:compF Tryz.prog 145=some ⟨29,[.tmp 6],(.g [.q 3 55 0,.q 5 71 2,.c 6 0] (.z [3,5] (.join [] (.g [.m 8 1,.m 7 8] (.block 0 (.loop [3,5,7] [] B145_0))) (.g [.c 6 (-1)] (.ret [6])))))⟩:=by kernel_rfl
theorem F146:compF Tryz.prog 146=some ⟨2,[.cell 0 (some 2)],(.g [.s 0 (.alloc 73 [.i 0,.i 0])] (.g [.s 1 (.build [.i 0,.i 0] [(0,1,(.i (-1)))]),.w 2 0 1] (.ret [0])))⟩:=by kernel_rfl
def B147_0:Cd:=(.join [0,3,5] (.g [.m 6 5,.m 7 0,.u 8 7,.b 9 .lss 6 8] (.i 9 .skip (.exit [] 0))) (.join [0,3,5] (.block 1 (.q (.dreg 7 [.m 12 0,.m 13 5,.r 14 5 12 13,.a 15 0 14,.d 16 2 15,.d 17 2 3,.s 18 (.eqs false [.i,.i] (.t 16) (.t 17))]) (.i 18 (.g [.m 19 5,.m 4 19] (.ret [4])) .skip))) (.reg [.m 10 5,.v 11 .add 10 1,.m 5 11])))
theorem F147:compF Tryz.prog 147=some ⟨20,[.tmp 4],(.g [.q 3 71 1,.c 4 0] (.z [3] (.join [] (.g [.c 5 0] (.block 0 (.loop [0,3,5] [] B147_0))) (.g [.c 4 (-1)] (.ret [4])))))⟩:=by kernel_rfl
theorem F40:compF Tryz.prog 40=some ⟨14,[.tmp 2],(.g [.s 2 (.mv (.w []))] (.join [0] (.g [.m 3 0,.v 4 .geq 3 15] (.i 4 (.g [.s 5 (.f 91 []),.m 6 0,.v 7 .sub 6 15,.r 8 1 5 7,.l 9 8,.m 2 9] (.ret [2])) .skip)) (.g [.s 10 (.f 92 []),.m 11 0,.r 12 1 10 11,.l 13 12,.m 2 13] (.ret [2]))))⟩:=by kernel_rfl
theorem F92:compF Tryz.prog 92=some ⟨2,[.tmp 0],(.g [.s 0 (.mv (.c .nils))] (.g [.s 1 (.bslice 9 1 [(.w [105,110,116,101,110,115,105,116,121]),(.w [112,97,110]),(.w [116,105,108,116]),(.w [114,101,100]),(.w [103,114,101,101,110]),(.w [98,108,117,101]),(.w [119,104,105,116,101]),(.w [97,109,98,101,114]),(.w [99,121,97,110]),(.w [109,97,103,101,110,116,97]),(.w [121,101,108,108,111,119]),(.w [103,111,98,111]),(.w [115,104,117,116,116,101,114]),(.w [122,111,111,109]),(.w [102,111,99,117,115])]),.m 0 1] (.ret [0])))⟩:=by kernel_rfl
theorem F3:compF Tryz.prog 3=some ⟨45,[.tmp 6],(.g [.q 3 31 0,.k 6 false] (.z [3] (.join [1,2,3] (.join [1,2,3,18] (.reg [.d 11 9 3,.f 12 4 11,.z 13 12,.m 14 13,.mx 15 2 14,.x 16 (.lens (.t 15)) 14,.vx 17 .gtr 16 100 14,.o 18 14 17]) (.i 18 (.g [.s 19 (.f 5 []),.m 6 19] (.ret [6])) .skip)) (.g [.d 21 9 3,.m 22 1,.m 23 2,.s 24 (.f 6 [.t 21,.t 22,.t 23]),.m 20 24,.j 25 0 20,.j 26 1 20,.m 7 25,.m 8 26] (.g [.d 28 9 3,.m 29 1,.m 30 2,.s 31 (.f 7 [.t 28,.t 29,.t 30]),.m 27 31,.j 32 0 27,.j 33 1 27,.m 9 32,.m 10 33] (.join [6] (.reg [.m 34 7,.m 35 9,.g' 36 8 34 35,.m 37 36,.my 38 8 37,.my 39 10 37,.by' 40 .eql 38 39 37,.e 41 37 40,.m 42 41,.y 43 (.f 5 []) 42,.e 44 42 43,.m 6 44]) (.ret [6])))))))⟩:=by kernel_rfl
end Go.Proofs.YtkpcomdhdjihlaaGreatDoor

namespace Go.Proofs.YtkpcomdhdjihlaaGreatDoor
open Go.Sha
set_option maxRecDepth 100000
variable {g:List (Nat×Obj)}{n:Nat}{s:Sho}{x:Lst}{p:Prm}
def plF (p:Prm)(q:Mov):Bool:=decide (q.prm.chan=p.chan)&&decide (q.prm.attr=p.attr)
theorem L147 {l:List Mov}(hl:l.length<140737488355328):∀r j,l.drop j=r→runL Tryz.prog HH [0,3,5] n B147_0 [(0,.sl (l.map Mov.v)),(3,.ep p.v 0),(5,.int .i64 j)] (stN g n)=lpI (stN g n) [] 4 (ix (plF p) r j):=by
 refine drop_ind (fun j h=>?_) (fun q r j h hx hd ih=>?_)
 all_goals rw[runL_of B147_0.eq_1]
 ·have h1:¬(j:Int)<l.length:=by omega
  push_cast[h1,ix,plF,decide_eq_true_eq,Mov.v,Prm.v]
 ·have h1:(j:Int)<l.length:=by omega
  have hw:=iw1 (j:=j) (by omega)
  push_cast[h1,hw,hx,Mov.v,Prm.v]at ih ⊢
  simp only[ih,ix,plF,decide_eq_true_eq,lps,Int.reduceEq,not_false_eq_true]
  all_goals first|with_reducible rfl|exact dn_eq (by omega) (by with_reducible rfl)|((repeat' split)<;>(try simp_all)<;>(try (with_reducible refine dn_eq ?_ ?_<;>first|trivial|omega|rfl))<;>(try omega))
  all_goals (rename_i h;rw[if_neg (fun e=>h e.1 e.2)])
theorem f147 {l:List Mov}(hl:l.length<140737488355328){st:St}:run Tryz.prog HH 147 [.sl (l.map Mov.v),p.v] st=some (.ret (.int .i64 (ix (plF p) l 0)),st):=by
 rw[run_shut F147 rfl rfl (by simp)]
 have hL0:=fun n=>L147 (g:=st.x.gl) (n:=n) (p:=p) hl _ 0 rfl
 push_cast[Mov.v,Prm.v]at hL0
 push_cast[Mov.v,Prm.v,hL0,lpE,lpX,lpI,lpB]
 all_goals first|with_reducible rfl|exact dn_eq (by omega) (by with_reducible rfl)|((repeat' split)<;>(try simp_all)<;>(try (with_reducible refine dn_eq ?_ ?_<;>first|trivial|omega|rfl))<;>(try omega))
theorem mov_ix {l:List Mov}:(movF l p=none∧ix (plF p) l 0=-1)∨∃(k:Nat) (q:Mov),movF l p=some q.val∧ix (plF p) l 0=k∧k<l.length∧∀d,l.getD k d=q:=by
 have e:movF l p=(l.find? (plF p)).map (·.val):=rfl
 cases h:l.find? (plF p) with
 |none=>exact .inl ⟨by rw[e,h];rfl,(ix_find (j:=0)).1 h⟩
 |some q =>
  obtain⟨k,k1,k2,k3⟩:=(ix_find (j:=0)).2 q h
  exact .inr ⟨k,q,by rw[e,h];rfl,by rw[k1,Nat.zero_add],k2,k3⟩
def srcI (l:List Cu)(p:Prm):Nat→Int
 |0=>-1
 |k+1=>if ix (plF p) (l.getD k default).moves 0=-1 then(if(l.getD k default).block then -1 else srcI l p k) else k
theorem L145 (hl:x.cues.length≤64)(hm:∀c∈x.cues,c.moves.length<140737488355328):∀k:Nat,k≤x.cues.length →
  (∀n,runL Tryz.prog HH [3,5,7] n B145_0 [(3,.ep x.v 0),(5,.ep p.v 0),(7,.int .i64 ((k:Int)-1))] (stN g n)=some (.ret,[(6,.int .i64 (srcI x.cues p k))],stN g n)) ∨
  (srcI x.cues p k=-1∧∀n,runL Tryz.prog HH [3,5,7] n B145_0 [(3,.ep x.v 0),(5,.ep p.v 0),(7,.int .i64 ((k:Int)-1))] (stN g n)=some (.exit 0,[],stN g n))
 |0,_=>by
  have h0:¬(0:Int)≤((0:Nat):Int)-1:=by decide
  refine .inr ⟨rfl,fun n=>?_⟩
  rw[runL_of B145_0.eq_1]
  push_cast[h0]
 |k+1,hk=>by
  have ih:=L145 hl hm k (by omega)
  have hx:∀d,x.cues.getD k d=x.cues[k]:=fun d=>by rw[List.getD_eq_getElem?_getD,List.getElem?_eq_getElem (by omega)];rfl
  have hc:=hm _ (List.getElem_mem (show k<x.cues.length by omega))
  rw[srcI,hx default]
  generalize x.cues[k]=c at *
  have h1:(k:Int)<x.cues.length:=by omega
  have hw:IntKind.i64.wrap ((k:Int)-1)=(k:Int)-1:=iwrap (by omega) (by omega)
  have e1:=fun(st:St)=>f147 (l:=c.moves) (p:=p) (st:=st) hc
  rw[show((k+1:Nat):Int)-1=(k:Int) by omega]
  rcases mov_ix (l:=c.moves) (p:=p) with⟨_,hi⟩|⟨i,q,_,hi,_,_⟩
  ·rw[hi]at e1
   rw[hi,if_pos rfl]
   push_cast[Mov.v,Prm.v]at e1
   cases hb:c.block with
   |true =>
    refine .inl fun n=>?_
    rw[runL_of B145_0.eq_1]
    push_cast[h1,hx,e1,hb,Lst.v,Cu.v,Mov.v,Prm.v]
   |false =>
    rw[if_neg (by simp)]
    refine ih.imp (fun ih n=>?_) fun ih=>⟨ih.1,fun n=>?_⟩
    ·have ih:=ih n
     rw[runL_of B145_0.eq_1]
     push_cast[Lst.v,Cu.v,Mov.v,Prm.v]at ih
     push_cast[h1,hw,hx,e1,hb,ih,Lst.v,Cu.v,Mov.v,Prm.v]
    ·have ih:=ih.2 n
     rw[runL_of B145_0.eq_1]
     push_cast[Lst.v,Cu.v,Mov.v,Prm.v]at ih
     push_cast[h1,hw,hx,e1,hb,ih,Lst.v,Cu.v,Mov.v,Prm.v]
  ·rw[hi]at e1
   rw[hi,if_neg (by omega)]
   refine .inl fun n=>?_
   rw[runL_of B145_0.eq_1]
   push_cast[Mov.v,Prm.v]at e1
   push_cast[h1,hx,e1,Lst.v,Cu.v,Mov.v,Prm.v]
theorem f145 {k:Nat}(hl:x.cues.length≤64)(hm:∀c∈x.cues,c.moves.length<140737488355328)(hk:k<x.cues.length){st:St}:run Tryz.prog HH 145 [x.v,.int .i64 k,p.v] st=some (.ret (.int .i64 (srcI x.cues p (k+1))),st):=by
 have hL:=L145 (g:=st.x.gl) (p:=p) hl hm (k+1) (by omega)
 rw[show((k+1:Nat):Int)-1=(k:Int) by omega]at hL
 generalize srcI x.cues p (k+1)=z at *
 rw[run_shut F145 rfl rfl (by simp)]
 rcases hL with hL|⟨rfl,hL⟩
 ·push_cast[Lst.v,Prm.v]at hL
  push_cast[hL,Lst.v,Prm.v]
 ·push_cast[Lst.v,Prm.v]at hL
  push_cast[hL,Lst.v,Prm.v]
theorem src_val {l:List Cu}:∀k,(srcI l p (k+1)=-1∧valF l p k=⟨-1,0⟩)∨∃i:Nat,srcI l p (k+1)=i∧i≤k∧movF (l.getD i default).moves p=some (valF l p k)
 |0=>by
  rw[srcI,valF]
  rcases mov_ix (l:=(l.getD 0 default).moves) (p:=p) with⟨hm,hi⟩|⟨i,q,hm,hi,_,_⟩
  ·rw[hi,if_pos rfl,hm]
   refine .inl ⟨?_,rfl⟩
   split<;>rfl
  ·rw[hi,if_neg (by omega),hm]
   exact .inr ⟨0,rfl,Nat.le_refl _,hm⟩
 |k+1=>by
  have ih:=src_val (l:=l) k
  rw[srcI,valF]
  rcases mov_ix (l:=(l.getD (k+1) default).moves) (p:=p) with⟨hm,hi⟩|⟨i,q,hm,hi,_,_⟩
  ·rw[hi,if_pos rfl,hm]
   dsimp only
   split
   ·exact .inl ⟨rfl,rfl⟩
   ·rcases ih with h|⟨i,a,b,c⟩
    ·exact .inl h
    ·exact .inr ⟨i,a,by omega,c⟩
  ·rw[hi,if_neg (by omega),hm]
   exact .inr ⟨k+1,rfl,Nat.le_refl _,hm⟩
theorem f146 {st:St}:run Tryz.prog HH 146 [] st=some (.ret (.agg [.int .i64 (-1),.int .i64 0]),st):=by
 rw[run_shut F146 rfl rfl (by simp)]
 push_cast
 all_goals first|with_reducible rfl|exact dn_eq (by omega) (by with_reducible rfl)|((repeat' split)<;>(try simp_all)<;>(try (with_reducible refine dn_eq ?_ ?_<;>first|trivial|omega|rfl))<;>(try omega))
theorem f90 {k:Nat}(hl:x.cues.length≤64)(hm:∀c∈x.cues,c.moves.length<140737488355328)(hk:k<x.cues.length){st:St}:run Tryz.prog HH 90 [x.v,.int .i64 k,p.v] st=some (.ret (valF x.cues p k).v,st):=by
 have e1:=fun(st:St)=>f145 (p:=p) (st:=st) hl hm hk
 have e0:=fun(st:St)=>f146 (st:=st)
 rw[run_shut F90 rfl rfl (by simp)]
 rcases src_val (l:=x.cues) (p:=p) k with⟨h1,h2⟩|⟨i,h1,h2,h3⟩
 ·rw[h1]at e1
  rw[h2]
  push_cast[Lst.v,Prm.v]at e1
  push_cast[e1,e0,Lst.v,Prm.v,Val.v]
 ·rw[h1]at e1
  have hi:i<x.cues.length:=by omega
  have hx:∀d,x.cues.getD i d=x.cues[i]:=fun d=>by rw[List.getD_eq_getElem?_getD,List.getElem?_eq_getElem hi];rfl
  have hc:=hm _ (List.getElem_mem hi)
  rw[hx]at h3
  generalize x.cues[i]=c at *
  have e2:=fun(st:St)=>f147 (l:=c.moves) (p:=p) (st:=st) hc
  have h4:(i:Int)<x.cues.length:=by omega
  rcases mov_ix (l:=c.moves) (p:=p) with⟨hz,_⟩|⟨j,q,hq,hj,hjl,hjx⟩
  ·rw[hz]at h3;cases h3
  ·rw[hq]at h3
   injection h3 with h3
   rw[←h3]
   rw[hj]at e2
   have h5:(j:Int)<c.moves.length:=by omega
   push_cast[Lst.v,Prm.v]at e1
   push_cast[Mov.v,Prm.v]at e2
   have h6:¬(i:Int)<0:=by omega
   push_cast[e1,e2,hx,hjx,h4,h5,h6,Lst.v,Cu.v,Mov.v,Prm.v,Val.v]
theorem f39 {k:Nat}(h:s.ok)(hs:shoC s=0)(hl:x.cues.length≤64)(hm:∀c∈x.cues,c.moves.length<140737488355328)(hk:k<x.cues.length){st:St}:run Tryz.prog HH 39 [s.v,x.v,.int .i64 k,p.v] st=some (.ret (.int .i64 (lvV s.pals (valF x.cues p k) p ((ownR s p).getD F0).home)),st):=by
 have e1:=fun(st:St)=>f90 (p:=p) (st:=st) hl hm hk
 have e2:=fun(st:St)=>f89 (p:=p) (v:=valF x.cues p k) (st:=st) h hs
 generalize valF x.cues p k=w at *
 generalize lvV s.pals w p ((ownR s p).getD F0).home=z at *
 rw[run_shut F39 rfl rfl (by simp)]
 push_cast[Sho.v,Lst.v,Prm.v,Val.v]at e1 e2
 push_cast[e1,e2,Sho.v,Lst.v,Prm.v,Val.v]
end Go.Proofs.YtkpcomdhdjihlaaGreatDoor

namespace Go.Proofs.YtkpcomdhdjihlaaGreatDoor
open Go.Sha
set_option maxRecDepth 100000
variable {g:List (Nat×Obj)}{n:Nat}
theorem dig1:∀r:Fin 10,((Lib.itoa (1000+((r.val:Int)*100))).drop 1).take 1=decT r.val 1:=by decide +kernel
theorem dig2:∀r:Fin 100,((Lib.itoa (1000+((r.val:Int)*10))).drop 1).take 2=decT r.val 2:=by decide +kernel
theorem dig3:∀r:Fin 1000,((Lib.itoa (1000+((r.val:Int)*1))).drop 1).take 3=decT r.val 3:=by decide +kernel
theorem f88 {m:Int}(h0:0≤m)(h1:m≤1000000){st:St}:run Tryz.prog HH 88 [.int .i64 m] st=some (.ret (.int .i64 (ofL m)),st):=by
 have w1:IntKind.i64.wrap (65535*m)=65535*m:=iwrap (by omega) (by omega)
 have w2:IntKind.i64.wrap (65535*m+50000)=65535*m+50000:=iwrap (by omega) (by omega)
 have t1:(65535*m+50000).tdiv 100000=(65535*m+50000) / 100000:=Int.tdiv_eq_ediv_of_nonneg (by omega)
 have w3:IntKind.i64.wrap ((65535*m+50000) / 100000)=(65535*m+50000) / 100000:=iwrap (by omega) (by omega)
 rw[run_shut F88 rfl rfl (by simp)]
 push_cast[w1,w2,t1,w3,ofL]
theorem len4:∀r:Fin 1000,(Lib.itoa (1000+(r.val:Int))).length=4:=by decide +kernel
theorem decT1 {m:Int}(h0:0≤m)(h:m<2100):decT m 1=Lib.itoa m:=by
 have:=(numOk_at h0 h).1
 have:1-(Lib.itoa m).length=0:=by cases hi:Lib.itoa m with|nil=>exact absurd hi this|cons a r=>simp
 rw[decT,this];rfl
theorem wN_rng {v u:Int}{d:Nat}(h0:0≤v)(h1:v≤65535)(hu:Unt u d):0≤wN v u∧wN v u*u≤100000:=by
 rcases hu with⟨rfl,_⟩|⟨rfl,_⟩|⟨rfl,_⟩|⟨rfl,_⟩<;>(unfold wN;omega)
theorem fin_at {b:Nat}{r:Int}(h0:0≤r)(h1:r<b):∃f:Fin b,(f.val:Int)=r:=⟨⟨r.toNat,by omega⟩,Int.toNat_of_nonneg h0⟩
theorem tx_eq {v u q:Int}{d:Nat}(h0:0≤v)(h1:v≤65535)(hu:Unt u d)(hq:q=wN v u*u):Lib.itoa (q / 1000)++(if 0<d then 46::(((Lib.itoa (1000+q % 1000)).drop 1).take d) else[])=wT v u d:=by
 obtain⟨a,b⟩:=wN_rng h0 h1 hu
 unfold wT
 generalize wN v u=w at *
 rcases hu with⟨rfl,rfl⟩|⟨rfl,rfl⟩|⟨rfl,rfl⟩|⟨rfl,rfl⟩
 ·rw[decT1 (by omega) (by omega),show q / 1000=w / (1000 / 1000) by omega,if_neg (by decide),if_neg (by decide)]
 ·obtain⟨f,hf⟩:=fin_at (b:=10) (r:=w % (1000 / 100)) (by omega) (by omega)
  rw[decT1 (by omega) (by omega),show q / 1000=w / (1000 / 100) by omega,if_pos (by decide),if_pos (by decide),show q % 1000=w % (1000 / 100)*100 by omega,←hf,dig1]
 ·obtain⟨f,hf⟩:=fin_at (b:=100) (r:=w % (1000 / 10)) (by omega) (by omega)
  rw[decT1 (by omega) (by omega),show q / 1000=w / (1000 / 10) by omega,if_pos (by decide),if_pos (by decide),show q % 1000=w % (1000 / 10)*10 by omega,←hf,dig2]
 ·obtain⟨f,hf⟩:=fin_at (b:=1000) (r:=w % (1000 / 1)) (by omega) (by omega)
  rw[decT1 (by omega) (by omega),show q / 1000=w / (1000 / 1) by omega,if_pos (by decide),if_pos (by decide),show q % 1000=w % (1000 / 1)*1 by omega,←hf,dig3]
theorem L67_hit {v u:Int}{d:Nat}(h0:0≤v)(h1:v≤65535)(hu:Unt u d)(hv:ofL (wN v u*u)=v):∀(m:Nat) (q:Int),0≤q→q+u*m=wN v u*u →
  runL Tryz.prog HH [0,3,4,5] n B38_0 [(0,.int .i64 v),(3,.int .i64 u),(4,.int .i64 d),(5,.int .i64 q)] (stN g n)=some (.ret,[(2,.str (wT v u d))],stN g n):=by
 obtain⟨a,b⟩:=wN_rng h0 h1 hu
 have hu1:1≤u∧u≤1000∧d≤3:=by rcases hu with⟨rfl,rfl⟩|⟨rfl,rfl⟩|⟨rfl,rfl⟩|⟨rfl,rfl⟩<;>omega
 intro m
 induction m with
 |zero =>
  intro q hq0 hq
  have hq:q=wN v u*u:=by rw[←hq];simp
  rw[←hq]at hv b
  have e1:=fun(st:St)=>f88 (m:=q) (st:=st) hq0 (by omega)
  rw[hv]at e1
  rw[←tx_eq h0 h1 hu hq]
  have t1:q.tdiv 1000=q / 1000:=Int.tdiv_eq_ediv_of_nonneg hq0
  have t2:q.tmod 1000=q % 1000:=Int.tmod_eq_emod_of_nonneg hq0
  have w1:IntKind.i64.wrap (q / 1000)=q / 1000:=iwrap (by omega) (by omega)
  have w2:IntKind.i64.wrap (q % 1000)=q % 1000:=iwrap (by omega) (by omega)
  have w3:IntKind.i64.wrap (1000+q % 1000)=1000+q % 1000:=iwrap (by omega) (by omega)
  have w4:IntKind.i64.wrap (1+(d:Int))=((1+d:Nat):Int):=by rw[iwrap (by omega) (by omega)];omega
  have e2:=fun(st:St)=>f87 (m:=q / 1000) (st:=st) (by omega) (by omega)
  have e3:=fun(st:St)=>f87 (m:=1000+q % 1000) (st:=st) (by omega) (by omega)
  obtain⟨f,hf⟩:=fin_at (b:=1000) (r:=q % 1000) (by omega) (by omega)
  have hl:=len4 f
  rw[hf]at hl
  have l2:=Lib.itoa_length_le (q / 1000) (by omega) (by omega)
  generalize Lib.itoa (q / 1000)=x1 at *
  generalize Lib.itoa (1000+q % 1000)=x2 at *
  clear hf
  have hdt:(x2.drop 1).take d=(x2.take (1+d)).drop 1:=by rw[List.drop_take];congr 1;omega
  rw[runL_of B38_0.eq_1]
  by_cases hd:0<d
  ·have hd1:(0:Int)<d:=by omega
   have hd2:(1:Int)≤((1+d:Nat):Int):=by omega
   have hd3:((1+d:Nat):Int)≤x2.length:=by omega
   rw[if_pos hd,hdt]
   push_cast[b,e1,hd1,t1,t2,w1,w2,w3,w4,e2,e3,hl,hd2,hd3]
   have hT:(1+(d:Int)).toNat=1+d:=by omega
   have hl3:(List.drop 1 (List.take (1+d) x2)).length≤4:=by simp;omega
   rw[hT]
   exact dn_eq ⟨by omega,by omega,by omega⟩ rfl
  ·have hd1:¬(0:Int)<d:=by omega
   rw[if_neg hd,List.append_nil]
   push_cast[b,e1,hd1,t1,w1,e2]
 |succ m ih =>
  intro q hq0 hq
  have hq':q+u+u*m=wN v u*u:=by rw[←hq];push_cast;rw[Int.mul_add];omega
  have hum:0≤u*(m:Int):=Int.mul_nonneg (by omega) (by omega)
  have ih:=ih (q+u) (by omega) hq'
  have hn:¬ofL q=v:=by
   clear ih hv
   unfold wN at *
   unfold ofL
   rcases hu with⟨rfl,_⟩|⟨rfl,_⟩|⟨rfl,_⟩|⟨rfl,_⟩<;>omega
  have e1:=fun(st:St)=>f88 (m:=q) (st:=st) hq0 (by omega)
  have h2:q≤100000:=by omega
  have w1:IntKind.i64.wrap (q+u)=q+u:=iwrap (by omega) (by omega)
  rw[runL_of B38_0.eq_1]
  push_cast at ih
  push_cast[h2,e1,hn,w1,ih]
theorem miss_ne {v u q:Int}{d j:Nat}(h0:0≤v)(h1:v≤65535)(hu:Unt u d)(hv:¬ofL (wN v u*u)=v)(hq:q=u*j):¬ofL q=v:=by
 by_cases hc:q<wN v u*u
 ·clear hv
  unfold wN at *
  unfold ofL
  rcases hu with⟨rfl,_⟩|⟨rfl,_⟩|⟨rfl,_⟩|⟨rfl,_⟩<;>omega
 ·have h2:v≤ofL (wN v u*u):=by
   clear hv hc hq
   unfold wN ofL
   rcases hu with⟨rfl,_⟩|⟨rfl,_⟩|⟨rfl,_⟩|⟨rfl,_⟩<;>omega
  have h3:ofL (wN v u*u)≤ofL q:=by
   unfold ofL
   exact Int.ediv_le_ediv (by decide) (by omega)
  omega
theorem L67_miss {v u:Int}{d:Nat}(h0:0≤v)(h1:v≤65535)(hu:Unt u d)(hv:¬ofL (wN v u*u)=v):∀(m j:Nat) (q:Int),q=u*j→u*j+u*m=100000+u →
  runL Tryz.prog HH [0,3,4,5] n B38_0 [(0,.int .i64 v),(3,.int .i64 u),(4,.int .i64 d),(5,.int .i64 q)] (stN g n)=some (.exit 2,[(0,.int .i64 v),(3,.int .i64 u),(4,.int .i64 d)],stN g n):=by
 obtain⟨a,b⟩:=wN_rng h0 h1 hu
 have hu1:1≤u∧u≤1000∧d≤3:=by rcases hu with⟨rfl,rfl⟩|⟨rfl,rfl⟩|⟨rfl,rfl⟩|⟨rfl,rfl⟩<;>omega
 intro m
 induction m with
 |zero =>
  intro j q hq hj
  have h2:¬q≤100000:=by simp at hj;omega
  rw[runL_of B38_0.eq_1]
  push_cast[h2]
 |succ m ih =>
  intro j q hq hj
  have hq':u*((j+1:Nat):Int)+u*m=100000+u:=by rw[←hj];push_cast;rw[Int.mul_add,Int.mul_add];omega
  have hq2:q+u=u*((j+1:Nat):Int):=by rw[hq];push_cast;rw[Int.mul_add];omega
  have hum:0≤u*(m:Int):=Int.mul_nonneg (by omega) (by omega)
  have huj:0≤u*(j:Int):=Int.mul_nonneg (by omega) (by omega)
  have ih:=ih (j+1) (q+u) hq2 hq'
  have h2:q≤100000:=by omega
  have hn:=miss_ne h0 h1 hu hv hq
  have e1:=fun(st:St)=>f88 (m:=q) (st:=st) (by omega) (by omega)
  have w1:IntKind.i64.wrap (q+u)=q+u:=iwrap (by omega) (by omega)
  rw[runL_of B38_0.eq_1]
  push_cast at ih
  push_cast[h2,e1,hn,w1,ih]
theorem f38 {v:Int}(h0:0≤v)(h1:v≤65535){st:St}:run Tryz.prog HH 38 [.int .i64 v] st=some (.ret (.str (txtL v)),st):=by
 have z:∀{u:Int}{d:Nat},Unt u d→ofL (wN v u*u)=v→∀n,runL Tryz.prog HH [0,3,4,5] n B38_0 [(0,.int .i64 v),(3,.int .i64 u),(4,.int .i64 d),(5,.int .i64 0)] (stN st.x.gl n)=some (.ret,[(2,.str (wT v u d))],stN st.x.gl n):=fun {u d} hu hv n=>by
  have hr:=wN_rng h0 h1 hu
  refine L67_hit h0 h1 hu hv (wN v u).toNat 0 (Int.le_refl _) ?_
  rw[Int.toNat_of_nonneg hr.1,Int.zero_add,Int.mul_comm]
 have y:∀{u:Int}{d:Nat},Unt u d→¬ofL (wN v u*u)=v→∀n,runL Tryz.prog HH [0,3,4,5] n B38_0 [(0,.int .i64 v),(3,.int .i64 u),(4,.int .i64 d),(5,.int .i64 0)] (stN st.x.gl n)=some (.exit 2,[(0,.int .i64 v),(3,.int .i64 u),(4,.int .i64 d)],stN st.x.gl n):=fun {u d} hu hv n=>by
  refine L67_miss h0 h1 hu hv (100000 / u+1).toNat 0 0 (by simp) ?_
  rcases hu with⟨rfl,_⟩|⟨rfl,_⟩|⟨rfl,_⟩|⟨rfl,_⟩<;>rfl
 have u1:Unt 1000 0:=.inl ⟨rfl,rfl⟩
 have u2:Unt 100 1:=.inr (.inl ⟨rfl,rfl⟩)
 have u3:Unt 10 2:=.inr (.inr (.inl ⟨rfl,rfl⟩))
 have u4:Unt 1 3:=.inr (.inr (.inr ⟨rfl,rfl⟩))
 have w1:IntKind.i64.wrap ((1000:Int).tdiv 10)=100:=by decide
 have w2:IntKind.i64.wrap ((100:Int).tdiv 10)=10:=by decide
 have w3:IntKind.i64.wrap ((10:Int).tdiv 10)=1:=by decide
 unfold txtL
 rw[run_shut F38 rfl rfl (by simp)]
 by_cases hv:v=65535
 ·subst hv
  push_cast
 ·by_cases b1:ofL (wN v 1000*1000)=v
  ·have a1:=z u1 b1
   generalize wT v 1000 0=t1 at *
   push_cast at a1
   push_cast[hv,b1,a1,runL_of B38_1.eq_1]
  ·have a1:=y u1 b1
   by_cases b2:ofL (wN v 100*100)=v
   ·have a2:=z u2 b2
    generalize wT v 100 1=t2 at *
    push_cast at a1 a2
    push_cast[hv,b1,b2,a1,a2,w1,runL_of B38_1.eq_1]
   ·have a2:=y u2 b2
    by_cases b3:ofL (wN v 10*10)=v
    ·have a3:=z u3 b3
     generalize wT v 10 2=t3 at *
     push_cast at a1 a2 a3
     push_cast[hv,b1,b2,b3,a1,a2,a3,w1,w2,runL_of B38_1.eq_1]
    ·have a3:=y u3 b3
     have a4:=z u4 (of_one h0 h1)
     generalize wT v 1 3=t4 at *
     push_cast at a1 a2 a3 a4
     push_cast[hv,b1,b2,b3,a1,a2,a3,a4,w1,w2,w3,runL_of B38_1.eq_1]
end Go.Proofs.YtkpcomdhdjihlaaGreatDoor

namespace Go.Proofs.YtkpcomdhdjihlaaGreatDoor
open Go.Sha
set_option maxRecDepth 100000
variable {g:List (Nat×Obj)}{n:Nat}{s:Sho}{x:Lst}
theorem L35 {t:List UInt8}(hl:x.cues.length<140737488355328):∀r j,x.cues.drop j=r→runL Tryz.prog HH [1,2,5] n B35_0 [(1,.str t),(2,.ep x.v 0),(5,.int .i64 j)] (stN g n)=lpI (stN g n) [] 4 (ix (fun y=>y.num == t) r j):=by
 refine drop_ind (fun j h=>?_) (fun q r j h hx hd ih=>?_)
 all_goals rw[runL_of B35_0.eq_1]
 ·have h1:¬(j:Int)<x.cues.length:=by omega
  push_cast[h1,ix,beq_iff_eq,Lst.v,Cu.v]
 ·have h1:(j:Int)<x.cues.length:=by omega
  have hw:=iw1 (j:=j) (by omega)
  push_cast[h1,hw,hx,Lst.v,Cu.v]at ih ⊢
  simp only[ih,ix,beq_iff_eq,lps,Int.reduceEq,not_false_eq_true]
theorem f35 {t:List UInt8}(hl:x.cues.length<140737488355328){st:St}:run Tryz.prog HH 35 [x.v,.str t] st=some (.ret (.int .i64 (ix (fun y=>y.num == t) x.cues 0)),st):=by
 rw[run_shut F35 rfl rfl (by simp)]
 have hL0:=fun n=>L35 (g:=st.x.gl) (n:=n) (t:=t) hl _ 0 rfl
 push_cast[Lst.v,Cu.v]at hL0
 push_cast[Lst.v,Cu.v,hL0,lpE,lpX,lpI,lpB]
theorem f40 {k:Nat}(hk:k<15){st:St}:run Tryz.prog HH 40 [.int .i64 k] st=some (.ret (.str (wrdA k)),st):=by
 have e1:∀st:St,run Tryz.prog HH 92 [] st=some (.ret (.sl ((List.range 15).map fun i=>.str (wrdA i))),st):=fun st=>by
  rw[run_shut F92 rfl rfl (by simp)]
  push_cast
  rfl
 have hx:∀d,((List.range 15).map wrdA).getD k d=wrdA k:=fun d=>by
  rw[List.getD_eq_getElem?_getD,List.getElem?_map,List.getElem?_range hk];rfl
 have hl:((List.range 15).map wrdA).length=15:=by simp
 have he:((List.range 15).map fun i=>V.str (wrdA i))=((List.range 15).map wrdA).map V.str:=by rw[List.map_map];rfl
 rw[he]at e1
 generalize (List.range 15).map wrdA=l at *
 generalize wrdA k=w at *
 have h1:¬(15:Int)≤k:=by omega
 have h2:(k:Int)<15:=by omega
 rw[run_shut F40 rfl rfl (by simp)]
 push_cast[h1,e1,h2,hx,hl]
end Go.Proofs.YtkpcomdhdjihlaaGreatDoor

namespace Go.Proofs.YtkpcomdhdjihlaaGreatDoor
open Go.Sha Go.RowKit
set_option maxRecDepth 100000
variable {g:List (Nat×Obj)}{n:Nat}{s:Sho}{x:Lst}{a:Nat}
structure ParR (s:Sho) (x:Lst) (a:Nat) (p:Prm) (lev:Int) (dig txt wrd:List UInt8):Prop where
 r68:∀st,run Tryz.prog HH 39 [s.v,x.v,.int .i64 a,p.v] st=some (.ret (.int .i64 lev),st)
 r67:∀st,run Tryz.prog HH 38 [.int .i64 lev] st=some (.ret (.str txt),st)
 r69:∀st,run Tryz.prog HH 40 [.int .i64 p.attr] st=some (.ret (.str wrd),st)
 r56:∀st,run Tryz.prog HH 37 [.int .i64 p.chan] st=some (.ret (.str dig),st)
 lt:txt.length≤1000
 lw:wrd.length≤1000
abbrev eHR (s:Sho)(x:Lst)(a:Nat)(ps:List Prm)(k j:Nat):Env:=[(3,.ep s.v 0),(11,.ep x.v 0),(12,.int .i64 a),(13,.osl 3 k),(14,.sl (ps.map Prm.v)),(15,.int .i64 j)]
abbrev eLR (s:Sho)(x:Lst)(a:Nat)(ps:List Prm)(k j:Nat)(p:Prm):Env:=[(3,.ep s.v 0),(11,.ep x.v 0),(12,.int .i64 a),(13,.osl 3 k),(14,.sl (ps.map Prm.v)),(15,.int .i64 j),(16,.ep p.v 0)]
abbrev L1R:List Nat:=[3,11,12,13,14,15]
abbrev L2R:List Nat:=[3,11,12,13,14,15,16]
def arrR (rid:Nat)(y:Sht):List (Nat×Arr):=match y.op with
 |none=>[(3,⟨58,1,y.cl.map rowV,false,false⟩)]
 |some r=>[(rid,⟨9,1,[.str r.1,.str r.2.1,.str r.2.2],true,false⟩),(3,⟨58,1,y.cl.map rowV++[.osl rid 3],false,false⟩)]
def stR' (g:List (Nat×Obj))(N rid:Nat)(y:Sht):St:=⟨N,[],arrR rid y,⟨[],g,[]⟩⟩
def Y16:Cd:=(.g [.m 77 13,.m 78 13,.u 79 78,.v 80 .sub 79 1,.r 81 1 77 80,.l 82 81,.m 17 82] (.g [.d 83 9 3,.d 84 3 11,.m 85 12,.d 86 2 16,.s 87 (.f 39 [.t 83,.t 84,.t 85,.t 86]),.f 88 38 87,.m 18 88] (.join [3,11,12,13,14,15,16,17,18] (.g [.a 89 1 16,.l 90 89,.v 91 .eql 90 0] (.i 91 (.g [.m 92 17,.m 93 18,.s 94 (.iadr 1 (.t 92) (.i 1)),.w 1 94 93] (.exit [3,11,12,13,14,15] 1)) .skip)) (.join [3,11,12,13,14,15,16,17,18] (.g [.m 95 17,.s 96 (.iadr 1 (.t 95) (.i 2)),.l 97 96,.s 98 (.bin .neq (.t 97) (.w []))] (.i 98 (.reg [.m 99 17,.s 100 (.iadr 1 (.t 99) (.i 2)),.l 101 100,.s 102 (.bin .add (.t 101) (.w [44,32])),.s 103 (.iadr 1 (.t 99) (.i 2)),.w 1 103 102]) .skip)) (.dreg 11 [.m 104 17,.s 105 (.iadr 1 (.t 104) (.i 2)),.l 106 105,.a 107 1 16,.l 108 107,.f 109 40 108,.s 110 (.bin .add (.t 109) (.w [32])),.m 111 18,.b 112 .add 110 111,.b 113 .add 106 112,.s 114 (.iadr 1 (.t 104) (.i 2)),.w 1 114 113])))))
theorem run_Y16 {p:Prm}{ps:List Prm}{lev:Int}{dig txt wrd c i t:List UInt8}{N rid k j:Nat}{X:List V}(h:ParR s x a p lev dig txt wrd)(hr:rid≠3)(hX:X.length=k+1)(hk:k<100000)(hg:X.getD k .und=.osl rid 3)(ht:t.length≤10000000000) :
  ∃y e',runC Tryz.prog HH Y16 (eLR s x a ps (k+1) j p) ⟨N,[],[(rid,⟨9,1,[.str c,.str i,.str t],true,false⟩),(3,⟨58,1,X,false,false⟩)],⟨[],g,[]⟩⟩
   = some (y,e',⟨N,[],[(rid,⟨9,1,(rowM p c i t wrd txt).map .str,true,false⟩),(3,⟨58,1,X,false,false⟩)],⟨[],g,[]⟩⟩)∧(y=.normal∨y=.exit 1) ∧
   restr L1R e'=eHR s x a ps (k+1) j:=by
 have h68:=h.r68
 have h67:=h.r67
 have h69:=h.r69
 have hlt:=h.lt
 have hlw:=h.lw
 have hr':¬3=rid:=fun e=>hr e.symm
 have hw:IntKind.i64.wrap ((k:Int)+1-1)=(k:Int):=by rw[iwrap (by omega) (by omega)];omega
 have hkl:(k:Int)<k+1:=by omega
 generalize hz:runC Tryz.prog HH Y16 _ _=z
 rw[Y16]at hz
 by_cases ha:p.attr=0
 ·push_cast[Sho.v,Lst.v,Prm.v,Val.v,ha]at h68 h67 h69
  push_cast[Sho.v,Lst.v,Prm.v,Val.v,h68,h67,h69,hr,hr',hX,hw,hkl,hg,ha,List.set_cons_succ,List.set_cons_zero]at hz
  subst hz
  exact⟨_,_,by rw[rowM,if_pos ha];rfl,.inr rfl,rfl⟩
 ·push_cast[Sho.v,Lst.v,Prm.v,Val.v]at h68 h67 h69
  by_cases h0:t=[]
  ·push_cast[Sho.v,Lst.v,Prm.v,Val.v,h68,h67,h69,hr,hr',hX,hw,hkl,hg,ha,h0,List.set_cons_succ,List.set_cons_zero]at hz
   have hz:=(dn_eq (by omega) rfl).symm.trans hz
   subst hz
   exact⟨_,_,by rw[rowM,if_neg ha,cell2,if_pos h0];rfl,.inl rfl,rfl⟩
  ·push_cast[Sho.v,Lst.v,Prm.v,Val.v,h68,h67,h69,hr,hr',hX,hw,hkl,hg,ha,h0,List.set_cons_succ,List.set_cons_zero,List.length_cons,List.length_nil,List.getD_cons_succ,List.getD_cons_zero,V.cells]at hz
   have hz:=(dn_eq (by omega) rfl).symm.trans hz
   subst hz
   exact⟨_,_,by rw[rowM,if_neg ha,cell2,if_neg h0];rfl,.inl rfl,rfl⟩
end Go.Proofs.YtkpcomdhdjihlaaGreatDoor

namespace Go.Proofs.YtkpcomdhdjihlaaGreatDoor
open Go.Sha Go.RowKit
set_option maxRecDepth 100000
variable {g:List (Nat×Obj)}{n:Nat}{s:Sho}{x:Lst}{a:Nat}
def dInsR:List Ins:=[.m 70 13,.a 71 0 16,.l 72 71,.f 73 37 72,.s 74 (.bslice 9 1 [.t 73,(.w []),(.w [])]),.s 75 (.bslice 58 1 [.t 74]),.s 76 (.append 58 1 24 (.t 70) (.t 75)),.m 13 76]
theorem newRowR {F:Fr}{p:Prm}{ps:List Prm}{dig:List UInt8}{N k j:Nat}{X:List V}{Q:Post}(hH:ESound Tryz.prog HH)(h56:∀st,run Tryz.prog HH 37 [.int .i64 p.chan] st=some (.ret (.str dig),st))(hN:3<N)(hX:X.length=k)(hk:k<100000)
  (hq:∀e:Env,Sha.look e 13=some (.osl 3 (k+1))→(∀i,i∈[3,11,12,14,15,16]→Sha.look e i=Sha.look (eLR s x a ps k j p) i)→Q .normal e ⟨N+2,[],[(N+1,⟨58,1,[.osl N 3],false,false⟩),(N,⟨9,1,[.str dig,.str [],.str []],true,false⟩),(3,⟨58,1,X++[.osl N 3],false,false⟩)],⟨[],g,[]⟩⟩) :
  WD Tryz.prog F (.reg dInsR) (eLR s x a ps k j p) ⟨N,[],[(3,⟨58,1,X,false,false⟩)],⟨[],g,[]⟩⟩ Q:=by
 refine WD.regR [none,none,none,none,some true,some false,some true,none] ?_
 have hn1:¬N=3:=by omega
 have hn2:¬N+1=3:=by omega
 have hn3:¬N=N+1:=by omega
 have hroom:roomV (k+1) 24=true:=roomV_lit (by omega) (by omega)
 rw[dInsR]
 refine vcR_op rfl (v:=.osl 3 k) rfl ?_
 refine vcR_op rfl (v:=.ep p.v 0) rfl ?_
 refine vcR_op rfl (v:=.int .i64 p.chan) rfl ?_
 refine vcR_call ?_
 show VCalls Tryz.prog 37 [.int .i64 p.chan] _ _
 refine(run_sound mixed hH 37 _ _ _ _ (h56 _)).mono ?_
 rintro _ _ ⟨rfl,rfl⟩
 refine vcR_raw true (v:=.osl N 3) (st':=⟨N+1,[],[(N,⟨9,1,[.str dig,.str [],.str []],true,false⟩),(3,⟨58,1,X,false,false⟩)],⟨[],g,[]⟩⟩) rfl ?_
 refine vcR_raw false (v:=.osl (N+1) 1) (st':=⟨N+2,[],[(N+1,⟨58,1,[.osl N 3],false,false⟩),(N,⟨9,1,[.str dig,.str [],.str []],true,false⟩),(3,⟨58,1,X,false,false⟩)],⟨[],g,[]⟩⟩) ?_ ?_
 ·simp[Sha.stR,bslR,Opd.get,setD,Sha.look,partOk,V.cells,newArr]
 refine vcR_raw true (v:=.osl 3 (k+1)) (st':=⟨N+2,[],[(N+1,⟨58,1,[.osl N 3],false,false⟩),(N,⟨9,1,[.str dig,.str [],.str []],true,false⟩),(3,⟨58,1,X++[.osl N 3],false,false⟩)],⟨[],g,[]⟩⟩) ?_ ?_
 ·have hX':X.length=k:=hX
  simp[Sha.stR,appR,Opd.get,setD,Sha.look,V.cells,elemsV,appG,appA,hn1,hn2,hn3,updA,hroom,hX']
 refine vcR_op rfl (v:=.osl 3 (k+1)) rfl ?_
 refine hq _ rfl (fun i hi=>?_)
 simp only[List.mem_cons,List.not_mem_nil,or_false]at hi
 rcases hi with rfl|rfl|rfl|rfl|rfl|rfl<;>rfl
theorem weLR {e:Env}{ps:List Prm}{k j N:Nat}{p:Prm}(hN:3<N)(h:∀i,i∈L2R→Sha.look e i=Sha.look (eLR s x a ps k j p) i):WeakEnv N e (eLR s x a ps k j p):=by
 intro i v hv
 have hi:i∈L2R:=by
  simp only[Sha.look]at hv
  (repeat' split at hv)<;>first|(cases hv;done)|(rename_i e;rw[←e];simp)
 refine⟨?_,(h i hi).trans hv⟩
 simp only[Sha.look]at hv
 (repeat' split at hv)<;>first
  |(cases hv;done)
  |(cases hv;first|exact sho_bd|exact prms_bd|(simp[V.bd];done)|(simp[V.bd,V.bdL,bdL_map'];done)|(simp[V.bd];omega))
theorem weHR {e:Env}{ps:List Prm}{k j N:Nat}(hN:3<N)(h:∀i,i∈L1R→Sha.look e i=Sha.look (eHR s x a ps k j) i):WeakEnv N e (eHR s x a ps k j):=by
 intro i v hv
 have hi:i∈L1R:=by
  simp only[Sha.look]at hv
  (repeat' split at hv)<;>first|(cases hv;done)|(rename_i e;rw[←e];simp)
 refine⟨?_,(h i hi).trans hv⟩
 simp only[Sha.look]at hv
 (repeat' split at hv)<;>first
  |(cases hv;done)
  |(cases hv;first|exact sho_bd|exact prms_bd|(simp[V.bd];done)|(simp[V.bd,V.bdL,bdL_map'];done)|(simp[V.bd];omega))
theorem weakR4 {N:Nat}{A:List (Nat×Arr)}{X:List V}(hN:3<N)(hA:Sha.look A 3=some ⟨58,1,X,false,false⟩)(hb:V.bdL N X=true):Weak N ⟨N,[],A,⟨[],g,[]⟩⟩ ⟨N,[],[(3,⟨58,1,X,false,false⟩)],⟨[],g,[]⟩⟩ where
 nx:=rfl
 le:=Nat.le_refl _
 mem id cs h:=by cases h
 arr id ar h:=by
  simp only[Sha.look]at h
  split at h
  ·rename_i e;subst e;cases h;exact⟨hN,hA⟩
  ·cases h
 bdm id cs h:=by cases h
 bda id ar h:=by
  simp only[Sha.look]at h
  split at h
  ·cases h;exact hb
  ·cases h
 x:=⟨fun id o h=>(by cases h),rfl,fun id T h=>(by cases h)⟩
 bdx id o h:=by cases h
theorem weakR5 {N rid:Nat}{A:List (Nat×Arr)}{M:List (Nat×List V)}{Y X:List V}(hN:3<N)(hr:rid<N)(hA:Sha.look A 3=some ⟨58,1,X,false,false⟩)(hR:Sha.look A rid=some ⟨9,1,Y,true,false⟩)(hb:V.bdL N X=true)(hb2:V.bdL N Y=true):Weak N ⟨N,M,A,⟨[],g,[]⟩⟩ ⟨N,[],[(rid,⟨9,1,Y,true,false⟩),(3,⟨58,1,X,false,false⟩)],⟨[],g,[]⟩⟩ where
 nx:=rfl
 le:=Nat.le_refl _
 mem id cs h:=by cases h
 arr id ar h:=by
  simp only[Sha.look]at h
  split at h
  ·rename_i e;subst e;cases h;exact⟨hr,hR⟩
  ·split at h
   ·rename_i e;subst e;cases h;exact⟨hN,hA⟩
   ·cases h
 bdm id cs h:=by cases h
 bda id ar h:=by
  simp only[Sha.look]at h
  split at h
  ·cases h;exact hb2
  ·split at h
   ·cases h;exact hb
   ·cases h
 x:=⟨fun id o h=>(by cases h),rfl,fun id T h=>(by cases h)⟩
 bdx id o h:=by cases h
theorem closeRowR {F:Fr}{c:Cd}{e e':Env}{N rid:Nat}{y:Sht}{Q:Post}(hr:rid≠3)(hN:3<N)(hrN:rid<N)(he:WeakEnv N e e')(k:WD Tryz.prog F c e' ⟨N,[],[(3,⟨58,1,y.rows.map rowV,false,false⟩)],⟨[],g,[]⟩⟩ Q):WD Tryz.prog F c e (stR' g N rid y) Q:=by
 unfold stR' arrR
 unfold Sht.rows at k
 cases hx:y.op with
 |none =>
  rw[hx]at k
  simp only[List.append_nil]at k
  exact WD.weak (Nat.le_refl _) (weakR4 hN (by simp[Sha.look]) rowsV_bd) he k
 |some r =>
  rw[hx]at k
  have hr':¬3=rid:=fun e=>hr e.symm
  refine WD.freeze (id:=rid) (ar:=⟨9,1,[.str r.1,.str r.2.1,.str r.2.2],true,false⟩) (by simp[Sha.look]) ?_
  refine WD.snapEl (o:=3) (j:=y.cl.length) (x:=.osl rid 3) (y:=.sl [.str r.1,.str r.2.1,.str r.2.2]) (ro:=⟨58,1,y.cl.map rowV++[.osl rid 3],false,false⟩) (by simp[updA,Sha.look,hr,hr']) (by simp) (by simp[snapA_osl,updA,Sha.look,snapO]) ?_
  refine WD.weak (Nat.le_refl _) (weakR4 (X:=(y.cl++[Trip.row r]).map rowV) hN ?_ rowsV_bd) he k
  simp[updA,Sha.look,hr,hr',List.set_append,Trip.row]
end Go.Proofs.YtkpcomdhdjihlaaGreatDoor

namespace Go.Proofs.YtkpcomdhdjihlaaGreatDoor
open Go.Sha Go.RowKit
set_option maxRecDepth 100000
variable {g:List (Nat×Obj)}{n:Nat}{s:Sho}{x:Lst}{a:Nat}
def c16:Cd:=.dreg 13 [.m 57 15,.v 58 .eql 57 0,.m 59 58,.mx 60 14 59,.mx 61 15 59,.vx 62 .sub 61 1 59,.x 63 (.iadr 2 (.t 60) (.t 62)) 59,.ax 64 0 63 59,.lx 65 64 59,.ax 66 0 16 59,.lx 67 66 59,.bx 68 .neq 65 67 59,.o 69 59 68]
abbrev L3R:List Nat:=[3,11,12,13,14,15,16,69]
def C16:Cd:=.join L3R c16 (.i 69 (.reg dInsR) .skip)
def prvC (ps:List Prm):Nat→Int
 |0=>0
 |i+1=>(ps.getD i default).chan
theorem run_c16 {ps:List Prm}{k j:Nat}{p:Prm}(hj:j<ps.length)(hc0:p.chan≠0)(hlp:ps.length≤50000):∃e,(∀st,runC Tryz.prog HH c16 (eLR s x a ps k j p) st=some (.normal,e,st))∧restr L3R e=eLR s x a ps k j p++[(69,.bool (prvC ps j != p.chan))]:=by
 cases j with
 |zero =>
  have e1:∃e,(∀st,runC Tryz.prog HH c16 (eLR s x a ps k 0 p) st=some (.normal,e,st))∧restr L3R e=eLR s x a ps k 0 p++[(69,.bool true)]:=by
   refine⟨?_,fun st=>?_,?_⟩
   rotate_left
   ·rw[c16]
    push_cast[Sho.v,Lst.v,Prm.v]
    rfl
   ·rfl
  rwa [show(prvC ps 0 != p.chan)=true by simpa [prvC] using fun e:0=p.chan=>hc0 e.symm]
 |succ i =>
  have hx:∀d,ps.getD i d=ps[i]:=fun d=>by rw[List.getD_eq_getElem?_getD,List.getElem?_eq_getElem (by omega)];rfl
  rw[show prvC ps (i+1)=(ps[i]).chan by rw[prvC,hx]]
  generalize ps[i]=q at *
  have hil:(i:Int)<ps.length:=by omega
  have hz:¬((i:Int)+1)=0:=by omega
  have hw:IntKind.i64.wrap ((i:Int)+1-1)=(i:Int):=by rw[iwrap (by omega) (by omega)];omega
  refine⟨?_,fun st=>?_,?_⟩
  rotate_left
  ·rw[c16]
   push_cast[Sho.v,Lst.v,Prm.v,hz,hw,hx,hil]
   rfl
  ·rfl
theorem WD_CR {F:Fr}{p:Prm}{ps:List Prm}{dig:List UInt8}{N rid j:Nat}{y:Sht}{Q:Post}(hH:ESound Tryz.prog HH)(h56:∀st,run Tryz.prog HH 37 [.int .i64 p.chan] st=some (.ret (.str dig),st))(hN:3<N)(hr:3<rid)(hrN:rid<N)(hx:y.rows.length<100000)
  (hj:j<ps.length) (hc0:p.chan≠0) (hlp:ps.length≤50000) (hl:y.last=prvC ps j)
  (hq:∀e N' rid',restr L2R e=eLR s x a ps (openM dig y p).rows.length j p→3<rid'→rid'<N'→N≤N'→∀st',st'.nx=N'→(st'=stR' g N' rid' (openM dig y p)∨Weak N' st' (stR' g N' rid' (openM dig y p)))→Q .normal e st') :
  WD Tryz.prog F C16 (eLR s x a ps y.rows.length j p) (stR' g N rid y) Q:=by
 obtain⟨e1,hrun,hre⟩:=run_c16 (s:=s) (x:=x) (a:=a) (k:=y.rows.length) hj hc0 hlp
 refine WD.join (WD.ev mixed hH (hrun _) ?_)
 show WD _ _ (.i 69 (.reg dInsR) .skip) (restr L3R e1) _ _
 rw[hre,←hl]
 by_cases hc:p.chan=y.last
 ·have e1:openM dig y p=y:=by rw[openM,if_pos hc]
  rw[e1]at hq
  refine WD.cond (t:=false) (by simp[Opd.get,Sha.look,hc]) (fun h=>by cases h) (fun _=>?_)
  refine WD.ev mixed hH (x:=.normal) (e:=eLR s x a ps y.rows.length j p++[(69,.bool (y.last != p.chan))]) (s:=stR' g N rid y) (by push_cast) ?_
  exact hq _ N rid rfl hr hrN (Nat.le_refl _) _ rfl (.inl rfl)
 ·have e1:openM dig y p=⟨y.rows,some (dig,[],[]),p.chan⟩:=by rw[openM,if_neg hc]
  rw[e1]at hq
  have hc':¬y.last=p.chan:=fun e=>hc e.symm
  refine WD.cond (t:=true) (by simp[Opd.get,Sha.look,hc']) (fun _=>?_) (fun h=>by cases h)
  refine closeRowR (e':=eLR s x a ps y.rows.length j p) (by omega) hN hrN (weLR hN (fun i hi=>?_)) ?_
  ·simp only[List.mem_cons,List.not_mem_nil,or_false]at hi
   rcases hi with rfl|rfl|rfl|rfl|rfl|rfl|rfl<;>rfl
  refine newRowR hH h56 hN (by simp) hx (fun e h13 ho=>?_)
  have hn1:¬N=3:=by omega
  have hn3:¬N=2:=by omega
  have hn2:¬N+1=3:=by omega
  refine hq e (N+2) N ?_ hN (by omega) (by omega) _ rfl (.inr ?_)
  ·have h3:=ho 3 (by simp)
   have h11:=ho 11 (by simp)
   have h12:=ho 12 (by simp)
   have h14:=ho 14 (by simp)
   have h15:=ho 15 (by simp)
   have h16:=ho 16 (by simp)
   simp only[restr_s,restr_n,h3,h11,h12,h13,h14,h15,h16]
   simp[Sha.look,Sht.rows,Nat.add_assoc]
  ·refine weakR5 (N:=N+2) (rid:=N) (X:=y.rows.map rowV++[.osl N 3]) (Y:=[.str dig,.str [],.str []]) (by omega) (by omega) ?_ ?_ ?_ ?_
   ·simp[Sha.look,hn1,hn2]
   ·simp[Sha.look]
   ·rw[bdL_append,rowsV_bd];simp[V.bdL,V.bd]
   ·simp[V.bdL,V.bd]
def X16:Cd:=.g [.m 53 14,.m 54 15,.r 55 2 53 54,.d 56 2 55,.s 16 (.alloc 71 [.i 0,.i 0]),.w 2 16 56] (.z [16] (.join L2R C16 Y16))
theorem B16_eq:B7_0=.join L1R (.g [.m 47 15,.m 48 14,.u 49 48,.b 50 .lss 47 49] (.i 50 .skip (.exit [13] 0))) (.join L1R (.block 1 X16) (.reg [.m 51 15,.v 52 .add 51 1,.m 15 52])):=rfl
theorem WD_roundR {F:Fr}{ps:List Prm}{p:Prm}{lev:Int}{dig wrd txt:List UInt8}{N rid j:Nat}{y:Sht}{Q:Post}(hH:ESound Tryz.prog HH)(hP:ParR s x a p lev dig txt wrd)(hc0:p.chan≠0)(hN:3<N)(hr:y.op≠none→3<rid∧rid<N)(h0:y.op=none→y.last=0)
  (hj:j<ps.length) (hp:∀d,ps.getD j d=p) (hlp:ps.length≤50000) (hxl:y.rows.length≤j+1) (ht:∀r,y.op=some r→r.2.2.length≤j*3000) (hl:y.last=prvC ps j)
  (hq:∀(r:Trip) (e:Env) (N' rid':Nat),(openM dig y p).op=some r→3<rid'→rid'<N'→(∀i,i∈L1R→Sha.look e i=Sha.look (eHR s x a ps (openM dig y p).rows.length (j+1)) i) →
   Q .normal e ⟨N',[],arrR rid' ⟨(openM dig y p).cl,some (rowT p r wrd txt),p.chan⟩,⟨[],g,[]⟩⟩) :
  WD Tryz.prog F B7_0 (eHR s x a ps y.rows.length j) (stR' g N rid y) Q:=by
 rw[B16_eq]
 have hjl:(j:Int)<ps.length:=by omega
 have hrun:runC Tryz.prog HH (.join L1R (.g [.m 47 15,.m 48 14,.u 49 48,.b 50 .lss 47 49] (.i 50 .skip (.exit [13] 0))) .skip) (eHR s x a ps y.rows.length j) (stR' g N rid y)=some (.normal,eHR s x a ps y.rows.length j,stR' g N rid y):=by
  push_cast[hjl]
 show WD _ _ (Cd.put (.join L1R (.g [.m 47 15,.m 48 14,.u 49 48,.b 50 .lss 47 49] (.i 50 .skip (.exit [13] 0))) .skip) (.join L1R (.block 1 X16) (.reg [.m 51 15,.v 52 .add 51 1,.m 15 52]))) _ _ _
 refine WD.run mixed hH hrun (WD.join (WD.block ?_))
 have hrun2:∃e,runC Tryz.prog HH (.g [.m 53 14,.m 54 15,.r 55 2 53 54,.d 56 2 55,.s 16 (.alloc 71 [.i 0,.i 0]),.w 2 16 56] (.z [16] .skip)) (eHR s x a ps y.rows.length j) (stR' g N rid y)=some (.normal,e,stR' g (N+1) rid y)∧∀i,i∈L2R→Sha.look e i=Sha.look (eLR s x a ps y.rows.length j p) i:=by
  generalize hz:runC Tryz.prog HH _ _ (stR' g N rid y)=z
  unfold stR' at hz
  push_cast[hjl,hp,Prm.v]at hz
  subst hz
  refine⟨_,rfl,fun i hi=>?_⟩
  simp only[List.mem_cons,List.not_mem_nil,or_false]at hi
  rcases hi with rfl|rfl|rfl|rfl|rfl|rfl|rfl<;>rfl
 obtain⟨e2,hrun2,he2⟩:=hrun2
 show WD _ _ (Cd.put (.g [.m 53 14,.m 54 15,.r 55 2 53 54,.d 56 2 55,.s 16 (.alloc 71 [.i 0,.i 0]),.w 2 16 56] (.z [16] .skip)) (.join L2R C16 Y16)) _ _ _
 refine WD.run mixed hH hrun2 (WD.join ?_)
 refine WD.sub (env':=eLR s x a ps y.rows.length j p) (fun i v hv=>?_) ?_
 ·have hi:i∈L2R:=by
   simp only[Sha.look]at hv
   (repeat' split at hv)<;>first|(cases hv;done)|(rename_i e;rw[←e];simp)
  exact(he2 i hi).trans hv
 obtain⟨rid1,h1,h2,h3⟩:∃rid1,3<rid1∧rid1<N+1∧stR' g (N+1) rid y=stR' g (N+1) rid1 y:=by
  cases ho:y.op with
  |none=>exact⟨4,by omega,by omega,by simp only[stR',arrR,ho]⟩
  |some r=>obtain⟨q1,q2⟩:=hr (by rw[ho];simp);exact⟨rid,q1,by omega,rfl⟩
 rw[h3]
 refine WD_CR hH hP.r56 (by omega) h1 h2 (by omega) hj hc0 hlp hl (fun e N' rid' he hr' hrN' hNN st' hnx hst=>?_)
 show WD _ _ Y16 (restr L2R e) _ _
 rw[he]
 obtain⟨r,hro⟩:=open_some h0 hc0
 have hcl:(openM dig y p).cl.length≤j+1:=by
  unfold openM
  split
  ·have:=hxl;unfold Sht.rows at this;simp at this;omega
  ·exact hxl
 have hrl:r.2.2.length≤j*3000:=by
  unfold openM at hro
  split at hro
  ·exact ht r hro
  ·cases hro;simp
 have hlen:(openM dig y p).rows.length=(openM dig y p).cl.length+1:=by rw[len_some hro];simp
 have goal:WD Tryz.prog F Y16 (eLR s x a ps (openM dig y p).rows.length j p) (stR' g N' rid' (openM dig y p)) (blockPost 1 (seqPost (fun e s=>WD Tryz.prog F (.reg [.m 51 15,.v 52 .add 51 1,.m 15 52]) (restr L1R e) s Q) Q)):=by
  rw[hlen]at hq ⊢
  generalize openM dig y p=y at *
  unfold stR' arrR
  rw[hro]
  dsimp only
  obtain⟨xx,e',hY,hxx,hre⟩:=run_Y16 (g:=g) (N:=N') (rid:=rid') (k:=y.cl.length) (j:=j) (ps:=ps) (c:=r.1) (i:=r.2.1) (t:=r.2.2) (X:=y.cl.map rowV++[.osl rid' 3]) hP (by omega) (by simp) (by omega) (by simp) (by omega)
  refine WD.ev mixed hH hY ?_
  have key:WD Tryz.prog F (.reg [.m 51 15,.v 52 .add 51 1,.m 15 52]) (restr L1R e') ⟨N',[],[(rid',⟨9,1,(rowM p r.1 r.2.1 r.2.2 wrd txt).map .str,true,false⟩),(3,⟨58,1,y.cl.map rowV++[.osl rid' 3],false,false⟩)],⟨[],g,[]⟩⟩ Q:=by
   rw[hre]
   have hw:=iw1 (j:=j) (by omega)
   refine WD.ev mixed hH (x:=.normal) (e:=(15,.int .i64 (j+1:Nat))::(52,.int .i64 (j+1:Nat))::(51,.int .i64 j)::eHR s x a ps (y.cl.length+1) j) (s:=⟨N',[],[(rid',⟨9,1,(rowM p r.1 r.2.1 r.2.2 wrd txt).map .str,true,false⟩),(3,⟨58,1,y.cl.map rowV++[.osl rid' 3],false,false⟩)],⟨[],g,[]⟩⟩) (by push_cast[hw]) ?_
   rw[rowM_T]
   refine hq r _ N' rid' hro hr' hrN' (fun i hi=>?_)
   simp only[List.mem_cons,List.not_mem_nil,or_false]at hi
   rcases hi with rfl|rfl|rfl|rfl|rfl|rfl<;>rfl
  rcases hxx with rfl|rfl
  ·exact key
  ·exact(show ∀(Q1:Post) e s,Q1 .normal e s→blockPost 1 Q1 (.exit 1) e s from fun Q1 e s h=>by simp only[blockPost,if_true];exact h) _ _ _ key
 rcases hst with rfl|hst
 ·exact goal
 ·exact WD.weak (n:=N') (by omega) hst (weLR (by omega) (fun i _=>rfl)) goal
end Go.Proofs.YtkpcomdhdjihlaaGreatDoor

namespace Go.Proofs.YtkpcomdhdjihlaaGreatDoor
open Go.Sha Go.RowKit
set_option maxRecDepth 100000
variable {g:List (Nat×Obj)}{n:Nat}{s:Sho}{x:Lst}{a:Nat}
def post16:Cd:=.g [.m 115 13,.m 6 115,.c 7 0] (.ret [6,7])
def mid16:Cd:=.join [13] (.g [.c 15 0] (.block 0 (.loop [3,11,12,13,14,15] [(13,(58,1))] B7_0))) post16
def pre16:Cd:=(.g [.q 3 31 0,.s 6 (.mv (.c .nils)),.c 7 0] (.z [3] (.g [.d 20 9 3,.m 21 1,.g' 22 33 20 21,.m 19 22,.j 23 0 19,.j 24 1 19,.m 8 23,.m 9 24] (.join [2,3,8] (.g [.m 25 9,.v 26 .neq 25 0] (.i 26 (.g [.m 27 9,.s 6 (.mv (.c .nils)),.m 7 27] (.ret [6,7])) .skip)) (.join [2,3,8] (.g [.m 28 2,.f 29 34 28,.m 10 29] (.g [.m 30 10,.v 31 .neq 30 0] (.i 31 (.g [.m 32 10,.s 6 (.mv (.c .nils)),.m 7 32] (.ret [6,7])) .skip))) (.g [.a 33 6 3,.l 34 33,.m 35 8,.r 36 3 34 35,.d 37 3 36,.s 11 (.alloc 55 [.i 0,.i 0,.nils]),.w 3 11 37] (.z [11] (.g [.d 38 3 11,.m 39 2,.g' 40 35 38 39,.m 12 40] (.join [3,11,12] (.g [.m 41 12,.v 42 .lss 41 0] (.i 42 (.g [.s 6 (.mv (.c .nils)),.c 7 6] (.ret [6,7])) .skip)) (.g [.s 43 (.bslice 9 1 [(.w [99,104,97,110,110,101,108]),(.w [105,110,116,101,110,115,105,116,121]),(.w [111,116,104,101,114,115])]),.s 44 (.bslice 58 1 [.t 43]),.m 13 44] (.g [.d 45 9 3,.f 46 36 45,.m 14 46] .skip)))))))))))
theorem F7':compF Tryz.prog 7=some ⟨116,[.tmp 6,.tmp 7],pre16.put mid16⟩:=F7
def stPR (g:List (Nat×Obj)):St:=⟨4,[],[(3,⟨58,1,[rowV hdM],false,false⟩),(2,⟨9,1,hdM.map .str,false,false⟩)],⟨[],g,[]⟩⟩
theorem run_pre16 {lst:Int}{cue:List UInt8}{i:Nat}(h:s.ok)(hs:shoC s=0)(hi:ix (fun x=>x.num == lst) s.lsts 0=i)(hlt:i<s.lsts.length)(hx:∀d,s.lsts.getD i d=x)(hxo:x.ok)(hc:cue.length<140737488355328)(hn:numC cue=0)(ha:ix (fun y=>y.num == cue) x.cues 0=a) :
  ∃e,runC Tryz.prog HH pre16 (argEnv 0 [s.v,.int .i64 lst,.str cue]) (stN g 0)=some (.normal,e,stPR g)∧Sha.look e 3=some (.ep s.v 0)∧Sha.look e 11=some (.ep x.v 0)∧Sha.look e 12=some (.int .i64 a)∧Sha.look e 13=some (.osl 3 1)∧Sha.look e 14=some (.sl ((patC s 1 999).map Prm.v)):=by
 have h48:=fun(st:St)=>f33 (v:=lst) (st:=st) h
 have h64:=fun(st:St)=>f34 (s:=cue) (st:=st) hc
 have h65:=fun(st:St)=>f35 (x:=x) (t:=cue) (st:=st) hxo.a
 have h66:=fun(st:St)=>f36 (st:=st) h hs
 have e0:fndE (shoC s) (ix (fun x=>x.num == lst) s.lsts 0)=0:=by rw[hi,fndE,hs];simp
 have e1:fndI' (shoC s) (ix (fun x=>x.num == lst) s.lsts 0)=i:=by rw[fndI',hs,hi];simp;omega
 have h1:(i:Int)<s.lsts.length:=by omega
 have h2:¬(a:Int)<0:=by omega
 rw[e0,e1]at h48
 rw[hn]at h64
 rw[ha]at h65
 generalize patC s 1 999=ps at *
 generalize hz:runC Tryz.prog HH pre16 _ _=z
 rw[pre16]at hz
 push_cast[Sho.v,Lst.v,Prm.v]at h48 h64 h65 h66
 push_cast[Sho.v,Lst.v,Prm.v,h48,h64,h65,h66,h1,h2,hx,rowV,List.map_cons,List.map_nil]at hz
 subst hz
 exact⟨_,rfl,rfl,rfl,rfl,rfl,rfl⟩
def InvR (s:Sho)(x:Lst)(a:Nat)(ps:List Prm)(dig wrd txt:Prm→List UInt8)(g:List (Nat×Obj))(m:Nat)(e:Env)(st:St):Prop :=
 ∃j y N rid,m+j=ps.length∧e=eHR s x a ps y.rows.length j∧st=stR' g N rid y∧3<N∧(y.op≠none→3<rid∧rid<N)∧(y.op=none→y.last=0)∧y.rows.length≤j+1∧(∀r,y.op=some r→r.2.2.length≤j*3000)∧y=shtM dig wrd txt (ps.take j)
theorem sht_last {dig wrd txt:Prm→List UInt8}{ps:List Prm}{j:Nat}(hj:j≤ps.length):(shtM dig wrd txt (ps.take j)).last=prvC ps j:=by
 cases j with
 |zero=>rfl
 |succ i=>rw[shtM,List.take_succ_eq_append_getElem (by omega),List.foldl_append,prvC,List.getD_eq_getElem?_getD,List.getElem?_eq_getElem (by omega)];rfl
theorem stR'_none {N r r':Nat}{y:Sht}(h:y.op=none):stR' g N r y=stR' g N r' y:=by simp only[stR',arrR,h]
theorem v7 (hH:ESound Tryz.prog HH){st:St}{lst:Int}{cue:List UInt8}{i:Nat}{lev:Prm→Int}{dig wrd txt:Prm→List UInt8}(h:s.ok)(hs:shoC s=0)(hi:ix (fun x=>x.num == lst) s.lsts 0=i)(hlt:i<s.lsts.length)(hx:∀d,s.lsts.getD i d=x)(hxo:x.ok)(hc:cue.length<140737488355328)(hn:numC cue=0)(ha:ix (fun y=>y.num == cue) x.cues 0=a)
  (hP:∀p∈patC s 1 999,ParR s x a p (lev p) (dig p) (txt p) (wrd p)∧p.chan≠0) (hlp:(patC s 1 999).length≤50000) :
  VCalls Tryz.prog 7 [s.v,.int .i64 lst,.str cue] st fun z y=>z=.ret (.tup [.sl ((shtM dig wrd txt (patC s 1 999)).rows.map rowV),.int .i64 0])∧y=st:=by
 refine VCalls_shutW (by simp) (VCalls_WD F7' (Nat.le_of_ble_eq_true rfl) fun N=>?_)
 show WD _ ⟨N,[]⟩ (pre16.put mid16) (argEnv 0 [s.v,.int .i64 lst,.str cue]) (stN st.x.gl 0) _
 obtain⟨e,hr,hl3,l11,l12,l13,l14⟩:=run_pre16 (g:=st.x.gl) (a:=a) h hs hi hlt hx hxo hc hn ha
 refine WD.run mixed hH hr ?_
 show WD _ _ mid16 _ _ _
 generalize hg:st.x.gl=g at *
 generalize patC s 1 999=ps at *
 refine WD.join (WD.seq (WD.ev mixed hH (x:=.normal) (e:=(15,.int .i64 0)::e) (s:=stPR g) (by push_cast) ?_))
 show WD _ _ (.block 0 (.loop [3,11,12,13,14,15] [(13,(58,1))] B7_0)) _ _ _
 refine WD.block (WD.loopG (InvR s x a ps dig wrd txt g) (fun m e z ⟨j,y,N,rid,_,_,hz,hN,_⟩=>by subst hz;show 4≤N;omega) ?_ ?_)
 ·refine⟨ps.length,eHR s x a ps 1 0,stR' g 4 0 sh0,⟨0,sh0,4,0,by omega,rfl,rfl,by omega,fun h=>absurd rfl h,fun _=>rfl,by simp[sh0,Sht.rows],fun r h=>(by cases h),(by rw[List.take_zero];rfl)⟩,?_,?_⟩
  ·refine weHR (by show 3<4;omega) (fun i hi=>?_)
   simp only[List.mem_cons,List.not_mem_nil,or_false]at hi
   rcases hi with rfl|rfl|rfl|rfl|rfl|rfl
   ·exact hl3
   ·exact l11
   ·exact l12
   ·exact l13
   ·exact l14
   ·rfl
  ·exact weakR4 (N:=4) (by omega) rfl (by simp[V.bdL,V.bd,rowV])
 ·rintro m e z ⟨j,y,N',rid,hm,rfl,rfl,hN,hr,h0,hxl,ht,hy⟩
  by_cases hj:j<ps.length
  ·have hp:∀d,ps.getD j d=ps[j]:=fun d=>by rw[List.getD_eq_getElem?_getD,List.getElem?_eq_getElem hj];rfl
   obtain⟨hP1,hP2⟩:=hP _ (List.getElem_mem hj)
   generalize hpj:ps[j]=p at *
   refine WD_roundR hH hP1 hP2 hN hr h0 hj hp hlp hxl ht (by rw[hy];exact sht_last (by omega)) (fun r e N2 rid2 hro h1 h2 he=>?_)
   have hst:stpM dig wrd txt y p=⟨(openM (dig p) y p).cl,some (rowT p r (wrd p) (txt p)),p.chan⟩:=by rw[stpM,hro];rfl
   have hlen:(stpM dig wrd txt y p).rows.length=(openM (dig p) y p).rows.length:=by rw[hst,len_some hro];simp[Sht.rows]
   have hrl:r.2.2.length≤j*3000:=by
    unfold openM at hro
    split at hro
    ·exact ht r hro
    ·cases hro;simp
   refine⟨m-1,eHR s x a ps (stpM dig wrd txt y p).rows.length (j+1),stR' g N2 rid2 (stpM dig wrd txt y p),by omega,⟨j+1,stpM dig wrd txt y p,N2,rid2,by omega,rfl,rfl,by omega,fun _=>⟨h1,by omega⟩,fun h=>(by rw[hst]at h;cases h),?_,?_,?_⟩,?_,?_⟩
   ·rw[hlen]
    unfold openM
    split
    ·omega
    ·simp[Sht.rows];unfold Sht.rows at hxl;simp at hxl;omega
   ·intro r2 hr2
    rw[hst]at hr2
    cases hr2
    have:=rowT_len (p:=p) (r:=r) hP1.lw hP1.lt
    omega
   ·rw[hy,shtM,shtM,List.take_succ_eq_append_getElem hj,List.foldl_append,hpj];rfl
   ·rw[hlen]
    exact weHR (by show 3<N2;omega) he
   ·rw[hst]
    have hr4:¬rid2=3:=by omega
    exact weakR5 (N:=N2) (rid:=rid2) (by omega) (by omega) (by simp[arrR,Sha.look,hr4]) (by simp[arrR,Sha.look]) (by rw[bdL_append,rowsV_bd];simp[V.bdL,V.bd];omega) str3_bd
  ·have hj':j=ps.length:=by omega
   have hjl:¬(j:Int)<ps.length:=by omega
   have hrun:runC Tryz.prog HH B7_0 (eHR s x a ps y.rows.length j) (stR' g N' rid y)=some (.exit 0,[(13,.osl 3 y.rows.length)],stR' g N' rid y):=by
    rw[B16_eq]
    push_cast[hjl]
   refine WD.ev mixed hH hrun ?_
   refine(show ∀(K:Env→St→Prop) (Q1:Post) e s,Q1 .normal e s→seqPost K (blockPost 0 Q1) (.exit 0) e s from fun K Q1 e s h=>by simp only[seqPost,blockPost,if_true];exact h) _ _ _ _ ?_
   show WD _ _ post16 (restr [13] [(13,.osl 3 y.rows.length)]) _ _
   obtain⟨rid1,q1,q2,q3⟩:∃rid1,rid1≠3∧rid1<N'∧stR' g N' rid y=stR' g N' rid1 y:=by
    cases ho:y.op with
    |none=>exact⟨0,by omega,by omega,stR'_none ho⟩
    |some r=>obtain⟨q1,q2⟩:=hr (by rw[ho];simp);exact⟨rid,by omega,q2,rfl⟩
   rw[q3]
   refine closeRowR (e':=[(13,.osl 3 y.rows.length)]) q1 hN q2 (fun i v hv=>?_) ?_
   ·simp only[Sha.look]at hv
    split at hv
    ·rename_i e;subst e;cases hv;exact⟨by simp[V.bd];omega,rfl⟩
    ·cases hv
   refine WD.ev mixed hH (x:=.ret) (e:=[(6,.osl 3 y.rows.length),(7,.int .i64 0)]) (s:=⟨N',[],[(3,⟨58,1,y.rows.map rowV,false,false⟩)],⟨[],g,[]⟩⟩) (by rw[post16];push_cast) ?_
   refine⟨.ret (.tup [.osl 3 y.rows.length,.int .i64 0]),_,rfl,?_⟩
   have hxe:y=shtM dig wrd txt ps:=by rw[hy,hj',List.take_length]
   rw[←hxe]
   push_cast[rowV]
end Go.Proofs.YtkpcomdhdjihlaaGreatDoor

namespace Go.Proofs.YtkpcomdhdjihlaaGreatDoor
open Go.Sha
set_option maxRecDepth 100000
variable {g:List (Nat×Obj)}{n:Nat}
theorem f43n {s:Sho}{v:Int}(h:s.ok)(he:¬fndE (shoC s) (ix (fun x=>x.num == v) s.lsts 0)=0){st:St}:run Tryz.prog HH 24 [s.v,.int .i64 v] st=some (.ret (.tup [.agg [.int .i64 0,.int .i64 0,.sl []],.int .i64 (fndE (shoC s) (ix (fun x=>x.num == v) s.lsts 0))]),st):=by
 have h1:=fun(st:St)=>f60 (v:=v) (st:=st) h
 rw[run_shut F24 rfl rfl (by simp)]
 push_cast[Sho.v]at h1
 push_cast[Sho.v,h1,he]
end Go.Proofs.YtkpcomdhdjihlaaGreatDoor

namespace Go.Proofs.YtkpcomdhdjihlaaGreatDoor
open Go.Sha Go.RowKit
set_option maxRecDepth 100000
variable {g:List (Nat×Obj)}{n:Nat}{s:Sho}{x:Lst}{a:Nat}{lst:Int}{cue:List UInt8}
abbrev fndN (s:Sho)(lst:Int):Int:=fndE (shoC s) (ix (fun x=>x.num == lst) s.lsts 0)
def magL (s:Sho)(lst:Int):Lst:=s.lsts.getD (ix (fun x=>x.num == lst) s.lsts 0).toNat default
def magE (s:Sho)(lst:Int)(cue:List UInt8):Int:=if fndN s lst=0 then plcE (magL s lst) cue else fndN s lst
def magK (s:Sho)(lst:Int)(cue:List UInt8):Nat:=(plcV (magL s lst) cue).toNat
def magW (s:Sho)(lst:Int)(cue:List UInt8):List Row:=if magE s lst cue=0 then(shtM (fun p=>Lib.itoa p.chan) (fun p=>wrdA p.attr.toNat) (fun p=>txtL (levQ s (magL s lst) (magK s lst cue) p)) (parS s)).rows else[]
theorem fnd_at (he:fndN s lst=0):shoC s=0∧∃i:Nat,ix (fun x=>x.num == lst) s.lsts 0=i∧i<s.lsts.length∧(∀d,s.lsts.getD i d=magL s lst)∧magL s lst∈s.lsts:=by
 have hs:shoC s=0:=by
  unfold fndN fndE at he
  split at he
  ·rename_i a;exact absurd he a
  ·rename_i a;exact Classical.not_not.1 a
 refine⟨hs,?_⟩
 rcases ix_rng (p:=fun x:Lst=>x.num == lst) (l:=s.lsts) (j:=0) with hn|⟨h1,h2⟩
 ·rw[fndN,fndE,if_neg (by simp[hs]),hn,if_pos (by decide)]at he;cases he
 ·have hlt:(ix (fun x=>x.num == lst) s.lsts 0).toNat<s.lsts.length:=by omega
  have hx:∀d,s.lsts.getD (ix (fun x=>x.num == lst) s.lsts 0).toNat d=s.lsts[(ix (fun x=>x.num == lst) s.lsts 0).toNat]:=fun d=>by rw[List.getD_eq_getElem?_getD,List.getElem?_eq_getElem hlt];rfl
  have hm:magL s lst=s.lsts[(ix (fun x=>x.num == lst) s.lsts 0).toNat]:=hx _
  exact⟨_,by omega,hlt,fun d=>by rw[hm,hx],by rw[hm];exact List.getElem_mem hlt⟩
theorem plc_eq (hx:lstP x=0):plcE x cue=if ¬numC cue=0 then numC cue else if ix (fun y=>y.num == cue) x.cues 0<0 then 6 else 0:=by
 rw[plcE,if_neg (by simp[hx])]
theorem n16a (h:s.ok)(he:¬fndN s lst=0){st:St}:run Tryz.prog HH 7 [s.v,.int .i64 lst,.str cue] st=some (.ret (.tup [.sl [],.int .i64 (fndN s lst)]),st):=by
 have h48:=fun(st:St)=>f33 (v:=lst) (st:=st) h
 rw[run_shut F7 rfl rfl (by simp)]
 change ∀st,_=some (VRes.ret (V.tup [_,.int .i64 (fndN s lst)]),st) at h48
 generalize fndN s lst=e at *
 push_cast[Sho.v]at h48
 push_cast[Sho.v,h48,he]
theorem n16b (h:s.ok)(he:fndN s lst=0)(hc:cue.length<140737488355328)(hn:¬numC cue=0){st:St}:run Tryz.prog HH 7 [s.v,.int .i64 lst,.str cue] st=some (.ret (.tup [.sl [],.int .i64 (numC cue)]),st):=by
 have h48:=fun(st:St)=>f33 (v:=lst) (st:=st) h
 have h64:=fun(st:St)=>f34 (s:=cue) (st:=st) hc
 rw[run_shut F7 rfl rfl (by simp)]
 change ∀st,_=some (VRes.ret (V.tup [_,.int .i64 (fndN s lst)]),st) at h48
 rw[he]at h48
 push_cast[Sho.v]at h48
 push_cast[Sho.v,h48,h64,hn]
theorem n16c (h:s.ok)(he:fndN s lst=0)(hc:cue.length<140737488355328)(hn:numC cue=0)(hi:ix (fun y=>y.num == cue) (magL s lst).cues 0<0){st:St}:run Tryz.prog HH 7 [s.v,.int .i64 lst,.str cue] st=some (.ret (.tup [.sl [],.int .i64 6]),st):=by
 obtain⟨hs,i,h1,h2,hx,hm⟩:=fnd_at he
 have h48:=fun(st:St)=>f33 (v:=lst) (st:=st) h
 have h64:=fun(st:St)=>f34 (s:=cue) (st:=st) hc
 have hxo:(magL s lst).ok:=h.k.2 _ hm
 generalize magL s lst=x at *
 have h65:=fun(st:St)=>f35 (x:=x) (t:=cue) (st:=st) hxo.a
 have e1:fndI' (shoC s) (ix (fun x=>x.num == lst) s.lsts 0)=i:=by rw[fndI',hs,h1];simp;omega
 have hil:(i:Int)<s.lsts.length:=by omega
 rw[e1]at h48
 change ∀st,_=some (VRes.ret (V.tup [_,.int .i64 (fndN s lst)]),st) at h48
 rw[he]at h48
 rw[hn]at h64
 generalize ix (fun y=>y.num == cue) x.cues 0=z at *
 rw[run_shut F7 rfl rfl (by simp)]
 push_cast[Sho.v,Lst.v]at h48 h65
 push_cast[Sho.v,Lst.v,h48,h64,h65,hi,hil,hx]
theorem v16M (hH:ESound Tryz.prog HH)(h:s.ok)(hc:cue.length<140737488355328)(st:St):VCalls Tryz.prog 7 [s.v,.int .i64 lst,.str cue] st fun z y=>z=.ret (.tup [.sl ((magW s lst cue).map rowV),.int .i64 (magE s lst cue)])∧y=st:=by
 by_cases he:fndN s lst=0
 ·obtain⟨hs,i,h1,h2,hx,hm⟩:=fnd_at he
  have hxo:(magL s lst).ok:=h.k.2 _ hm
  have hlp:=(sho_parts hs).2.1 _ hm
  have hE:magE s lst cue=plcE (magL s lst) cue:=by rw[magE,if_pos he]
  have hE2:=plc_eq (cue:=cue) hlp
  by_cases hn:numC cue=0
  ·by_cases hi:ix (fun y=>y.num == cue) (magL s lst).cues 0<0
   ·rw[if_neg (by simp[hn]),if_pos hi]at hE2
    rw[magW,hE,hE2,if_neg (by decide)]
    exact run_sound mixed hH _ _ _ _ _ (n16c h he hc hn hi)
   ·rw[if_neg (by simp[hn]),if_neg hi]at hE2
    obtain⟨p1,p2⟩:=plc_at hE2
    have hk:ix (fun y=>y.num == cue) (magL s lst).cues 0=(magK s lst cue:Nat):=by
     rw[magK,Int.toNat_of_nonneg p1,plcV,if_pos hE2]
    rw[magW,hE,hE2,if_pos rfl]
    have hP:parS s=patC s 1 999:=by rw[parS,if_pos hs,par_eq (fun x hx=>by have:=rng_ok (aloC_ok ((fix_ok (shoC_parts hs).2.2.2.1).2.2.2 x hx)).1;omega)]
    have hpl:(patC s 1 999).length≤50000:=by
     rw[←hP,parS,if_pos hs,parP,List.length_mergeSort]
     have:=keyP_len hs;omega
    rw[hP]
    have hk2:magK s lst cue<(magL s lst).cues.length:=p2
    refine v7 (lev:=fun p=>levQ s (magL s lst) (magK s lst cue) p) hH h hs h1 h2 hx hxo hc hn hk (fun p hp=>?_) hpl
    rw[←hP]at hp
    have hr:=par_prm hs hp
    obtain⟨l1,l2⟩:=lev_ok (p:=p) hs (prm_of hr) (valF_ok (p:=p) (lst_val hlp) _ hk2)
    obtain⟨l2,lv3⟩:=l2
    have ha:((p.attr.toNat:Nat):Int)=p.attr:=Int.toNat_of_nonneg hr.2.1
    have eL:lvV s.pals (valF (magL s lst).cues p (magK s lst cue)) p ((ownR s p).getD F0).home=levQ s (magL s lst) (magK s lst cue) p:=by rw[levQ,levV,if_pos l1]
    refine⟨⟨fun st=>?_,fun st=>f38 l2 lv3,fun st=>?_,fun st=>f37 (by omega) (by omega),by have:=txt_len l2 lv3;exact Nat.le_trans this (by decide),wrdA_len⟩,by omega⟩
    ·rw[←eL];exact f39 h hs (lst_parts hlp).2.2.1 (fun c hc=>(hxo.b c hc).c) hk2
    ·have:=f40 (k:=p.attr.toNat) (st:=st) (by omega)
     rwa [ha]at this
  ·rw[if_pos hn]at hE2
   rw[magW,hE,hE2,if_neg hn]
   exact run_sound mixed hH _ _ _ _ _ (n16b h he hc hn)
 ·rw[magW,magE,if_neg he,if_neg he]
  exact run_sound mixed hH _ _ _ _ _ (n16a h he)
end Go.Proofs.YtkpcomdhdjihlaaGreatDoor

namespace Go.Proofs.YtkpcomdhdjihlaaGreatDoor
open Go.Sha Go.RowKit
set_option maxRecDepth 100000
variable {g:List (Nat×Obj)}{n:Nat}{s:Sho}{x:Lst}{a:Nat}{lst:Int}{cue:List UInt8}{v:GV}
theorem n15a (h:s.ok)(he:¬fndN s lst=0){st:St}:run Tryz.prog (HQ s x) 6 [s.v,.int .i64 lst,.str cue] st=some (.ret (.tup [.sl [],.int .i64 (fndN s lst)]),st):=by
 have h43:=fun(st:St)=>upQ (s:=s) (x:=x) (f43n (v:=lst) (st:=st) h he)
 rw[run_shut F6 rfl rfl (by simp)]
 change ∀st,_=some (VRes.ret (V.tup [_,.int .i64 (fndN s lst)]),st) at h43
 generalize fndN s lst=e at *
 push_cast[Sho.v]at h43
 push_cast[Sho.v,h43,he]
theorem n15b (h:s.ok)(he:fndN s lst=0)(hc:cue.length<140737488355328)(hn:¬numC cue=0){st:St}:run Tryz.prog (HQ s x) 6 [s.v,.int .i64 lst,.str cue] st=some (.ret (.tup [.sl [],.int .i64 (numC cue)]),st):=by
 obtain⟨hs,i,h1,h2,hx,hm⟩:=fnd_at he
 have h43:=fun(st:St)=>upQ (s:=s) (x:=x) (f24 (st:=st) h hs h1 h2 hx)
 have h58:=fun(st:St)=>upQ (s:=s) (x:=x) (f25 (s:=cue) (st:=st) hc)
 rw[run_shut F6 rfl rfl (by simp)]
 push_cast[Sho.v,Lst.v]at h43
 push_cast[Sho.v,h43,h58,hn]
theorem n15c (h:s.ok)(he:fndN s lst=0)(hc:cue.length<140737488355328)(hn:numC cue=0)(hL:magL s lst=x)(hp:¬plcE x cue=0){st:St}:run Tryz.prog (HQ s x) 6 [s.v,.int .i64 lst,.str cue] st=some (.ret (.tup [.sl [],.int .i64 (plcE x cue)]),st):=by
 obtain⟨hs,i,h1,h2,hx,hm⟩:=fnd_at he
 rw[hL]at hx hm
 have hlp:=(sho_parts hs).2.1 _ hm
 have h43:=fun(st:St)=>upQ (s:=s) (x:=x) (f24 (st:=st) h hs h1 h2 hx)
 have h58:=fun(st:St)=>upQ (s:=s) (x:=x) (f25 (s:=cue) (st:=st) hc)
 have h59:=fun(st:St)=>q26 (s:=s) (x:=x) (f26 (s:=cue) (st:=st) (h.k.2 _ hm) hlp hc)
 rw[hn]at h58
 rw[if_neg hp]at h59
 generalize plcE x cue=e at *
 rw[run_shut F6 rfl rfl (by simp)]
 push_cast[Sho.v,Lst.v]at h43 h59
 push_cast[Sho.v,Lst.v,h43,h58,h59,hp]
theorem v15M (hQ:∀s x,s.ok→lstP x=0→ESound Tryz.prog (HQ s x))(h:s.ok)(hc:cue.length<140737488355328){st:St}(hg:st.x.gl=glK v):VCalls Tryz.prog 6 [s.v,.int .i64 lst,.str cue] st fun z y=>z=.ret (.tup [.sl ((magW s lst cue).map rowV),.int .i64 (magE s lst cue)])∧y=st:=by
 by_cases he:fndN s lst=0
 ·obtain⟨hs,i,h1,h2,hx,hm⟩:=fnd_at he
  have hxo:(magL s lst).ok:=h.k.2 _ hm
  have hlp:=(sho_parts hs).2.1 _ hm
  have hH:=hQ s (magL s lst) h hlp
  have hE:magE s lst cue=plcE (magL s lst) cue:=by rw[magE,if_pos he]
  by_cases hn:numC cue=0
  ·by_cases hp:plcE (magL s lst) cue=0
   ·obtain⟨p1,p2⟩:=plc_at hp
    rw[magW,hE,hp,if_pos rfl]
    have hpl:(parS s).length≤50000:=by
     rw[parS,if_pos hs,parP,List.length_mergeSort]
     have:=keyP_len hs;omega
    have hP:=parQ (v:=v) h hs hlp p2
    rw[←hg]at hP
    exact v6 hH (magQ h hs h1 h2 hx hxo hlp hc hp) hP hpl
   ·rw[magW,hE,if_neg hp]
    exact run_sound mixed hH _ _ _ _ _ (n15c h he hc hn rfl hp)
  ·have hE2:=plc_eq (cue:=cue) hlp
   rw[if_pos hn]at hE2
   rw[magW,hE,hE2,if_neg hn]
   exact run_sound mixed hH _ _ _ _ _ (n15b h he hc hn)
 ·rw[magW,magE,if_neg he,if_neg he]
  exact run_sound mixed (hQ s ⟨1,0,[]⟩ h (by decide)) _ _ _ _ _ (n15a h he)
end Go.Proofs.YtkpcomdhdjihlaaGreatDoor

namespace Go.Proofs.YtkpcomdhdjihlaaGreatDoor
open Go.Sha
set_option maxRecDepth 100000
variable {g:List (Nat×Obj)}{n:Nat}
theorem f107n {l:List Fixt}{ps:List Prof}(h1:12<l.length)(h2:l.length≤64){st:St}:run Tryz.prog HH 10 [.sl (l.map Fixt.v),.sl (ps.map Prof.v)] st=some (.ret (.bool false),st):=by
 have a1:(12:Int)<l.length:=by omega
 have a2:(l.length:Int)≤64:=by omega
 rw[run_shut F10 rfl rfl (by simp)]
 push_cast[a1,a2]
theorem f52n {x:Sho}(h:x.ok)(h1:12<x.fixts.length)(h2:x.fixts.length≤64){st:St}:run Tryz.prog HH 4 [x.v] st=some (.ret (.bool false),st):=by
 obtain⟨b1,h1'⟩:=f9 h.c.1
 have h2':=fun(st:St)=>f107n (ps:=x.profs) (st:=st) h1 h2
 obtain⟨b3,h3⟩:=f11 h.g.1
 obtain⟨b4,h4⟩:=f12 h.l.1
 obtain⟨b5,h5⟩:=f13 h.s.1
 obtain⟨b6,h6⟩:=f14 (l:=x.effs)
 rw[run_shut F4 rfl rfl (by simp)]
 push_cast[Sho.v,h1',h2',h3,h4,h5,h6]
end Go.Proofs.YtkpcomdhdjihlaaGreatDoor

namespace Go.Proofs.YtkpcomdhdjihlaaGreatDoor
open Go.Sha
set_option maxRecDepth 100000
variable {g:List (Nat×Obj)}{n:Nat}{s:Sho}
def TokR (T:List Row):Prop:=T.length<1000000∧∀r∈T,r.length<1000000
theorem L8 {T:List Row}(hT:TokR T):∀r j,T.drop j=r→runL Tryz.prog HK [0,1,5] n B8_0 [(0,.sl (T.map rowV)),(1,.sl (T.map rowV)),(5,.int .i64 j)] (stN g n)=some (.exit 0,[],stN g n):=by
 have hl:=hT.1
 refine drop_ind (fun j h=>?_) (fun q r j h hx hd ih=>?_)
 all_goals rw[runL_of B8_0.eq_1]
 ·have h1:¬(j:Int)<T.length:=by omega
  push_cast[h1]
 ·have h1:(j:Int)<T.length:=by omega
  have hw:=iw1 (j:=j) (by omega)
  have e1:=fun(st:St)=>f41 (a:=q) (st:=st) (by have:=hT.2 q (mem_at hd);omega)
  push_cast[rowV]at ih
  push_cast[h1,hw,hx,e1,rowV]at ih ⊢
  exact ih
theorem f8 {T:List Row}(hT:TokR T){st:St}:run Tryz.prog HK 8 [.sl (T.map rowV),.sl (T.map rowV)] st=some (.ret (.bool true),st):=by
 have hL:=fun n=>L8 (g:=st.x.gl) (n:=n) hT _ 0 rfl
 rw[run_shut F8 rfl rfl (by simp)]
 push_cast[rowV]at hL
 push_cast[rowV,hL]
theorem f4' {s:Sho}(h:s.ok):∃b,(b=true→shoC s=0→s.fixts.length≤12)∧∀st,run Tryz.prog HH 4 [s.v] st=some (.ret (.bool b),st):=by
 obtain⟨b,hb⟩:=f4 h
 refine⟨b,fun e hs=>?_,hb⟩
 have h2:=(fix_ok (shoC_parts hs).2.2.2.1).2.1
 rcases Nat.lt_or_ge 12 s.fixts.length with h1|h1
 ·have:=f52n h h1 h2 (st:=stG [])
  rw[hb,e]at this
  cases this
 ·exact h1
end Go.Proofs.YtkpcomdhdjihlaaGreatDoor

namespace Go.Proofs.YtkpcomdhdjihlaaGreatDoor
open Go.Sha
set_option maxRecDepth 100000
variable {g:List (Nat×Obj)}{n:Nat}{s:Sho}{lst:Int}{cue:List UInt8}{v:GV}
def Row3 (y:Sht)(j:Nat):Prop:=y.rows.length≤j+1∧(∀r∈y.cl,r.length=3)
theorem rows3 {y:Sht}{j:Nat}(h:Row3 y j):∀r∈y.rows,r.length=3:=fun r hr=>by
 unfold Sht.rows at hr
 rcases List.mem_append.1 hr with hr|hr
 ·exact h.2 r hr
 ·split at hr
  ·simp at hr
  ·rw[List.mem_singleton.1 hr];rfl
theorem step3 {dig wrd txt:Prm→List UInt8}{y:Sht}{j:Nat}{p:Prm}(h:Row3 y j):Row3 (stpM dig wrd txt y p) (j+1):=by
 have h3:=rows3 h
 unfold stpM openM
 split
 ·refine⟨?_,h.2⟩
  have:=h.1
  unfold Sht.rows at this ⊢
  cases ho:y.op<;>rw[ho]at this<;>simp_all<;>omega
 ·refine⟨?_,h3⟩
  have:=h.1
  simp only[Sht.rows,Option.map_some,List.length_append,List.length_cons,List.length_nil]at this ⊢
  omega
theorem fold3 {dig wrd txt:Prm→List UInt8}:∀{l:List Prm}{y:Sht}{j:Nat},Row3 y j→Row3 (l.foldl (stpM dig wrd txt) y) (j+l.length)
 |[],_,_,h=>h
 |p::l,y,j,h=>by
  have:=fold3 (dig:=dig) (wrd:=wrd) (txt:=txt) (l:=l) (step3 (dig:=dig) (wrd:=wrd) (txt:=txt) (p:=p) h)
  rw[List.foldl_cons,List.length_cons]
  rwa [show j+(l.length+1)=j+1+l.length by omega]
theorem tokM:TokR (magW s lst cue):=by
 unfold magW
 split
 ·rename_i he
  have hs:shoC s=0:=by
   unfold magE at he
   split at he
   ·rename_i a;exact(fnd_at a).1
   ·rename_i a;exact absurd he a
  have h3:=fold3 (dig:=fun p:Prm=>Lib.itoa p.chan) (wrd:=fun p=>wrdA p.attr.toNat) (txt:=fun p=>txtL (levQ s (magL s lst) (magK s lst cue) p)) (l:=parS s) (y:=sh0) (j:=0) ⟨Nat.le_refl _,by simp[sh0]⟩
  have hpl:(parS s).length≤50000:=by
   rw[parS,if_pos hs,parP,List.length_mergeSort]
   have:=keyP_len hs;omega
  refine⟨?_,fun r hr=>?_⟩
  ·have:=h3.1
   unfold shtM
   omega
  ·rw[rows3 h3 r hr];decide
 ·exact⟨by decide,fun r hr=>by simp at hr⟩
open Classical in
noncomputable def HW (s:Sho)(lst:Int)(cue:List UInt8):EvF:=⟨[],fun f args st=>bif Nat.beq f 5 then run Tryz.prog HA f args st else bif Nat.beq f 8 then run Tryz.prog HK f args st else bif Nat.beq f 4 then run Tryz.prog HH f args st else
 bif Nat.beq f 6||Nat.beq f 7 then(if args=[s.v,.int .i64 lst,.str cue]∧cue.length≤100∧(∃v,st.x.gl=glK v) then some (.ret (.tup [.sl ((magW s lst cue).map rowV),.int .i64 (magE s lst cue)]),st) else none) else none⟩
@[push_cast]theorem HW_raw:(HW s lst cue).raw=[]:=idq rfl
theorem HW_ok (h1:ESound Tryz.prog HH)(h2:ESound Tryz.prog HK)(h3:ESound Tryz.prog HA)(h4:∀s x,s.ok→lstP x=0→ESound Tryz.prog (HQ s x))(h:s.ok):ESound Tryz.prog (HW s lst cue):=fun f args st r z e=>by
 simp only[HW]at e
 cases hi:Nat.beq f 5 with
 |true=>rw[hi]at e;exact run_sound mixed h3 _ _ _ _ _ e
 |false =>
  rw[hi,cond_false]at e
  cases hi:Nat.beq f 8 with
  |true=>rw[hi]at e;exact run_sound mixed h2 _ _ _ _ _ e
  |false =>
   rw[hi,cond_false]at e
   cases hi:Nat.beq f 4 with
   |true=>rw[hi]at e;exact run_sound mixed h1 _ _ _ _ _ e
   |false =>
    rw[hi,cond_false]at e
    cases hi:Nat.beq f 6 with
    |true =>
     rw[hi,Bool.true_or,cond_true]at e
     have:=Nat.eq_of_beq_eq_true hi
     subst this
     split at e
     ·rename_i ha
      obtain⟨rfl,hc,v,hg⟩:=ha
      cases e
      exact v15M h4 h (by omega) hg
     ·cases e
    |false =>
     rw[hi,Bool.false_or]at e
     cases hi:Nat.beq f 7 with
     |true =>
      rw[hi,cond_true]at e
      have:=Nat.eq_of_beq_eq_true hi
      subst this
      split at e
      ·rename_i ha
       obtain⟨rfl,hc,v,hg⟩:=ha
       cases e
       exact v16M h1 h (by omega) _
      ·cases e
     |false=>rw[hi]at e;cases e
theorem m8 {args:List V}{st:St}{r:VRes×St}(h:run Tryz.prog HH 4 args st=some r):run Tryz.prog (HW s lst cue) 4 args st=some r:=by
 refine run_H ?_
 simp only[HW,show Nat.beq 4 5=false from rfl,show Nat.beq 4 8=false from rfl,show Nat.beq 4 4=true from rfl,cond_false,cond_true,h]
theorem m14 {args:List V}{st:St}{r:VRes×St}(h:run Tryz.prog HK 8 args st=some r):run Tryz.prog (HW s lst cue) 8 args st=some r:=by
 refine run_H ?_
 simp only[HW,show Nat.beq 8 5=false from rfl,show Nat.beq 8 8=true from rfl,cond_false,cond_true,h]
theorem m9 {st:St}{v:GV}(hg:st.x.gl=glK v):run Tryz.prog (HW s lst cue) 5 [] st=some (.ret (.bool true),st):=by
 refine run_H ?_
 simp only[HW,show Nat.beq 5 5=true from rfl,cond_true]
 obtain⟨nx,mem,arr,⟨obj,gl,ty⟩⟩:=st
 cases hg
 exact f5 (v:=v) _ _ _ _ _
theorem m15 {st:St}{v:GV}(hc:cue.length≤100)(hg:st.x.gl=glK v):run Tryz.prog (HW s lst cue) 6 [s.v,.int .i64 lst,.str cue] st=some (.ret (.tup [.sl ((magW s lst cue).map rowV),.int .i64 (magE s lst cue)]),st):=by
 refine run_H ?_
 simp only[HW,show Nat.beq 6 5=false from rfl,show Nat.beq 6 8=false from rfl,show Nat.beq 6 4=false from rfl,show Nat.beq 6 6=true from rfl,Bool.true_or,cond_false,cond_true]
 rw[if_pos ⟨rfl,hc,v,hg⟩]
theorem m16 {st:St}{v:GV}(hc:cue.length≤100)(hg:st.x.gl=glK v):run Tryz.prog (HW s lst cue) 7 [s.v,.int .i64 lst,.str cue] st=some (.ret (.tup [.sl ((magW s lst cue).map rowV),.int .i64 (magE s lst cue)]),st):=by
 refine run_H ?_
 simp only[HW,show Nat.beq 7 5=false from rfl,show Nat.beq 7 8=false from rfl,show Nat.beq 7 4=false from rfl,show Nat.beq 7 6=false from rfl,show Nat.beq 7 7=true from rfl,Bool.false_or,cond_false,cond_true]
 rw[if_pos ⟨rfl,hc,v,hg⟩]
theorem l4 (h:s.ok){st:St}(hg:st.x.gl=glK v):run Tryz.prog (HW s lst cue) 3 [s.v,.int .i64 lst,.str cue] st=some (.ret (.bool true),st):=by
 obtain⟨b,hb0,hb⟩:=f4' h
 have h8:=fun st=>m8 (s:=s) (lst:=lst) (cue:=cue) (hb st)
 have hA:=fun nx mem arr obj ty=>m9 (s:=s) (lst:=lst) (cue:=cue) (st:=⟨nx,mem,arr,⟨obj,st.x.gl,ty⟩⟩) hg
 rw[run_shut F3 rfl rfl (by simp)]
 cases b with
 |false =>
  push_cast[Sho.v]at h8
  push_cast[Sho.v,h8,hA]
 |true =>
  by_cases hc:cue.length≤100
  ·have hc':¬(100:Int)<cue.length:=by omega
   have e15:=fun nx mem arr obj ty=>m15 (s:=s) (lst:=lst) (st:=⟨nx,mem,arr,⟨obj,st.x.gl,ty⟩⟩) hc hg
   have e16:=fun nx mem arr obj ty=>m16 (s:=s) (lst:=lst) (st:=⟨nx,mem,arr,⟨obj,st.x.gl,ty⟩⟩) hc hg
   have t1:=fun(st:St)=>m14 (s:=s) (lst:=lst) (cue:=cue) (f8 (st:=st) (tokM (s:=s) (lst:=lst) (cue:=cue)))
   generalize magW s lst cue=a1 at *
   generalize magE s lst cue=cc at *
   push_cast[Sho.v]at h8 e15 e16
   push_cast[Sho.v,h8,hA,hc',e15,e16,t1]
  ·have hc':(100:Int)<cue.length:=by omega
   push_cast[Sho.v]at h8
   push_cast[Sho.v,h8,hA,hc']
end Go.Proofs.YtkpcomdhdjihlaaGreatDoor

namespace Go.Proofs.YtkpcomdhdjihlaaGreatDoor
open Go.Sha Go.RowKit
open Go.Lib (below_grow)
set_option maxRecDepth 100000
theorem HE_ok:ESound Tryz.prog HE:=fun f args st r s h=>by
 simp only[HE]at h
 cases hi:memL f memE with
 |true=>rw[hi]at h;exact run_sound mixed HH_ok _ _ _ _ _ h
 |false=>rw[hi]at h;cases h
theorem clos229 (x y:PB)(W:World):Calls Tryz.prog 187 #[.agg (encP x).toArray,.agg (encP y).toArray] W fun e w'=>e=.returned (.int .i64 (cmpB x y))∧∃q os',w'=Go.Sort.grow (W.drewN q) os':=by
 obtain⟨⟨a,b⟩,hx⟩:=x
 obtain⟨⟨c,d⟩,hy⟩:=y
 simp only at hx hy
 have w1:IntKind.i64.wrap (a-c)=a-c:=iwrap (by omega) (by omega)
 have w2:IntKind.i64.wrap (b-d)=b-d:=iwrap (by omega) (by omega)
 simp only[encP,cmpB]
 by_cases h:a=c
 ·rw[if_neg (by simp[h])]
  subst h
  go_enter Tryz.func187,Tryz.ntmps187
  go_wp2
  go_ret
  exact⟨rfl,0,_,by rw[Go.Sort.alloc_eq_grow,Go.Sort.alloc_eq_grow,Go.Sort.grow_grow];rfl⟩
 ·rw[if_pos h]
  go_enter Tryz.func187,Tryz.ntmps187
  go_wp2
  go_ret
  exact⟨rfl,0,_,by rw[Go.Sort.alloc_eq_grow,Go.Sort.alloc_eq_grow,Go.Sort.grow_grow];rfl⟩
theorem v81F {st:St}{id:Nat}{r:Arr}(hid:Sha.look st.arr id=some r)(hes:r.es=2)(hw:r.wr=true)(hbig:r.xs.length≤100000000)(hok:r.xs.all okPV=true) :
  VCalls Tryz.prog 70 [.osl id r.xs.length,.fn (.func 187) [] []] st fun x s=>x=.ret (.tup [])∧s=⟨st.nx,st.mem,updA st.arr id { r with xs:=r.xs.mergeSort leV },st.x⟩ :=
 v81g (enters_of Tryz.func187 (by kernel_rfl) rfl) clos229 hid hes hw hbig hok
theorem HSF_ok:ESound Tryz.prog HSF:=fun f args st r s h=>by
 simp only[HSF]at h
 by_cases h1:f=70
 ·subst h1
  rw[show Nat.beq 70 70=true from rfl,cond_true]at h
  unfold hSortF at h
  split at h
  ·rename_i id n
   unfold hSortA at h
   split at h
   ·rename_i r0 hr
    split at h
    ·rename_i hc
     cases h
     obtain⟨c1,c2,c3,c4,c5⟩:=hc
     subst c1
     exact v81F hr c3 c4 c2 c5
    ·cases h
   ·cases h
  ·cases h
 ·rw[show Nat.beq f 70=false from Bool.eq_false_iff.2 fun e=>h1 (Nat.eq_of_beq_eq_true e)]at h;cases h
end Go.Proofs.YtkpcomdhdjihlaaGreatDoor

namespace Go.Proofs.YtkpcomdhdjihlaaGreatDoor
open Go.Sha
def Pt.sh:List CSh:=[.int .i64,.int .i64]
structure Pt.Dk (z:Pt):Prop where
 x:-9223372036854775808≤z.x∧z.x≤9223372036854775807
 y:-9223372036854775808≤z.y∧z.y≤9223372036854775807
theorem Pt.rd {vs:List V}(h:OkCs Pt.sh vs):∃x:Pt,V.agg vs=x.v∧x.Dk:=by
 obtain⟨v0,r0,rfl,h0,t0⟩:=h.cons_inv
 obtain⟨v1,r1,rfl,h1,t1⟩:=t0.cons_inv
 obtain rfl:=t1.nil_inv
 obtain⟨y0,rfl,b0⟩:=h0.i64_inv
 obtain⟨y1,rfl,b1⟩:=h1.i64_inv
 exact⟨⟨y0,y1⟩,rfl,⟨b0,b1⟩⟩
def Slt.sh:List CSh:=[.str,.int .i64,.int .i64]
structure Slt.Dk (z:Slt):Prop where
 name:z.name.length≤140737488351232
 fr:-9223372036854775808≤z.fr∧z.fr≤9223372036854775807
 to_:-9223372036854775808≤z.to_∧z.to_≤9223372036854775807
theorem Slt.rd {vs:List V}(h:OkCs Slt.sh vs):∃x:Slt,V.agg vs=x.v∧x.Dk:=by
 obtain⟨v0,r0,rfl,h0,t0⟩:=h.cons_inv
 obtain⟨v1,r1,rfl,h1,t1⟩:=t0.cons_inv
 obtain⟨v2,r2,rfl,h2,t2⟩:=t1.cons_inv
 obtain rfl:=t2.nil_inv
 obtain⟨y0,rfl,b0⟩:=h0.str_inv
 obtain⟨y1,rfl,b1⟩:=h1.i64_inv
 obtain⟨y2,rfl,b2⟩:=h2.i64_inv
 exact⟨⟨y0,y1,y2⟩,rfl,⟨b0,b1,b2⟩⟩
def Ftr.sh:List CSh:=[.int .i64,.int .i64,.int .i64,.int .i64,.int .i64,.int .i64,.int .i64,.int .i64,.bool,.sl true 32 Slt.sh]
structure Ftr.Dk (z:Ftr):Prop where
 attr:-9223372036854775808≤z.attr∧z.attr≤9223372036854775807
 bits:-9223372036854775808≤z.bits∧z.bits≤9223372036854775807
 coarse:-9223372036854775808≤z.coarse∧z.coarse≤9223372036854775807
 fine:-9223372036854775808≤z.fine∧z.fine≤9223372036854775807
 curve:-9223372036854775808≤z.curve∧z.curve≤9223372036854775807
 home:-9223372036854775808≤z.home∧z.home≤9223372036854775807
 low:-9223372036854775808≤z.low∧z.low≤9223372036854775807
 high:-9223372036854775808≤z.high∧z.high≤9223372036854775807
 snap:True
 wheel:z.wheel.length≤140737488351232∧∀q∈z.wheel,q.Dk
theorem Ftr.rd {vs:List V}(h:OkCs Ftr.sh vs):∃x:Ftr,V.agg vs=x.v∧x.Dk:=by
 obtain⟨v0,r0,rfl,h0,t0⟩:=h.cons_inv
 obtain⟨v1,r1,rfl,h1,t1⟩:=t0.cons_inv
 obtain⟨v2,r2,rfl,h2,t2⟩:=t1.cons_inv
 obtain⟨v3,r3,rfl,h3,t3⟩:=t2.cons_inv
 obtain⟨v4,r4,rfl,h4,t4⟩:=t3.cons_inv
 obtain⟨v5,r5,rfl,h5,t5⟩:=t4.cons_inv
 obtain⟨v6,r6,rfl,h6,t6⟩:=t5.cons_inv
 obtain⟨v7,r7,rfl,h7,t7⟩:=t6.cons_inv
 obtain⟨v8,r8,rfl,h8,t8⟩:=t7.cons_inv
 obtain⟨v9,r9,rfl,h9,t9⟩:=t8.cons_inv
 obtain rfl:=t9.nil_inv
 obtain⟨y0,rfl,b0⟩:=h0.i64_inv
 obtain⟨y1,rfl,b1⟩:=h1.i64_inv
 obtain⟨y2,rfl,b2⟩:=h2.i64_inv
 obtain⟨y3,rfl,b3⟩:=h3.i64_inv
 obtain⟨y4,rfl,b4⟩:=h4.i64_inv
 obtain⟨y5,rfl,b5⟩:=h5.i64_inv
 obtain⟨y6,rfl,b6⟩:=h6.i64_inv
 obtain⟨y7,rfl,b7⟩:=h7.i64_inv
 obtain⟨y8,rfl⟩:=h8.bool_inv
 have b8:=trivial
 obtain⟨y9,rfl,b9⟩:=h9.agg_inv (f:=Slt.v) (by decide) (fun _=>Slt.rd)
 exact⟨⟨y0,y1,y2,y3,y4,y5,y6,y7,y8,y9⟩,rfl,⟨b0,b1,b2,b3,b4,b5,b6,b7,b8,b9⟩⟩
def Prof.sh:List CSh:=[.str,.int .i64,.int .i64,.sl true 96 Ftr.sh]
structure Prof.Dk (z:Prof):Prop where
 name:z.name.length≤140737488351232
 foot:-9223372036854775808≤z.foot∧z.foot≤9223372036854775807
 watts:-9223372036854775808≤z.watts∧z.watts≤9223372036854775807
 feats:z.feats.length≤140737488351232∧∀q∈z.feats,q.Dk
theorem Prof.rd {vs:List V}(h:OkCs Prof.sh vs):∃x:Prof,V.agg vs=x.v∧x.Dk:=by
 obtain⟨v0,r0,rfl,h0,t0⟩:=h.cons_inv
 obtain⟨v1,r1,rfl,h1,t1⟩:=t0.cons_inv
 obtain⟨v2,r2,rfl,h2,t2⟩:=t1.cons_inv
 obtain⟨v3,r3,rfl,h3,t3⟩:=t2.cons_inv
 obtain rfl:=t3.nil_inv
 obtain⟨y0,rfl,b0⟩:=h0.str_inv
 obtain⟨y1,rfl,b1⟩:=h1.i64_inv
 obtain⟨y2,rfl,b2⟩:=h2.i64_inv
 obtain⟨y3,rfl,b3⟩:=h3.agg_inv (f:=Ftr.v) (by decide) (fun _=>Ftr.rd)
 exact⟨⟨y0,y1,y2,y3⟩,rfl,⟨b0,b1,b2,b3⟩⟩
def Fixt.sh:List CSh:=[.int .i64,.int .i64,.str,.int .i64,.int .i64,.int .i64,.str]
structure Fixt.Dk (z:Fixt):Prop where
 chan:-9223372036854775808≤z.chan∧z.chan≤9223372036854775807
 part:-9223372036854775808≤z.part∧z.part≤9223372036854775807
 prof:z.prof.length≤140737488351232
 univ:-9223372036854775808≤z.univ∧z.univ≤9223372036854775807
 addr:-9223372036854775808≤z.addr∧z.addr≤9223372036854775807
 phase:-9223372036854775808≤z.phase∧z.phase≤9223372036854775807
 cable:z.cable.length≤140737488351232
theorem Fixt.rd {vs:List V}(h:OkCs Fixt.sh vs):∃x:Fixt,V.agg vs=x.v∧x.Dk:=by
 obtain⟨v0,r0,rfl,h0,t0⟩:=h.cons_inv
 obtain⟨v1,r1,rfl,h1,t1⟩:=t0.cons_inv
 obtain⟨v2,r2,rfl,h2,t2⟩:=t1.cons_inv
 obtain⟨v3,r3,rfl,h3,t3⟩:=t2.cons_inv
 obtain⟨v4,r4,rfl,h4,t4⟩:=t3.cons_inv
 obtain⟨v5,r5,rfl,h5,t5⟩:=t4.cons_inv
 obtain⟨v6,r6,rfl,h6,t6⟩:=t5.cons_inv
 obtain rfl:=t6.nil_inv
 obtain⟨y0,rfl,b0⟩:=h0.i64_inv
 obtain⟨y1,rfl,b1⟩:=h1.i64_inv
 obtain⟨y2,rfl,b2⟩:=h2.str_inv
 obtain⟨y3,rfl,b3⟩:=h3.i64_inv
 obtain⟨y4,rfl,b4⟩:=h4.i64_inv
 obtain⟨y5,rfl,b5⟩:=h5.i64_inv
 obtain⟨y6,rfl,b6⟩:=h6.str_inv
 exact⟨⟨y0,y1,y2,y3,y4,y5,y6⟩,rfl,⟨b0,b1,b2,b3,b4,b5,b6⟩⟩
def Prm.sh:List CSh:=[.int .i64,.int .i64]
structure Prm.Dk (z:Prm):Prop where
 chan:-9223372036854775808≤z.chan∧z.chan≤9223372036854775807
 attr:-9223372036854775808≤z.attr∧z.attr≤9223372036854775807
theorem Prm.rd {vs:List V}(h:OkCs Prm.sh vs):∃x:Prm,V.agg vs=x.v∧x.Dk:=by
 obtain⟨v0,r0,rfl,h0,t0⟩:=h.cons_inv
 obtain⟨v1,r1,rfl,h1,t1⟩:=t0.cons_inv
 obtain rfl:=t1.nil_inv
 obtain⟨y0,rfl,b0⟩:=h0.i64_inv
 obtain⟨y1,rfl,b1⟩:=h1.i64_inv
 exact⟨⟨y0,y1⟩,rfl,⟨b0,b1⟩⟩
def Val.sh:List CSh:=[.int .i64,.int .i64]
structure Val.Dk (z:Val):Prop where
 pal:-9223372036854775808≤z.pal∧z.pal≤9223372036854775807
 lev:-9223372036854775808≤z.lev∧z.lev≤9223372036854775807
theorem Val.rd {vs:List V}(h:OkCs Val.sh vs):∃x:Val,V.agg vs=x.v∧x.Dk:=by
 obtain⟨v0,r0,rfl,h0,t0⟩:=h.cons_inv
 obtain⟨v1,r1,rfl,h1,t1⟩:=t0.cons_inv
 obtain rfl:=t1.nil_inv
 obtain⟨y0,rfl,b0⟩:=h0.i64_inv
 obtain⟨y1,rfl,b1⟩:=h1.i64_inv
 exact⟨⟨y0,y1⟩,rfl,⟨b0,b1⟩⟩
def Grp.sh:List CSh:=[.int .i64,.sl false 8 [.int .i64]]
structure Grp.Dk (z:Grp):Prop where
 num:-9223372036854775808≤z.num∧z.num≤9223372036854775807
 chans:z.chans.length≤140737488351232∧∀q∈z.chans,-9223372036854775808≤q∧q≤9223372036854775807
theorem Grp.rd {vs:List V}(h:OkCs Grp.sh vs):∃x:Grp,V.agg vs=x.v∧x.Dk:=by
 obtain⟨v0,r0,rfl,h0,t0⟩:=h.cons_inv
 obtain⟨v1,r1,rfl,h1,t1⟩:=t0.cons_inv
 obtain rfl:=t1.nil_inv
 obtain⟨y0,rfl,b0⟩:=h0.i64_inv
 obtain⟨y1,rfl,b1⟩:=h1.one_inv (f:=V.int .i64) (by decide) (fun v h=>h.i64_inv)
 exact⟨⟨y0,y1⟩,rfl,⟨b0,b1⟩⟩
def Hue.sh:List CSh:=[.int .i64,.int .i64,.int .i64]
structure Hue.Dk (z:Hue):Prop where
 chan:-9223372036854775808≤z.chan∧z.chan≤9223372036854775807
 attr:-9223372036854775808≤z.attr∧z.attr≤9223372036854775807
 lev:-9223372036854775808≤z.lev∧z.lev≤9223372036854775807
theorem Hue.rd {vs:List V}(h:OkCs Hue.sh vs):∃x:Hue,V.agg vs=x.v∧x.Dk:=by
 obtain⟨v0,r0,rfl,h0,t0⟩:=h.cons_inv
 obtain⟨v1,r1,rfl,h1,t1⟩:=t0.cons_inv
 obtain⟨v2,r2,rfl,h2,t2⟩:=t1.cons_inv
 obtain rfl:=t2.nil_inv
 obtain⟨y0,rfl,b0⟩:=h0.i64_inv
 obtain⟨y1,rfl,b1⟩:=h1.i64_inv
 obtain⟨y2,rfl,b2⟩:=h2.i64_inv
 exact⟨⟨y0,y1,y2⟩,rfl,⟨b0,b1,b2⟩⟩
def Pal.sh:List CSh:=[.int .i64,.sl true 24 Hue.sh]
structure Pal.Dk (z:Pal):Prop where
 num:-9223372036854775808≤z.num∧z.num≤9223372036854775807
 hues:z.hues.length≤140737488351232∧∀q∈z.hues,q.Dk
theorem Pal.rd {vs:List V}(h:OkCs Pal.sh vs):∃x:Pal,V.agg vs=x.v∧x.Dk:=by
 obtain⟨v0,r0,rfl,h0,t0⟩:=h.cons_inv
 obtain⟨v1,r1,rfl,h1,t1⟩:=t0.cons_inv
 obtain rfl:=t1.nil_inv
 obtain⟨y0,rfl,b0⟩:=h0.i64_inv
 obtain⟨y1,rfl,b1⟩:=h1.agg_inv (f:=Hue.v) (by decide) (fun _=>Hue.rd)
 exact⟨⟨y0,y1⟩,rfl,⟨b0,b1⟩⟩
def Tim.sh:List CSh:=[.int .i64,.int .i64,.int .i64,.int .i64,.int .i64,.int .i64]
structure Tim.Dk (z:Tim):Prop where
 up:-9223372036854775808≤z.up∧z.up≤9223372036854775807
 down:-9223372036854775808≤z.down∧z.down≤9223372036854775807
 posi:-9223372036854775808≤z.posi∧z.posi≤9223372036854775807
 colour:-9223372036854775808≤z.colour∧z.colour≤9223372036854775807
 beam:-9223372036854775808≤z.beam∧z.beam≤9223372036854775807
 delay:-9223372036854775808≤z.delay∧z.delay≤9223372036854775807
theorem Tim.rd {vs:List V}(h:OkCs Tim.sh vs):∃x:Tim,V.agg vs=x.v∧x.Dk:=by
 obtain⟨v0,r0,rfl,h0,t0⟩:=h.cons_inv
 obtain⟨v1,r1,rfl,h1,t1⟩:=t0.cons_inv
 obtain⟨v2,r2,rfl,h2,t2⟩:=t1.cons_inv
 obtain⟨v3,r3,rfl,h3,t3⟩:=t2.cons_inv
 obtain⟨v4,r4,rfl,h4,t4⟩:=t3.cons_inv
 obtain⟨v5,r5,rfl,h5,t5⟩:=t4.cons_inv
 obtain rfl:=t5.nil_inv
 obtain⟨y0,rfl,b0⟩:=h0.i64_inv
 obtain⟨y1,rfl,b1⟩:=h1.i64_inv
 obtain⟨y2,rfl,b2⟩:=h2.i64_inv
 obtain⟨y3,rfl,b3⟩:=h3.i64_inv
 obtain⟨y4,rfl,b4⟩:=h4.i64_inv
 obtain⟨y5,rfl,b5⟩:=h5.i64_inv
 exact⟨⟨y0,y1,y2,y3,y4,y5⟩,rfl,⟨b0,b1,b2,b3,b4,b5⟩⟩
def Mov.sh:List CSh:=[.int .i64,.int .i64,.int .i64,.int .i64,.int .i64]
structure Mov.Dk (z:Mov):Prop where
 prm:z.prm.Dk
 val:z.val.Dk
 part:-9223372036854775808≤z.part∧z.part≤9223372036854775807
theorem Mov.rd {vs:List V}(h:OkCs Mov.sh vs):∃x:Mov,V.agg vs=x.v∧x.Dk:=by
 obtain⟨v0,r0,rfl,h0,t0⟩:=h.cons_inv
 obtain⟨v1,r1,rfl,h1,t1⟩:=t0.cons_inv
 obtain⟨v2,r2,rfl,h2,t2⟩:=t1.cons_inv
 obtain⟨v3,r3,rfl,h3,t3⟩:=t2.cons_inv
 obtain⟨v4,r4,rfl,h4,t4⟩:=t3.cons_inv
 obtain rfl:=t4.nil_inv
 obtain⟨y0,rfl,b0⟩:=h0.i64_inv
 obtain⟨y1,rfl,b1⟩:=h1.i64_inv
 obtain⟨y2,rfl,b2⟩:=h2.i64_inv
 obtain⟨y3,rfl,b3⟩:=h3.i64_inv
 obtain⟨y4,rfl,b4⟩:=h4.i64_inv
 exact⟨⟨⟨y0,y1⟩,⟨y2,y3⟩,y4⟩,rfl,⟨⟨b0,b1⟩,⟨b2,b3⟩,b4⟩⟩
def Cu.sh:List CSh:=[.str,.str,.sl true 40 Mov.sh,.sl true 48 Tim.sh,.bool,.bool,.int .i64,.str,.int .i64]
structure Cu.Dk (z:Cu):Prop where
 num:z.num.length≤140737488351232
 label:z.label.length≤140737488351232
 moves:z.moves.length≤140737488351232∧∀q∈z.moves,q.Dk
 parts:z.parts.length≤140737488351232∧∀q∈z.parts,q.Dk
 block:True
 mark:True
 follow:-9223372036854775808≤z.follow∧z.follow≤9223372036854775807
 link:z.link.length≤140737488351232
 loops:-9223372036854775808≤z.loops∧z.loops≤9223372036854775807
theorem Cu.rd {vs:List V}(h:OkCs Cu.sh vs):∃x:Cu,V.agg vs=x.v∧x.Dk:=by
 obtain⟨v0,r0,rfl,h0,t0⟩:=h.cons_inv
 obtain⟨v1,r1,rfl,h1,t1⟩:=t0.cons_inv
 obtain⟨v2,r2,rfl,h2,t2⟩:=t1.cons_inv
 obtain⟨v3,r3,rfl,h3,t3⟩:=t2.cons_inv
 obtain⟨v4,r4,rfl,h4,t4⟩:=t3.cons_inv
 obtain⟨v5,r5,rfl,h5,t5⟩:=t4.cons_inv
 obtain⟨v6,r6,rfl,h6,t6⟩:=t5.cons_inv
 obtain⟨v7,r7,rfl,h7,t7⟩:=t6.cons_inv
 obtain⟨v8,r8,rfl,h8,t8⟩:=t7.cons_inv
 obtain rfl:=t8.nil_inv
 obtain⟨y0,rfl,b0⟩:=h0.str_inv
 obtain⟨y1,rfl,b1⟩:=h1.str_inv
 obtain⟨y2,rfl,b2⟩:=h2.agg_inv (f:=Mov.v) (by decide) (fun _=>Mov.rd)
 obtain⟨y3,rfl,b3⟩:=h3.agg_inv (f:=Tim.v) (by decide) (fun _=>Tim.rd)
 obtain⟨y4,rfl⟩:=h4.bool_inv
 have b4:=trivial
 obtain⟨y5,rfl⟩:=h5.bool_inv
 have b5:=trivial
 obtain⟨y6,rfl,b6⟩:=h6.i64_inv
 obtain⟨y7,rfl,b7⟩:=h7.str_inv
 obtain⟨y8,rfl,b8⟩:=h8.i64_inv
 exact⟨⟨y0,y1,y2,y3,y4,y5,y6,y7,y8⟩,rfl,⟨b0,b1,b2,b3,b4,b5,b6,b7,b8⟩⟩
def Lst.sh:List CSh:=[.int .i64,.int .i64,.sl true 120 Cu.sh]
structure Lst.Dk (z:Lst):Prop where
 num:-9223372036854775808≤z.num∧z.num≤9223372036854775807
 prio:-9223372036854775808≤z.prio∧z.prio≤9223372036854775807
 cues:z.cues.length≤140737488351232∧∀q∈z.cues,q.Dk
theorem Lst.rd {vs:List V}(h:OkCs Lst.sh vs):∃x:Lst,V.agg vs=x.v∧x.Dk:=by
 obtain⟨v0,r0,rfl,h0,t0⟩:=h.cons_inv
 obtain⟨v1,r1,rfl,h1,t1⟩:=t0.cons_inv
 obtain⟨v2,r2,rfl,h2,t2⟩:=t1.cons_inv
 obtain rfl:=t2.nil_inv
 obtain⟨y0,rfl,b0⟩:=h0.i64_inv
 obtain⟨y1,rfl,b1⟩:=h1.i64_inv
 obtain⟨y2,rfl,b2⟩:=h2.agg_inv (f:=Cu.v) (by decide) (fun _=>Cu.rd)
 exact⟨⟨y0,y1,y2⟩,rfl,⟨b0,b1,b2⟩⟩
def Gan.sh:List CSh:=[.int .i64,.int .i64,.int .i64]
structure Gan.Dk (z:Gan):Prop where
 prm:z.prm.Dk
 lev:-9223372036854775808≤z.lev∧z.lev≤9223372036854775807
theorem Gan.rd {vs:List V}(h:OkCs Gan.sh vs):∃x:Gan,V.agg vs=x.v∧x.Dk:=by
 obtain⟨v0,r0,rfl,h0,t0⟩:=h.cons_inv
 obtain⟨v1,r1,rfl,h1,t1⟩:=t0.cons_inv
 obtain⟨v2,r2,rfl,h2,t2⟩:=t1.cons_inv
 obtain rfl:=t2.nil_inv
 obtain⟨y0,rfl,b0⟩:=h0.i64_inv
 obtain⟨y1,rfl,b1⟩:=h1.i64_inv
 obtain⟨y2,rfl,b2⟩:=h2.i64_inv
 exact⟨⟨⟨y0,y1⟩,y2⟩,rfl,⟨⟨b0,b1⟩,b2⟩⟩
def Sb.sh:List CSh:=[.int .i64,.int .i64,.bool,.sl true 24 Gan.sh]
structure Sb.Dk (z:Sb):Prop where
 num:-9223372036854775808≤z.num∧z.num≤9223372036854775807
 prio:-9223372036854775808≤z.prio∧z.prio≤9223372036854775807
 inh:True
 gains:z.gains.length≤140737488351232∧∀q∈z.gains,q.Dk
theorem Sb.rd {vs:List V}(h:OkCs Sb.sh vs):∃x:Sb,V.agg vs=x.v∧x.Dk:=by
 obtain⟨v0,r0,rfl,h0,t0⟩:=h.cons_inv
 obtain⟨v1,r1,rfl,h1,t1⟩:=t0.cons_inv
 obtain⟨v2,r2,rfl,h2,t2⟩:=t1.cons_inv
 obtain⟨v3,r3,rfl,h3,t3⟩:=t2.cons_inv
 obtain rfl:=t3.nil_inv
 obtain⟨y0,rfl,b0⟩:=h0.i64_inv
 obtain⟨y1,rfl,b1⟩:=h1.i64_inv
 obtain⟨y2,rfl⟩:=h2.bool_inv
 have b2:=trivial
 obtain⟨y3,rfl,b3⟩:=h3.agg_inv (f:=Gan.v) (by decide) (fun _=>Gan.rd)
 exact⟨⟨y0,y1,y2,y3⟩,rfl,⟨b0,b1,b2,b3⟩⟩
def Eff.sh:List CSh:=[.int .i64,.int .i64,.sl true 16 Pt.sh,.int .i64,.int .i64,.int .i64]
structure Eff.Dk (z:Eff):Prop where
 num:-9223372036854775808≤z.num∧z.num≤9223372036854775807
 attr:-9223372036854775808≤z.attr∧z.attr≤9223372036854775807
 wave:z.wave.length≤140737488351232∧∀q∈z.wave,q.Dk
 period:-9223372036854775808≤z.period∧z.period≤9223372036854775807
 spread:-9223372036854775808≤z.spread∧z.spread≤9223372036854775807
 size:-9223372036854775808≤z.size∧z.size≤9223372036854775807
theorem Eff.rd {vs:List V}(h:OkCs Eff.sh vs):∃x:Eff,V.agg vs=x.v∧x.Dk:=by
 obtain⟨v0,r0,rfl,h0,t0⟩:=h.cons_inv
 obtain⟨v1,r1,rfl,h1,t1⟩:=t0.cons_inv
 obtain⟨v2,r2,rfl,h2,t2⟩:=t1.cons_inv
 obtain⟨v3,r3,rfl,h3,t3⟩:=t2.cons_inv
 obtain⟨v4,r4,rfl,h4,t4⟩:=t3.cons_inv
 obtain⟨v5,r5,rfl,h5,t5⟩:=t4.cons_inv
 obtain rfl:=t5.nil_inv
 obtain⟨y0,rfl,b0⟩:=h0.i64_inv
 obtain⟨y1,rfl,b1⟩:=h1.i64_inv
 obtain⟨y2,rfl,b2⟩:=h2.agg_inv (f:=Pt.v) (by decide) (fun _=>Pt.rd)
 obtain⟨y3,rfl,b3⟩:=h3.i64_inv
 obtain⟨y4,rfl,b4⟩:=h4.i64_inv
 obtain⟨y5,rfl,b5⟩:=h5.i64_inv
 exact⟨⟨y0,y1,y2,y3,y4,y5⟩,rfl,⟨b0,b1,b2,b3,b4,b5⟩⟩
def Sho.sh:List CSh:=[.str,.sl false 24 [.sl true 16 Pt.sh],.sl true 56 Prof.sh,.sl true 72 Fixt.sh,.sl true 32 Grp.sh,.sl true 32 Pal.sh,.sl true 40 Lst.sh,.sl true 48 Sb.sh,.sl true 64 Eff.sh]
structure Sho.Dk (z:Sho):Prop where
 title:z.title.length≤140737488351232
 curves:z.curves.length≤140737488351232∧∀l∈z.curves,l.length≤140737488351232∧∀q∈l,q.Dk
 profs:z.profs.length≤140737488351232∧∀q∈z.profs,q.Dk
 fixts:z.fixts.length≤140737488351232∧∀q∈z.fixts,q.Dk
 grps:z.grps.length≤140737488351232∧∀q∈z.grps,q.Dk
 pals:z.pals.length≤140737488351232∧∀q∈z.pals,q.Dk
 lsts:z.lsts.length≤140737488351232∧∀q∈z.lsts,q.Dk
 subs:z.subs.length≤140737488351232∧∀q∈z.subs,q.Dk
 effs:z.effs.length≤140737488351232∧∀q∈z.effs,q.Dk
theorem Sho.rd {vs:List V}(h:OkCs Sho.sh vs):∃x:Sho,V.agg vs=x.v∧x.Dk:=by
 obtain⟨v0,r0,rfl,h0,t0⟩:=h.cons_inv
 obtain⟨v1,r1,rfl,h1,t1⟩:=t0.cons_inv
 obtain⟨v2,r2,rfl,h2,t2⟩:=t1.cons_inv
 obtain⟨v3,r3,rfl,h3,t3⟩:=t2.cons_inv
 obtain⟨v4,r4,rfl,h4,t4⟩:=t3.cons_inv
 obtain⟨v5,r5,rfl,h5,t5⟩:=t4.cons_inv
 obtain⟨v6,r6,rfl,h6,t6⟩:=t5.cons_inv
 obtain⟨v7,r7,rfl,h7,t7⟩:=t6.cons_inv
 obtain⟨v8,r8,rfl,h8,t8⟩:=t7.cons_inv
 obtain rfl:=t8.nil_inv
 obtain⟨y0,rfl,b0⟩:=h0.str_inv
 obtain⟨y1,rfl,b1⟩:=h1.one_inv (f:=Pt.vs) (by decide) (fun v h=>h.agg_inv (f:=Pt.v) (by decide) (fun _=>Pt.rd))
 obtain⟨y2,rfl,b2⟩:=h2.agg_inv (f:=Prof.v) (by decide) (fun _=>Prof.rd)
 obtain⟨y3,rfl,b3⟩:=h3.agg_inv (f:=Fixt.v) (by decide) (fun _=>Fixt.rd)
 obtain⟨y4,rfl,b4⟩:=h4.agg_inv (f:=Grp.v) (by decide) (fun _=>Grp.rd)
 obtain⟨y5,rfl,b5⟩:=h5.agg_inv (f:=Pal.v) (by decide) (fun _=>Pal.rd)
 obtain⟨y6,rfl,b6⟩:=h6.agg_inv (f:=Lst.v) (by decide) (fun _=>Lst.rd)
 obtain⟨y7,rfl,b7⟩:=h7.agg_inv (f:=Sb.v) (by decide) (fun _=>Sb.rd)
 obtain⟨y8,rfl,b8⟩:=h8.agg_inv (f:=Eff.v) (by decide) (fun _=>Eff.rd)
 exact⟨⟨y0,y1,y2,y3,y4,y5,y6,y7,y8⟩,rfl,⟨b0,b1,b2,b3,b4,b5,b6,b7,b8⟩⟩
theorem Pt.inj {x y:Pt}(h:x.v=y.v):x=y:=by
 obtain⟨x0,x1⟩:=x;obtain⟨y0,y1⟩:=y
 simp only[Pt.v,V.agg.injEq,List.cons.injEq,V.int.injEq,V.str.injEq,V.bool.injEq,V.sl.injEq,true_and,and_true]at h
 obtain⟨h0,h1⟩:=h
 cases h0
 cases h1
 rfl
theorem Slt.inj {x y:Slt}(h:x.v=y.v):x=y:=by
 obtain⟨x0,x1,x2⟩:=x;obtain⟨y0,y1,y2⟩:=y
 simp only[Slt.v,V.agg.injEq,List.cons.injEq,V.int.injEq,V.str.injEq,V.bool.injEq,V.sl.injEq,true_and,and_true]at h
 obtain⟨h0,h1,h2⟩:=h
 cases h0
 cases h1
 cases h2
 rfl
theorem Ftr.inj {x y:Ftr}(h:x.v=y.v):x=y:=by
 obtain⟨x0,x1,x2,x3,x4,x5,x6,x7,x8,x9⟩:=x;obtain⟨y0,y1,y2,y3,y4,y5,y6,y7,y8,y9⟩:=y
 simp only[Ftr.v,V.agg.injEq,List.cons.injEq,V.int.injEq,V.str.injEq,V.bool.injEq,V.sl.injEq,true_and,and_true]at h
 obtain⟨h0,h1,h2,h3,h4,h5,h6,h7,h8,h9⟩:=h
 cases h0
 cases h1
 cases h2
 cases h3
 cases h4
 cases h5
 cases h6
 cases h7
 cases h8
 cases map_inj Slt.inj h9
 rfl
theorem Prof.inj {x y:Prof}(h:x.v=y.v):x=y:=by
 obtain⟨x0,x1,x2,x3⟩:=x;obtain⟨y0,y1,y2,y3⟩:=y
 simp only[Prof.v,V.agg.injEq,List.cons.injEq,V.int.injEq,V.str.injEq,V.bool.injEq,V.sl.injEq,true_and,and_true]at h
 obtain⟨h0,h1,h2,h3⟩:=h
 cases h0
 cases h1
 cases h2
 cases map_inj Ftr.inj h3
 rfl
theorem Fixt.inj {x y:Fixt}(h:x.v=y.v):x=y:=by
 obtain⟨x0,x1,x2,x3,x4,x5,x6⟩:=x;obtain⟨y0,y1,y2,y3,y4,y5,y6⟩:=y
 simp only[Fixt.v,V.agg.injEq,List.cons.injEq,V.int.injEq,V.str.injEq,V.bool.injEq,V.sl.injEq,true_and,and_true]at h
 obtain⟨h0,h1,h2,h3,h4,h5,h6⟩:=h
 cases h0
 cases h1
 cases h2
 cases h3
 cases h4
 cases h5
 cases h6
 rfl
theorem Prm.inj {x y:Prm}(h:x.v=y.v):x=y:=by
 obtain⟨x0,x1⟩:=x;obtain⟨y0,y1⟩:=y
 simp only[Prm.v,V.agg.injEq,List.cons.injEq,V.int.injEq,V.str.injEq,V.bool.injEq,V.sl.injEq,true_and,and_true]at h
 obtain⟨h0,h1⟩:=h
 cases h0
 cases h1
 rfl
theorem Val.inj {x y:Val}(h:x.v=y.v):x=y:=by
 obtain⟨x0,x1⟩:=x;obtain⟨y0,y1⟩:=y
 simp only[Val.v,V.agg.injEq,List.cons.injEq,V.int.injEq,V.str.injEq,V.bool.injEq,V.sl.injEq,true_and,and_true]at h
 obtain⟨h0,h1⟩:=h
 cases h0
 cases h1
 rfl
theorem Grp.inj {x y:Grp}(h:x.v=y.v):x=y:=by
 obtain⟨x0,x1⟩:=x;obtain⟨y0,y1⟩:=y
 simp only[Grp.v,V.agg.injEq,List.cons.injEq,V.int.injEq,V.str.injEq,V.bool.injEq,V.sl.injEq,true_and,and_true]at h
 obtain⟨h0,h1⟩:=h
 cases h0
 cases map_inj (f:=V.int .i64) (fun h=>(V.int.inj h).2) h1
 rfl
theorem Hue.inj {x y:Hue}(h:x.v=y.v):x=y:=by
 obtain⟨x0,x1,x2⟩:=x;obtain⟨y0,y1,y2⟩:=y
 simp only[Hue.v,V.agg.injEq,List.cons.injEq,V.int.injEq,V.str.injEq,V.bool.injEq,V.sl.injEq,true_and,and_true]at h
 obtain⟨h0,h1,h2⟩:=h
 cases h0
 cases h1
 cases h2
 rfl
theorem Pal.inj {x y:Pal}(h:x.v=y.v):x=y:=by
 obtain⟨x0,x1⟩:=x;obtain⟨y0,y1⟩:=y
 simp only[Pal.v,V.agg.injEq,List.cons.injEq,V.int.injEq,V.str.injEq,V.bool.injEq,V.sl.injEq,true_and,and_true]at h
 obtain⟨h0,h1⟩:=h
 cases h0
 cases map_inj Hue.inj h1
 rfl
theorem Tim.inj {x y:Tim}(h:x.v=y.v):x=y:=by
 obtain⟨x0,x1,x2,x3,x4,x5⟩:=x;obtain⟨y0,y1,y2,y3,y4,y5⟩:=y
 simp only[Tim.v,V.agg.injEq,List.cons.injEq,V.int.injEq,V.str.injEq,V.bool.injEq,V.sl.injEq,true_and,and_true]at h
 obtain⟨h0,h1,h2,h3,h4,h5⟩:=h
 cases h0
 cases h1
 cases h2
 cases h3
 cases h4
 cases h5
 rfl
theorem Mov.inj {x y:Mov}(h:x.v=y.v):x=y:=by
 obtain⟨⟨x0,x1⟩,⟨x2,x3⟩,x4⟩:=x;obtain⟨⟨y0,y1⟩,⟨y2,y3⟩,y4⟩:=y
 simp only[Mov.v,V.agg.injEq,List.cons.injEq,V.int.injEq,V.str.injEq,V.bool.injEq,V.sl.injEq,true_and,and_true]at h
 obtain⟨h0,h1,h2,h3,h4⟩:=h
 cases h0
 cases h1
 cases h2
 cases h3
 cases h4
 rfl
theorem Cu.inj {x y:Cu}(h:x.v=y.v):x=y:=by
 obtain⟨x0,x1,x2,x3,x4,x5,x6,x7,x8⟩:=x;obtain⟨y0,y1,y2,y3,y4,y5,y6,y7,y8⟩:=y
 simp only[Cu.v,V.agg.injEq,List.cons.injEq,V.int.injEq,V.str.injEq,V.bool.injEq,V.sl.injEq,true_and,and_true]at h
 obtain⟨h0,h1,h2,h3,h4,h5,h6,h7,h8⟩:=h
 cases h0
 cases h1
 cases map_inj Mov.inj h2
 cases map_inj Tim.inj h3
 cases h4
 cases h5
 cases h6
 cases h7
 cases h8
 rfl
theorem Lst.inj {x y:Lst}(h:x.v=y.v):x=y:=by
 obtain⟨x0,x1,x2⟩:=x;obtain⟨y0,y1,y2⟩:=y
 simp only[Lst.v,V.agg.injEq,List.cons.injEq,V.int.injEq,V.str.injEq,V.bool.injEq,V.sl.injEq,true_and,and_true]at h
 obtain⟨h0,h1,h2⟩:=h
 cases h0
 cases h1
 cases map_inj Cu.inj h2
 rfl
theorem Gan.inj {x y:Gan}(h:x.v=y.v):x=y:=by
 obtain⟨⟨x0,x1⟩,x2⟩:=x;obtain⟨⟨y0,y1⟩,y2⟩:=y
 simp only[Gan.v,V.agg.injEq,List.cons.injEq,V.int.injEq,V.str.injEq,V.bool.injEq,V.sl.injEq,true_and,and_true]at h
 obtain⟨h0,h1,h2⟩:=h
 cases h0
 cases h1
 cases h2
 rfl
theorem Sb.inj {x y:Sb}(h:x.v=y.v):x=y:=by
 obtain⟨x0,x1,x2,x3⟩:=x;obtain⟨y0,y1,y2,y3⟩:=y
 simp only[Sb.v,V.agg.injEq,List.cons.injEq,V.int.injEq,V.str.injEq,V.bool.injEq,V.sl.injEq,true_and,and_true]at h
 obtain⟨h0,h1,h2,h3⟩:=h
 cases h0
 cases h1
 cases h2
 cases map_inj Gan.inj h3
 rfl
theorem Eff.inj {x y:Eff}(h:x.v=y.v):x=y:=by
 obtain⟨x0,x1,x2,x3,x4,x5⟩:=x;obtain⟨y0,y1,y2,y3,y4,y5⟩:=y
 simp only[Eff.v,V.agg.injEq,List.cons.injEq,V.int.injEq,V.str.injEq,V.bool.injEq,V.sl.injEq,true_and,and_true]at h
 obtain⟨h0,h1,h2,h3,h4,h5⟩:=h
 cases h0
 cases h1
 cases map_inj Pt.inj h2
 cases h3
 cases h4
 cases h5
 rfl
theorem Sho.inj {x y:Sho}(h:x.v=y.v):x=y:=by
 obtain⟨x0,x1,x2,x3,x4,x5,x6,x7,x8⟩:=x;obtain⟨y0,y1,y2,y3,y4,y5,y6,y7,y8⟩:=y
 simp only[Sho.v,V.agg.injEq,List.cons.injEq,V.int.injEq,V.str.injEq,V.bool.injEq,V.sl.injEq,true_and,and_true]at h
 obtain⟨h0,h1,h2,h3,h4,h5,h6,h7,h8⟩:=h
 cases h0
 cases map_inj (f:=Pt.vs) (fun h=>map_inj Pt.inj (V.sl.inj h)) h1
 cases map_inj Prof.inj h2
 cases map_inj Fixt.inj h3
 cases map_inj Grp.inj h4
 cases map_inj Pal.inj h5
 cases map_inj Lst.inj h6
 cases map_inj Sb.inj h7
 cases map_inj Eff.inj h8
 rfl
end Go.Proofs.YtkpcomdhdjihlaaGreatDoor

namespace Go.Proofs.YtkpcomdhdjihlaaGreatDoor
open Go.Sha
set_option maxRecDepth 100000
theorem Cu.Dk.ok {x:Cu}(h:x.Dk):x.ok:=⟨by have:=h.num;omega,by have:=h.label;omega,by have:=h.moves.1;omega,by have:=h.parts.1;omega,by have:=h.link;omega⟩
theorem Lst.Dk.ok {x:Lst}(h:x.Dk):x.ok:=⟨by have:=h.cues.1;omega,fun q hq=>(h.cues.2 q hq).ok⟩
theorem Prof.Dk.ok {x:Prof}(h:x.Dk):x.ok∧x.okR:=⟨⟨by have:=h.feats.1;omega,fun q hq=>by have:=(h.feats.2 q hq).wheel.1;omega,by have:=h.name;omega⟩,
 by have:=h.feats.1;omega,fun q hq=>⟨by have:=(h.feats.2 q hq).wheel.1;omega,fun z hz=>by have:=((h.feats.2 q hq).wheel.2 z hz).name;omega⟩,by have:=h.name;omega⟩
theorem Sho.Dk.ok {x : Sho}(h : x.Dk) : x.ok :=
  ⟨by have := h.title; omega, ⟨by have := h.curves.1; omega, fun q hq => by have := (h.curves.2 q hq).1; omega⟩, ⟨by have := h.profs.1; omega, fun q hq => (h.profs.2 q hq).ok.1, fun q hq => (h.profs.2 q hq).ok.2⟩,
   ⟨by have := h.fixts.1; omega, fun q hq => by have := (h.fixts.2 q hq).cable; omega⟩, ⟨by have := h.grps.1; omega, fun q hq => by have := (h.grps.2 q hq).chans.1; omega⟩, ⟨by have := h.pals.1; omega, fun q hq => by have := (h.pals.2 q hq).hues.1; omega⟩,
   ⟨by have := h.lsts.1; omega, fun q hq => (h.lsts.2 q hq).ok⟩, ⟨by have := h.subs.1; omega, fun q hq => by have := (h.subs.2 q hq).gains.1; omega⟩, ⟨by have := h.effs.1; omega, fun q hq => by have := (h.effs.2 q hq).wave.1; omega⟩⟩
end Go.Proofs.YtkpcomdhdjihlaaGreatDoor

namespace Go.Proofs.YtkpcomdhdjihlaaGreatDoor
open Go.ChangeShapes Go.WideShapes Go.ChangeAt Go.RowKit Go.Sha
theorem soundA:ESound Tryz.prog HA:=HA_ok HK_ok
theorem soundQ (s:Sho)(x:Lst)(h:s.ok)(hx:lstP x=0):ESound Tryz.prog (HQ s x):=HQ_ok HH_ok (HF_ok HH_ok HSF_ok hx) HE_ok HK_ok h
theorem soundW {s:Sho}{lst:Int}{cue:List UInt8}(h:s.ok):ESound Tryz.prog (HW s lst cue):=HW_ok HH_ok HK_ok soundA soundQ h
theorem glB_K {v:GV}:glB (stG (glK v)).x.gl=true:=by kernel_rfl
theorem sk1:(laidOutB Tryz.prog)=true:=by kernel_rfl
theorem sk2:(mapsRowed Tryz.prog)=true:=by kernel_rfl
theorem sk6:(Tryz.prog.stops == [])=true:=by kernel_rfl
theorem sk8:(Tryz.prog.stopKnobs == [])=true:=by kernel_rfl
theorem sk22:(Rows.paperworkMagicRow.plainKeys == Tryz.prog.plainKeys)=true:=by kernel_rfl
theorem sk24:(Tryz.prog.stopsHeard)=true:=by kernel_rfl
theorem sk25:(Tryz.prog.mayEnter)=true:=by kernel_rfl
theorem sk26:(Rows.paperworkMagicRow.lifted == Tryz.prog.liftsFinal)=true:=by kernel_rfl
theorem sk27:(Tryz.prog.make == some Rows.paperworkMagicRow.make)=true:=by kernel_rfl
theorem sk15:(Rows.paperworkMagicRow.mapsOut == Tryz.prog.mapsAmong Tryz.f3.resultTypes.toList)=true:=by kernel_rfl
theorem sown:ownKnob Tryz.prog.godebug=none:=by kernel_rfl
theorem smain:Tryz.prog.mainIs=some (Rows.paperworkMagicCard.stood.harness.1,Rows.paperworkMagicCard.stood.harness.2.toList):=by kernel_rfl
theorem slooks:Rows.paperworkMagicCard.stood.looks=Tryz.prog.looks []:=by kernel_rfl
end Go.Proofs.YtkpcomdhdjihlaaGreatDoor

