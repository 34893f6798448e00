/- The compiled code of functions of this seat, printed by a program (ShaMain), and that it is the translation's: checked by the kernel. GrammarSelects: the walk. From what a card lists of the package's  .. -/
import Derived.Test.YtnondemehfkalaaGreatDoorS2
import Derived.Test.YtnondemehfkalaaGreatDoorS3
import Derived.Test.YtnondemehfkalaaGreatDoorS1
import Derived.Test.YtnondemehfkalaaGreatDoorRows
import Derived.Test.YtnondemehfkalaaGreatDoorSShaZ
import Derived.Lib.LaidTab
import Derived.MakeChecks
import Derived.Lib.ItoaNum
set_option linter.unusedSimpArgs false
set_option linter.unusedVariables false
set_option maxRecDepth 10000
namespace Go.Proofs.YtnondemehfkalaaGreatDoor
open Go.Sha
open Nat renaming reduceEqDiff → ed, reduceLeDiff → ld
open Option renaming map_some → om
open Bool renaming false_eq_true → bf
def F6 : FT := ⟨41, 1, [.tmp 2],
 [.seq 1 2,
 .reg [.s 2 (.mv (.c (.bool false)))],
 .seq 3 10,
 .seq 4 5,
 .reg [.s 9 (.m 0),
 .s 10 (.lens (.t 9)),
 .s 11 (.bin .gtr (.t 10) (.i 5000))],
 .cond (.t 11) 6 9,
 .seq 7 8,
 .reg [.s 12 (.f 9 []),
 .s 2 (.m 12)],
 .ret,
 .skip,
 .seq 11 12,
 .reg [.s 14 (.m 0),
 .s 15 (.f 18 [(.t 14)]),
 .s 13 (.m 15),
 .s 16 (.ext 0 (.t 13)),
 .s 17 (.ext 1 (.t 13)),
 .s 18 (.ext 2 (.t 13)),
 .s 3 (.m 16),
 .s 4 (.m 17),
 .s 5 (.m 18)],
 .seq 13 14,
 .reg [.s 20 (.m 0),
 .s 21 (.f 19 [(.t 20)]),
 .s 19 (.m 21),
 .s 22 (.ext 0 (.t 19)),
 .s 23 (.ext 1 (.t 19)),
 .s 24 (.ext 2 (.t 19)),
 .s 6 (.m 22),
 .s 7 (.m 23),
 .s 8 (.m 24)],
 .seq 15 16,
 .reg [.s 25 (.m 3),
 .s 26 (.m 6),
 .s 27 (.f 20 [(.t 25), (.t 26)]),
 .s 28 (.m 27),
 .y 29 (.m 4) 28,
 .y 30 (.m 7) 28,
 .y 31 (.bin .eql (.t 29) (.t 30)) 28,
 .s 32 (.pick (.t 28) (.t 31) (.c (.bool false))),
 .s 33 (.m 32),
 .y 34 (.m 5) 33,
 .y 35 (.m 8) 33,
 .y 36 (.bin .eql (.t 34) (.t 35)) 33,
 .s 37 (.pick (.t 33) (.t 36) (.c (.bool false))),
 .s 38 (.m 37),
 .y 39 (.f 9 []) 38,
 .s 40 (.pick (.t 38) (.t 39) (.c (.bool false))),
 .s 2 (.m 40)],
 .ret]⟩
theorem F6_ok : compFn Tryz.prog 6 = some F6 := by kernel_rfl
theorem beq_self (n : Int) : (n == n) = true := by simp
set_option maxHeartbeats 2000000 in
theorem selects_v (s : List UInt8) (st : St) (hG : GlOk st.x.gl) : VRet Tryz.prog 6 [.str s] st (.bool true) st := by
 have ha := fun st' (h : GlOk st'.x.gl) => awake_v st' h
 have hp := fun st' (h : GlOk st'.x.gl) => selection_v s st' h
 have hq := fun st' => qselection_v s st'
 refine vc F6_ok rfl (fun hwf => ?_)
 cases h0 : decide (5000 < (s.length : Int)) with
 | true =>
  (repeat' first | ((first | refine go rfl rfl ?_ | refine Cl.by_ (by (first | refine ha _ hG)) ?_ | (refine Fk.by_ ?_ ?_ <;> intro hc <;> try simp only [hc]) | refine storeK_eq rfl ?_ | with_reducible refine an ?_ ?_) <;> try simp only [h0, push_cast, ed, reduceCtorEq, ld]))
  all_goals refine finC (hwf) (by simp only [F6, push_cast, ed, reduceCtorEq, ld]; exact rfl) (by first | exact .inl rfl | (right; simp only [F6, push_cast, ed, reduceCtorEq, ld]; try rfl)) (by first | rfl | assumption) (by simp [(hwf).z])
 | false =>
  cases hP : pR rSelection s with
  | ok l =>
   rw [hP] at hp hq
   have hs : ∀ st', VRet Tryz.prog 20 [selsV l, selsV l] st' (.bool true) st' := fun st' => by
    have := sameSl_v l l st'
    rwa [decide_eq_true rfl] at this
   (repeat' first | ((first | refine go rfl rfl ?_ | refine Cl.by_ (by (first | refine hp _ hG | refine hq _ | refine hs _ | refine ha _ hG)) ?_ | (refine Fk.by_ ?_ ?_ <;> intro hc <;> try simp only [hc]) | refine storeK_eq rfl ?_ | with_reducible refine an ?_ ?_) <;> try simp only [h0, resP, selsV, beq_self, push_cast, ed, reduceCtorEq, ld]))
   all_goals first | refine finC (hwf) (by simp only [F6, push_cast, ed, reduceCtorEq, ld]; exact rfl) (by first | exact .inl rfl | (right; simp only [F6, push_cast, ed, reduceCtorEq, ld]; try rfl)) (by first | rfl | assumption) (by simp [(hwf).z])
  | error e =>
   obtain ⟨q, x⟩ := e
   rw [hP] at hp hq
   (repeat' first | ((first | refine go rfl rfl ?_ | refine Cl.by_ (by (first | refine hp _ hG | refine hq _ | refine sameNN_v _ | refine ha _ hG)) ?_ | (refine Fk.by_ ?_ ?_ <;> intro hc <;> try simp only [hc]) | refine storeK_eq rfl ?_ | with_reducible refine an ?_ ?_) <;> try simp only [h0, resP, beq_self, push_cast, ed, reduceCtorEq, ld]))
   all_goals first | refine finC (hwf) (by simp only [F6, push_cast, ed, reduceCtorEq, ld]; exact rfl) (by first | exact .inl rfl | (right; simp only [F6, push_cast, ed, reduceCtorEq, ld]; try rfl)) (by first | rfl | assumption) (by simp [(hwf).z])
end Go.Proofs.YtnondemehfkalaaGreatDoor

namespace Go.Proofs.YtnondemehfkalaaGreatDoor
open Go.Sha Go.ChangeShapes Go.WideShapes Go.ChangeAt Go.RowKit
open Nat renaming reduceEqDiff → ed, reduceLeDiff → ld
open Option renaming map_some → om
open Bool renaming false_eq_true → bf
def GlOk2 (gl : List (Nat × Obj)) : Prop := GlOk gl ∧ ∃ g T fz, Tryz.prog.globalNamed "internal/strconv.uint64pow10" = some g ∧ (g, Obj.cells (Lib.pow10Tab.map fun z => Value.int .u64 z).toArray T fz) ∈ gl
theorem vars_read {w : World} : ∀ {l : List (String × DataW Unit)} {ps : List MemPlace}, DataW.LaidVars Tryz.prog w l ps → ∀ n d, (n, d) ∈ l →
  ∃ g t cs T fz fuel p, Tryz.prog.globalNamed n = some g ∧ (Tryz.prog.globals[g]?).map (·.type) = some t ∧ w.heap[g]? = some (.cells cs T fz) ∧ DataW.trod (fun _ => ()) Tryz.prog w 0 (fun _ => true) false fuel t cs.toList = some (d, p)
 | [], _, _, _, _, hm => by cases hm
 | (n', d') :: r, ps, h, n, d, hm => by
  obtain ⟨g, t, cs, fuel, p, q, h1, h2, h3, h4, h5, _⟩ := h
  rcases List.mem_cons.1 hm with e | e
  ·cases e
   unfold World.var? at h3
   rw [h1] at h3
   simp only [Option.bind_some] at h3
   split at h3
   ·rename_i cs' T fz hh
    cases h3
    exact ⟨g, t, cs, T, fz, fuel, p, h1, h2, hh, h4⟩
   ·cases h3
  ·exact vars_read h5 n d e
theorem iface_cell {w : World} {fuel : Nat} {t : TypeId} {m : Array String} {cs : List Value} {d : DataW Unit} {p : List MemPlace} (hu : ∃ m, Tryz.prog.underlying t = some (.interface m))
  (hd : DataW.trod (fun _ => ()) Tryz.prog w 0 (fun _ => true) false fuel t cs = some (d, p)) : ∃ ev, cs[0]? = some ev ∧ (ev = .nilIface ∨ ∃ te pe, ev = .iface te pe) := by
 obtain ⟨m, hu⟩ := hu
 cases fuel with
 | zero => simp [DataW.trod] at hd
 | succ fuel =>
  match cs, hd with
  | [], hd => simp [DataW.trod, hu] at hd
  | x :: y :: r, hd => simp [DataW.trod, hu] at hd
  | [x], hd => cases x <;> simp [DataW.trod, hu] at hd ⊢
theorem laid_gl {laid : List (String × DataW Unit)} {W : World} (hn : (laid.all fun x => x.2.handleName?.isNone) = true) (m1 : ("strconv.ErrRange", Rows.laid_strconv_ErrRange) ∈ laid) (m2 : ("strings.asciiSpace", Rows.laid_strings_asciiSpace) ∈ laid) (m3 : ("internal/strconv.uint64pow10", Rows.laid_internal_strconv_uint64pow10) ∈ laid)
  (h : laidMetH Tryz.prog laid W) : ∃ gl, GlOk2 gl ∧ ∀ p ∈ gl, W.heap[p.1]? = some p.2 := by
 rw [MakeChecks.laidMetH_plain _ _ _ hn] at h
 obtain ⟨ps, hv, _⟩ := h
 obtain ⟨g1, t1, cs1, T1, fz1, f1, p1, a1, b1, c1, d1⟩ := vars_read hv _ _ m1
 obtain ⟨g2, t2, cs2, T2, fz2, f2, p2, a2, b2, c2, d2⟩ := vars_read hv _ _ m2
 obtain ⟨g3, t3, cs3, T3, fz3, f3, p3, a3, b3, c3, d3⟩ := vars_read hv _ _ m3
 have q2 : (Rows.laid_strings_asciiSpace : DataW Unit) = Lib.tabData .u8 Lib.asciiSpaceTab := by kernel_rfl
 have q3 : (Rows.laid_internal_strconv_uint64pow10 : DataW Unit) = Lib.tabData .u64 Lib.pow10Tab := by kernel_rfl
 rw [q2] at d2
 rw [q3] at d3
 have k1 : Tryz.prog.globalNamed "strconv.ErrRange" = some 8 := by kernel_rfl
 obtain rfl := Option.some.inj (k1.symm.trans a1)
 have u1 : (match (Tryz.prog.globals[8]?).map (·.type) with | some t => (match Tryz.prog.underlying t with | some (.interface _) => true | _ => false) | none => false) = true := by kernel_rfl
 rw [b1] at u1
 have u1 : ∃ m, Tryz.prog.underlying t1 = some (.interface m) := by
  simp only at u1
  split at u1
  ·exact ⟨_, ‹_›⟩
  ·cases u1
 obtain ⟨ev, e1, e2⟩ := iface_cell (m := #[]) u1 d1
 have key : ∀ (g : Nat) (k : IntKind) (n : Nat) (zs : List Int) (fuel : Nat) (t : TypeId) (cs : Array Value) (p : List MemPlace), (Tryz.prog.globals[g]?).map (·.type) = some t →
   (match (Tryz.prog.globals[g]?).map (·.type) with | some t => (match Tryz.prog.underlying t with | some (.array m e) => decide (m = n) && (match Tryz.prog.underlying e with | some (.int k') => decide (k' = k) | _ => false) && decide (Tryz.prog.cellsOf e = 1) && decide (Tryz.prog.cellsOf t = n) | _ => false) | none => false) = true →
   DataW.trod (fun _ => ()) Tryz.prog W 0 (fun _ => true) false fuel t cs.toList = some (Lib.tabData k zs, p) → cs = (zs.map fun z => Value.int k z).toArray := by
  intro g k n zs fuel t cs p ht hc hd
  rw [ht] at hc
  simp only at hc
  split at hc
  ·rename_i m e hu
   simp only [Bool.and_eq_true, decide_eq_true_eq] at hc
   obtain ⟨⟨⟨h1, h2⟩, h3⟩, h4⟩ := hc
   subst h1
   split at h2
   ·rename_i k' hk
    have h2 : k' = k := by simpa using h2
    subst h2
    have := Lib.cells_of_tab hu hk h3 h4 hd
    cases cs; simp at this; rw [this]
   ·cases h2
  ·cases hc
 have k2 : Tryz.prog.globalNamed "strings.asciiSpace" = some g2 := a2
 have e3 := key g2 .u8 256 Lib.asciiSpaceTab f2 t2 cs2 p2 b2 (by
  have : Tryz.prog.globalNamed "strings.asciiSpace" = some 0 := by kernel_rfl
  obtain rfl := Option.some.inj (this.symm.trans a2)
  refine Eq.trans ?_ rfl
  kernel_rfl) d2
 have e4 := key g3 .u64 20 Lib.pow10Tab f3 t3 cs3 p3 b3 (by
  have : Tryz.prog.globalNamed "internal/strconv.uint64pow10" = some 4 := by kernel_rfl
  obtain rfl := Option.some.inj (this.symm.trans a3)
  refine Eq.trans ?_ rfl
  kernel_rfl) d3
 subst e3; subst e4
 refine ⟨[(8, .cells cs1 T1 fz1), (g2, .cells (Lib.asciiSpaceTab.map fun z => Value.int .u8 z).toArray T2 fz2), (g3, .cells (Lib.pow10Tab.map fun z => Value.int .u64 z).toArray T3 fz3)], ⟨⟨⟨cs1, T1, fz1, ev, .head _, by simpa using e1, e2⟩, ⟨g2, T2, fz2, a2, .tail _ (.head _)⟩⟩, g3, T3, fz3, a3, .tail _ (.tail _ (.head _))⟩, fun p hp => ?_⟩
 simp only [List.mem_cons, List.not_mem_nil, or_false] at hp
 rcases hp with rfl | rfl | rfl
 ·exact c1
 ·exact c2
 ·exact c3
theorem law_callsG {f : FuncId} {fn : Func} (hf : Tryz.prog.funcs[f]? = some fn) (hname : (fn.name == "runtime.NumGoroutine") = false) (hb : fn.body.isNone = false) {gl : List (Nat × Obj)} {ds : List V} {st' : St} (h : VRet Tryz.prog f ds (stG gl) (.bool true) st') {w : World} (hgl : ∀ p ∈ gl, w.heap[p.1]? = some p.2)
  {vs : List Value} (ha : Reps w (abs0 w) vs ds) : Calls Tryz.prog f vs.toArray w fun e w' => e = .returned (.bool true) ∧ Kept w w' := by
 refine (VCalls.calls hf hname hb h (simG w hgl) ha).mono fun e w' ⟨r, A', s, ⟨hr, _⟩, he, _, hx⟩ => ?_
 subst hr
 cases e with
 | returned v =>
  have hv : Rep w' A' v (.bool true) := he
  rw [hv.bool_inv]
  exact ⟨rfl, hx.os, hx.output, hx.size, fun i hi => hx.fr i hi rfl⟩
 | panicked ch => exact he.elim
 | outgrown => exact he.elim
end Go.Proofs.YtnondemehfkalaaGreatDoor
