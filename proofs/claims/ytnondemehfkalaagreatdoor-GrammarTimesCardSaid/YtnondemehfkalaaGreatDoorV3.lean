/- The reader of commands: a command. The compiled code of parts of functions of this seat, printed by a program (ShaMain), and that it is the translation's: checked by the kernel. Reading a text: commands. GrammarRanges: the plain law and the walk. GrammarTimes: the plain law. The compiled code of functions of this seat, printed by a program (ShaMain), and that it is the translation's: checked by the kernel. Comparing selections and commands. The compiled code of parts of functions of this seat, printed by a program (ShaMain), and that it is the translation's: checked by the kernel. Reading a text: selections. The compiled code of functions of this seat, printed by a program (ShaMain), and that it is the translation's: checked by the kernel. The chapter's examples; Parse, Selection, Attr and Seconds against the reference. The compiled code of functions of this seat, printed by a program (ShaMain), and that it is the translation's: checked by the kernel. GrammarTimes: the walk. GrammarTimes: the walk. -/
import Derived.Test.YtnondemehfkalaaGreatDoorV2
import Derived.Test.YtnondemehfkalaaGreatDoorV1
import Derived.Test.YtnondemehfkalaaGreatDoorProg
import Derived.KernelRfl
import Derived.Test.YtnondemehfkalaaGreatDoorShaCC
import Derived.Tactics
import Derived.Tactics2
import Derived.Lib.TrimByte
import Derived.Lib.Strings
set_option linter.unusedSimpArgs false
set_option linter.unusedVariables false
set_option maxRecDepth 10000
namespace Go.Proofs.YtnondemehfkalaaGreatDoor
open Go.Sha

theorem Tv_tab (rid : Nat) : Tv rid = tabV.map fun p => (p.1, vF rid p.2.1) := by kernel_rfl
theorem tab_ok : ∀ p ∈ tabV, ∀ w, RdC p.2.1 [.str w] (p.2.2 w) cmdV := by
  intro p hp w
  simp only [tabV, List.mem_cons, List.not_mem_nil, or_false] at hp
  rcases hp with rfl | rfl | rfl | rfl | rfl | rfl | rfl | rfl | rfl | rfl | rfl | rfl | rfl | rfl | rfl | rfl | rfl | rfl | rfl | rfl | rfl
  · exact rclear_v w
  · exact rrecord_v w
  · exact rupdate_v w
  · exact rremove_v w
  · exact rpatch_v w
  · exact rblackout_v w
  · exact rplay_v w
  · exact rplay_v w
  · exact rplay_v w
  · exact rplay_v w
  · exact rplay_v w
  · exact rplay_v w
  · exact rplay_v w
  · exact rplay_v w
  · exact rfader_v w
  · exact rfader_v w
  · exact rfader_v w
  · exact reffect_v w
  · exact reffect_v w
  · exact rundo_v w
  · exact rundo_v w
theorem luk_tab {t : List UInt8} {rid : Nat} : ∀ {L : List (List UInt8 × Nat × (List UInt8 → Rd Cmd))} {i : Nat},
    (lukT t L = none → luk t (L.map fun p => (p.1, vF rid p.2.1)) i = none) ∧ ∀ q, lukT t L = some q → (∃ j, luk t (L.map fun p => (p.1, vF rid p.2.1)) i = some (j, vF rid q.1)) ∧ ∃ p ∈ L, p.2 = q
  | [], i => ⟨fun _ => rfl, fun q h => by cases h⟩
  | p :: r, i => by
    obtain ⟨h1, h2⟩ := luk_tab (t := t) (rid := rid) (L := r) (i := i + 1)
    simp only [lukT, List.map_cons, luk]
    by_cases h : t = p.1
    · simp only [if_pos h]
      exact ⟨fun e => (by cases e), fun q e => by cases e; exact ⟨⟨i, rfl⟩, p, List.mem_cons_self, rfl⟩⟩
    · simp only [if_neg h]
      exact ⟨h1, fun q e => ⟨(h2 q e).1, (h2 q e).2.elim fun p hp => ⟨p, List.mem_cons_of_mem _ hp.1, hp.2⟩⟩⟩
set_option maxHeartbeats 2000000 in
theorem rcommand_v : RdC 27 [] rCommand cmdV := by
  intro st rid ts hG hw hm
  refine VCalls_of F27_ok mixed (Nat.le_of_ble_eq_true rfl) (fun hwf => ?_)
  have hrid := (hwf.mem _ _ hm).1
  have e1 : (st.nx = rid) = False := eq_false (by omega)
  have e2 : (st.nx + 1 = rid) = False := eq_false (by omega)
  have e3 : (st.nx + 2 = rid) = False := eq_false (by omega)
  cases hc0 : ((hd ts).k != 0 || (hd ts).t == [103, 114, 111, 117, 112]) with
  | true =>
    have hR : rCommand ts = rSet ts := if_pos hc0
    (repeat' first | (with_reducible intro x1 x2 hE hW <;> (try (have hI := rNumber_inv hE; obtain ⟨rfl, rfl, hK⟩ := hI)) <;> (try (have hI := rMust_inv hE; obtain ⟨rfl, -⟩ := hI)) <;> (try (have hI := rUnit_inv hE; obtain ⟨u1, u2, rfl⟩ := hI; dsimp only)) <;> try simp only [stR_eq, lookR, Option.map_some, hm, e1, e2, e3, tkV, V.cells, cmdV, cmdL, push_cast, reduceIte, Nat.reduceEqDiff, reduceCtorEq, Nat.reduceAdd, Nat.reduceLeDiff, Nat.reduceBEq]) | (with_reducible intro x1 x2 x3 hE <;> try simp only [stR_eq, lookR, Option.map_some, hm, e1, e2, e3, tkV, V.cells, cmdV, cmdL, push_cast, reduceIte, Nat.reduceEqDiff, reduceCtorEq, Nat.reduceAdd, Nat.reduceLeDiff, Nat.reduceBEq]) | (with_reducible intro hE2 <;> try simp only [stR_eq, lookR, Option.map_some, hm, e1, e2, e3, tkV, V.cells, cmdV, cmdL, push_cast, reduceIte, Nat.reduceEqDiff, reduceCtorEq, Nat.reduceAdd, Nat.reduceLeDiff, Nat.reduceBEq]) | ((first | refine go rfl rfl ?_ | refine RdK.c (by first | assumption | (simp only [stR_eq, lookR, Option.map_some, hm, e1, e2, e3, tkV, V.cells, cmdV, cmdL, push_cast, reduceIte, Nat.reduceEqDiff, reduceCtorEq, Nat.reduceAdd, Nat.reduceLeDiff, Nat.reduceBEq] <;> exact rfl)) (by assumption) (by assumption) ?_ | refine snap_two (by simp only [stR_eq, lookR, Option.map_some, hm, e1, e2, e3, tkV, V.cells, cmdV, cmdL, push_cast, reduceIte, Nat.reduceEqDiff, reduceCtorEq, Nat.reduceAdd, Nat.reduceLeDiff, Nat.reduceBEq] <;> exact rfl) ?_ | (refine Fk.by_ ?_ ?_ <;> intro hc <;> try simp only [hc]) | refine storeK_eq rfl ?_ | with_reducible refine And.intro ?_ ?_ | fail) <;> try simp only [stR_eq, lookR, Option.map_some, hm, e1, e2, e3, tkV, V.cells, cmdV, cmdL, push_cast, reduceIte, Nat.reduceEqDiff, reduceCtorEq, Nat.reduceAdd, Nat.reduceLeDiff, Nat.reduceBEq]))
    all_goals first | (exfalso; simp_all; done) | (first | exact finRo (a := x1) hwf (by first | exact .inl rfl | exact .inr rfl) (by first | rfl | (simp only [F27, hR, push_cast, reduceIte, Nat.reduceEqDiff, reduceCtorEq, Nat.reduceAdd, Nat.reduceLeDiff, Nat.reduceBEq]; exact rfl)) (by first | exact .inl rfl | (right; simp only [push_cast, reduceIte, Nat.reduceEqDiff, reduceCtorEq, Nat.reduceAdd, Nat.reduceLeDiff, Nat.reduceBEq]; try rfl)) (by first | rfl | assumption | exact bd_cmd | (simp [V.bd, V.bdL]; done)) (by simp) (by (repeat first | exact (wfR hwf _).subm | exact subR hm hwf | refine Sub.drop (by simp) ?_)) (by (repeat first | exact (hwf).suba | refine Sub.drop (by simp) ?_)) ((hwf).subx) (by first | assumption | (simp [F27, hR, *]; done) | (simp only [F27, hR, if_true, if_false, Bool.false_eq_true, *]; done) | fail) (by first | assumption | (simp [F27, hR, *]; done) | fail) | exact finRe hwf (by first | (simp [F27, hR, *]; done) | (simp only [F27, hR, if_true, if_false, Bool.false_eq_true, *]; done)) (by simp) (by (repeat first | exact (wfR hwf _).subm | exact subR hm hwf | refine Sub.drop (by simp) ?_)) (by (repeat first | exact (hwf).suba | refine Sub.drop (by simp) ?_)) ((hwf).subx)) | (first | exact finRo hwf (by first | exact .inl rfl | exact .inr rfl) (by first | rfl | (simp only [F27, hR, push_cast, reduceIte, Nat.reduceEqDiff, reduceCtorEq, Nat.reduceAdd, Nat.reduceLeDiff, Nat.reduceBEq]; exact rfl)) (by first | exact .inl rfl | (right; simp only [push_cast, reduceIte, Nat.reduceEqDiff, reduceCtorEq, Nat.reduceAdd, Nat.reduceLeDiff, Nat.reduceBEq]; try rfl)) (by first | rfl | assumption | exact bd_cmd | (simp [V.bd, V.bdL]; done)) (by simp) (by (repeat first | exact (wfR hwf _).subm | exact subR hm hwf | refine Sub.drop (by simp) ?_)) (by (repeat first | exact (hwf).suba | refine Sub.drop (by simp) ?_)) ((hwf).subx) (by first | assumption | (simp [F27, hR, *]; done) | (simp only [F27, hR, if_true, if_false, Bool.false_eq_true, *]; done) | fail) (by first | assumption | (simp [F27, hR, *]; done) | fail) | exact finRe hwf (by first | (simp [F27, hR, *]; done) | (simp only [F27, hR, if_true, if_false, Bool.false_eq_true, *]; done)) (by simp) (by (repeat first | exact (wfR hwf _).subm | exact subR hm hwf | refine Sub.drop (by simp) ?_)) (by (repeat first | exact (hwf).suba | refine Sub.drop (by simp) ?_)) ((hwf).subx))
  | false =>
    obtain ⟨k1, k2⟩ := Bool.or_eq_false_iff.1 hc0
    obtain ⟨K, E, hvb, hmo, hEE⟩ : ∃ (K : V) (E : List (V × V)), (∀ st' : St, rid < st'.nx → VRet Tryz.prog 65 [.ptr rid 0] st' K st') ∧ (∀ st', mapOf st' K = some E) ∧ E = encT (Tv rid) := ⟨verbK rid, _, fun st' h => verbsM_v st' rid h, fun _ => mapOf_mpc, rfl⟩
    cases hL : lukT (hd ts).t tabV with
    | none =>
      have hR : rCommand ts = .error ((hd ts).a, 4) := by unfold rCommand; rw [if_neg (by rw [hc0]; decide), hL]
      have hf : findV (.str (hd ts).t) E 0 = some none := by
        rw [hEE, ← (luk_tab (rid := rid) (i := 0)).1 hL, ← Tv_tab]; exact findV_strs _ _ 0
      (repeat' first | (with_reducible intro x1 x2 hE hW <;> (try (have hI := rNumber_inv hE; obtain ⟨rfl, rfl, hK⟩ := hI)) <;> (try (have hI := rMust_inv hE; obtain ⟨rfl, -⟩ := hI)) <;> (try (have hI := rUnit_inv hE; obtain ⟨u1, u2, rfl⟩ := hI; dsimp only)) <;> try simp only [stR_eq, lookR, Option.map_some, hm, e1, e2, e3, tkV, V.cells, k1, k2, hf, hmo, push_cast, reduceIte, Nat.reduceEqDiff, reduceCtorEq, Nat.reduceAdd, Nat.reduceLeDiff, Nat.reduceBEq]) | (with_reducible intro x1 x2 x3 hE <;> try simp only [stR_eq, lookR, Option.map_some, hm, e1, e2, e3, tkV, V.cells, k1, k2, hf, hmo, push_cast, reduceIte, Nat.reduceEqDiff, reduceCtorEq, Nat.reduceAdd, Nat.reduceLeDiff, Nat.reduceBEq]) | (with_reducible intro hE2 <;> try simp only [stR_eq, lookR, Option.map_some, hm, e1, e2, e3, tkV, V.cells, k1, k2, hf, hmo, push_cast, reduceIte, Nat.reduceEqDiff, reduceCtorEq, Nat.reduceAdd, Nat.reduceLeDiff, Nat.reduceBEq]) | ((first | refine go rfl rfl ?_ | refine Cl.by_ (by (first | refine hvb _ (Nat.lt_of_lt_of_le hrid (Nat.le_add_right _ _)))) ?_ | refine RdK.c (by first | assumption | (simp only [stR_eq, lookR, Option.map_some, hm, e1, e2, e3, tkV, V.cells, k1, k2, hf, hmo, push_cast, reduceIte, Nat.reduceEqDiff, reduceCtorEq, Nat.reduceAdd, Nat.reduceLeDiff, Nat.reduceBEq] <;> exact rfl)) (by assumption) (by assumption) ?_ | refine snap_two (by simp only [stR_eq, lookR, Option.map_some, hm, e1, e2, e3, tkV, V.cells, k1, k2, hf, hmo, push_cast, reduceIte, Nat.reduceEqDiff, reduceCtorEq, Nat.reduceAdd, Nat.reduceLeDiff, Nat.reduceBEq] <;> exact rfl) ?_ | (refine Fk.by_ ?_ ?_ <;> intro hc <;> try simp only [hc]) | refine storeK_eq rfl ?_ | with_reducible refine And.intro ?_ ?_ | fail) <;> try simp only [stR_eq, lookR, Option.map_some, hm, e1, e2, e3, tkV, V.cells, k1, k2, hf, hmo, push_cast, reduceIte, Nat.reduceEqDiff, reduceCtorEq, Nat.reduceAdd, Nat.reduceLeDiff, Nat.reduceBEq]))
      all_goals first | (first | exact finRo hwf (by first | exact .inl rfl | exact .inr rfl) (by first | rfl | (simp only [F27, hR, push_cast, reduceIte, Nat.reduceEqDiff, reduceCtorEq, Nat.reduceAdd, Nat.reduceLeDiff, Nat.reduceBEq]; exact rfl)) (by first | exact .inl rfl | (right; simp only [push_cast, reduceIte, Nat.reduceEqDiff, reduceCtorEq, Nat.reduceAdd, Nat.reduceLeDiff, Nat.reduceBEq]; try rfl)) (by first | rfl | assumption | exact bd_cmd | (simp [V.bd, V.bdL]; done)) (by simp) (by (repeat first | exact (wfR hwf _).subm | exact subR hm hwf | refine Sub.drop (by simp) ?_)) (by (repeat first | exact (hwf).suba | refine Sub.drop (by simp) ?_)) ((hwf).subx) (by first | assumption | (simp [F27, hR, *]; done) | (simp only [F27, hR, if_true, if_false, Bool.false_eq_true, *]; done) | fail) (by first | assumption | (simp [F27, hR, *]; done) | fail) | exact finRe hwf (by first | (simp [F27, hR, *]; done) | (simp only [F27, hR, if_true, if_false, Bool.false_eq_true, *]; done)) (by simp) (by (repeat first | exact (wfR hwf _).subm | exact subR hm hwf | refine Sub.drop (by simp) ?_)) (by (repeat first | exact (hwf).suba | refine Sub.drop (by simp) ?_)) ((hwf).subx))
    | some q =>
      obtain ⟨⟨j, hj⟩, p, hp, hpq⟩ := (luk_tab (rid := rid) (i := 0)).2 q hL
      have hf : findV (.str (hd ts).t) E 0 = some (some (j, vF rid q.1)) := by
        rw [hEE, ← hj, ← Tv_tab]; exact findV_strs _ _ 0
      have hq : RdC q.1 [.str (hd ts).t] (q.2 (hd ts).t) cmdV := by rw [← hpq]; exact tab_ok p hp _
      have hR : rCommand ts = q.2 (hd ts).t ts.tail := by unfold rCommand; rw [if_neg (by rw [hc0]; decide), hL]
      have hwt := hw.tail (k0_ne k1)
      (repeat' first | (with_reducible intro x1 x2 hE hW <;> (try (have hI := rNumber_inv hE; obtain ⟨rfl, rfl, hK⟩ := hI)) <;> (try (have hI := rMust_inv hE; obtain ⟨rfl, -⟩ := hI)) <;> (try (have hI := rUnit_inv hE; obtain ⟨u1, u2, rfl⟩ := hI; dsimp only)) <;> try simp only [stR_eq, lookR, Option.map_some, hm, e1, e2, e3, tkV, V.cells, k1, k2, hf, hmo, cmdV, cmdL, push_cast, reduceIte, Nat.reduceEqDiff, reduceCtorEq, Nat.reduceAdd, Nat.reduceLeDiff, Nat.reduceBEq]) | (with_reducible intro x1 x2 x3 hE <;> try simp only [stR_eq, lookR, Option.map_some, hm, e1, e2, e3, tkV, V.cells, k1, k2, hf, hmo, cmdV, cmdL, push_cast, reduceIte, Nat.reduceEqDiff, reduceCtorEq, Nat.reduceAdd, Nat.reduceLeDiff, Nat.reduceBEq]) | (with_reducible intro hE2 <;> try simp only [stR_eq, lookR, Option.map_some, hm, e1, e2, e3, tkV, V.cells, k1, k2, hf, hmo, cmdV, cmdL, push_cast, reduceIte, Nat.reduceEqDiff, reduceCtorEq, Nat.reduceAdd, Nat.reduceLeDiff, Nat.reduceBEq]) | ((first | refine go rfl rfl ?_ | refine Cl.by_ (by (first | refine hvb _ (Nat.lt_of_lt_of_le hrid (Nat.le_add_right _ _)))) ?_ | refine rd_call (hq) (by first | rfl | (simp only [stR_eq, lookR, Option.map_some, hm, e1, e2, e3, tkV, V.cells, k1, k2, hf, hmo, cmdV, cmdL, push_cast, reduceIte, Nat.reduceEqDiff, reduceCtorEq, Nat.reduceAdd, Nat.reduceLeDiff, Nat.reduceBEq]; exact rfl)) (by assumption) (by assumption) (by first | assumption | (simp only [stR_eq, lookR, Option.map_some, hm, e1, e2, e3, tkV, V.cells, k1, k2, hf, hmo, cmdV, cmdL, push_cast, reduceIte, Nat.reduceEqDiff, reduceCtorEq, Nat.reduceAdd, Nat.reduceLeDiff, Nat.reduceBEq] <;> exact rfl)) ?_ ?_ | refine RdK.c (by first | assumption | (simp only [stR_eq, lookR, Option.map_some, hm, e1, e2, e3, tkV, V.cells, k1, k2, hf, hmo, cmdV, cmdL, push_cast, reduceIte, Nat.reduceEqDiff, reduceCtorEq, Nat.reduceAdd, Nat.reduceLeDiff, Nat.reduceBEq] <;> exact rfl)) (by assumption) (by assumption) ?_ | refine snap_two (by simp only [stR_eq, lookR, Option.map_some, hm, e1, e2, e3, tkV, V.cells, k1, k2, hf, hmo, cmdV, cmdL, push_cast, reduceIte, Nat.reduceEqDiff, reduceCtorEq, Nat.reduceAdd, Nat.reduceLeDiff, Nat.reduceBEq] <;> exact rfl) ?_ | (refine Fk.by_ ?_ ?_ <;> intro hc <;> try simp only [hc]) | refine storeK_eq rfl ?_ | with_reducible refine And.intro ?_ ?_ | fail) <;> try simp only [stR_eq, lookR, Option.map_some, hm, e1, e2, e3, tkV, V.cells, k1, k2, hf, hmo, cmdV, cmdL, push_cast, reduceIte, Nat.reduceEqDiff, reduceCtorEq, Nat.reduceAdd, Nat.reduceLeDiff, Nat.reduceBEq]))
      all_goals first | (first | exact finRo (a := x1) hwf (by first | exact .inl rfl | exact .inr rfl) (by first | rfl | (simp only [F27, hR, push_cast, reduceIte, Nat.reduceEqDiff, reduceCtorEq, Nat.reduceAdd, Nat.reduceLeDiff, Nat.reduceBEq]; exact rfl)) (by first | exact .inl rfl | (right; simp only [push_cast, reduceIte, Nat.reduceEqDiff, reduceCtorEq, Nat.reduceAdd, Nat.reduceLeDiff, Nat.reduceBEq]; try rfl)) (by first | rfl | assumption | exact bd_cmd | (simp [V.bd, V.bdL]; done)) (by simp) (by (repeat first | exact (wfR hwf _).subm | exact subR hm hwf | refine Sub.drop (by simp) ?_)) (by (repeat first | exact (hwf).suba | refine Sub.drop (by simp) ?_)) ((hwf).subx) (by first | assumption | (simp [F27, hR, *]; done) | (simp only [F27, hR, if_true, if_false, Bool.false_eq_true, *]; done) | fail) (by first | assumption | (simp [F27, hR, *]; done) | fail) | exact finRe hwf (by first | (simp [F27, hR, *]; done) | (simp only [F27, hR, if_true, if_false, Bool.false_eq_true, *]; done)) (by simp) (by (repeat first | exact (wfR hwf _).subm | exact subR hm hwf | refine Sub.drop (by simp) ?_)) (by (repeat first | exact (hwf).suba | refine Sub.drop (by simp) ?_)) ((hwf).subx)) | (first | exact finRo hwf (by first | exact .inl rfl | exact .inr rfl) (by first | rfl | (simp only [F27, hR, push_cast, reduceIte, Nat.reduceEqDiff, reduceCtorEq, Nat.reduceAdd, Nat.reduceLeDiff, Nat.reduceBEq]; exact rfl)) (by first | exact .inl rfl | (right; simp only [push_cast, reduceIte, Nat.reduceEqDiff, reduceCtorEq, Nat.reduceAdd, Nat.reduceLeDiff, Nat.reduceBEq]; try rfl)) (by first | rfl | assumption | exact bd_cmd | (simp [V.bd, V.bdL]; done)) (by simp) (by (repeat first | exact (wfR hwf _).subm | exact subR hm hwf | refine Sub.drop (by simp) ?_)) (by (repeat first | exact (hwf).suba | refine Sub.drop (by simp) ?_)) ((hwf).subx) (by first | assumption | (simp [F27, hR, *]; done) | (simp only [F27, hR, if_true, if_false, Bool.false_eq_true, *]; done) | fail) (by first | assumption | (simp [F27, hR, *]; done) | fail) | exact finRe hwf (by first | (simp [F27, hR, *]; done) | (simp only [F27, hR, if_true, if_false, Bool.false_eq_true, *]; done)) (by simp) (by (repeat first | exact (wfR hwf _).subm | exact subR hm hwf | refine Sub.drop (by simp) ?_)) (by (repeat first | exact (hwf).suba | refine Sub.drop (by simp) ?_)) ((hwf).subx))
instance : RdK 27 [] (RdP rCommand cmdV) := (rcommand_v).k
end Go.Proofs.YtnondemehfkalaaGreatDoor

namespace Go.Proofs.YtnondemehfkalaaGreatDoor
open Go.Sha
def cL : Code → Code
  | .seq a _ => a
  | c => c
def cR : Code → Code
  | .seq _ b => b
  | c => c
def bodyC (fn : Func) : Code := fn.body.getD .skip
def X26l : FT := ⟨35, 0, [],
  [.reg [⟨(some 4), .alloc 28 [(.int .i64 0), (.str []), (.str []), (.str []), (.int .i64 0), .nils, (.int .i64 0), (.int .i64 0), (.int .i64 0), (.int .i64 0), (.int .i64 0), (.int .i64 0), (.int .i64 0), (.str []), (.int .i64 0), (.int .i64 0), (.int .i64 0), (.str []), .nils], none⟩,
      ⟨(some 5), .alloc 3 [(.int .i64 0)], none⟩,
      ⟨(some 6), .alloc 29 [(.int .i64 0)], none⟩]]⟩

def X26rl : FT := ⟨35, 0, [],
  [.reg [⟨(some 11), .mv (.t 0), none⟩,
      ⟨(some 12), .call (.c (.fn (.func 60) [] [])) [(.t 11)], none⟩,
      ⟨(some 10), .mv (.t 12), none⟩,
      ⟨(some 13), .ext 0 (.t 10), none⟩,
      ⟨(some 14), .ext 1 (.t 10), none⟩,
      ⟨(some 15), .ext 2 (.t 10), none⟩,
      ⟨(some 7), .mv (.t 13), none⟩,
      ⟨none, .store 1 (.t 5) (.t 14), none⟩,
      ⟨(some 8), .mv (.t 15), none⟩]]⟩

def X26rrl : FT := ⟨35, 0, [],
  [.seq 1 2,
   .reg [⟨(some 16), .mv (.t 8), none⟩,
      ⟨(some 17), .bin .neq (.t 16) (.c (.int .i64 0)), none⟩],
   .cond (.t 17) 3 6,
   .seq 4 5,
   .greg [[], [], [], [true, true, false], [false, true, false, false], [false, false, false, false, false]] [⟨(some 18), .load (some 19) (.t 4), none⟩,
      ⟨(some 19), .load none (.t 5), none⟩,
      ⟨(some 20), .mv (.t 8), none⟩,
      ⟨none, .store 19 (.t 4) (.t 18), none⟩,
      ⟨none, .store 1 (.t 5) (.t 19), none⟩,
      ⟨none, .store 1 (.t 6) (.t 20), none⟩],
   .ret,
   .skip]⟩

def X26rrrr : FT := ⟨35, 0, [],
  [.seq 1 2,
   .reg [⟨(some 22), .mv (.t 7), none⟩,
      ⟨(some 23), .build [.nils] [(0, 1, (.t 22))], none⟩,
      ⟨(some 24), .box 109 (.t 23), none⟩,
      ⟨(some 9), .mv (.t 24), none⟩],
   .seq 3 4,
   .reg [⟨(some 25), .mv (.t 1), none⟩,
      ⟨(some 26), .mv (.t 9), none⟩,
      ⟨(some 27), .call (.t 25) [(.t 26)], none⟩,
      ⟨none, .store 19 (.t 4) (.t 27), none⟩],
   .seq 5 10,
   .seq 6 7,
   .reg [⟨(some 28), .mv (.t 9), none⟩,
      ⟨(some 29), .call (.c (.fn (.func 62) [] [])) [(.t 28)], none⟩,
      ⟨(some 30), .fld none 0 (.t 29), none⟩,
      ⟨(some 31), .bin .neq (.t 30) (.c (.int .i64 3)), none⟩],
   .cond (.t 31) 8 9,
   .reg [⟨(some 32), .mv (.t 9), none⟩,
      ⟨(some 33), .call (.c (.fn (.func 63) [] [])) [(.t 32), (.c (.int .i64 4))], none⟩],
   .skip,
   .seq 11 12,
   .reg [⟨(some 34), .load (some 19) (.t 4), none⟩,
      ⟨none, .store 19 (.t 4) (.t 34), none⟩,
      ⟨none, .store 1 (.t 5) (.c (.int .i64 0)), none⟩,
      ⟨none, .store 1 (.t 6) (.c (.int .i64 0)), none⟩],
   .ret]⟩

def X61r : FT := ⟨23, 0, [],
  [.seq 1 2,
   .reg [⟨(some 8), .mv (.t 3), none⟩,
      ⟨(some 9), .gen (.eqi true) [(.t 8)], none⟩],
   .cond (.t 9) 3 14,
   .seq 4 5,
   .reg [⟨(some 11), .mv (.t 3), none⟩,
      ⟨(some 12), .gen (.asrt 106 (.agg [(.int .i64 0), (.int .i64 0)])) [(.t 11)], none⟩,
      ⟨(some 10), .mv (.t 12), none⟩,
      ⟨(some 13), .ext 0 (.t 10), none⟩,
      ⟨(some 14), .ext 1 (.t 10), none⟩,
      ⟨(some 4), .alloc 106 [(.int .i64 0), (.int .i64 0)], none⟩,
      ⟨none, .store 2 (.t 4) (.t 13), none⟩,
      ⟨(some 5), .mv (.t 14), none⟩],
   .seq 6 11,
   .seq 7 8,
   .reg [⟨(some 15), .mv (.t 5), none⟩,
      ⟨(some 16), .un .not (.t 15), none⟩],
   .cond (.t 16) 9 10,
   .reg [⟨(some 17), .mv (.t 3), none⟩,
      ⟨none, .panic (.t 17), none⟩],
   .skip,
   .seq 12 13,
   .reg [⟨(some 6), .alloc 28 [(.int .i64 0), (.str []), (.str []), (.str []), (.int .i64 0), .nils, (.int .i64 0), (.int .i64 0), (.int .i64 0), (.int .i64 0), (.int .i64 0), (.int .i64 0), (.int .i64 0), (.str []), (.int .i64 0), (.int .i64 0), (.int .i64 0), (.str []), .nils], none⟩],
   .greg [[], [], [], [], [], [true, true, true, true, false], [false, true, true, false, false, false], [false, false, false, false, false, false, false]] [⟨(some 18), .load (some 19) (.t 6), none⟩,
      ⟨(some 19), .fadr 0 (.t 4), none⟩,
      ⟨(some 20), .load none (.t 19), none⟩,
      ⟨(some 21), .fadr 1 (.t 4), none⟩,
      ⟨(some 22), .load none (.t 21), none⟩,
      ⟨none, .store 19 (.t 0) (.t 18), none⟩,
      ⟨none, .store 1 (.t 1) (.t 20), none⟩,
      ⟨none, .store 1 (.t 2) (.t 22), none⟩],
   .skip]⟩

theorem X26l_ok : cpl Tryz.prog 35 (cL (bodyC Tryz.f26)) 0 = some X26l.T := by kernel_rfl
theorem X26rl_ok : cpl Tryz.prog 35 (cL (cR (bodyC Tryz.f26))) 0 = some X26rl.T := by kernel_rfl
theorem X26rrl_ok : cpl Tryz.prog 35 (cL (cR (cR (bodyC Tryz.f26)))) 0 = some X26rrl.T := by kernel_rfl
theorem X26rrrr_ok : cpl Tryz.prog 35 (cR (cR (cR (cR (bodyC Tryz.f26))))) 0 = some X26rrrr.T := by kernel_rfl
theorem X61r_ok : cpl Tryz.prog 23 (cR (bodyC Tryz.f61)) 0 = some X61r.T := by kernel_rfl
end Go.Proofs.YtnondemehfkalaaGreatDoor

set_option maxRecDepth 10000
namespace Go.Proofs.YtnondemehfkalaaGreatDoor
open Go.Sha

theorem W_tab {N : Fr} {c : Code} {T : List Nd} {env : Env} {st : St} {Q : Post} (hT : cpl Tryz.prog N.n c 0 = some T) (h : WT Tryz.prog N T 0 env st Q) : W Tryz.prog N c env st Q :=
  h mixed c ⟨T, hT, fun k nd hk => by simpa using hk⟩

theorem catch61_r0 (c₀ : Frame) (cs : List Frame) (v : Value) (w : World) (a : Act) (Q : Exit → Act → List Frame → World → Prop) (hu : c₀.mode = .panicking [{ v, recovered := false }]) (hn : a.tmps.size = 23)
    (hQ : Q .normal ((a.put (some 7) v).put (some 3) v) ({ c₀ with mode := .panicking [{ v, recovered := true }] } :: cs) w) : (cL (bodyC Tryz.f61)).wpS Tryz.prog Q a (c₀ :: cs) w := by
  show Code.wpS Tryz.prog (Code.region 0 _ false) Q a (c₀ :: cs) w
  apply wpS_region
  simp [wpOpsS, go_sem, recoverD, hu, Act.put, hn] at hQ ⊢
  exact hQ
theorem idle61_r0 (c₀ : Frame) (cs : List Frame) (w : World) (a : Act) (Q : Exit → Act → List Frame → World → Prop) (hu : c₀.mode = .returning) (hn : a.tmps.size = 23)
    (hQ : Q .normal ((a.put (some 7) .nilIface).put (some 3) .nilIface) (c₀ :: cs) w) : (cL (bodyC Tryz.f61)).wpS Tryz.prog Q a (c₀ :: cs) w := by
  show Code.wpS Tryz.prog (Code.region 0 _ false) Q a (c₀ :: cs) w
  apply wpS_region
  simp [wpOpsS, go_sem, recoverD, hu, Act.put, hn] at hQ ⊢
  exact hQ

theorem idle61 {caps : List V} (hn : caps.length ≤ 23) (s : St) : DIdle Tryz.prog 61 caps s := by
  refine idle_of (fn := Tryz.f61) (r0 := cL (bodyC Tryz.f61)) (rest := cR (bodyC Tryz.f61)) (tr := 7) (tm := 3) Tryz.func61 rfl rfl (by decide) (by decide) idle61_r0 hn (fun hwf => W_tab X61r_ok ?_)
  (repeat' first | ((first | refine go rfl rfl ?_ | (refine Fk.by_ ?_ ?_ <;> intro hc <;> try simp only [hc]) | refine storeK_eq rfl ?_ | with_reducible refine And.intro ?_ ?_ | fail) <;> try simp only [push_cast, reduceIte, Nat.reduceEqDiff, reduceCtorEq, Nat.reduceAdd, Nat.reduceLeDiff, Nat.reduceBEq]))
  all_goals exact ⟨[], rfl, .tup [], s, .inl rfl, rfl, Weak.refl hwf, Nat.le_refl _, rfl, rfl⟩

theorem catch61 {s : St} {o p q : Nat} {at' e : Int} {c0 c1 c2 c3 c4 c5 c6 c7 c8 c9 c10 c11 c12 c13 c14 c15 c16 c17 c18 x y : V} (ho : Sha.look s.mem o = some [c0, c1, c2, c3, c4, c5, c6, c7, c8, c9, c10, c11, c12, c13, c14, c15, c16, c17, c18])
    (hp : Sha.look s.mem p = some [x]) (hq : Sha.look s.mem q = some [y]) (h1 : o ≠ p) (h2 : o ≠ q) (h3 : p ≠ q) :
    DCatch Tryz.prog 61 [.ptr o 0, .ptr p 0, .ptr q 0] (failV at' e) s ⟨s.nx, updM (updM (updM s.mem o (cmdL cmd0)) p [.int .i64 at']) q [.int .i64 e], s.arr, s.x⟩ := by
  refine catch_of (fn := Tryz.f61) (r0 := cL (bodyC Tryz.f61)) (rest := cR (bodyC Tryz.f61)) (tr := 7) (tm := 3) Tryz.func61 rfl rfl (by decide) (by decide) catch61_r0 (by exact (by decide : 3 ≤ 23)) (fun hwf => W_tab X61r_ok ?_)
  have b1 := (hwf.mem _ _ ho).1
  have b2 := (hwf.mem _ _ hp).1
  have b3 := (hwf.mem _ _ hq).1
  have f1 : (s.nx = o) = False := eq_false (by omega)
  have f2 : (s.nx = p) = False := eq_false (by omega)
  have f3 : (s.nx = q) = False := eq_false (by omega)
  have f4 : (s.nx + 1 = o) = False := eq_false (by omega)
  have f5 : (s.nx + 1 = p) = False := eq_false (by omega)
  have f6 : (s.nx + 1 = q) = False := eq_false (by omega)
  have g1 : (o = p) = False := eq_false h1
  have g2 : (o = q) = False := eq_false h2
  have g3 : (p = q) = False := eq_false h3
  have g4 : (p = o) = False := eq_false h1.symm
  have g5 : (q = o) = False := eq_false h2.symm
  have g6 : (q = p) = False := eq_false h3.symm
  (repeat' first | ((first | refine go rfl rfl ?_ | (refine Fk.by_ ?_ ?_ <;> intro hc <;> try simp only [hc]) | refine storeK_eq rfl ?_ | with_reducible refine And.intro ?_ ?_ | fail) <;> try simp only [failV, ho, hp, hq, f1, f2, f3, f4, f5, f6, g1, g2, g3, g4, g5, g6, look_updM, Option.map_some, push_cast, reduceIte, Nat.reduceEqDiff, reduceCtorEq, Nat.reduceAdd, Nat.reduceLeDiff, Nat.reduceBEq]))
  have hW : St.Wf ⟨s.nx, updM (updM (updM s.mem o (cmdL cmd0)) p [.int .i64 at']) q [.int .i64 e], s.arr, s.x⟩ := ((hwf.put (id := o) (cs := cmdL cmd0) rfl).put (id := p) (cs := [.int .i64 at']) rfl).put (id := q) (cs := [.int .i64 e]) rfl
  exact ⟨[], rfl, .tup [], _, .inl rfl, rfl, Weak.wf rfl (by simp) (by refine Sub.drop (by simp) (Sub.drop (by simp) ?_); exact hW.subm) hW.suba hW.subx hW, Nat.le_refl _, rfl, rfl⟩

/-! ### What Scan returns -/
theorem lexAt_txt {s : List UInt8} {a : Nat} {k : Int} {t : List UInt8} {e : Nat} (h : lexAt s a = some (k, t, e)) : t.length ≤ s.length := by
  have hs : ∀ n m, ((s.take n).drop m).length ≤ s.length := fun n m => by rw [List.length_drop, List.length_take]; omega
  unfold lexAt at h
  split at h
  · cases h; simp
  · split at h
    · cases h; rw [List.length_map]; exact hs _ _
    · split at h
      · split at h
        · cases h; exact hs _ _
        · cases h
      · split at h
        · split at h
          · cases h; exact hs _ _
          · cases h; exact hs _ _
        · split at h
          · cases h; exact hs _ _
          · cases h
theorem WfT_snoc : ∀ {acc : List Tok} {x : Tok}, (∀ y ∈ acc, y.k ≠ 3 ∧ y.t.length < 140737488355328) → x.k = 3 → x.t.length < 140737488355328 → acc.length < 500000 → WfT (acc ++ [x])
  | [], x, _, h2, h3, _ => ⟨⟨fun _ => rfl, fun _ => h2⟩, fun h => absurd rfl h, h3, by decide⟩
  | y :: acc, x, h1, h2, h3, h4 => by
    have hy := h1 y List.mem_cons_self
    simp only [List.length_cons] at h4
    refine ⟨⟨fun e => absurd e hy.1, fun e => by simp at e⟩, fun _ => WfT_snoc (fun z hz => h1 z (List.mem_cons_of_mem _ hz)) h2 h3 (by omega), hy.2, ?_⟩
    show (acc ++ [x]).length < 500000
    rw [List.length_append, List.length_singleton]; omega
theorem scanG_wf : ∀ (f : Nat) (s : List UInt8) (i : Nat) (acc : List Tok), s.length ≤ 4096 → acc.length ≤ 256 → (∀ y ∈ acc, y.k ≠ 3 ∧ y.t.length < 140737488355328) → (scanG f s i acc).2.2 = 0 → WfT (scanG f s i acc).1
  | 0, _, _, _, _, _, _, h => by simp [scanG] at h
  | f + 1, s, i, acc, hs, hl, ha, h => by
    rw [scanG] at h ⊢
    cases hx : lexAt s (runTo (isB 32) s i) with
    | none => rw [hx] at h; simp at h
    | some y =>
      obtain ⟨k, t, e⟩ := y
      have ht := lexAt_txt hx
      rw [hx] at h
      simp only at h ⊢
      by_cases hl2 : acc.length = 256
      · rw [if_pos hl2] at h; simp at h
      · rw [if_neg hl2] at h ⊢
        by_cases hk : k = 3
        · rw [if_pos hk]
          exact WfT_snoc ha hk (by show t.length < _; omega) (by omega)
        · rw [if_neg hk] at h ⊢
          refine scanG_wf f s e _ hs (by rw [List.length_append, List.length_singleton]; omega) (fun y hy => ?_) h
          rcases List.mem_append.1 hy with hy | hy
          · exact ha y hy
          · simp at hy; subst hy; exact ⟨hk, by show t.length < _; omega⟩
theorem scanR_wf {s : List UInt8} (h : (scanR s).2.2 = 0) : WfT (scanR s).1 := by
  unfold scanR at h ⊢
  split at h
  · simp at h
  · rename_i hl
    rw [if_neg hl]
    exact scanG_wf _ s 0 [] (by omega) (Nat.zero_le _) (fun y hy => by simp at hy) h

/-! ### Reading -/
def pE {α : Type} : Except (Int × Int) (α × List Tok) → Except (Int × Int) α
  | .ok (a, ts) => if ((hd ts).k != 3) = true then .error ((hd ts).a, 4) else .ok a
  | .error e => .error e
def pR {α : Type} (m : Rd α) (s : List UInt8) : Except (Int × Int) α :=
  if ((scanR s).2.2 != 0) = true then .error (((scanR s).2.1 : Int), (scanR s).2.2) else pE (m (scanR s).1)
def resP {α : Type} (enc : α → V) (z : V) : Except (Int × Int) α → V
  | .ok a => .tup [enc a, .int .i64 0, .int .i64 0]
  | .error e => .tup [z, .int .i64 e.1, .int .i64 e.2]
theorem bd_resC {n : Nat} {x : Except (Int × Int) Cmd} : (resP cmdV (cmdV cmd0) x).bd n = true := by
  cases x <;> simp [resP, V.bd, V.bdL, bd_cmd]
set_option maxHeartbeats 2000000 in
theorem readC_v (s : List UInt8) (st : St) (hG : GlOk st.x.gl) : VRet Tryz.prog 26 [.str s, .fn (.func 27) [] []] st (resP cmdV (cmdV cmd0) (pR rCommand s)) st := by
  refine VCalls_defer (fn := Tryz.f26) (r0 := cL (bodyC Tryz.f26)) (r1 := cL (cR (bodyC Tryz.f26))) (cnd := cL (cR (cR (bodyC Tryz.f26)))) (dreg := cL (cR (cR (cR (bodyC Tryz.f26))))) (rest := cR (cR (cR (cR (bodyC Tryz.f26)))))
    (res := [.cell 4 (some 19), .cell 5 none, .cell 6 none]) (g := 61) (t := 21) (tcaps := [4, 5, 6]) Tryz.func26 rfl rfl (by kernel_rfl) (by decide) ?_ ?_ (by exact (by decide : 2 ≤ 35)) (fun hwf => ?_)
  · intro a w Q hn hQ
    have hmf : ∀ (fn : Fn) (first cap : Array Value) (w : World), (Instr.makeFunc fn first cap).run Tryz.prog w = .ok (.func fn first cap) w := fun _ _ _ _ => rfl
    show Code.wp Tryz.prog (Code.region 4 _ false) Q a w
    apply wp_region
    have hn' : a.tmps.size = 35 := hn
    simp [wpOps, hmf, go_sem, Act.put, hn'] at hQ ⊢
    exact .inl (.inl hQ)
  · intro cap w
    simp [go_sem]
  · have e1 : ∀ k : Nat, (st.nx + k + 1 = st.nx) = False := fun k => eq_false (by omega)
    obtain ⟨l, a, e, hS⟩ : ∃ l a e, scanR s = (l, a, e) := ⟨_, _, _, rfl⟩
    have hWf : e = 0 → WfT l := fun he => by have := scanR_wf (s := s) (by rw [hS]; exact he); rwa [hS] at this
    have hP : pR rCommand s = if (e != 0) = true then .error ((a : Int), e) else pE (rCommand l) := by unfold pR; rw [hS]
    have hsc := scan_v s
    rw [hS] at hsc
    unfold scanV at hsc
    refine W_tab X26l_ok ?_
    (repeat' first | ((first | refine go rfl rfl ?_ | (refine Fk.by_ ?_ ?_ <;> intro hc <;> try simp only [hc]) | refine storeK_eq rfl ?_ | with_reducible refine And.intro ?_ ?_ | fail) <;> try simp only [push_cast, reduceIte, Nat.reduceEqDiff, reduceCtorEq, Nat.reduceAdd, Nat.reduceLeDiff, Nat.reduceBEq]))
    refine W_tab X26rl_ok ?_
    (repeat' first | ((first | refine go rfl rfl ?_ | refine Cl.by_ (by (first | refine hsc _)) ?_ | (refine Fk.by_ ?_ ?_ <;> intro hc <;> try simp only [hc]) | refine storeK_eq rfl ?_ | with_reducible refine And.intro ?_ ?_ | fail) <;> try simp only [push_cast, reduceIte, Nat.reduceEqDiff, reduceCtorEq, Nat.reduceAdd, Nat.reduceLeDiff, Nat.reduceBEq]))
    refine W_tab X26rrl_ok ?_
    (repeat' first | ((first | refine go rfl rfl ?_ | (refine Fk.by_ ?_ ?_ <;> intro hc <;> try simp only [hc]) | refine storeK_eq rfl ?_ | with_reducible refine And.intro ?_ ?_ | fail) <;> try simp only [push_cast, reduceIte, Nat.reduceEqDiff, reduceCtorEq, Nat.reduceAdd, Nat.reduceLeDiff, Nat.reduceBEq]))
    · rw [hP, if_pos hc]
      all_goals refine finB (hwf) (by simp only [resP, cmdV, cmdL, cmd0, fix0, selO, push_cast, reduceIte, Nat.reduceEqDiff, reduceCtorEq, Nat.reduceAdd, Nat.reduceLeDiff, Nat.reduceBEq]; exact rfl) (by first | exact .inl rfl | (right; simp only [resP, cmdV, cmdL, cmd0, fix0, selO, push_cast, reduceIte, Nat.reduceEqDiff, reduceCtorEq, Nat.reduceAdd, Nat.reduceLeDiff, Nat.reduceBEq]; try rfl)) (by first | rfl | assumption) (by simp) (by simp) (by (repeat first | exact (hwf).subm | exact (hwf).suba | refine Sub.drop (by simp) ?_)) (by (repeat first | exact (hwf).subm | exact (hwf).suba | refine Sub.drop (by simp) ?_)) (by (repeat first | exact (hwf).subx | refine ExSub.dropt (by simp) ?_ | refine ExSub.drop (by simp) ?_))
    · rw [hP, if_neg (by rw [hc]; decide)]
      have hwl := hWf (by simpa using hc)
      refine ⟨[.ptr st.nx 0, .ptr (st.nx + 1) 0, .ptr (st.nx + 2) 0], by simp [DK.mapOL, Sha.look], fun D => W_tab X26rrrr_ok ?_⟩
      (repeat' first | (with_reducible intro x1 x2 hE hW <;> (try (have hI := rNumber_inv hE; obtain ⟨rfl, rfl, hK⟩ := hI)) <;> (try (have hI := rMust_inv hE; obtain ⟨rfl, -⟩ := hI)) <;> (try (have hI := rUnit_inv hE; obtain ⟨u1, u2, rfl⟩ := hI; dsimp only)) <;> try simp only [stR_eq, lookR, Option.map_some, tkV, cmdV, cmdL, push_cast, reduceIte, Nat.reduceEqDiff, reduceCtorEq, Nat.reduceAdd, Nat.reduceLeDiff, Nat.reduceBEq]) | (with_reducible intro x1 x2 x3 hE <;> try simp only [stR_eq, lookR, Option.map_some, tkV, cmdV, cmdL, push_cast, reduceIte, Nat.reduceEqDiff, reduceCtorEq, Nat.reduceAdd, Nat.reduceLeDiff, Nat.reduceBEq]) | (with_reducible intro hE2 <;> try simp only [stR_eq, lookR, Option.map_some, tkV, cmdV, cmdL, push_cast, reduceIte, Nat.reduceEqDiff, reduceCtorEq, Nat.reduceAdd, Nat.reduceLeDiff, Nat.reduceBEq]) | ((first | refine go rfl rfl ?_ | refine RdK.c (by first | assumption | (simp only [stR_eq, lookR, Option.map_some, tkV, cmdV, cmdL, push_cast, reduceIte, Nat.reduceEqDiff, reduceCtorEq, Nat.reduceAdd, Nat.reduceLeDiff, Nat.reduceBEq] <;> exact rfl)) (by assumption) (by assumption) ?_ | refine snap_two (by simp only [stR_eq, lookR, Option.map_some, tkV, cmdV, cmdL, push_cast, reduceIte, Nat.reduceEqDiff, reduceCtorEq, Nat.reduceAdd, Nat.reduceLeDiff, Nat.reduceBEq] <;> exact rfl) ?_ | (refine Fk.by_ ?_ ?_ <;> intro hc <;> try simp only [hc]) | refine storeK_eq rfl ?_ | with_reducible refine And.intro ?_ ?_ | fail) <;> try simp only [stR_eq, lookR, Option.map_some, tkV, cmdV, cmdL, push_cast, reduceIte, Nat.reduceEqDiff, reduceCtorEq, Nat.reduceAdd, Nat.reduceLeDiff, Nat.reduceBEq]))
      · have hpe : pE (rCommand l) = .error ((hd x2).a, 4) := by simp [pE, hE, hc]
        rw [hpe]
        refine ⟨_, catch61 (o := st.nx) (p := st.nx + 1) (q := st.nx + 2) (by first | (simp only [push_cast, reduceIte, Nat.reduceEqDiff, reduceCtorEq, Nat.reduceAdd, Nat.reduceLeDiff, Nat.reduceBEq]; done) | (simp only [push_cast, reduceIte, Nat.reduceEqDiff, reduceCtorEq, Nat.reduceAdd, Nat.reduceLeDiff, Nat.reduceBEq]; exact rfl)) (by first | (simp only [push_cast, reduceIte, Nat.reduceEqDiff, reduceCtorEq, Nat.reduceAdd, Nat.reduceLeDiff, Nat.reduceBEq]; done) | (simp only [push_cast, reduceIte, Nat.reduceEqDiff, reduceCtorEq, Nat.reduceAdd, Nat.reduceLeDiff, Nat.reduceBEq]; exact rfl)) (by first | (simp only [push_cast, reduceIte, Nat.reduceEqDiff, reduceCtorEq, Nat.reduceAdd, Nat.reduceLeDiff, Nat.reduceBEq]; done) | (simp only [push_cast, reduceIte, Nat.reduceEqDiff, reduceCtorEq, Nat.reduceAdd, Nat.reduceLeDiff, Nat.reduceBEq]; exact rfl)) (by omega) (by omega) (by omega), ?_⟩
        simp only [push_cast, reduceIte, Nat.reduceEqDiff, reduceCtorEq, Nat.reduceAdd, Nat.reduceLeDiff, Nat.reduceBEq]
        exact ⟨_, (by first | rfl | (simp only [push_cast, reduceIte, Nat.reduceEqDiff, reduceCtorEq, Nat.reduceAdd, Nat.reduceLeDiff, Nat.reduceBEq]; exact rfl)), resP cmdV (cmdV cmd0) (.error ((hd x2).a, 4)), st, .inl rfl, bd_resC, Weak.wf rfl (by simp) (by repeat first | exact hwf.subm | refine Sub.drop (by simp) ?_) hwf.suba hwf.subx hwf, Nat.le_refl _, rfl, rfl⟩
      · have hpe : pE (rCommand l) = .ok x1 := by simp [pE, hE, hc]
        rw [hpe]
        refine ⟨idle61 (by exact (by decide : 3 ≤ 23)) _, ?_⟩
        exact ⟨_, (by first | rfl | (simp only [push_cast, reduceIte, Nat.reduceEqDiff, reduceCtorEq, Nat.reduceAdd, Nat.reduceLeDiff, Nat.reduceBEq]; exact rfl)), resP cmdV (cmdV cmd0) (.ok x1), st, .inl rfl, bd_resC, Weak.wf rfl (by simp) (by repeat first | exact hwf.subm | refine Sub.drop (by simp) ?_) hwf.suba hwf.subx hwf, Nat.le_refl _, rfl, rfl⟩
      · have hpe : pE (rCommand l) = .error (x1, x2) := by simp [pE, *]
        rw [hpe]
        refine ⟨_, catch61 (o := st.nx) (p := st.nx + 1) (q := st.nx + 2) (by first | (simp only [push_cast, reduceIte, Nat.reduceEqDiff, reduceCtorEq, Nat.reduceAdd, Nat.reduceLeDiff, Nat.reduceBEq]; done) | (simp only [push_cast, reduceIte, Nat.reduceEqDiff, reduceCtorEq, Nat.reduceAdd, Nat.reduceLeDiff, Nat.reduceBEq]; exact rfl)) (by first | (simp only [push_cast, reduceIte, Nat.reduceEqDiff, reduceCtorEq, Nat.reduceAdd, Nat.reduceLeDiff, Nat.reduceBEq]; done) | (simp only [push_cast, reduceIte, Nat.reduceEqDiff, reduceCtorEq, Nat.reduceAdd, Nat.reduceLeDiff, Nat.reduceBEq]; exact rfl)) (by first | (simp only [push_cast, reduceIte, Nat.reduceEqDiff, reduceCtorEq, Nat.reduceAdd, Nat.reduceLeDiff, Nat.reduceBEq]; done) | (simp only [push_cast, reduceIte, Nat.reduceEqDiff, reduceCtorEq, Nat.reduceAdd, Nat.reduceLeDiff, Nat.reduceBEq]; exact rfl)) (by omega) (by omega) (by omega), ?_⟩
        simp only [push_cast, reduceIte, Nat.reduceEqDiff, reduceCtorEq, Nat.reduceAdd, Nat.reduceLeDiff, Nat.reduceBEq]
        exact ⟨_, (by first | rfl | (simp only [push_cast, reduceIte, Nat.reduceEqDiff, reduceCtorEq, Nat.reduceAdd, Nat.reduceLeDiff, Nat.reduceBEq]; exact rfl)), resP cmdV (cmdV cmd0) (.error (x1, x2)), st, .inl rfl, bd_resC, Weak.wf rfl (by simp) (by repeat first | exact hwf.subm | refine Sub.drop (by simp) ?_) hwf.suba hwf.subx hwf, Nat.le_refl _, rfl, rfl⟩
end Go.Proofs.YtnondemehfkalaaGreatDoor

set_option maxRecDepth 10000
namespace Go.Proofs.YtnondemehfkalaaGreatDoor
open Go.Sha

theorem int_read {A : List UInt8} {a most o : Int} {r : List Tok} (h1 : digsB A = true) (h2 : (capV (numD A) : Int) = a) (h3 : 1 ≤ a) (h4 : a ≤ most) : rInt most (⟨1, A, o⟩ :: r) = .ok (a, r) := by
  have hk : ((hd (⟨1, A, o⟩ :: r)).k != 1) = false := rfl
  unfold rInt
  rw [rNum_ok hk]
  show (if (!(digsB A)) = true then _ else if (decide ((capV (numD A) : Int) < 1) || decide (most < (capV (numD A) : Int))) = true then _ else Except.ok ((capV (numD A) : Int), r)) = _
  rw [h1, h2, if_neg (by decide), if_neg (by simp; omega)]
def rgC (a b v : Int) : Cmd := { cmd0 with verb := [97, 116], sel := some [⟨0, 0, a, b⟩], lev := v, time := -1 }
theorem attr_at : attrN [97, 116] = (0, 8) := by decide
theorem rg_read {A B P : List UInt8} {a b v o1 o2 o3 o4 o5 o6 : Int} (hA1 : digsB A = true) (hA2 : (capV (numD A) : Int) = a) (ha1 : 1 ≤ a) (ha2 : a ≤ 999) (hB1 : digsB B = true) (hB2 : (capV (numD B) : Int) = b) (hb1 : 1 ≤ b) (hb2 : b ≤ 999) (hP : pctN P = (v, 0)) :
    pE (rCommand [⟨1, A, o1⟩, ⟨0, [116, 104, 114, 117], o2⟩, ⟨1, B, o3⟩, ⟨0, [97, 116], o4⟩, ⟨1, P, o5⟩, ⟨3, [], o6⟩]) = if decide (b < a) = true then .error (o3, 9) else .ok (rgC a b v) := by
  have r1 := fun r => int_read (o := o1) (r := r) hA1 hA2 ha1 ha2
  have r2 := fun r => int_read (o := o3) (r := r) hB1 hB2 hb1 hb2
  cases hc : decide (b < a) with
  | true => simp [rCommand, rSet, rSelection, rTerm, rNext, rWord, rOk, hdIs, hd, r1, r2, hc, pE] <;> simp_all
  | false =>
    simp [rCommand, rSet, rSelection, rTerm, rNext, rWord, hdIs, hd, r1, r2, hc, pE, rMore, rSign, rOk, rKind, attr_at, rNeed, rLevel, rNumber, rMust, hP, rTime, rgC, cmd0]

theorem rg_law {a b p : Nat} (ha1 : 1 ≤ a) (ha2 : a ≤ 999) (hb1 : 1 ≤ b) (hb2 : b ≤ 999) (hp : p ≤ 100) :
    pR rCommand (((Lib.itoa a ++ [32, 116, 104, 114, 117, 32]) ++ Lib.itoa b) ++ [32, 97, 116, 32] ++ Lib.itoa p) = if decide ((b : Int) < (a : Int)) = true then .error (((Lib.itoa a).length + 6 : Nat), 9) else .ok (rgC a b (((2 * 65535 * p + 100) / 200 : Nat) : Int)) := by
  obtain ⟨a1, a2, a3, a4, a5⟩ := numOk_at (n := a) (by omega)
  obtain ⟨b1, b2, b3, b4, b5⟩ := numOk_at (n := b) (by omega)
  obtain ⟨p1, p2, p3, p4, p5⟩ := numOk_at (n := p) (by omega)
  have hpc := pctOk_at hp
  have e : ((Lib.itoa a ++ [32, 116, 104, 114, 117, 32]) ++ Lib.itoa b) ++ [32, 97, 116, 32] ++ Lib.itoa p = pcs [⟨0, 1, Lib.itoa a, Lib.itoa a⟩, ⟨1, 0, [116, 104, 114, 117], [116, 104, 114, 117]⟩, ⟨1, 1, Lib.itoa b, Lib.itoa b⟩, ⟨1, 0, [97, 116], [97, 116]⟩, ⟨1, 1, Lib.itoa p, Lib.itoa p⟩] 0 := by
    simp [pcs]
  have hs := scanR_pcs (l := [⟨0, 1, Lib.itoa a, Lib.itoa a⟩, ⟨1, 0, [116, 104, 114, 117], [116, 104, 114, 117]⟩, ⟨1, 1, Lib.itoa b, Lib.itoa b⟩, ⟨1, 0, [97, 116], [97, 116]⟩, ⟨1, 1, Lib.itoa p, Lib.itoa p⟩]) (m := 0) (fun x hx => by
    simp only [List.mem_cons, List.not_mem_nil, or_false] at hx
    rcases hx with rfl | rfl | rfl | rfl | rfl
    · exact ⟨a4, (show (1 : Int) ≠ 3 by decide), a5⟩
    · exact ⟨by decide, by decide, by decide⟩
    · exact ⟨b4, (show (1 : Int) ≠ 3 by decide), b5⟩
    · exact ⟨by decide, by decide, by decide⟩
    · exact ⟨p4, (show (1 : Int) ≠ 3 by decide), p5⟩) (fun x hx => by
    simp only [List.tail_cons, List.mem_cons, List.not_mem_nil, or_false] at hx
    rcases hx with rfl | rfl | rfl | rfl <;> exact Nat.zero_lt_one) (by simp [pcs]; omega) (by simp)
  rw [e]
  unfold pR
  rw [hs]
  show pE (rCommand (pcT 0 _ 0)) = _
  simp only [pcT]
  have hA : (capV (numD (Lib.itoa a)) : Int) = (a : Int) := by rw [a2]; unfold capV; omega
  have hB : (capV (numD (Lib.itoa b)) : Int) = (b : Int) := by rw [b2]; unfold capV; omega
  rw [rg_read a1 hA (by omega) (by omega) b1 hB (by omega) (by omega) hpc]
  have ho : ((0 + 0 + (Lib.itoa a).length + 1 + ([116, 104, 114, 117] : List UInt8).length + 1 : Nat) : Int) = (((Lib.itoa a).length + 6 : Nat) : Int) := by simp; omega
  rw [ho]
end Go.Proofs.YtnondemehfkalaaGreatDoor

set_option maxRecDepth 10000
namespace Go.Proofs.YtnondemehfkalaaGreatDoor
open Go.Sha

def frR (r : Nat) : List UInt8 := (Lib.itoa ((1000 + r : Nat) : Int)).drop 1
def whOk (q : Nat) : Bool := digsB (Lib.itoa q) && decide (numD (Lib.itoa q) = q) && decide ((Lib.itoa q).length ≤ 5) && (Lib.itoa q).all digB && decide (Lib.itoa q ≠ [])
theorem whOk_all : (List.range 10001).all whOk = true := by decide +kernel
theorem whOk_at {q : Nat} (h : q ≤ 10000) : digsB (Lib.itoa q) = true ∧ numD (Lib.itoa q) = q ∧ (Lib.itoa q).length ≤ 5 ∧ (Lib.itoa q).all digB = true ∧ Lib.itoa q ≠ [] := by
  have := List.all_eq_true.1 whOk_all q (List.mem_range.2 (by omega))
  simpa only [whOk, and_assoc, Bool.and_eq_true, decide_eq_true_eq] using this
def frOk (r : Nat) : Bool := decide ((Lib.itoa ((1000 + r : Nat) : Int)).length = 4) && (frR r).all digB && decide (numD (49 :: (frR r ++ [48, 48, 48]).take 3) = 1000 + r) &&
  (if r = 0 then decide (Lib.trimRightB (frR r) 48 = []) else decide (Lib.trimRightB (frR r) 48 ≠ []) && decide ((Lib.trimRightB (frR r) 48).length ≤ 3) && (Lib.trimRightB (frR r) 48).all digB && decide (numD (49 :: (Lib.trimRightB (frR r) 48 ++ [48, 48, 48]).take 3) = 1000 + r))
theorem frOk_all : (List.range 1000).all frOk = true := by decide +kernel
theorem frOk_at {r : Nat} (h : r < 1000) : (Lib.itoa ((1000 + r : Nat) : Int)).length = 4 ∧ (frR r).all digB = true ∧ numD (49 :: (frR r ++ [48, 48, 48]).take 3) = 1000 + r ∧
    (if r = 0 then Lib.trimRightB (frR r) 48 = [] else Lib.trimRightB (frR r) 48 ≠ [] ∧ (Lib.trimRightB (frR r) 48).length ≤ 3 ∧ (Lib.trimRightB (frR r) 48).all digB = true ∧ numD (49 :: (Lib.trimRightB (frR r) 48 ++ [48, 48, 48]).take 3) = 1000 + r) := by
  have := List.all_eq_true.1 frOk_all r (List.mem_range.2 h)
  unfold frOk at this
  split at this
  · rename_i h0
    rw [if_pos h0]
    simpa only [and_assoc, Bool.and_eq_true, decide_eq_true_eq] using this
  · rename_i h0
    rw [if_neg h0]
    simpa only [and_assoc, Bool.and_eq_true, decide_eq_true_eq] using this

theorem dig_46 {b : UInt8} (h : digB b = true) : b ≠ 46 := by rintro rfl; cases h
theorem posB_dig : ∀ {W : List UInt8} {X : List UInt8}, W.all digB = true → posB 46 (W ++ 46 :: X) = W.length
  | [], X, _ => by rw [List.nil_append, posB_cons]; rfl
  | b :: W, X, h => by
    simp only [List.all_cons, Bool.and_eq_true] at h
    rw [List.cons_append, posB_cons, if_neg (by simpa using dig_46 h.1), posB_dig h.2]; rfl
theorem posB_digs : ∀ {W : List UInt8}, W.all digB = true → posB 46 W = W.length
  | [], _ => rfl
  | b :: W, h => by
    simp only [List.all_cons, Bool.and_eq_true] at h
    rw [posB_cons, if_neg (by simpa using dig_46 h.1), posB_digs h.2]; rfl
theorem cut_pt {W X : List UInt8} (h : W.all digB = true) : cutW 46 (W ++ 46 :: X) = W ∧ cutR 46 (W ++ 46 :: X) = X ∧ cutP 46 (W ++ 46 :: X) = true := by
  refine ⟨?_, ?_, ?_⟩
  · unfold cutW; rw [posB_dig h, List.take_left]
  · unfold cutR; rw [posB_dig h, List.drop_append, List.drop_of_length_le (by omega), show W.length + 1 - W.length = 1 by omega]; rfl
  · unfold cutP; rw [posB_dig h]; simp
theorem cut_no {W : List UInt8} (h : W.all digB = true) : cutW 46 W = W ∧ cutR 46 W = [] ∧ cutP 46 W = false := by
  refine ⟨?_, ?_, ?_⟩
  · unfold cutW; rw [posB_digs h, List.take_length]
  · unfold cutR; rw [posB_digs h, List.drop_eq_nil_of_le (by omega)]
  · unfold cutP; rw [posB_digs h]; simp
theorem sec_pt {W X : List UInt8} {q r : Nat} (hW : digsB W = true) (hWd : W.all digB = true) (hq : numD W = q) (hX : X ≠ []) (hl : X.length ≤ 3) (hX2 : X.all digB = true) (hr : numD (49 :: (X ++ [48, 48, 48]).take 3) = 1000 + r) (h3 : r < 1000) (hm : 1000 * q + r ≤ 10000000) : secN (W ++ 46 :: X) = (((1000 * q + r : Nat) : Int), 0) := by
  obtain ⟨c1, c2, c3⟩ := cut_pt (X := X) hWd
  have hb : secBad (W ++ 46 :: X) = false := by
    unfold secBad
    rw [c1, c2, c3, hW, hX2]
    have e1 : (X == []) = false := by simpa using hX
    have e2 : decide (3 < (X.length : Int)) = false := decide_eq_false (by omega)
    rw [e1, e2]; rfl
  have hs : msS (W ++ 46 :: X) = ((1000 * q + r : Nat) : Int) := by
    unfold msS capV
    rw [c1, c2, hq, hr]; omega
  unfold secN
  rw [hb, hs, if_neg (by decide), if_neg (by rw [decide_eq_true_eq]; omega)]
theorem sec_no {W : List UInt8} {q : Nat} (hW : digsB W = true) (hWd : W.all digB = true) (hq : numD W = q) (hm : 1000 * q ≤ 10000000) : secN W = (((1000 * q : Nat) : Int), 0) := by
  obtain ⟨c1, c2, c3⟩ := cut_no hWd
  have hb : secBad W = false := by
    unfold secBad
    rw [c1, c2, c3, hW]; rfl
  have hs : msS W = ((1000 * q : Nat) : Int) := by
    unfold msS
    rw [c1, c2, hq]
    have : capV (numD (49 :: (([] : List UInt8) ++ [48, 48, 48]).take 3)) = 1000 := rfl
    rw [this]; unfold capV; omega
  unfold secN
  rw [hb, hs, if_neg (by decide), if_neg (by rw [decide_eq_true_eq]; omega)]
theorem trimR_app {a b : List UInt8} {c : UInt8} : Lib.trimRightB (a ++ b) c = if Lib.trimRightB b c = [] then Lib.trimRightB a c else a ++ Lib.trimRightB b c := by
  unfold Lib.trimRightB
  rw [List.reverse_append, List.dropWhile_append]
  split
  · rename_i h
    rw [if_pos (by simpa using h)]
  · rename_i h
    rw [if_neg (by simpa using h)]; simp
end Go.Proofs.YtnondemehfkalaaGreatDoor

namespace Go.Proofs.YtnondemehfkalaaGreatDoor
open Go.Sha
/-- luminaire/luminaireref39.Same -/
def F12 : FT := ⟨113, 2, [.tmp 4],
 [.seq 1 2,
 .reg [.s 2 (.box 28 (.t 0)),
 .s 3 (.box 28 (.t 1)),
 .s 4 (.mv (.c (.bool false)))],
 .seq 3 10,
 .seq 4 5,
 .reg [.s 6 (.a 18 2),
 .s 7 (.l 6),
 .s 8 (.len (.t 7)),
 .s 9 (.a 18 3),
 .s 10 (.l 9),
 .s 11 (.len (.t 10)),
 .s 12 (.bin .neq (.t 8) (.t 11))],
 .cond (.t 12) 6 9,
 .seq 7 8,
 .reg [.s 4 (.mv (.c (.bool false)))],
 .ret,
 .skip,
 .seq 11 31,
 .seq 12 13,
 .reg [.s 5 (.mv (.i 0))],
 .block 0 14,
 .loop 15,
 .seq 16 21,
 .seq 17 18,
 .reg [.s 13 (.m 5),
 .s 14 (.a 18 2),
 .s 15 (.l 14),
 .s 16 (.len (.t 15)),
 .s 17 (.bin .lss (.t 13) (.t 16))],
 .cond (.t 17) 19 20,
 .skip,
 .exit 0,
 .seq 22 30,
 .block 1 23,
 .seq 24 25,
 .dreg 11 [.s 20 (.a 18 2),
 .s 21 (.l 20),
 .s 22 (.m 5),
 .s 23 (.iadr 6 (.t 21) (.t 22)),
 .s 24 (.load (some 6) (.t 23)),
 .s 25 (.a 18 3),
 .s 26 (.l 25),
 .s 27 (.m 5),
 .s 28 (.iadr 6 (.t 26) (.t 27)),
 .s 29 (.load (some 6) (.t 28)),
 .s 30 (.eqs true [.i, .i, .i, .i, .i, .i] (.t 24) (.t 29))],
 .cond (.t 30) 26 29,
 .seq 27 28,
 .reg [.s 4 (.mv (.c (.bool false)))],
 .ret,
 .skip,
 .reg [.s 18 (.m 5),
 .s 19 (.bin .add (.t 18) (.i 1)),
 .s 5 (.m 19)],
 .seq 32 33,
 .reg [.s 31 (.a 0 2),
 .s 32 (.l 31),
 .s 33 (.a 0 3),
 .s 34 (.l 33),
 .s 35 (.bin .eql (.t 32) (.t 34)),
 .s 36 (.m 35),
 .y 37 (.a 1 2) 36,
 .y 38 (.l 37) 36,
 .y 39 (.a 1 3) 36,
 .y 40 (.l 39) 36,
 .y 41 (.bin .eql (.t 38) (.t 40)) 36,
 .s 42 (.pick (.t 36) (.t 41) (.c (.bool false))),
 .s 43 (.m 42),
 .y 44 (.a 2 2) 43,
 .y 45 (.l 44) 43,
 .y 46 (.a 2 3) 43,
 .y 47 (.l 46) 43,
 .y 48 (.bin .eql (.t 45) (.t 47)) 43,
 .s 49 (.pick (.t 43) (.t 48) (.c (.bool false))),
 .s 50 (.m 49),
 .y 51 (.a 3 2) 50,
 .y 52 (.l 51) 50,
 .y 53 (.a 3 3) 50,
 .y 54 (.l 53) 50,
 .y 55 (.bin .eql (.t 52) (.t 54)) 50,
 .s 56 (.pick (.t 50) (.t 55) (.c (.bool false))),
 .s 57 (.m 56),
 .y 58 (.a 4 2) 57,
 .y 59 (.l 58) 57,
 .y 60 (.a 4 3) 57,
 .y 61 (.l 60) 57,
 .y 62 (.bin .eql (.t 59) (.t 61)) 57,
 .s 63 (.pick (.t 57) (.t 62) (.c (.bool false))),
 .s 64 (.m 63),
 .y 65 (.a 5 2) 64,
 .y 66 (.l 65) 64,
 .y 67 (.a 5 3) 64,
 .y 68 (.l 67) 64,
 .y 69 (.f 20 [(.t 66), (.t 68)]) 64,
 .s 70 (.pick (.t 64) (.t 69) (.c (.bool false))),
 .s 71 (.m 70),
 .y 72 (.a 6 2) 71,
 .y 73 (.l 72) 71,
 .y 74 (.a 6 3) 71,
 .y 75 (.l 74) 71,
 .y 76 (.bin .eql (.t 73) (.t 75)) 71,
 .s 77 (.pick (.t 71) (.t 76) (.c (.bool false))),
 .s 78 (.m 77),
 .y 79 (.a 7 2) 78,
 .y 80 (.l 79) 78,
 .y 81 (.a 7 3) 78,
 .y 82 (.l 81) 78,
 .y 83 (.bin .eql (.t 80) (.t 82)) 78,
 .s 84 (.pick (.t 78) (.t 83) (.c (.bool false))),
 .s 85 (.m 84),
 .y 86 (.a 8 2) 85,
 .y 87 (.l 86) 85,
 .y 88 (.a 8 3) 85,
 .y 89 (.l 88) 85,
 .y 90 (.bin .eql (.t 87) (.t 89)) 85,
 .s 91 (.pick (.t 85) (.t 90) (.c (.bool false))),
 .s 92 (.m 91),
 .y 93 (.a 9 2) 92,
 .y 94 (.l 93) 92,
 .y 95 (.a 9 3) 92,
 .y 96 (.l 95) 92,
 .y 97 (.bin .eql (.t 94) (.t 96)) 92,
 .s 98 (.pick (.t 92) (.t 97) (.c (.bool false))),
 .s 99 (.m 98),
 .y 100 (.a 10 2) 99,
 .y 101 (.l 100) 99,
 .y 102 (.a 10 3) 99,
 .y 103 (.l 102) 99,
 .y 104 (.bin .eql (.t 101) (.t 103)) 99,
 .s 105 (.pick (.t 99) (.t 104) (.c (.bool false))),
 .s 106 (.m 105),
 .y 107 (.a 11 2) 106,
 .y 108 (.load (some 7) (.t 107)) 106,
 .y 109 (.a 11 3) 106,
 .y 110 (.load (some 7) (.t 109)) 106,
 .y 111 (.eqs false [.i, .i, .s, .i, .i, .i, .s] (.t 108) (.t 110)) 106,
 .s 112 (.pick (.t 106) (.t 111) (.c (.bool false))),
 .s 4 (.m 112)],
 .ret]⟩

/-- luminaire/luminaireref39.SameSelect -/
def F20 : FT := ⟨26, 2, [.tmp 4],
 [.seq 1 2,
 .reg [.s 4 (.mv (.c (.bool false)))],
 .seq 3 10,
 .seq 4 5,
 .reg [.s 6 (.m 0),
 .s 7 (.len (.t 6)),
 .s 8 (.m 1),
 .s 9 (.len (.t 8)),
 .s 10 (.bin .neq (.t 7) (.t 9))],
 .cond (.t 10) 6 9,
 .seq 7 8,
 .reg [.s 4 (.mv (.c (.bool false)))],
 .ret,
 .skip,
 .seq 11 31,
 .seq 12 13,
 .reg [.s 5 (.mv (.i 0))],
 .block 0 14,
 .loop 15,
 .seq 16 21,
 .seq 17 18,
 .reg [.s 11 (.m 5),
 .s 12 (.m 0),
 .s 13 (.len (.t 12)),
 .s 14 (.bin .lss (.t 11) (.t 13))],
 .cond (.t 14) 19 20,
 .skip,
 .exit 0,
 .seq 22 30,
 .block 1 23,
 .seq 24 25,
 .dreg 9 [.s 17 (.m 0),
 .s 18 (.m 5),
 .s 19 (.iadr 4 (.t 17) (.t 18)),
 .s 20 (.load (some 4) (.t 19)),
 .s 21 (.m 1),
 .s 22 (.m 5),
 .s 23 (.iadr 4 (.t 21) (.t 22)),
 .s 24 (.load (some 4) (.t 23)),
 .s 25 (.eqs true [.i, .i, .i, .i] (.t 20) (.t 24))],
 .cond (.t 25) 26 29,
 .seq 27 28,
 .reg [.s 4 (.mv (.c (.bool false)))],
 .ret,
 .skip,
 .reg [.s 15 (.m 5),
 .s 16 (.bin .add (.t 15) (.i 1)),
 .s 5 (.m 16)],
 .seq 32 33,
 .reg [.s 4 (.mv (.c (.bool true)))],
 .ret]⟩

theorem F12_ok : compFn Tryz.prog 12 = some F12 := by kernel_rfl
theorem F20_ok : compFn Tryz.prog 20 = some F20 := by kernel_rfl
end Go.Proofs.YtnondemehfkalaaGreatDoor

set_option maxRecDepth 10000
namespace Go.Proofs.YtnondemehfkalaaGreatDoor
open Go.Sha

theorem cells_selO {o : Option (List Sel)} : (selO o).cells = [selO o] := by cases o <;> rfl
theorem part_selO {st : St} {o : Option (List Sel)} : partOk st (selO o) = true := by cases o <;> rfl

theorem sameSl_b (x y : List Sel) (st : St) (hx : x.length ≤ maxLen) : VRet Tryz.prog 20 [selsV x, selsV y] st (.bool (decide (x = y))) st := by
  have hbx : V.bdL st.nx (x.map selV) = true := bdL_sel
  have hby : V.bdL st.nx (y.map selV) = true := bdL_sel
  refine VCalls_of F20_ok mixed (Nat.le_of_ble_eq_true rfl) (fun hwf => ?_)
  by_cases hl : x.length = y.length
  · have h0 : ((x.length : Int) != (y.length : Int)) = false := by simp [hl]
    (repeat' first | ((first | refine go rfl rfl ?_ | (refine Fk.by_ ?_ ?_ <;> intro hc <;> try simp only [hc]) | refine storeK_eq rfl ?_ | with_reducible refine And.intro ?_ ?_ | fail) <;> try simp only [h0, selsV, push_cast, reduceIte, Nat.reduceEqDiff, reduceCtorEq, Nat.reduceAdd, Nat.reduceLeDiff, Nat.reduceBEq]))
    refine WT_loop rfl (fun n e z => ∃ j : Nat, n = x.length - j ∧ j ≤ x.length ∧ x.take j = y.take j ∧ e = [(5, .int .i64 (j : Int)), (4, .bool false), (0, .sl (x.map selV)), (1, .sl (y.map selV))] ∧ z = st) st.nx (Nat.le_refl _) (by rintro _ _ _ ⟨j, _, _, _, _, rfl⟩; rfl)
      ⟨_, _, _, ⟨0, rfl, Nat.zero_le _, rfl, rfl, rfl⟩, (by repeat first | exact .nil | refine .cons (by first | rfl | (simp [V.bd, V.bdL]; try first | omega | assumption)) (by first | rfl | simp only [push_cast, reduceIte, Nat.reduceEqDiff, reduceCtorEq, Nat.reduceAdd, Nat.reduceLeDiff, Nat.reduceBEq]) ?_), .refl hwf⟩ ?_
    rintro n e z ⟨j, rfl, hj, he, rfl, rfl⟩
    rcases Nat.lt_or_ge j x.length with hlt | hge
    · obtain ⟨a, ha⟩ : ∃ a, x[j]? = some a := ⟨_, List.getElem?_eq_getElem hlt⟩
      obtain ⟨b, hb⟩ : ∃ b, y[j]? = some b := ⟨_, List.getElem?_eq_getElem (hl ▸ hlt)⟩
      have h1 : decide ((j : Int) < (x.length : Int)) = true := decide_eq_true (by omega)
      have hmx : maxLen = 9223372036854775807 := rfl
      have hw : IntKind.i64.wrap ((j : Int) + 1) = (j : Int) + 1 := wrap64 (by omega) (by omega)
      have hly : j < y.length := by omega
      have h2 : (!(a.op == b.op && (a.g == b.g && (a.f == b.f && a.t == b.t)))) = !decide (a = b) := by
        obtain ⟨a1, a2, a3, a4⟩ := a
        obtain ⟨b1, b2, b3, b4⟩ := b
        rw [Bool.eq_iff_iff]; simp
      (repeat' first | ((first | refine go rfl rfl ?_ | (refine Fk.by_ ?_ ?_ <;> intro hc <;> try simp only [hc]) | refine storeK_eq rfl ?_ | with_reducible refine And.intro ?_ ?_ | fail) <;> try simp only [h1, hw, ha, hb, cells_selV, h2, hlt, hly, push_cast, reduceIte, Nat.reduceEqDiff, reduceCtorEq, Nat.reduceAdd, Nat.reduceLeDiff, Nat.reduceBEq]))
      all_goals first
        | exact ⟨_, _, _, by omega, ⟨j + 1, rfl, by omega, (take_succ_eq ha hb he).2 (of_decide_eq_true hc), rfl, rfl⟩, (by repeat first | exact .nil | refine .cons (by first | rfl | (simp [V.bd, V.bdL]; try first | omega | assumption)) (by first | rfl | simp only [push_cast, reduceIte, Nat.reduceEqDiff, reduceCtorEq, Nat.reduceAdd, Nat.reduceLeDiff, Nat.reduceBEq]) ?_), .refl hwf⟩
        | (rw [decide_eq_false (fun e => of_decide_eq_false hc (by subst e; rw [ha] at hb; exact Option.some.inj hb))]; refine finB (hwf) (by simp only [F20, push_cast, reduceIte, Nat.reduceEqDiff, reduceCtorEq, Nat.reduceAdd, Nat.reduceLeDiff, Nat.reduceBEq]; exact rfl) (by first | exact .inl rfl | (right; simp only [F20, push_cast, reduceIte, Nat.reduceEqDiff, reduceCtorEq, Nat.reduceAdd, Nat.reduceLeDiff, Nat.reduceBEq]; try rfl)) (by first | rfl | assumption) (by simp) (by simp) (by (repeat first | exact (hwf).subm | exact (hwf).suba | refine Sub.drop (by simp) ?_)) (by (repeat first | exact (hwf).subm | exact (hwf).suba | refine Sub.drop (by simp) ?_)) (by (repeat first | exact (hwf).subx | refine ExSub.dropt (by simp) ?_ | refine ExSub.drop (by simp) ?_)))
       
    · have h1 : decide ((j : Int) < (x.length : Int)) = false := decide_eq_false (by omega)
      have exy : x = y := by rwa [List.take_of_length_le (by omega), List.take_of_length_le (by omega)] at he
      (repeat' first | ((first | refine go rfl rfl ?_ | (refine Fk.by_ ?_ ?_ <;> intro hc <;> try simp only [hc]) | refine storeK_eq rfl ?_ | with_reducible refine And.intro ?_ ?_ | fail) <;> try simp only [h1, push_cast, reduceIte, Nat.reduceEqDiff, reduceCtorEq, Nat.reduceAdd, Nat.reduceLeDiff, Nat.reduceBEq]))
      rw [decide_eq_true exy]
      refine finB (hwf) (by simp only [F20, push_cast, reduceIte, Nat.reduceEqDiff, reduceCtorEq, Nat.reduceAdd, Nat.reduceLeDiff, Nat.reduceBEq]; exact rfl) (by first | exact .inl rfl | (right; simp only [F20, push_cast, reduceIte, Nat.reduceEqDiff, reduceCtorEq, Nat.reduceAdd, Nat.reduceLeDiff, Nat.reduceBEq]; try rfl)) (by first | rfl | assumption) (by simp) (by simp) (by (repeat first | exact (hwf).subm | exact (hwf).suba | refine Sub.drop (by simp) ?_)) (by (repeat first | exact (hwf).subm | exact (hwf).suba | refine Sub.drop (by simp) ?_)) (by (repeat first | exact (hwf).subx | refine ExSub.dropt (by simp) ?_ | refine ExSub.drop (by simp) ?_))
  · have h0 : ((x.length : Int) != (y.length : Int)) = true := by simp; omega
    (repeat' first | ((first | refine go rfl rfl ?_ | (refine Fk.by_ ?_ ?_ <;> intro hc <;> try simp only [hc]) | refine storeK_eq rfl ?_ | with_reducible refine And.intro ?_ ?_ | fail) <;> try simp only [h0, selsV, push_cast, reduceIte, Nat.reduceEqDiff, reduceCtorEq, Nat.reduceAdd, Nat.reduceLeDiff, Nat.reduceBEq]))
    rw [decide_eq_false (fun e => hl (by rw [e]))]
    refine finB (hwf) (by simp only [F20, push_cast, reduceIte, Nat.reduceEqDiff, reduceCtorEq, Nat.reduceAdd, Nat.reduceLeDiff, Nat.reduceBEq]; exact rfl) (by first | exact .inl rfl | (right; simp only [F20, push_cast, reduceIte, Nat.reduceEqDiff, reduceCtorEq, Nat.reduceAdd, Nat.reduceLeDiff, Nat.reduceBEq]; try rfl)) (by first | rfl | assumption) (by simp) (by simp) (by (repeat first | exact (hwf).subm | exact (hwf).suba | refine Sub.drop (by simp) ?_)) (by (repeat first | exact (hwf).subm | exact (hwf).suba | refine Sub.drop (by simp) ?_)) (by (repeat first | exact (hwf).subx | refine ExSub.dropt (by simp) ?_ | refine ExSub.drop (by simp) ?_))
theorem callable20 : Callable Tryz.prog 20 := ⟨_, Tryz.func20, by kernel_rfl, by kernel_rfl⟩
theorem sl_len {w : World} {A : Abs} {v : Value} {xs : List V} (h : Rep w A v (.sl xs)) : xs.length ≤ maxLen := by
  cases h with
  | sl _ _ _ _ _ _ hes hcap hm hC hr => omega
  | slnil _ => exact Nat.zero_le _
theorem sameSl_v (x y : List Sel) (st : St) : VRet Tryz.prog 20 [selsV x, selsV y] st (.bool (decide (x = y))) st := by
  rcases Nat.lt_or_ge maxLen x.length with h | h
  · refine .inl ⟨callable20, fun w A vs hs ha => ?_⟩
    exfalso
    obtain ⟨u, v, rfl, h1, h2⟩ := ha.two
    have := sl_len h1
    rw [List.length_map] at this
    omega
  · exact sameSl_b x y st h
theorem sameNN_v (st : St) : VRet Tryz.prog 20 [.nils, .nils] st (.bool true) st := by
  refine VCalls_of F20_ok mixed (Nat.le_of_ble_eq_true rfl) (fun hwf => ?_)
  have z0 : ((0 : Int) != 0) = false := rfl
  · (repeat' first | ((first | refine go rfl rfl ?_ | (refine Fk.by_ ?_ ?_ <;> intro hc <;> try simp only [hc]) | refine storeK_eq rfl ?_ | with_reducible refine And.intro ?_ ?_ | fail) <;> try simp only [z0, push_cast, reduceIte, Nat.reduceEqDiff, reduceCtorEq, Nat.reduceAdd, Nat.reduceLeDiff, Nat.reduceBEq]))
    have z1 : decide ((0 : Int) < 0) = false := rfl
    refine WT_loop rfl (fun n e z => e = [(5, .int .i64 0), (4, .bool false), (0, .nils), (1, .nils)] ∧ z = st) st.nx (Nat.le_refl _) (by rintro _ _ _ ⟨_, rfl⟩; rfl)
      ⟨0, _, _, ⟨rfl, rfl⟩, (by repeat first | exact .nil | refine .cons (by first | rfl | (simp [V.bd, V.bdL]; try first | omega | assumption)) (by first | rfl | simp only [push_cast, reduceIte, Nat.reduceEqDiff, reduceCtorEq, Nat.reduceAdd, Nat.reduceLeDiff, Nat.reduceBEq]) ?_), .refl hwf⟩ ?_
    rintro n e z ⟨rfl, rfl⟩
    (repeat' first | ((first | refine go rfl rfl ?_ | (refine Fk.by_ ?_ ?_ <;> intro hc <;> try simp only [hc]) | refine storeK_eq rfl ?_ | with_reducible refine And.intro ?_ ?_ | fail) <;> try simp only [z1, push_cast, reduceIte, Nat.reduceEqDiff, reduceCtorEq, Nat.reduceAdd, Nat.reduceLeDiff, Nat.reduceBEq]))
    all_goals exact finRet0 hwf rfl rfl rfl
theorem sameNS_v (y : List Sel) (st : St) : VRet Tryz.prog 20 [.nils, selsV y] st (.bool (decide ([] = y))) st := by
  have hby : V.bdL st.nx (y.map selV) = true := bdL_sel
  refine VCalls_of F20_ok mixed (Nat.le_of_ble_eq_true rfl) (fun hwf => ?_)
  rcases y with _ | ⟨b, y⟩
  · have z0 : ((0 : Int) != 0) = false := rfl
    (repeat' first | ((first | refine go rfl rfl ?_ | (refine Fk.by_ ?_ ?_ <;> intro hc <;> try simp only [hc]) | refine storeK_eq rfl ?_ | with_reducible refine And.intro ?_ ?_ | fail) <;> try simp only [z0, selsV, push_cast, reduceIte, Nat.reduceEqDiff, reduceCtorEq, Nat.reduceAdd, Nat.reduceLeDiff, Nat.reduceBEq]))
    have z1 : decide ((0 : Int) < 0) = false := rfl
    refine WT_loop rfl (fun n e z => e = [(5, .int .i64 0), (4, .bool false), (0, .nils), (1, .sl [])] ∧ z = st) st.nx (Nat.le_refl _) (by rintro _ _ _ ⟨_, rfl⟩; rfl)
      ⟨0, _, _, ⟨rfl, rfl⟩, (by repeat first | exact .nil | refine .cons (by first | rfl | (simp [V.bd, V.bdL]; try first | omega | assumption)) (by first | rfl | simp only [push_cast, reduceIte, Nat.reduceEqDiff, reduceCtorEq, Nat.reduceAdd, Nat.reduceLeDiff, Nat.reduceBEq]) ?_), .refl hwf⟩ ?_
    rintro n e z ⟨rfl, rfl⟩
    (repeat' first | ((first | refine go rfl rfl ?_ | (refine Fk.by_ ?_ ?_ <;> intro hc <;> try simp only [hc]) | refine storeK_eq rfl ?_ | with_reducible refine And.intro ?_ ?_ | fail) <;> try simp only [z1, push_cast, reduceIte, Nat.reduceEqDiff, reduceCtorEq, Nat.reduceAdd, Nat.reduceLeDiff, Nat.reduceBEq]))
    all_goals exact finRet0 hwf rfl rfl rfl
  · have z0 : ((0 : Int) != (y.length : Int) + 1) = true := by simp; omega
    (repeat' first | ((first | refine go rfl rfl ?_ | (refine Fk.by_ ?_ ?_ <;> intro hc <;> try simp only [hc]) | refine storeK_eq rfl ?_ | with_reducible refine And.intro ?_ ?_ | fail) <;> try simp only [z0, selsV, push_cast, reduceIte, Nat.reduceEqDiff, reduceCtorEq, Nat.reduceAdd, Nat.reduceLeDiff, Nat.reduceBEq]))
    all_goals exact finRet0 hwf rfl rfl rfl
theorem sameSN_v (x : List Sel) (st : St) : VRet Tryz.prog 20 [selsV x, .nils] st (.bool (decide (x = []))) st := by
  have hbx : V.bdL st.nx (x.map selV) = true := bdL_sel
  refine VCalls_of F20_ok mixed (Nat.le_of_ble_eq_true rfl) (fun hwf => ?_)
  rcases x with _ | ⟨a, x⟩
  · have z0 : ((0 : Int) != 0) = false := rfl
    (repeat' first | ((first | refine go rfl rfl ?_ | (refine Fk.by_ ?_ ?_ <;> intro hc <;> try simp only [hc]) | refine storeK_eq rfl ?_ | with_reducible refine And.intro ?_ ?_ | fail) <;> try simp only [z0, selsV, push_cast, reduceIte, Nat.reduceEqDiff, reduceCtorEq, Nat.reduceAdd, Nat.reduceLeDiff, Nat.reduceBEq]))
    have z1 : decide ((0 : Int) < 0) = false := rfl
    refine WT_loop rfl (fun n e z => e = [(5, .int .i64 0), (4, .bool false), (0, .sl []), (1, .nils)] ∧ z = st) st.nx (Nat.le_refl _) (by rintro _ _ _ ⟨_, rfl⟩; rfl)
      ⟨0, _, _, ⟨rfl, rfl⟩, (by repeat first | exact .nil | refine .cons (by first | rfl | (simp [V.bd, V.bdL]; try first | omega | assumption)) (by first | rfl | simp only [push_cast, reduceIte, Nat.reduceEqDiff, reduceCtorEq, Nat.reduceAdd, Nat.reduceLeDiff, Nat.reduceBEq]) ?_), .refl hwf⟩ ?_
    rintro n e z ⟨rfl, rfl⟩
    (repeat' first | ((first | refine go rfl rfl ?_ | (refine Fk.by_ ?_ ?_ <;> intro hc <;> try simp only [hc]) | refine storeK_eq rfl ?_ | with_reducible refine And.intro ?_ ?_ | fail) <;> try simp only [z1, push_cast, reduceIte, Nat.reduceEqDiff, reduceCtorEq, Nat.reduceAdd, Nat.reduceLeDiff, Nat.reduceBEq]))
    all_goals exact finRet0 hwf rfl rfl rfl
  · have z0 : ((x.length : Int) + 1 != 0) = true := by simp; omega
    (repeat' first | ((first | refine go rfl rfl ?_ | (refine Fk.by_ ?_ ?_ <;> intro hc <;> try simp only [hc]) | refine storeK_eq rfl ?_ | with_reducible refine And.intro ?_ ?_ | fail) <;> try simp only [z0, selsV, push_cast, reduceIte, Nat.reduceEqDiff, reduceCtorEq, Nat.reduceAdd, Nat.reduceLeDiff, Nat.reduceBEq]))
    all_goals exact finRet0 hwf rfl rfl rfl
theorem sameSel_v (a b : Option (List Sel)) (st : St) : VRet Tryz.prog 20 [selO a, selO b] st (.bool (decide (a.getD [] = b.getD []))) st := by
  rcases a with _ | x <;> rcases b with _ | y
  · exact sameNN_v st
  · exact sameNS_v y st
  · exact sameSN_v x st
  · exact sameSl_v x y st

/-! ### commands -/
def cmdW (c : Cmd) (m : V) : V := .agg [.int .i64 c.kind, .str c.verb, .str c.obj, .str c.num, .int .i64 c.list, selO c.sel, .int .i64 c.attr, .int .i64 c.lev, .int .i64 c.pal, .int .i64 c.time, .int .i64 c.fl, .int .i64 c.pl.ch, .int .i64 c.pl.pt, .str c.pl.pf, .int .i64 c.pl.un, .int .i64 c.pl.ad, .int .i64 c.pl.ph, .str [], m]
theorem cmdW_nil {c : Cmd} : cmdV c = cmdW c .nils := rfl
def sameC (a b : Cmd) : Bool := a.kind == b.kind && a.verb == b.verb && a.obj == b.obj && a.num == b.num && a.list == b.list && decide (a.sel.getD [] = b.sel.getD []) && a.attr == b.attr && a.lev == b.lev && a.pal == b.pal && a.time == b.time && a.fl == b.fl && decide (a.pl = b.pl)
theorem sameC_self (a : Cmd) : sameC a a = true := by simp [sameC]
theorem fix_eq {a b : Fix} : (a.ch == b.ch && (a.pt == b.pt && (a.pf == b.pf && (a.un == b.un && (a.ad == b.ad && (a.ph == b.ph && ([] : List UInt8) == [])))))) = decide (a = b) := by
  obtain ⟨a1, a2, a3, a4, a5, a6⟩ := a
  obtain ⟨b1, b2, b3, b4, b5, b6⟩ := b
  rw [Bool.eq_iff_iff]; simp
set_option maxHeartbeats 2000000 in
theorem qsame_v (a b : Cmd) {m m' : V} (hm : m = .nils ∨ m = .sl []) (hm' : m' = .nils ∨ m' = .sl []) (st : St) : VRet Tryz.prog 12 [cmdW a m, cmdW b m'] st (.bool (sameC a b)) st := by
  have hs := fun st' => sameSel_v a.sel b.sel st'
  have hbx : ∀ n, (selO a.sel).bd n = true := fun n => by cases a.sel with | none => rfl | some l => exact bdL_sel
  have hby : ∀ n, (selO b.sel).bd n = true := fun n => by cases b.sel with | none => rfl | some l => exact bdL_sel
  have hfx := fix_eq (a := a.pl) (b := b.pl)
  have z0 : ((0 : Int) != 0) = false := rfl
  have z1 : decide ((0 : Int) < 0) = false := rfl
  refine VCalls_of F12_ok mixed (Nat.le_of_ble_eq_true rfl) (fun hwf => ?_)
  have key : WT Tryz.prog F12.N F12.T 31 [(4, .bool false), (3, .ptr (st.nx + 1) 0), (2, .ptr st.nx 0)] ⟨st.nx + 2, (st.nx + 1, [.int .i64 b.kind, .str b.verb, .str b.obj, .str b.num, .int .i64 b.list, selO b.sel, .int .i64 b.attr, .int .i64 b.lev, .int .i64 b.pal, .int .i64 b.time, .int .i64 b.fl, .int .i64 b.pl.ch, .int .i64 b.pl.pt, .str b.pl.pf, .int .i64 b.pl.un, .int .i64 b.pl.ad, .int .i64 b.pl.ph, .str [], m']) :: (st.nx, [.int .i64 a.kind, .str a.verb, .str a.obj, .str a.num, .int .i64 a.list, selO a.sel, .int .i64 a.attr, .int .i64 a.lev, .int .i64 a.pal, .int .i64 a.time, .int .i64 a.fl, .int .i64 a.pl.ch, .int .i64 a.pl.pt, .str a.pl.pf, .int .i64 a.pl.un, .int .i64 a.pl.ad, .int .i64 a.pl.ph, .str [], m]) :: st.mem, st.arr, st.x⟩ (finQ F12.res st.nx fun x s => x = .ret (.bool (sameC a b)) ∧ s = st) := by
    (repeat' first | ((first | refine go rfl rfl ?_ | refine Cl.by_ (by (first | refine hs _)) ?_ | (refine Fk.by_ ?_ ?_ <;> intro hc <;> try simp only [hc]) | refine storeK_eq rfl ?_ | with_reducible refine And.intro ?_ ?_ | fail) <;> try simp only [cells_selO, part_selO, hfx, push_cast, reduceIte, Nat.reduceEqDiff, reduceCtorEq, Nat.reduceAdd, Nat.reduceLeDiff, Nat.reduceBEq]))
    all_goals first | exact finB hwf (by simp only [F12, push_cast, reduceIte, Nat.reduceEqDiff, reduceCtorEq, Nat.reduceAdd, Nat.reduceLeDiff, Nat.reduceBEq]; exact rfl) (.inl (by simp [resOne, sameC, *])) rfl (by simp) (by simp) (by first | exact hwf.subm | (repeat first | exact hwf.subm | refine Sub.drop (by simp) ?_)) hwf.suba hwf.subx
  rcases hm with rfl | rfl <;> rcases hm' with rfl | rfl
  · (repeat' first | ((first | refine go rfl rfl ?_ | (refine Fk.by_ ?_ ?_ <;> intro hc <;> try simp only [hc]) | refine storeK_eq rfl ?_ | with_reducible refine And.intro ?_ ?_ | fail) <;> try simp only [cmdW, cells_selO, part_selO, z0, push_cast, reduceIte, Nat.reduceEqDiff, reduceCtorEq, Nat.reduceAdd, Nat.reduceLeDiff, Nat.reduceBEq]))
    refine WT_loop rfl (fun n e z => e = [(5, .int .i64 0), (4, .bool false), (3, .ptr (st.nx + 1) 0), (2, .ptr st.nx 0)] ∧ z = ⟨st.nx + 2, (st.nx + 1, [.int .i64 b.kind, .str b.verb, .str b.obj, .str b.num, .int .i64 b.list, selO b.sel, .int .i64 b.attr, .int .i64 b.lev, .int .i64 b.pal, .int .i64 b.time, .int .i64 b.fl, .int .i64 b.pl.ch, .int .i64 b.pl.pt, .str b.pl.pf, .int .i64 b.pl.un, .int .i64 b.pl.ad, .int .i64 b.pl.ph, .str [], .nils]) :: (st.nx, [.int .i64 a.kind, .str a.verb, .str a.obj, .str a.num, .int .i64 a.list, selO a.sel, .int .i64 a.attr, .int .i64 a.lev, .int .i64 a.pal, .int .i64 a.time, .int .i64 a.fl, .int .i64 a.pl.ch, .int .i64 a.pl.pt, .str a.pl.pf, .int .i64 a.pl.un, .int .i64 a.pl.ad, .int .i64 a.pl.ph, .str [], .nils]) :: st.mem, st.arr, st.x⟩) (st.nx + 2) (Nat.le_refl _) (by rintro _ _ _ ⟨_, rfl⟩; rfl)
      ⟨0, _, _, ⟨rfl, rfl⟩, (by repeat first | exact .nil | refine .cons (by first | rfl | (simp [V.bd, V.bdL]; try first | omega | assumption)) (by first | rfl | simp only [push_cast, reduceIte, Nat.reduceEqDiff, reduceCtorEq, Nat.reduceAdd, Nat.reduceLeDiff, Nat.reduceBEq]) ?_), .refl ((hwf.new (by simp [V.bdL, V.bd, hbx])).new (by simp [V.bdL, V.bd, hby]))⟩ ?_
    rintro n e z ⟨rfl, rfl⟩
    (repeat' first | exact WT_env (by repeat first | exact .nil | refine .cons (by first | rfl | simp only [push_cast, reduceIte, Nat.reduceEqDiff, reduceCtorEq, Nat.reduceAdd, Nat.reduceLeDiff, Nat.reduceBEq]) ?_) key | ((first | refine go rfl rfl ?_ | (refine Fk.by_ ?_ ?_ <;> intro hc <;> try simp only [hc]) | refine storeK_eq rfl ?_ | with_reducible refine And.intro ?_ ?_ | fail) <;> try simp only [z1, push_cast, reduceIte, Nat.reduceEqDiff, reduceCtorEq, Nat.reduceAdd, Nat.reduceLeDiff, Nat.reduceBEq]))
  · (repeat' first | ((first | refine go rfl rfl ?_ | (refine Fk.by_ ?_ ?_ <;> intro hc <;> try simp only [hc]) | refine storeK_eq rfl ?_ | with_reducible refine And.intro ?_ ?_ | fail) <;> try simp only [cmdW, cells_selO, part_selO, z0, push_cast, reduceIte, Nat.reduceEqDiff, reduceCtorEq, Nat.reduceAdd, Nat.reduceLeDiff, Nat.reduceBEq]))
    refine WT_loop rfl (fun n e z => e = [(5, .int .i64 0), (4, .bool false), (3, .ptr (st.nx + 1) 0), (2, .ptr st.nx 0)] ∧ z = ⟨st.nx + 2, (st.nx + 1, [.int .i64 b.kind, .str b.verb, .str b.obj, .str b.num, .int .i64 b.list, selO b.sel, .int .i64 b.attr, .int .i64 b.lev, .int .i64 b.pal, .int .i64 b.time, .int .i64 b.fl, .int .i64 b.pl.ch, .int .i64 b.pl.pt, .str b.pl.pf, .int .i64 b.pl.un, .int .i64 b.pl.ad, .int .i64 b.pl.ph, .str [], .sl []]) :: (st.nx, [.int .i64 a.kind, .str a.verb, .str a.obj, .str a.num, .int .i64 a.list, selO a.sel, .int .i64 a.attr, .int .i64 a.lev, .int .i64 a.pal, .int .i64 a.time, .int .i64 a.fl, .int .i64 a.pl.ch, .int .i64 a.pl.pt, .str a.pl.pf, .int .i64 a.pl.un, .int .i64 a.pl.ad, .int .i64 a.pl.ph, .str [], .nils]) :: st.mem, st.arr, st.x⟩) (st.nx + 2) (Nat.le_refl _) (by rintro _ _ _ ⟨_, rfl⟩; rfl)
      ⟨0, _, _, ⟨rfl, rfl⟩, (by repeat first | exact .nil | refine .cons (by first | rfl | (simp [V.bd, V.bdL]; try first | omega | assumption)) (by first | rfl | simp only [push_cast, reduceIte, Nat.reduceEqDiff, reduceCtorEq, Nat.reduceAdd, Nat.reduceLeDiff, Nat.reduceBEq]) ?_), .refl ((hwf.new (by simp [V.bdL, V.bd, hbx])).new (by simp [V.bdL, V.bd, hby]))⟩ ?_
    rintro n e z ⟨rfl, rfl⟩
    (repeat' first | exact WT_env (by repeat first | exact .nil | refine .cons (by first | rfl | simp only [push_cast, reduceIte, Nat.reduceEqDiff, reduceCtorEq, Nat.reduceAdd, Nat.reduceLeDiff, Nat.reduceBEq]) ?_) key | ((first | refine go rfl rfl ?_ | (refine Fk.by_ ?_ ?_ <;> intro hc <;> try simp only [hc]) | refine storeK_eq rfl ?_ | with_reducible refine And.intro ?_ ?_ | fail) <;> try simp only [z1, push_cast, reduceIte, Nat.reduceEqDiff, reduceCtorEq, Nat.reduceAdd, Nat.reduceLeDiff, Nat.reduceBEq]))
  · (repeat' first | ((first | refine go rfl rfl ?_ | (refine Fk.by_ ?_ ?_ <;> intro hc <;> try simp only [hc]) | refine storeK_eq rfl ?_ | with_reducible refine And.intro ?_ ?_ | fail) <;> try simp only [cmdW, cells_selO, part_selO, z0, push_cast, reduceIte, Nat.reduceEqDiff, reduceCtorEq, Nat.reduceAdd, Nat.reduceLeDiff, Nat.reduceBEq]))
    refine WT_loop rfl (fun n e z => e = [(5, .int .i64 0), (4, .bool false), (3, .ptr (st.nx + 1) 0), (2, .ptr st.nx 0)] ∧ z = ⟨st.nx + 2, (st.nx + 1, [.int .i64 b.kind, .str b.verb, .str b.obj, .str b.num, .int .i64 b.list, selO b.sel, .int .i64 b.attr, .int .i64 b.lev, .int .i64 b.pal, .int .i64 b.time, .int .i64 b.fl, .int .i64 b.pl.ch, .int .i64 b.pl.pt, .str b.pl.pf, .int .i64 b.pl.un, .int .i64 b.pl.ad, .int .i64 b.pl.ph, .str [], .nils]) :: (st.nx, [.int .i64 a.kind, .str a.verb, .str a.obj, .str a.num, .int .i64 a.list, selO a.sel, .int .i64 a.attr, .int .i64 a.lev, .int .i64 a.pal, .int .i64 a.time, .int .i64 a.fl, .int .i64 a.pl.ch, .int .i64 a.pl.pt, .str a.pl.pf, .int .i64 a.pl.un, .int .i64 a.pl.ad, .int .i64 a.pl.ph, .str [], .sl []]) :: st.mem, st.arr, st.x⟩) (st.nx + 2) (Nat.le_refl _) (by rintro _ _ _ ⟨_, rfl⟩; rfl)
      ⟨0, _, _, ⟨rfl, rfl⟩, (by repeat first | exact .nil | refine .cons (by first | rfl | (simp [V.bd, V.bdL]; try first | omega | assumption)) (by first | rfl | simp only [push_cast, reduceIte, Nat.reduceEqDiff, reduceCtorEq, Nat.reduceAdd, Nat.reduceLeDiff, Nat.reduceBEq]) ?_), .refl ((hwf.new (by simp [V.bdL, V.bd, hbx])).new (by simp [V.bdL, V.bd, hby]))⟩ ?_
    rintro n e z ⟨rfl, rfl⟩
    (repeat' first | exact WT_env (by repeat first | exact .nil | refine .cons (by first | rfl | simp only [push_cast, reduceIte, Nat.reduceEqDiff, reduceCtorEq, Nat.reduceAdd, Nat.reduceLeDiff, Nat.reduceBEq]) ?_) key | ((first | refine go rfl rfl ?_ | (refine Fk.by_ ?_ ?_ <;> intro hc <;> try simp only [hc]) | refine storeK_eq rfl ?_ | with_reducible refine And.intro ?_ ?_ | fail) <;> try simp only [z1, push_cast, reduceIte, Nat.reduceEqDiff, reduceCtorEq, Nat.reduceAdd, Nat.reduceLeDiff, Nat.reduceBEq]))
  · (repeat' first | ((first | refine go rfl rfl ?_ | (refine Fk.by_ ?_ ?_ <;> intro hc <;> try simp only [hc]) | refine storeK_eq rfl ?_ | with_reducible refine And.intro ?_ ?_ | fail) <;> try simp only [cmdW, cells_selO, part_selO, z0, push_cast, reduceIte, Nat.reduceEqDiff, reduceCtorEq, Nat.reduceAdd, Nat.reduceLeDiff, Nat.reduceBEq]))
    refine WT_loop rfl (fun n e z => e = [(5, .int .i64 0), (4, .bool false), (3, .ptr (st.nx + 1) 0), (2, .ptr st.nx 0)] ∧ z = ⟨st.nx + 2, (st.nx + 1, [.int .i64 b.kind, .str b.verb, .str b.obj, .str b.num, .int .i64 b.list, selO b.sel, .int .i64 b.attr, .int .i64 b.lev, .int .i64 b.pal, .int .i64 b.time, .int .i64 b.fl, .int .i64 b.pl.ch, .int .i64 b.pl.pt, .str b.pl.pf, .int .i64 b.pl.un, .int .i64 b.pl.ad, .int .i64 b.pl.ph, .str [], .sl []]) :: (st.nx, [.int .i64 a.kind, .str a.verb, .str a.obj, .str a.num, .int .i64 a.list, selO a.sel, .int .i64 a.attr, .int .i64 a.lev, .int .i64 a.pal, .int .i64 a.time, .int .i64 a.fl, .int .i64 a.pl.ch, .int .i64 a.pl.pt, .str a.pl.pf, .int .i64 a.pl.un, .int .i64 a.pl.ad, .int .i64 a.pl.ph, .str [], .sl []]) :: st.mem, st.arr, st.x⟩) (st.nx + 2) (Nat.le_refl _) (by rintro _ _ _ ⟨_, rfl⟩; rfl)
      ⟨0, _, _, ⟨rfl, rfl⟩, (by repeat first | exact .nil | refine .cons (by first | rfl | (simp [V.bd, V.bdL]; try first | omega | assumption)) (by first | rfl | simp only [push_cast, reduceIte, Nat.reduceEqDiff, reduceCtorEq, Nat.reduceAdd, Nat.reduceLeDiff, Nat.reduceBEq]) ?_), .refl ((hwf.new (by simp [V.bdL, V.bd, hbx])).new (by simp [V.bdL, V.bd, hby]))⟩ ?_
    rintro n e z ⟨rfl, rfl⟩
    (repeat' first | exact WT_env (by repeat first | exact .nil | refine .cons (by first | rfl | simp only [push_cast, reduceIte, Nat.reduceEqDiff, reduceCtorEq, Nat.reduceAdd, Nat.reduceLeDiff, Nat.reduceBEq]) ?_) key | ((first | refine go rfl rfl ?_ | (refine Fk.by_ ?_ ?_ <;> intro hc <;> try simp only [hc]) | refine storeK_eq rfl ?_ | with_reducible refine And.intro ?_ ?_ | fail) <;> try simp only [z1, push_cast, reduceIte, Nat.reduceEqDiff, reduceCtorEq, Nat.reduceAdd, Nat.reduceLeDiff, Nat.reduceBEq]))
end Go.Proofs.YtnondemehfkalaaGreatDoor

namespace Go.Proofs.YtnondemehfkalaaGreatDoor
open Go.Sha
def X44l : FT := ⟨35, 0, [],
  [.reg [⟨(some 4), .alloc 23 [.nils], none⟩,
      ⟨(some 5), .alloc 3 [(.int .i64 0)], none⟩,
      ⟨(some 6), .alloc 29 [(.int .i64 0)], none⟩]]⟩

def X44rl : FT := ⟨35, 0, [],
  [.reg [⟨(some 11), .mv (.t 0), none⟩,
      ⟨(some 12), .call (.c (.fn (.func 60) [] [])) [(.t 11)], none⟩,
      ⟨(some 10), .mv (.t 12), none⟩,
      ⟨(some 13), .ext 0 (.t 10), none⟩,
      ⟨(some 14), .ext 1 (.t 10), none⟩,
      ⟨(some 15), .ext 2 (.t 10), none⟩,
      ⟨(some 7), .mv (.t 13), none⟩,
      ⟨none, .store 1 (.t 5) (.t 14), none⟩,
      ⟨(some 8), .mv (.t 15), none⟩]]⟩

def X44rrl : FT := ⟨35, 0, [],
  [.seq 1 2,
   .reg [⟨(some 16), .mv (.t 8), none⟩,
      ⟨(some 17), .bin .neq (.t 16) (.c (.int .i64 0)), none⟩],
   .cond (.t 17) 3 6,
   .seq 4 5,
   .greg [[], [], [], [true, true, false], [false, true, false, false], [false, false, false, false, false]] [⟨(some 18), .load none (.t 4), none⟩,
      ⟨(some 19), .load none (.t 5), none⟩,
      ⟨(some 20), .mv (.t 8), none⟩,
      ⟨none, .store 1 (.t 4) (.t 18), none⟩,
      ⟨none, .store 1 (.t 5) (.t 19), none⟩,
      ⟨none, .store 1 (.t 6) (.t 20), none⟩],
   .ret,
   .skip]⟩

def X44rrrr : FT := ⟨35, 0, [],
  [.seq 1 2,
   .reg [⟨(some 22), .mv (.t 7), none⟩,
      ⟨(some 23), .build [.nils] [(0, 1, (.t 22))], none⟩,
      ⟨(some 24), .box 109 (.t 23), none⟩,
      ⟨(some 9), .mv (.t 24), none⟩],
   .seq 3 4,
   .reg [⟨(some 25), .mv (.t 1), none⟩,
      ⟨(some 26), .mv (.t 9), none⟩,
      ⟨(some 27), .call (.t 25) [(.t 26)], none⟩,
      ⟨none, .store 1 (.t 4) (.t 27), none⟩],
   .seq 5 10,
   .seq 6 7,
   .reg [⟨(some 28), .mv (.t 9), none⟩,
      ⟨(some 29), .call (.c (.fn (.func 62) [] [])) [(.t 28)], none⟩,
      ⟨(some 30), .fld none 0 (.t 29), none⟩,
      ⟨(some 31), .bin .neq (.t 30) (.c (.int .i64 3)), none⟩],
   .cond (.t 31) 8 9,
   .reg [⟨(some 32), .mv (.t 9), none⟩,
      ⟨(some 33), .call (.c (.fn (.func 63) [] [])) [(.t 32), (.c (.int .i64 4))], none⟩],
   .skip,
   .seq 11 12,
   .reg [⟨(some 34), .load none (.t 4), none⟩,
      ⟨none, .store 1 (.t 4) (.t 34), none⟩,
      ⟨none, .store 1 (.t 5) (.c (.int .i64 0)), none⟩,
      ⟨none, .store 1 (.t 6) (.c (.int .i64 0)), none⟩],
   .ret]⟩

def X89r : FT := ⟨23, 0, [],
  [.seq 1 2,
   .reg [⟨(some 8), .mv (.t 3), none⟩,
      ⟨(some 9), .gen (.eqi true) [(.t 8)], none⟩],
   .cond (.t 9) 3 14,
   .seq 4 5,
   .reg [⟨(some 11), .mv (.t 3), none⟩,
      ⟨(some 12), .gen (.asrt 106 (.agg [(.int .i64 0), (.int .i64 0)])) [(.t 11)], none⟩,
      ⟨(some 10), .mv (.t 12), none⟩,
      ⟨(some 13), .ext 0 (.t 10), none⟩,
      ⟨(some 14), .ext 1 (.t 10), none⟩,
      ⟨(some 4), .alloc 106 [(.int .i64 0), (.int .i64 0)], none⟩,
      ⟨none, .store 2 (.t 4) (.t 13), none⟩,
      ⟨(some 5), .mv (.t 14), none⟩],
   .seq 6 11,
   .seq 7 8,
   .reg [⟨(some 15), .mv (.t 5), none⟩,
      ⟨(some 16), .un .not (.t 15), none⟩],
   .cond (.t 16) 9 10,
   .reg [⟨(some 17), .mv (.t 3), none⟩,
      ⟨none, .panic (.t 17), none⟩],
   .skip,
   .seq 12 13,
   .reg [⟨(some 6), .mv (.c .nils), none⟩],
   .greg [[], [], [], [], [], [true, true, true, true, false], [false, true, true, false, false, false], [false, false, false, false, false, false, false]] [⟨(some 18), .mv (.t 6), none⟩,
      ⟨(some 19), .fadr 0 (.t 4), none⟩,
      ⟨(some 20), .load none (.t 19), none⟩,
      ⟨(some 21), .fadr 1 (.t 4), none⟩,
      ⟨(some 22), .load none (.t 21), none⟩,
      ⟨none, .store 1 (.t 0) (.t 18), none⟩,
      ⟨none, .store 1 (.t 1) (.t 20), none⟩,
      ⟨none, .store 1 (.t 2) (.t 22), none⟩],
   .skip]⟩

theorem X44l_ok : cpl Tryz.prog 35 (cL (bodyC Tryz.f44)) 0 = some X44l.T := by kernel_rfl
theorem X44rl_ok : cpl Tryz.prog 35 (cL (cR (bodyC Tryz.f44))) 0 = some X44rl.T := by kernel_rfl
theorem X44rrl_ok : cpl Tryz.prog 35 (cL (cR (cR (bodyC Tryz.f44)))) 0 = some X44rrl.T := by kernel_rfl
theorem X44rrrr_ok : cpl Tryz.prog 35 (cR (cR (cR (cR (bodyC Tryz.f44))))) 0 = some X44rrrr.T := by kernel_rfl
theorem X89r_ok : cpl Tryz.prog 23 (cR (bodyC Tryz.f89)) 0 = some X89r.T := by kernel_rfl
/-- luminaire/grammar.Parse -/
def F10 : FT := ⟨10, 1, [.cell 2 (some 19), .tmp 3, .tmp 4],
  [.seq 1 2,
   .reg [⟨(some 2), .alloc 28 [(.int .i64 0), (.str []), (.str []), (.str []), (.int .i64 0), .nils, (.int .i64 0), (.int .i64 0), (.int .i64 0), (.int .i64 0), (.int .i64 0), (.int .i64 0), (.int .i64 0), (.str []), (.int .i64 0), (.int .i64 0), (.int .i64 0), (.str []), .nils], none⟩,
      ⟨(some 3), .mv (.c (.int .i64 0)), none⟩,
      ⟨(some 4), .mv (.c (.int .i64 0)), none⟩],
   .seq 3 4,
   .reg [⟨(some 5), .mv (.t 0), none⟩,
      ⟨(some 6), .call (.c (.fn (.func 26) [] [])) [(.t 5), (.c (.fn (.func 27) [] []))], none⟩,
      ⟨(some 7), .ext 0 (.t 6), none⟩,
      ⟨(some 8), .ext 1 (.t 6), none⟩,
      ⟨(some 9), .ext 2 (.t 6), none⟩,
      ⟨none, .store 19 (.t 2) (.t 7), none⟩,
      ⟨(some 3), .mv (.t 8), none⟩,
      ⟨(some 4), .mv (.t 9), none⟩],
   .ret]⟩

/-- luminaire/grammar.Selection -/
def F18 : FT := ⟨10, 1, [.tmp 2, .tmp 3, .tmp 4],
  [.seq 1 2,
   .reg [⟨(some 2), .mv (.c .nils), none⟩,
      ⟨(some 3), .mv (.c (.int .i64 0)), none⟩,
      ⟨(some 4), .mv (.c (.int .i64 0)), none⟩],
   .seq 3 4,
   .reg [⟨(some 5), .mv (.t 0), none⟩,
      ⟨(some 6), .call (.c (.fn (.func 44) [] [])) [(.t 5), (.c (.fn (.func 45) [] []))], none⟩,
      ⟨(some 7), .ext 0 (.t 6), none⟩,
      ⟨(some 8), .ext 1 (.t 6), none⟩,
      ⟨(some 9), .ext 2 (.t 6), none⟩,
      ⟨(some 2), .mv (.t 7), none⟩,
      ⟨(some 3), .mv (.t 8), none⟩,
      ⟨(some 4), .mv (.t 9), none⟩],
   .ret]⟩

theorem F10_ok : compFn Tryz.prog 10 = some F10 := by kernel_rfl
theorem F18_ok : compFn Tryz.prog 18 = some F18 := by kernel_rfl
end Go.Proofs.YtnondemehfkalaaGreatDoor

set_option maxRecDepth 10000
namespace Go.Proofs.YtnondemehfkalaaGreatDoor
open Go.Sha

theorem catch89_r0 (c₀ : Frame) (cs : List Frame) (v : Value) (w : World) (a : Act) (Q : Exit → Act → List Frame → World → Prop) (hu : c₀.mode = .panicking [{ v, recovered := false }]) (hn : a.tmps.size = 23)
    (hQ : Q .normal ((a.put (some 7) v).put (some 3) v) ({ c₀ with mode := .panicking [{ v, recovered := true }] } :: cs) w) : (cL (bodyC Tryz.f89)).wpS Tryz.prog Q a (c₀ :: cs) w := by
  show Code.wpS Tryz.prog (Code.region 0 _ false) Q a (c₀ :: cs) w
  apply wpS_region
  simp [wpOpsS, go_sem, recoverD, hu, Act.put, hn] at hQ ⊢
  exact hQ
theorem idle89_r0 (c₀ : Frame) (cs : List Frame) (w : World) (a : Act) (Q : Exit → Act → List Frame → World → Prop) (hu : c₀.mode = .returning) (hn : a.tmps.size = 23)
    (hQ : Q .normal ((a.put (some 7) .nilIface).put (some 3) .nilIface) (c₀ :: cs) w) : (cL (bodyC Tryz.f89)).wpS Tryz.prog Q a (c₀ :: cs) w := by
  show Code.wpS Tryz.prog (Code.region 0 _ false) Q a (c₀ :: cs) w
  apply wpS_region
  simp [wpOpsS, go_sem, recoverD, hu, Act.put, hn] at hQ ⊢
  exact hQ

theorem idle89 {caps : List V} (hn : caps.length ≤ 23) (s : St) : DIdle Tryz.prog 89 caps s := by
  refine idle_of (fn := Tryz.f89) (r0 := cL (bodyC Tryz.f89)) (rest := cR (bodyC Tryz.f89)) (tr := 7) (tm := 3) Tryz.func89 rfl rfl (by decide) (by decide) idle89_r0 hn (fun hwf => W_tab X89r_ok ?_)
  (repeat' first | ((first | refine go rfl rfl ?_ | (refine Fk.by_ ?_ ?_ <;> intro hc <;> try simp only [hc]) | refine storeK_eq rfl ?_ | with_reducible refine And.intro ?_ ?_ | fail) <;> try simp only [push_cast, reduceIte, Nat.reduceEqDiff, reduceCtorEq, Nat.reduceAdd, Nat.reduceLeDiff, Nat.reduceBEq]))
  all_goals exact ⟨[], rfl, .tup [], s, .inl rfl, rfl, Weak.refl hwf, Nat.le_refl _, rfl, rfl⟩

theorem catch89 {s : St} {o p q : Nat} {at' e : Int} {c0 x y : V} (ho : Sha.look s.mem o = some [c0])
    (hp : Sha.look s.mem p = some [x]) (hq : Sha.look s.mem q = some [y]) (h1 : o ≠ p) (h2 : o ≠ q) (h3 : p ≠ q) :
    DCatch Tryz.prog 89 [.ptr o 0, .ptr p 0, .ptr q 0] (failV at' e) s ⟨s.nx, updM (updM (updM s.mem o [.nils]) p [.int .i64 at']) q [.int .i64 e], s.arr, s.x⟩ := by
  refine catch_of (fn := Tryz.f89) (r0 := cL (bodyC Tryz.f89)) (rest := cR (bodyC Tryz.f89)) (tr := 7) (tm := 3) Tryz.func89 rfl rfl (by decide) (by decide) catch89_r0 (by exact (by decide : 3 ≤ 23)) (fun hwf => W_tab X89r_ok ?_)
  have b1 := (hwf.mem _ _ ho).1
  have b2 := (hwf.mem _ _ hp).1
  have b3 := (hwf.mem _ _ hq).1
  have f1 : (s.nx = o) = False := eq_false (by omega)
  have f2 : (s.nx = p) = False := eq_false (by omega)
  have f3 : (s.nx = q) = False := eq_false (by omega)
  have f4 : (s.nx + 1 = o) = False := eq_false (by omega)
  have f5 : (s.nx + 1 = p) = False := eq_false (by omega)
  have f6 : (s.nx + 1 = q) = False := eq_false (by omega)
  have g1 : (o = p) = False := eq_false h1
  have g2 : (o = q) = False := eq_false h2
  have g3 : (p = q) = False := eq_false h3
  have g4 : (p = o) = False := eq_false h1.symm
  have g5 : (q = o) = False := eq_false h2.symm
  have g6 : (q = p) = False := eq_false h3.symm
  (repeat' first | ((first | refine go rfl rfl ?_ | (refine Fk.by_ ?_ ?_ <;> intro hc <;> try simp only [hc]) | refine storeK_eq rfl ?_ | with_reducible refine And.intro ?_ ?_ | fail) <;> try simp only [failV, ho, hp, hq, f1, f2, f3, f4, f5, f6, g1, g2, g3, g4, g5, g6, look_updM, Option.map_some, push_cast, reduceIte, Nat.reduceEqDiff, reduceCtorEq, Nat.reduceAdd, Nat.reduceLeDiff, Nat.reduceBEq]))
  have hW : St.Wf ⟨s.nx, updM (updM (updM s.mem o [.nils]) p [.int .i64 at']) q [.int .i64 e], s.arr, s.x⟩ := ((hwf.put (id := o) (cs := [.nils]) rfl).put (id := p) (cs := [.int .i64 at']) rfl).put (id := q) (cs := [.int .i64 e]) rfl
  exact ⟨[], rfl, .tup [], _, .inl rfl, rfl, Weak.wf rfl (by simp) (by repeat first | exact hW.subm | refine Sub.drop (by simp) ?_) hW.suba hW.subx hW, Nat.le_refl _, rfl, rfl⟩

theorem bd_resS {n : Nat} {x : Except (Int × Int) (List Sel)} : (resP selsV .nils x).bd n = true := by
  cases x <;> simp [resP, V.bd, V.bdL, selsV, bdL_sel]
set_option maxHeartbeats 2000000 in
theorem readS_v (s : List UInt8) (st : St) (hG : GlOk st.x.gl) : VRet Tryz.prog 44 [.str s, .fn (.func 45) [] []] st (resP selsV .nils (pR rSelection s)) st := by
  refine VCalls_defer (fn := Tryz.f44) (r0 := cL (bodyC Tryz.f44)) (r1 := cL (cR (bodyC Tryz.f44))) (cnd := cL (cR (cR (bodyC Tryz.f44)))) (dreg := cL (cR (cR (cR (bodyC Tryz.f44))))) (rest := cR (cR (cR (cR (bodyC Tryz.f44)))))
    (res := [.cell 4 none, .cell 5 none, .cell 6 none]) (g := 89) (t := 21) (tcaps := [4, 5, 6]) Tryz.func44 rfl rfl (by kernel_rfl) (by decide) ?_ ?_ (by exact (by decide : 2 ≤ 35)) (fun hwf => ?_)
  · intro a w Q hn hQ
    have hmf : ∀ (fn : Fn) (first cap : Array Value) (w : World), (Instr.makeFunc fn first cap).run Tryz.prog w = .ok (.func fn first cap) w := fun _ _ _ _ => rfl
    show Code.wp Tryz.prog (Code.region 4 _ false) Q a w
    apply wp_region
    have hn' : a.tmps.size = 35 := hn
    simp [wpOps, hmf, go_sem, Act.put, hn'] at hQ ⊢
    exact .inl (.inl hQ)
  · intro cap w
    simp [go_sem]
  · have e1 : ∀ k : Nat, (st.nx + k + 1 = st.nx) = False := fun k => eq_false (by omega)
    obtain ⟨l, a, e, hS⟩ : ∃ l a e, scanR s = (l, a, e) := ⟨_, _, _, rfl⟩
    have hWf : e = 0 → WfT l := fun he => by have := scanR_wf (s := s) (by rw [hS]; exact he); rwa [hS] at this
    have hP : pR rSelection s = if (e != 0) = true then .error ((a : Int), e) else pE (rSelection l) := by unfold pR; rw [hS]
    have hsc := scan_v s
    rw [hS] at hsc
    unfold scanV at hsc
    refine W_tab X44l_ok ?_
    (repeat' first | ((first | refine go rfl rfl ?_ | (refine Fk.by_ ?_ ?_ <;> intro hc <;> try simp only [hc]) | refine storeK_eq rfl ?_ | with_reducible refine And.intro ?_ ?_ | fail) <;> try simp only [push_cast, reduceIte, Nat.reduceEqDiff, reduceCtorEq, Nat.reduceAdd, Nat.reduceLeDiff, Nat.reduceBEq]))
    refine W_tab X44rl_ok ?_
    (repeat' first | ((first | refine go rfl rfl ?_ | refine Cl.by_ (by (first | refine hsc _)) ?_ | (refine Fk.by_ ?_ ?_ <;> intro hc <;> try simp only [hc]) | refine storeK_eq rfl ?_ | with_reducible refine And.intro ?_ ?_ | fail) <;> try simp only [push_cast, reduceIte, Nat.reduceEqDiff, reduceCtorEq, Nat.reduceAdd, Nat.reduceLeDiff, Nat.reduceBEq]))
    refine W_tab X44rrl_ok ?_
    (repeat' first | ((first | refine go rfl rfl ?_ | (refine Fk.by_ ?_ ?_ <;> intro hc <;> try simp only [hc]) | refine storeK_eq rfl ?_ | with_reducible refine And.intro ?_ ?_ | fail) <;> try simp only [push_cast, reduceIte, Nat.reduceEqDiff, reduceCtorEq, Nat.reduceAdd, Nat.reduceLeDiff, Nat.reduceBEq]))
    · rw [hP, if_pos hc]
      exact ⟨_, (by first | rfl | (simp only [push_cast, reduceIte, Nat.reduceEqDiff, reduceCtorEq, Nat.reduceAdd, Nat.reduceLeDiff, Nat.reduceBEq]; exact rfl)), resP selsV .nils (.error ((a : Int), e)), st, .inl rfl, bd_resS, Weak.wf rfl (by simp) (by repeat first | exact hwf.subm | refine Sub.drop (by simp) ?_) hwf.suba hwf.subx hwf, Nat.le_refl _, rfl, rfl⟩
    · rw [hP, if_neg (by rw [hc]; decide)]
      have hwl := hWf (by simpa using hc)
      refine ⟨[.ptr st.nx 0, .ptr (st.nx + 1) 0, .ptr (st.nx + 2) 0], by simp [DK.mapOL, Sha.look], fun D => W_tab X44rrrr_ok ?_⟩
      (repeat' first | (with_reducible intro x1 x2 hE hW <;> (try (have hI := rNumber_inv hE; obtain ⟨rfl, rfl, hK⟩ := hI)) <;> (try (have hI := rMust_inv hE; obtain ⟨rfl, -⟩ := hI)) <;> (try (have hI := rUnit_inv hE; obtain ⟨u1, u2, rfl⟩ := hI; dsimp only)) <;> try simp only [stR_eq, lookR, Option.map_some, tkV, selsV, push_cast, reduceIte, Nat.reduceEqDiff, reduceCtorEq, Nat.reduceAdd, Nat.reduceLeDiff, Nat.reduceBEq]) | (with_reducible intro x1 x2 x3 hE <;> try simp only [stR_eq, lookR, Option.map_some, tkV, selsV, push_cast, reduceIte, Nat.reduceEqDiff, reduceCtorEq, Nat.reduceAdd, Nat.reduceLeDiff, Nat.reduceBEq]) | (with_reducible intro hE2 <;> try simp only [stR_eq, lookR, Option.map_some, tkV, selsV, push_cast, reduceIte, Nat.reduceEqDiff, reduceCtorEq, Nat.reduceAdd, Nat.reduceLeDiff, Nat.reduceBEq]) | ((first | refine go rfl rfl ?_ | refine RdK.c (by first | assumption | (simp only [stR_eq, lookR, Option.map_some, tkV, selsV, push_cast, reduceIte, Nat.reduceEqDiff, reduceCtorEq, Nat.reduceAdd, Nat.reduceLeDiff, Nat.reduceBEq] <;> exact rfl)) (by assumption) (by assumption) ?_ | refine snap_two (by simp only [stR_eq, lookR, Option.map_some, tkV, selsV, push_cast, reduceIte, Nat.reduceEqDiff, reduceCtorEq, Nat.reduceAdd, Nat.reduceLeDiff, Nat.reduceBEq] <;> exact rfl) ?_ | (refine Fk.by_ ?_ ?_ <;> intro hc <;> try simp only [hc]) | refine storeK_eq rfl ?_ | with_reducible refine And.intro ?_ ?_ | fail) <;> try simp only [stR_eq, lookR, Option.map_some, tkV, selsV, push_cast, reduceIte, Nat.reduceEqDiff, reduceCtorEq, Nat.reduceAdd, Nat.reduceLeDiff, Nat.reduceBEq]))
      · have hpe : pE (rSelection l) = .error ((hd x2).a, 4) := by simp [pE, hE, hc]
        rw [hpe]
        refine ⟨_, catch89 (o := st.nx) (p := st.nx + 1) (q := st.nx + 2) (by first | (simp only [push_cast, reduceIte, Nat.reduceEqDiff, reduceCtorEq, Nat.reduceAdd, Nat.reduceLeDiff, Nat.reduceBEq]; done) | (simp only [push_cast, reduceIte, Nat.reduceEqDiff, reduceCtorEq, Nat.reduceAdd, Nat.reduceLeDiff, Nat.reduceBEq]; exact rfl)) (by first | (simp only [push_cast, reduceIte, Nat.reduceEqDiff, reduceCtorEq, Nat.reduceAdd, Nat.reduceLeDiff, Nat.reduceBEq]; done) | (simp only [push_cast, reduceIte, Nat.reduceEqDiff, reduceCtorEq, Nat.reduceAdd, Nat.reduceLeDiff, Nat.reduceBEq]; exact rfl)) (by first | (simp only [push_cast, reduceIte, Nat.reduceEqDiff, reduceCtorEq, Nat.reduceAdd, Nat.reduceLeDiff, Nat.reduceBEq]; done) | (simp only [push_cast, reduceIte, Nat.reduceEqDiff, reduceCtorEq, Nat.reduceAdd, Nat.reduceLeDiff, Nat.reduceBEq]; exact rfl)) (by omega) (by omega) (by omega), ?_⟩
        simp only [push_cast, reduceIte, Nat.reduceEqDiff, reduceCtorEq, Nat.reduceAdd, Nat.reduceLeDiff, Nat.reduceBEq]
        exact ⟨_, (by first | rfl | (simp only [push_cast, reduceIte, Nat.reduceEqDiff, reduceCtorEq, Nat.reduceAdd, Nat.reduceLeDiff, Nat.reduceBEq]; exact rfl)), resP selsV .nils (.error ((hd x2).a, 4)), st, .inl rfl, bd_resS, Weak.wf rfl (by simp) (by repeat first | exact hwf.subm | refine Sub.drop (by simp) ?_) hwf.suba hwf.subx hwf, Nat.le_refl _, rfl, rfl⟩
      · have hpe : pE (rSelection l) = .ok x1 := by simp [pE, hE, hc]
        rw [hpe]
        refine ⟨idle89 (by exact (by decide : 3 ≤ 23)) _, ?_⟩
        exact ⟨_, (by first | rfl | (simp only [push_cast, reduceIte, Nat.reduceEqDiff, reduceCtorEq, Nat.reduceAdd, Nat.reduceLeDiff, Nat.reduceBEq]; exact rfl)), resP selsV .nils (.ok x1), st, .inl rfl, bd_resS, Weak.wf rfl (by simp) (by repeat first | exact hwf.subm | refine Sub.drop (by simp) ?_) hwf.suba hwf.subx hwf, Nat.le_refl _, rfl, rfl⟩
      · have hpe : pE (rSelection l) = .error (x1, x2) := by simp [pE, *]
        rw [hpe]
        refine ⟨_, catch89 (o := st.nx) (p := st.nx + 1) (q := st.nx + 2) (by first | (simp only [push_cast, reduceIte, Nat.reduceEqDiff, reduceCtorEq, Nat.reduceAdd, Nat.reduceLeDiff, Nat.reduceBEq]; done) | (simp only [push_cast, reduceIte, Nat.reduceEqDiff, reduceCtorEq, Nat.reduceAdd, Nat.reduceLeDiff, Nat.reduceBEq]; exact rfl)) (by first | (simp only [push_cast, reduceIte, Nat.reduceEqDiff, reduceCtorEq, Nat.reduceAdd, Nat.reduceLeDiff, Nat.reduceBEq]; done) | (simp only [push_cast, reduceIte, Nat.reduceEqDiff, reduceCtorEq, Nat.reduceAdd, Nat.reduceLeDiff, Nat.reduceBEq]; exact rfl)) (by first | (simp only [push_cast, reduceIte, Nat.reduceEqDiff, reduceCtorEq, Nat.reduceAdd, Nat.reduceLeDiff, Nat.reduceBEq]; done) | (simp only [push_cast, reduceIte, Nat.reduceEqDiff, reduceCtorEq, Nat.reduceAdd, Nat.reduceLeDiff, Nat.reduceBEq]; exact rfl)) (by omega) (by omega) (by omega), ?_⟩
        simp only [push_cast, reduceIte, Nat.reduceEqDiff, reduceCtorEq, Nat.reduceAdd, Nat.reduceLeDiff, Nat.reduceBEq]
        exact ⟨_, (by first | rfl | (simp only [push_cast, reduceIte, Nat.reduceEqDiff, reduceCtorEq, Nat.reduceAdd, Nat.reduceLeDiff, Nat.reduceBEq]; exact rfl)), resP selsV .nils (.error (x1, x2)), st, .inl rfl, bd_resS, Weak.wf rfl (by simp) (by repeat first | exact hwf.subm | refine Sub.drop (by simp) ?_) hwf.suba hwf.subx hwf, Nat.le_refl _, rfl, rfl⟩

theorem parse_v (s : List UInt8) (st : St) (hG : GlOk st.x.gl) : VRet Tryz.prog 10 [.str s] st (resP cmdV (cmdV cmd0) (pR rCommand s)) st := by
  have hr := fun st' (h : GlOk st'.x.gl) => readC_v s st' h
  refine VCalls_of F10_ok mixed (Nat.le_of_ble_eq_true rfl) (fun hwf => ?_)
  cases hP : pR rCommand s with
  | ok c =>
    rw [hP] at hr
    (repeat' first | ((first | refine go rfl rfl ?_ | refine Cl.by_ (by (first | refine hr _ hG)) ?_ | (refine Fk.by_ ?_ ?_ <;> intro hc <;> try simp only [hc]) | refine storeK_eq rfl ?_ | with_reducible refine And.intro ?_ ?_ | fail) <;> try simp only [resP, cmdV, cmdL, push_cast, reduceIte, Nat.reduceEqDiff, reduceCtorEq, Nat.reduceAdd, Nat.reduceLeDiff, Nat.reduceBEq]))
    exact ⟨_, (by first | rfl | (simp only [F10, push_cast, reduceIte, Nat.reduceEqDiff, reduceCtorEq, Nat.reduceAdd, Nat.reduceLeDiff, Nat.reduceBEq]; exact rfl)), resP cmdV (cmdV cmd0) (.ok c), st, .inl rfl, bd_resC, Weak.wf rfl (by simp) (by repeat first | exact hwf.subm | refine Sub.drop (by simp) ?_) hwf.suba hwf.subx hwf, Nat.le_refl _, rfl, rfl⟩
  | error e =>
    rw [hP] at hr
    (repeat' first | ((first | refine go rfl rfl ?_ | refine Cl.by_ (by (first | refine hr _ hG)) ?_ | (refine Fk.by_ ?_ ?_ <;> intro hc <;> try simp only [hc]) | refine storeK_eq rfl ?_ | with_reducible refine And.intro ?_ ?_ | fail) <;> try simp only [resP, cmdV, cmdL, push_cast, reduceIte, Nat.reduceEqDiff, reduceCtorEq, Nat.reduceAdd, Nat.reduceLeDiff, Nat.reduceBEq]))
    exact ⟨_, (by first | rfl | (simp only [F10, push_cast, reduceIte, Nat.reduceEqDiff, reduceCtorEq, Nat.reduceAdd, Nat.reduceLeDiff, Nat.reduceBEq]; exact rfl)), resP cmdV (cmdV cmd0) (.error e), st, .inl rfl, bd_resC, Weak.wf rfl (by simp) (by repeat first | exact hwf.subm | refine Sub.drop (by simp) ?_) hwf.suba hwf.subx hwf, Nat.le_refl _, rfl, rfl⟩
theorem selection_v (s : List UInt8) (st : St) (hG : GlOk st.x.gl) : VRet Tryz.prog 18 [.str s] st (resP selsV .nils (pR rSelection s)) st := by
  have hr := fun st' (h : GlOk st'.x.gl) => readS_v s st' h
  refine VCalls_of F18_ok mixed (Nat.le_of_ble_eq_true rfl) (fun hwf => ?_)
  cases hP : pR rSelection s with
  | ok c =>
    rw [hP] at hr
    (repeat' first | ((first | refine go rfl rfl ?_ | refine Cl.by_ (by (first | refine hr _ hG)) ?_ | (refine Fk.by_ ?_ ?_ <;> intro hc <;> try simp only [hc]) | refine storeK_eq rfl ?_ | with_reducible refine And.intro ?_ ?_ | fail) <;> try simp only [resP, selsV, push_cast, reduceIte, Nat.reduceEqDiff, reduceCtorEq, Nat.reduceAdd, Nat.reduceLeDiff, Nat.reduceBEq]))
    exact ⟨_, (by first | rfl | (simp only [F18, push_cast, reduceIte, Nat.reduceEqDiff, reduceCtorEq, Nat.reduceAdd, Nat.reduceLeDiff, Nat.reduceBEq]; exact rfl)), resP selsV .nils (.ok c), st, .inl rfl, bd_resS, Weak.wf rfl (by simp) (by repeat first | exact hwf.subm | refine Sub.drop (by simp) ?_) hwf.suba hwf.subx hwf, Nat.le_refl _, rfl, rfl⟩
  | error e =>
    rw [hP] at hr
    (repeat' first | ((first | refine go rfl rfl ?_ | refine Cl.by_ (by (first | refine hr _ hG)) ?_ | (refine Fk.by_ ?_ ?_ <;> intro hc <;> try simp only [hc]) | refine storeK_eq rfl ?_ | with_reducible refine And.intro ?_ ?_ | fail) <;> try simp only [resP, selsV, push_cast, reduceIte, Nat.reduceEqDiff, reduceCtorEq, Nat.reduceAdd, Nat.reduceLeDiff, Nat.reduceBEq]))
    exact ⟨_, (by first | rfl | (simp only [F18, push_cast, reduceIte, Nat.reduceEqDiff, reduceCtorEq, Nat.reduceAdd, Nat.reduceLeDiff, Nat.reduceBEq]; exact rfl)), resP selsV .nils (.error e), st, .inl rfl, bd_resS, Weak.wf rfl (by simp) (by repeat first | exact hwf.subm | refine Sub.drop (by simp) ?_) hwf.suba hwf.subx hwf, Nat.le_refl _, rfl, rfl⟩
end Go.Proofs.YtnondemehfkalaaGreatDoor

namespace Go.Proofs.YtnondemehfkalaaGreatDoor
open Go.Sha
/-- luminaire/luminairelaw39.awake -/
def F9 : FT := ⟨98, 0, [.tmp 0],
 [.seq 1 2,
 .reg [.s 0 (.mv (.c (.bool false)))],
 .seq 3 4,
 .reg [.s 20 (.f 10 [(.w [49, 32, 116, 104, 114, 117, 32, 53, 32, 43, 32, 57, 32, 45, 32, 103, 114, 111, 117, 112, 32, 51, 32, 97, 116, 32, 53, 48, 32, 116, 105, 109, 101, 32, 50])]),
 .s 19 (.m 20),
 .s 21 (.ext 0 (.t 19)),
 .s 22 (.ext 1 (.t 19)),
 .s 23 (.ext 2 (.t 19)),
 .s 1 (.alloc 28 Z0),
 .n (.store 19 (.t 1) (.t 21)),
 .s 2 (.m 22),
 .s 3 (.m 23)],
 .seq 5 6,
 .reg [.s 25 (.f 10 [(.w [114, 101, 99, 111, 114, 100, 32, 99, 117, 101, 32, 50, 32, 47, 32, 53, 46, 53, 32, 111, 110, 108, 121, 32, 112, 97, 114, 116, 32, 49, 32, 116, 105, 109, 101, 32, 51])]),
 .s 24 (.m 25),
 .s 26 (.ext 0 (.t 24)),
 .s 27 (.ext 1 (.t 24)),
 .s 28 (.ext 2 (.t 24)),
 .s 4 (.alloc 28 Z0),
 .n (.store 19 (.t 4) (.t 26)),
 .s 5 (.m 27),
 .s 6 (.m 28)],
 .seq 7 8,
 .reg [.s 30 (.f 10 [(.w [112, 97, 116, 99, 104, 32, 53, 46, 50, 32, 119, 97, 115, 104, 32, 97, 116, 32, 49, 32, 47, 32, 49, 48, 49])]),
 .s 29 (.m 30),
 .s 31 (.ext 0 (.t 29)),
 .s 32 (.ext 1 (.t 29)),
 .s 33 (.ext 2 (.t 29)),
 .s 7 (.alloc 28 Z0),
 .n (.store 19 (.t 7) (.t 31)),
 .s 8 (.m 32),
 .s 9 (.m 33)],
 .seq 9 16,
 .seq 10 11,
 .reg [.s 34 (.m 3),
 .s 35 (.m 6),
 .s 36 (.bin .add (.t 34) (.t 35)),
 .s 37 (.m 9),
 .s 38 (.bin .add (.t 36) (.t 37)),
 .s 39 (.bin .neq (.t 38) (.i 0)),
 .s 40 (.m 39),
 .x 41 (.load (some 19) (.t 1)) 40,
 .x 42 (.build [(.i 0), (.i 0), (.i 0), (.i 0)] [(2, 1, (.i 1)), (3, 1, (.i 5))]) 40,
 .x 43 (.build [(.i 0), (.i 0), (.i 0), (.i 0)] [(2, 1, (.i 9)), (3, 1, (.i 9))]) 40,
 .x 44 (.build [(.i 0), (.i 0), (.i 0), (.i 0)] [(0, 1, (.i 1)), (1, 1, (.i 3))]) 40,
 .x 45 (.bslice 43 4 [(.t 42), (.t 43), (.t 44)]) 40,
 .x 46 (.build Z0 [(0, 1, (.i 0)), (1, 1, (.w [97, 116])), (5, 1, (.t 45)), (7, 1, (.i 32768)), (9, 1, (.i 2000))]) 40,
 .x 47 (.f 12 [(.t 41), (.t 46)]) 40,
 .x 48 (.un .not (.t 47)) 40,
 .s 49 (.pick (.t 40) (.c (.bool true)) (.t 48))],
 .cond (.t 49) 12 15,
 .seq 13 14,
 .reg [.s 0 (.mv (.c (.bool false)))],
 .ret,
 .skip,
 .seq 17 24,
 .seq 18 19,
 .reg [.s 50 (.load (some 19) (.t 4)),
 .s 51 (.build Z0 [(0, 1, (.i 2)), (1, 1, (.w [114, 101, 99, 111, 114, 100])), (2, 1, (.w [99, 117, 101])), (4, 1, (.i 2)), (3, 1, (.w [53, 46, 53])), (10, 1, (.i 1)), (7, 1, (.i 1)), (9, 1, (.i 3000))]),
 .s 52 (.f 12 [(.t 50), (.t 51)]),
 .s 53 (.un .not (.t 52)),
 .s 54 (.m 53),
 .x 55 (.load (some 19) (.t 7)) 54,
 .x 56 (.build Z1 [(0, 1, (.i 5)), (1, 1, (.i 2)), (2, 1, (.w [119, 97, 115, 104])), (3, 1, (.i 1)), (4, 1, (.i 101)), (5, 1, (.i 1))]) 54,
 .x 57 (.build Z0 [(0, 1, (.i 5)), (1, 1, (.w [112, 97, 116, 99, 104])), (11, 7, (.t 56))]) 54,
 .x 58 (.f 12 [(.t 55), (.t 57)]) 54,
 .x 59 (.un .not (.t 58)) 54,
 .s 60 (.pick (.t 54) (.c (.bool true)) (.t 59))],
 .cond (.t 60) 20 23,
 .seq 21 22,
 .reg [.s 0 (.mv (.c (.bool false)))],
 .ret,
 .skip,
 .seq 25 26,
 .reg [.s 62 (.f 10 [(.w [103, 111, 32, 48])]),
 .s 61 (.m 62),
 .s 63 (.ext 0 (.t 61)),
 .s 64 (.ext 1 (.t 61)),
 .s 65 (.ext 2 (.t 61)),
 .s 10 (.alloc 28 Z0),
 .n (.store 19 (.t 10) (.t 63)),
 .s 11 (.m 64),
 .s 12 (.m 65)],
 .seq 27 28,
 .reg [.s 67 (.f 10 [(.w [53, 32, 116, 104, 114, 117, 32, 51, 32, 97, 116, 32, 49, 48])]),
 .s 66 (.m 67),
 .s 68 (.ext 0 (.t 66)),
 .s 69 (.ext 1 (.t 66)),
 .s 70 (.ext 2 (.t 66)),
 .s 13 (.alloc 28 Z0),
 .n (.store 19 (.t 13) (.t 68)),
 .s 14 (.m 69),
 .s 15 (.m 70)],
 .seq 29 30,
 .reg [.s 72 (.f 10 [(.w [103, 111])]),
 .s 71 (.m 72),
 .s 73 (.ext 0 (.t 71)),
 .s 74 (.ext 1 (.t 71)),
 .s 75 (.ext 2 (.t 71)),
 .s 16 (.alloc 28 Z0),
 .n (.store 19 (.t 16) (.t 73)),
 .s 17 (.m 74),
 .s 18 (.m 75)],
 .seq 31 32,
 .reg [.s 76 (.m 11),
 .s 77 (.bin .eql (.t 76) (.i 3)),
 .s 78 (.m 77),
 .y 79 (.m 12) 78,
 .y 80 (.bin .eql (.t 79) (.i 2)) 78,
 .s 81 (.pick (.t 78) (.t 80) (.c (.bool false))),
 .s 82 (.m 81),
 .y 83 (.m 14) 82,
 .y 84 (.bin .eql (.t 83) (.i 7)) 82,
 .s 85 (.pick (.t 82) (.t 84) (.c (.bool false))),
 .s 86 (.m 85),
 .y 87 (.m 15) 86,
 .y 88 (.bin .eql (.t 87) (.i 9)) 86,
 .s 89 (.pick (.t 86) (.t 88) (.c (.bool false))),
 .s 90 (.m 89),
 .y 91 (.m 17) 90,
 .y 92 (.bin .eql (.t 91) (.i 2)) 90,
 .s 93 (.pick (.t 90) (.t 92) (.c (.bool false))),
 .s 94 (.m 93),
 .y 95 (.m 18) 94,
 .y 96 (.bin .eql (.t 95) (.i 4)) 94,
 .s 97 (.pick (.t 94) (.t 96) (.c (.bool false))),
 .s 0 (.m 97)],
 .ret]⟩

theorem F9_ok : compFn Tryz.prog 9 = some F9 := by kernel_rfl
end Go.Proofs.YtnondemehfkalaaGreatDoor

set_option maxRecDepth 10000
namespace Go.Proofs.YtnondemehfkalaaGreatDoor
open Go.Sha

def a1 : List UInt8 := [49, 32, 116, 104, 114, 117, 32, 53, 32, 43, 32, 57, 32, 45, 32, 103, 114, 111, 117, 112, 32, 51, 32, 97, 116, 32, 53, 48, 32, 116, 105, 109, 101, 32, 50]
def a2 : List UInt8 := [114, 101, 99, 111, 114, 100, 32, 99, 117, 101, 32, 50, 32, 47, 32, 53, 46, 53, 32, 111, 110, 108, 121, 32, 112, 97, 114, 116, 32, 49, 32, 116, 105, 109, 101, 32, 51]
def a3 : List UInt8 := [112, 97, 116, 99, 104, 32, 53, 46, 50, 32, 119, 97, 115, 104, 32, 97, 116, 32, 49, 32, 47, 32, 49, 48, 49]
def a4 : List UInt8 := [103, 111, 32, 48]
def a5 : List UInt8 := [53, 32, 116, 104, 114, 117, 32, 51, 32, 97, 116, 32, 49, 48]
def a6 : List UInt8 := [103, 111]
def b1 : Cmd := { cmd0 with verb := [97, 116], sel := some [⟨0, 0, 1, 5⟩, ⟨0, 0, 9, 9⟩, ⟨1, 3, 0, 0⟩], lev := 32768, time := 2000 }
def b2 : Cmd := { cmd0 with kind := 2, verb := [114, 101, 99, 111, 114, 100], obj := [99, 117, 101], num := [53, 46, 53], list := 2, lev := 1, time := 3000, fl := 1 }
def b3 : Cmd := { cmd0 with kind := 5, verb := [112, 97, 116, 99, 104], pl := ⟨5, 2, [119, 97, 115, 104], 1, 101, 1⟩ }
theorem gx1 : pR rCommand a1 = .ok b1 := by kernel_rfl
theorem gx2 : pR rCommand a2 = .ok b2 := by kernel_rfl
theorem rNext_ok {α β : Type} {m : Rd α} {f : α → Rd β} {ts ts' : List Tok} {a : α} (h : m ts = .ok (a, ts')) : rNext m f ts = f a ts' := by
  unfold rNext; rw [h]
theorem wash : wordN [119, 97, 115, 104] = 0 := by
  unfold wordN
  rw [if_pos ⟨by kernel_rfl, by kernel_rfl, by kernel_rfl⟩, if_neg (by decide)]
theorem gx3 : pR rCommand a3 = .ok b3 := by
  obtain ⟨l, hl⟩ : ∃ l, l = (scanR a3).1 := ⟨_, rfl⟩
  have h0 : ((scanR a3).2.2 != 0) = false := by kernel_rfl
  unfold pR
  rw [h0, if_neg (by decide)]
  have h1 : rCommand (scanR a3).1 = rPatch (scanR a3).1.tail := by kernel_rfl
  have h2 : rUnit (scanR a3).1.tail = .ok (⟨5, 2, [], 0, 0, 0⟩, (scanR a3).1.tail.tail) := by kernel_rfl
  have h3 : rProfile (scanR a3).1.tail.tail = .ok ([119, 97, 115, 104], (scanR a3).1.tail.tail.tail) := by
    have e1 : (hd (scanR a3).1.tail.tail).t = [119, 97, 115, 104] := by kernel_rfl
    have e2 : ((hd (scanR a3).1.tail.tail).k != 0) = false := by kernel_rfl
    unfold rProfile
    rw [e2, e1, wash, if_neg (by decide), if_neg (by decide), if_neg (by decide)]
  rw [h1]
  unfold rPatch
  rw [rNext_ok h2, rNext_ok h3]
  refine Eq.trans ?_ rfl
  kernel_rfl
theorem gx4 : pR rCommand a4 = .error (3, 2) := by kernel_rfl
theorem gx5 : pR rCommand a5 = .error (7, 9) := by kernel_rfl
theorem gx6 : pR rCommand a6 = .error (2, 4) := by kernel_rfl

set_option maxHeartbeats 4000000 in
theorem awake_v (st : St) (hG : GlOk st.x.gl) : VRet Tryz.prog 9 [] st (.bool true) st := by
  have p1 := fun st' (h : GlOk st'.x.gl) => parse_v a1 st' h
  have p2 := fun st' (h : GlOk st'.x.gl) => parse_v a2 st' h
  have p3 := fun st' (h : GlOk st'.x.gl) => parse_v a3 st' h
  have p4 := fun st' (h : GlOk st'.x.gl) => parse_v a4 st' h
  have p5 := fun st' (h : GlOk st'.x.gl) => parse_v a5 st' h
  have p6 := fun st' (h : GlOk st'.x.gl) => parse_v a6 st' h
  rw [gx1] at p1; rw [gx2] at p2; rw [gx3] at p3; rw [gx4] at p4; rw [gx5] at p5; rw [gx6] at p6
  have s1 : ∀ st', VRet Tryz.prog 12 [cmdW b1 (.sl []), cmdW b1 (.sl [])] st' (.bool true) st' := fun st' => by have := qsame_v b1 b1 (.inr rfl : V.sl [] = .nils ∨ V.sl [] = .sl []) (.inr rfl : V.sl [] = .nils ∨ V.sl [] = .sl []) st'; rwa [sameC_self] at this
  have s2 : ∀ st', VRet Tryz.prog 12 [cmdW b2 .nils, cmdW b2 .nils] st' (.bool true) st' := fun st' => by have := qsame_v b2 b2 (.inl rfl : V.nils = .nils ∨ V.nils = .sl []) (.inl rfl : V.nils = .nils ∨ V.nils = .sl []) st'; rwa [sameC_self] at this
  have s3 : ∀ st', VRet Tryz.prog 12 [cmdW b3 .nils, cmdW b3 .nils] st' (.bool true) st' := fun st' => by have := qsame_v b3 b3 (.inl rfl : V.nils = .nils ∨ V.nils = .sl []) (.inl rfl : V.nils = .nils ∨ V.nils = .sl []) st'; rwa [sameC_self] at this
  have w0 : IntKind.i64.wrap (0 + 0) = 0 := by decide
  have n0 : ((0 : Int) != 0) = false := rfl
  have n2 : ((2 : Int) == 2) = true := rfl
  have n3 : ((3 : Int) == 3) = true := rfl
  have n4 : ((4 : Int) == 4) = true := rfl
  have n7 : ((7 : Int) == 7) = true := rfl
  have n9 : ((9 : Int) == 9) = true := rfl
  refine VCalls_of F9_ok mixed (Nat.le_of_ble_eq_true rfl) (fun hwf => ?_)
  (repeat' first | ((first | refine go rfl rfl ?_ | refine Cl.by_ (by (first | refine p1 _ hG | refine p2 _ hG | refine p3 _ hG | refine p4 _ hG | refine p5 _ hG | refine p6 _ hG | refine s2 _ | refine s3 _ | apply VRet.snap (s1 _)) <;> first | omega | (simp only [w0, n0, n2, n3, n4, n7, n9, resP, cmdV, cmdL, cmd0, fix0, b1, b2, b3, selO, selsV, List.map_cons, List.map_nil, selV, push_cast, reduceIte, Nat.reduceEqDiff, reduceCtorEq, Nat.reduceAdd, Nat.reduceLeDiff, Nat.reduceBEq]; done) | (simp only [w0, n0, n2, n3, n4, n7, n9, resP, cmdV, cmdL, cmd0, fix0, b1, b2, b3, selO, selsV, List.map_cons, List.map_nil, selV, push_cast, reduceIte, Nat.reduceEqDiff, reduceCtorEq, Nat.reduceAdd, Nat.reduceLeDiff, Nat.reduceBEq]; exact rfl) | fail) ?_ | (refine Fk.by_ ?_ ?_ <;> intro hc <;> try simp only [hc]) | refine storeK_eq rfl ?_ | with_reducible refine And.intro ?_ ?_ | fail) <;> try simp only [w0, n0, n2, n3, n4, n7, n9, resP, cmdV, cmdL, cmd0, fix0, b1, b2, b3, selO, selsV, List.map_cons, List.map_nil, selV, push_cast, reduceIte, Nat.reduceEqDiff, reduceCtorEq, Nat.reduceAdd, Nat.reduceLeDiff, Nat.reduceBEq]))
  all_goals first | refine finB (hwf) (by simp only [F9, push_cast, reduceIte, Nat.reduceEqDiff, reduceCtorEq, Nat.reduceAdd, Nat.reduceLeDiff, Nat.reduceBEq]; exact rfl) (by first | exact .inl rfl | (right; simp only [F9, push_cast, reduceIte, Nat.reduceEqDiff, reduceCtorEq, Nat.reduceAdd, Nat.reduceLeDiff, Nat.reduceBEq]; try rfl)) (by first | rfl | assumption) (by simp) (by simp) (by (repeat first | exact (hwf).subm | exact (hwf).suba | refine Sub.drop (by simp) ?_)) (by (repeat first | exact (hwf).subm | exact (hwf).suba | refine Sub.drop (by simp) ?_)) (by (repeat first | exact (hwf).subx | refine ExSub.dropt (by simp) ?_ | refine ExSub.drop (by simp) ?_))
end Go.Proofs.YtnondemehfkalaaGreatDoor

namespace Go.Proofs.YtnondemehfkalaaGreatDoor
open Go.Sha
/-- luminaire/luminairelaw39.GrammarTimes -/
def F7 : FT := ⟨88, 1, [.tmp 2],
 [.seq 1 2,
 .reg [.s 2 (.mv (.c (.bool false)))],
 .seq 3 4,
 .reg [.s 13 (.m 0),
 .s 14 (.bin .rem (.t 13) (.c (.int .u32 10000001))),
 .s 15 (.cvi .i64 (.t 14)),
 .s 3 (.m 15)],
 .seq 5 6,
 .reg [.s 16 (.m 3),
 .s 17 (.bin .quo (.t 16) (.i 1000)),
 .s 18 (.f 17 [(.t 17)]),
 .s 19 (.bin .add (.t 18) (.w [46])),
 .s 20 (.m 3),
 .s 21 (.bin .rem (.t 20) (.i 1000)),
 .s 22 (.bin .add (.i 1000) (.t 21)),
 .s 23 (.f 17 [(.t 22)]),
 .s 24 (.slices (.t 23) (some (.i 1)) none),
 .s 25 (.bin .add (.t 19) (.t 24)),
 .s 4 (.m 25)],
 .seq 7 8,
 .reg [.s 27 (.m 4),
 .s 28 (.f 15 [(.t 27)]),
 .s 26 (.m 28),
 .s 29 (.ext 0 (.t 26)),
 .s 30 (.ext 1 (.t 26)),
 .s 5 (.m 29),
 .s 6 (.m 30)],
 .seq 9 10,
 .reg [.s 31 (.m 4),
 .s 32 (.f 22 [(.t 31), (.w [48])]),
 .s 33 (.f 21 [(.t 32), (.w [46])]),
 .s 7 (.m 33)],
 .seq 11 16,
 .seq 12 13,
 .reg [.s 34 (.m 7),
 .s 35 (.bin .eql (.t 34) (.w []))],
 .cond (.t 35) 14 15,
 .reg [.s 7 (.mv (.w [48]))],
 .skip,
 .seq 17 18,
 .reg [.s 37 (.m 7),
 .s 38 (.f 15 [(.t 37)]),
 .s 36 (.m 38),
 .s 39 (.ext 0 (.t 36)),
 .s 40 (.ext 1 (.t 36)),
 .s 8 (.m 39),
 .s 9 (.m 40)],
 .seq 19 26,
 .seq 20 21,
 .reg [.s 41 (.m 3),
 .s 42 (.bin .rem (.t 41) (.i 1000)),
 .s 43 (.bin .eql (.t 42) (.i 0))],
 .cond (.t 43) 22 25,
 .seq 23 24,
 .reg [.s 44 (.m 3),
 .s 45 (.bin .quo (.t 44) (.i 1000)),
 .s 46 (.f 17 [(.t 45)]),
 .s 7 (.m 46)],
 .reg [.s 48 (.m 7),
 .s 49 (.f 15 [(.t 48)]),
 .s 47 (.m 49),
 .s 50 (.ext 0 (.t 47)),
 .s 51 (.ext 1 (.t 47)),
 .s 8 (.m 50),
 .s 9 (.m 51)],
 .skip,
 .seq 27 28,
 .reg [.s 53 (.m 4),
 .s 54 (.bin .add (.w [114, 101, 108, 101, 97, 115, 101, 32, 49, 32, 116, 105, 109, 101, 32]) (.t 53)),
 .s 55 (.f 10 [(.t 54)]),
 .s 52 (.m 55),
 .s 56 (.ext 0 (.t 52)),
 .s 57 (.ext 1 (.t 52)),
 .s 58 (.ext 2 (.t 52)),
 .s 10 (.alloc 28 Z0),
 .n (.store 19 (.t 10) (.t 56)),
 .s 11 (.m 57),
 .s 12 (.m 58)],
 .seq 29 30,
 .reg [.s 59 (.m 6),
 .s 60 (.bin .eql (.t 59) (.i 0)),
 .s 61 (.m 60),
 .y 62 (.m 9) 61,
 .y 63 (.bin .eql (.t 62) (.i 0)) 61,
 .s 64 (.pick (.t 61) (.t 63) (.c (.bool false))),
 .s 65 (.m 64),
 .y 66 (.m 12) 65,
 .y 67 (.bin .eql (.t 66) (.i 0)) 65,
 .s 68 (.pick (.t 65) (.t 67) (.c (.bool false))),
 .s 69 (.m 68),
 .y 70 (.m 5) 69,
 .y 71 (.m 3) 69,
 .y 72 (.bin .eql (.t 70) (.t 71)) 69,
 .s 73 (.pick (.t 69) (.t 72) (.c (.bool false))),
 .s 74 (.m 73),
 .y 75 (.m 8) 74,
 .y 76 (.m 3) 74,
 .y 77 (.bin .eql (.t 75) (.t 76)) 74,
 .s 78 (.pick (.t 74) (.t 77) (.c (.bool false))),
 .s 79 (.m 78),
 .y 80 (.a 9 10) 79,
 .y 81 (.l 80) 79,
 .y 82 (.m 3) 79,
 .y 83 (.bin .eql (.t 81) (.t 82)) 79,
 .s 84 (.pick (.t 79) (.t 83) (.c (.bool false))),
 .s 85 (.m 84),
 .y 86 (.f 9 []) 85,
 .s 87 (.pick (.t 85) (.t 86) (.c (.bool false))),
 .s 2 (.m 87)],
 .ret]⟩

theorem F7_ok : compFn Tryz.prog 7 = some F7 := by kernel_rfl
end Go.Proofs.YtnondemehfkalaaGreatDoor

set_option maxRecDepth 10000
namespace Go.Proofs.YtnondemehfkalaaGreatDoor
open Go.Sha Go.RowKit

theorem dig_no {b : UInt8} (h : digB b = true) : letB b = false ∧ isB 34 b = false ∧ isB 32 b = false := by
  have := u8_all (fun b => !digB b || (!letB b && !isB 34 b && !isB 32 b)) (by decide +kernel) b
  simpa [h, and_assoc] using this
theorem lex_pt {W X : List UInt8} (hW : W.all digB = true) (hW0 : W ≠ []) (hX : X.all digB = true) (hX0 : X ≠ []) : lexAt (W ++ 46 :: X) 0 = some (1, W ++ 46 :: X, (W ++ 46 :: X).length) ∧ atIs (isB 32) (W ++ 46 :: X) 0 = false := by
  obtain ⟨s, hs⟩ : ∃ s, s = W ++ 46 :: X := ⟨_, rfl⟩
  have hWl : 0 < W.length := List.length_pos_iff.2 hW0
  have hXl : 0 < X.length := List.length_pos_iff.2 hX0
  have hl : s.length = W.length + 1 + X.length := by rw [hs]; simp; omega
  have d1 : ∀ k, k < W.length → atIs digB s k = true := fun k hk => by
    have hb : s[k]? = some W[k] := by rw [hs, List.getElem?_append_left hk, List.getElem?_eq_getElem hk]
    rw [atIs_of hb]; exact List.all_eq_true.1 hW _ (List.getElem_mem hk)
  have d2 : s[W.length]? = some 46 := by rw [hs, List.getElem?_append_right (Nat.le_refl _), Nat.sub_self]; rfl
  have d3 : ∀ k, W.length + 1 ≤ k → k < s.length → atIs digB s k = true := fun k h1 h2 => by
    have hk : k - (W.length + 1) < X.length := by omega
    have hb : s[k]? = some X[k - (W.length + 1)] := by
      rw [hs, List.getElem?_append_right (by omega), show k - W.length = (k - (W.length + 1)) + 1 by omega, List.getElem?_cons_succ, List.getElem?_eq_getElem hk]
    rw [atIs_of hb]; exact List.all_eq_true.1 hX _ (List.getElem_mem hk)
  have h0 := d1 0 hWl
  obtain ⟨b, hb, hbd⟩ : ∃ b, s[0]? = some b ∧ digB b = true := by
    unfold atIs at h0
    split at h0
    · exact ⟨_, ‹_›, h0⟩
    · cases h0
  obtain ⟨n1, n2, n3⟩ := dig_no hbd
  have r1 : runTo digB s 0 = W.length := run_is W.length (by omega) (by omega) (fun k _ h => d1 k h) (by rw [atIs_of d2]; rfl)
  have r2 : runTo digB s (W.length + 1) = s.length := run_is (s.length - (W.length + 1)) rfl (by omega) (fun k h1 h2 => d3 k h1 h2) (atIs_none (Nat.le_refl _))
  rw [← hs]
  refine ⟨?_, by rw [atIs_of hb]; exact n3⟩
  unfold lexAt
  rw [if_neg (by omega), if_neg (by rw [atIs_of hb, n1]; decide), if_neg (by rw [atIs_of hb, n2]; decide), if_pos h0, r1, if_pos (by rw [atIs_of d2, d3 _ (Nat.le_refl _) (by omega)]; rfl), r2]
  rw [List.drop_zero, List.take_length]

def tmC (v : Int) : Cmd := { cmd0 with kind := 6, verb := [114, 101, 108, 101, 97, 115, 101], list := 1, time := v }
theorem tm_read {S : List UInt8} {v o1 o2 o3 o4 o5 : Int} (h : secN S = (v, 0)) : pE (rCommand [⟨0, [114, 101, 108, 101, 97, 115, 101], o1⟩, ⟨1, [49], o2⟩, ⟨0, [116, 105, 109, 101], o3⟩, ⟨1, S, o4⟩, ⟨3, [], o5⟩]) = .ok (tmC v) := by
  have r1 := fun r => int_read (A := [49]) (a := 1) (most := 1048576) (o := o2) (r := r) (by decide) (by decide) (by decide) (by decide)
  have hl : lukT [114, 101, 108, 101, 97, 115, 101] tabV = some (121, rPlay) := by rfl
  have hc : rCommand [⟨0, [114, 101, 108, 101, 97, 115, 101], o1⟩, ⟨1, [49], o2⟩, ⟨0, [116, 105, 109, 101], o3⟩, ⟨1, S, o4⟩, ⟨3, [], o5⟩] = rPlay [114, 101, 108, 101, 97, 115, 101] [⟨1, [49], o2⟩, ⟨0, [116, 105, 109, 101], o3⟩, ⟨1, S, o4⟩, ⟨3, [], o5⟩] := by
    unfold rCommand
    rw [if_neg (by simp [hd])]
    simp only [hd, hl]
    rfl
  rw [hc]
  simp [rPlay, rNext, r1, rTime, rWord, hdIs, hd, rNumber, rMust, h, rOk, pE, tmC, cmd0]
theorem tm_law {W X : List UInt8} {v : Int} (hW : W.all digB = true) (hW0 : W ≠ []) (hX : X.all digB = true) (hX0 : X ≠ []) (hl : W.length + X.length ≤ 100) (h : secN (W ++ 46 :: X) = (v, 0)) : pR rCommand ([114, 101, 108, 101, 97, 115, 101, 32, 49, 32, 116, 105, 109, 101, 32] ++ (W ++ 46 :: X)) = .ok (tmC v) := by
  obtain ⟨q1, q2⟩ := lex_pt hW hW0 hX hX0
  have e : [114, 101, 108, 101, 97, 115, 101, 32, 49, 32, 116, 105, 109, 101, 32] ++ (W ++ 46 :: X) = pcs [⟨0, 0, [114, 101, 108, 101, 97, 115, 101], [114, 101, 108, 101, 97, 115, 101]⟩, ⟨1, 1, [49], [49]⟩, ⟨1, 0, [116, 105, 109, 101], [116, 105, 109, 101]⟩, ⟨1, 1, W ++ 46 :: X, W ++ 46 :: X⟩] 0 := by simp [pcs]
  have hs := scanR_pcs (l := [⟨0, 0, [114, 101, 108, 101, 97, 115, 101], [114, 101, 108, 101, 97, 115, 101]⟩, ⟨1, 1, [49], [49]⟩, ⟨1, 0, [116, 105, 109, 101], [116, 105, 109, 101]⟩, ⟨1, 1, W ++ 46 :: X, W ++ 46 :: X⟩]) (m := 0) (fun x hx => by
    simp only [List.mem_cons, List.not_mem_nil, or_false] at hx
    rcases hx with rfl | rfl | rfl | rfl
    · exact ⟨by decide, by decide, by decide⟩
    · exact ⟨by decide, by decide, by decide⟩
    · exact ⟨by decide, by decide, by decide⟩
    · exact ⟨q1, (show (1 : Int) ≠ 3 by decide), q2⟩) (fun x hx => by
    simp only [List.tail_cons, List.mem_cons, List.not_mem_nil, or_false] at hx
    rcases hx with rfl | rfl | rfl <;> exact Nat.zero_lt_one) (by simp [pcs]; omega) (by simp)
  rw [e]
  unfold pR
  rw [hs]
  show pE (rCommand (pcT 0 _ 0)) = _
  simp only [pcT]
  exact tm_read h

theorem callable21 : Callable Tryz.prog 21 := ⟨_, Tryz.func21, by kernel_rfl, by kernel_rfl⟩
theorem trimS_v (s p : List UInt8) (st : St) (hs : s.length < 140737488355328) : VRet Tryz.prog 21 [.str s, .str p] st (.str (Lib.trimSuffix s p)) st := by
  refine VRet_of_below callable21 (fun w A vs hw ha => ?_)
  obtain ⟨u, v, rfl, h1, h2⟩ := ha.two
  have e1 := h1.str_inv
  have e2 := h2.str_inv
  subst e1; subst e2
  refine (Tryz.strings_TrimSuffix ⟨s.toArray⟩ ⟨p.toArray⟩ w (by simp [ByteArray.size]; omega)).mono fun e w' ⟨he, hb⟩ => ?_
  subst he; subst hb
  exact ⟨_, rfl, fun w' A' => .str _, Below.refl _ _⟩
theorem callable22 : Callable Tryz.prog 22 := ⟨_, Tryz.func22, by kernel_rfl, by kernel_rfl⟩
theorem trimRight_v (s : List UInt8) (c : UInt8) (st : St) (hc : c.toNat < 128) (hs : s.length < 140737488355328) : VRet Tryz.prog 22 [.str s, .str [c]] st (.str (Lib.trimRightB s c)) st := by
  refine VRet_of_below callable22 (fun w A vs hw ha => ?_)
  obtain ⟨u, v, rfl, h1, h2⟩ := ha.two
  have e1 := h1.str_inv
  have e2 := h2.str_inv
  subst e1; subst e2
  refine (Tryz.strings_TrimRight_one ⟨s.toArray⟩ c hc w (by simp [ByteArray.size]; omega)).mono fun e w' ⟨he, hb⟩ => ?_
  subst he; subst hb
  exact ⟨_, rfl, fun w' A' => .str _, Below.refl _ _⟩

theorem trimS_pt (W : List UInt8) : Lib.trimSuffix (W ++ [46]) [46] = W := by
  unfold Lib.trimSuffix
  rw [suf_last, if_pos (by simp)]
  simp
theorem trimS_no {s : List UInt8} {b : UInt8} (h : s.getLast? = some b) (hb : b ≠ 46) : Lib.trimSuffix s [46] = s := by
  unfold Lib.trimSuffix
  rw [suf_last, h, if_neg (by simpa using hb)]
/-- What the text without zeros at its end is. -/
theorem short_is {q r : Nat} (hq : q ≤ 10000) (hr : r < 1000) : ∃ sh, Lib.trimSuffix (Lib.trimRightB (Lib.itoa q ++ [46] ++ frR r) 48) [46] = sh ∧ sh ≠ [] ∧ sh.length ≤ 100 ∧ (1000 * q + r ≤ 10000000 → secN sh = (((1000 * q + r : Nat) : Int), 0)) := by
  obtain ⟨w1, w2, w3, w4, w5⟩ := whOk_at hq
  obtain ⟨f1, f2, f3, f4⟩ := frOk_at hr
  have hlast : Lib.trimRightB (Lib.itoa q ++ [46]) 48 = Lib.itoa q ++ [46] := by
    rw [trimR_app]
    have : Lib.trimRightB [46] 48 = [46] := by decide
    rw [this, if_neg (by simp)]
  rw [trimR_app]
  by_cases h0 : r = 0
  · rw [if_pos h0] at f4
    rw [if_pos f4, hlast, trimS_pt]
    refine ⟨_, rfl, w5, by omega, fun hm => ?_⟩
    subst h0
    exact sec_no w1 w4 w2 (by omega)
  · rw [if_neg h0] at f4
    obtain ⟨g1, g2, g3, g4⟩ := f4
    rw [if_neg g1]
    obtain ⟨T, hT⟩ : ∃ T, T = Lib.trimRightB (frR r) 48 := ⟨_, rfl⟩
    rw [← hT] at g1 g2 g3 g4 ⊢
    obtain ⟨b, hb⟩ : ∃ b, T.getLast? = some b := by
      cases h : T.getLast? with
      | none => exact absurd (List.getLast?_eq_none_iff.1 h) g1
      | some b => exact ⟨b, rfl⟩
    have hbd : digB b = true := List.all_eq_true.1 g3 b (List.mem_of_getLast? hb)
    rw [trimS_no (b := b) (by rw [List.getLast?_append, hb]; rfl) (dig_46 hbd)]
    refine ⟨_, rfl, by simp, by simp; omega, fun hm => ?_⟩
    have := sec_pt w1 w4 w2 g1 g2 g3 g4 hr hm
    simpa using this
end Go.Proofs.YtnondemehfkalaaGreatDoor

set_option maxRecDepth 10000
namespace Go.Proofs.YtnondemehfkalaaGreatDoor
open Go.Sha

theorem beq_self (n : Int) : (n == n) = true := by simp
theorem tmod_nat (x n : Nat) : (x : Int).tmod (n : Int) = ((x % n : Nat) : Int) := by rw [Int.tmod_eq_emod_of_nonneg (by omega)]; rfl
theorem tdiv_nat (x n : Nat) : (x : Int).tdiv (n : Int) = ((x / n : Nat) : Int) := by rw [Int.tdiv_eq_ediv_of_nonneg (by omega)]; rfl
set_option maxHeartbeats 4000000 in
theorem times_v (n : Nat) (hn : n < 4294967296) (st : St) (hG : GlOk2 st.x.gl) : VRet Tryz.prog 7 [.int .u32 (n : Int)] st (.bool true) st := by
  have ha := fun st' (h : GlOk st'.x.gl) => awake_v st' h
  obtain ⟨ms, hms⟩ : ∃ ms, ms = n % 10000001 := ⟨_, rfl⟩
  obtain ⟨q, hq⟩ : ∃ q, q = ms / 1000 := ⟨_, rfl⟩
  obtain ⟨r, hr⟩ : ∃ r, r = ms % 1000 := ⟨_, rfl⟩
  have hq4 : q ≤ 10000 := by omega
  have hr3 : r < 1000 := by omega
  have hm7 : ms ≤ 10000000 := by omega
  have hsum : 1000 * q + r = ms := by omega
  have n1 : ((10000001 : Int) ≠ 0) = True := by simp
  have n2 : ((1000 : Int) ≠ 0) = True := by simp
  have t1 : (n : Int).tmod 10000001 = (ms : Int) := by rw [hms]; exact tmod_nat n 10000001
  have t2 : IntKind.i64.wrap ((ms : Int).tdiv 1000) = (q : Int) := by
    have e : (ms : Int).tdiv 1000 = ((ms / 1000 : Nat) : Int) := tdiv_nat ms 1000
    rw [e, wrap64 (by omega) (by omega), hq]
  have t3 : (ms : Int).tmod 1000 = (r : Int) := by rw [hr]; exact tmod_nat ms 1000
  have w1 : IntKind.i64.wrap (ms : Int) = (ms : Int) := wrap64 (by omega) (by omega)
  obtain ⟨k, hk⟩ : ∃ k, k = 1000 + r := ⟨_, rfl⟩
  have w2 : IntKind.i64.wrap (1000 + (r : Int)) = (k : Int) := by rw [wrap64 (by omega) (by omega)]; omega
  obtain ⟨q1, q2, q3, q4, q5⟩ := whOk_at hq4
  obtain ⟨f1, f2, f3, _⟩ := frOk_at hr3
  have hX0 : frR r ≠ [] := by
    intro e
    have := congrArg List.length e
    unfold frR at this
    rw [List.length_drop, f1] at this
    simp at this
  have hXl : (frR r).length = 3 := by unfold frR; rw [List.length_drop, f1]
  obtain ⟨sh, s1, s2, s3, s4⟩ := short_is hq4 hr3
  have s4 := s4 (by omega)
  have hsec := sec_pt q1 q4 q2 hX0 (by omega) f2 f3 hr3 (by omega)
  have hpar := tm_law q4 q5 f2 hX0 (by omega) hsec
  have hno : r = 0 → secN (Lib.itoa q) = ((ms : Int), 0) := fun h0 => by
    have := sec_no q1 q4 q2 (by omega)
    rw [this]; congr 2; omega
  rw [hsum] at s4 hsec hpar
  have ia := fun st' (h : GlOk2 st'.x.gl) => itoa_v (q : Int) (by omega) (by omega) st' h
  have ik := fun st' (h : GlOk2 st'.x.gl) => itoa_v (k : Int) (by omega) (by omega) st' h
  have hX : (Lib.itoa (k : Int)).drop 1 = frR r := by unfold frR; rw [hk]
  rw [← hk] at f1
  generalize frR r = X at *
  generalize hA : Lib.itoa (q : Int) = A at *
  generalize hD : Lib.itoa (k : Int) = D at *
  have e46 : A ++ 46 :: X = A ++ [46] ++ X := by simp
  rw [e46] at hsec hpar
  have hS1 := fun st' (h : GlOk st'.x.gl) => seconds_v (A ++ [46] ++ X) st' h (by simp; omega)
  rw [hsec] at hS1
  have hS2 := fun st' (h : GlOk st'.x.gl) => seconds_v sh st' h (by omega)
  rw [s4] at hS2
  have hT := fun st' => trimRight_v (A ++ [46] ++ X) 48 st' (by decide) (by simp; omega)
  generalize hTR : Lib.trimRightB (A ++ [46] ++ X) 48 = TR at *
  have hTl : TR.length < 140737488355328 := by
    rw [← hTR]; unfold Lib.trimRightB
    rw [List.length_reverse]
    have := (List.dropWhile_sublist (l := (A ++ [46] ++ X).reverse) (fun b => b == 48)).length_le
    simp at this ⊢; omega
  have hU := fun st' => trimS_v TR [46] st' hTl
  rw [s1] at hU
  have hP := fun st' (h : GlOk st'.x.gl) => parse_v ([114, 101, 108, 101, 97, 115, 101, 32, 49, 32, 116, 105, 109, 101, 32] ++ (A ++ [46] ++ X)) st' h
  rw [hpar] at hP
  have l1 : A.length + 1 ≤ 9223372036854775807 := by omega
  have l2 : A.length + (1 + X.length) ≤ 9223372036854775807 := by omega
  have l3 : 15 + (A.length + (1 + X.length)) ≤ 9223372036854775807 := by omega
  have d1 : 1 ≤ D.length := by omega
  have hsh : (sh == []) = false := by simpa using s2
  have n0 : ((0 : Int) == 0) = true := rfl
  refine VCalls_of F7_ok mixed (Nat.le_of_ble_eq_true rfl) (fun hwf => ?_)
  cases h0 : ((r : Int) == 0) with
  | true =>
    have hS3 := fun st' (h : GlOk st'.x.gl) => seconds_v A st' h (by omega)
    rw [hno (by have : (r : Int) = 0 := by simpa using h0
                omega)] at hS3
    (repeat' first | ((first | refine go rfl rfl ?_ | refine Cl.by_ (by (first | refine ia _ hG | refine ik _ hG | refine hS1 _ hG.1 | refine hS2 _ hG.1 | refine hS3 _ hG.1 | refine hT _ | refine hU _ | refine hP _ hG.1 | refine ha _ hG.1)) ?_ | (refine Fk.by_ ?_ ?_ <;> intro hc <;> try simp only [hc]) | refine storeK_eq rfl ?_ | with_reducible refine And.intro ?_ ?_ | fail) <;> try simp only [n1, n2, t1, t2, t3, w1, w2, l1, l2, l3, d1, hX, hsh, h0, n0, resP, cmdV, cmdL, tmC, cmd0, fix0, selO, beq_self, List.take_length, Nat.le_refl, push_cast, reduceIte, Nat.reduceEqDiff, reduceCtorEq, Nat.reduceAdd, Nat.reduceLeDiff, Nat.reduceBEq]))
    all_goals first | refine finB (hwf) (by simp only [F7, push_cast, reduceIte, Nat.reduceEqDiff, reduceCtorEq, Nat.reduceAdd, Nat.reduceLeDiff, Nat.reduceBEq]; exact rfl) (by first | exact .inl rfl | (right; simp only [F7, push_cast, reduceIte, Nat.reduceEqDiff, reduceCtorEq, Nat.reduceAdd, Nat.reduceLeDiff, Nat.reduceBEq]; try rfl)) (by first | rfl | assumption) (by simp) (by simp) (by (repeat first | exact (hwf).subm | exact (hwf).suba | refine Sub.drop (by simp) ?_)) (by (repeat first | exact (hwf).subm | exact (hwf).suba | refine Sub.drop (by simp) ?_)) (by (repeat first | exact (hwf).subx | refine ExSub.dropt (by simp) ?_ | refine ExSub.drop (by simp) ?_))
  | false =>
    (repeat' first | ((first | refine go rfl rfl ?_ | refine Cl.by_ (by (first | refine ia _ hG | refine ik _ hG | refine hS1 _ hG.1 | refine hS2 _ hG.1 | refine hT _ | refine hU _ | refine hP _ hG.1 | refine ha _ hG.1)) ?_ | (refine Fk.by_ ?_ ?_ <;> intro hc <;> try simp only [hc]) | refine storeK_eq rfl ?_ | with_reducible refine And.intro ?_ ?_ | fail) <;> try simp only [n1, n2, t1, t2, t3, w1, w2, l1, l2, l3, d1, hX, hsh, h0, n0, resP, cmdV, cmdL, tmC, cmd0, fix0, selO, beq_self, List.take_length, Nat.le_refl, push_cast, reduceIte, Nat.reduceEqDiff, reduceCtorEq, Nat.reduceAdd, Nat.reduceLeDiff, Nat.reduceBEq]))
    all_goals first | refine finB (hwf) (by simp only [F7, push_cast, reduceIte, Nat.reduceEqDiff, reduceCtorEq, Nat.reduceAdd, Nat.reduceLeDiff, Nat.reduceBEq]; exact rfl) (by first | exact .inl rfl | (right; simp only [F7, push_cast, reduceIte, Nat.reduceEqDiff, reduceCtorEq, Nat.reduceAdd, Nat.reduceLeDiff, Nat.reduceBEq]; try rfl)) (by first | rfl | assumption) (by simp) (by simp) (by (repeat first | exact (hwf).subm | exact (hwf).suba | refine Sub.drop (by simp) ?_)) (by (repeat first | exact (hwf).subm | exact (hwf).suba | refine Sub.drop (by simp) ?_)) (by (repeat first | exact (hwf).subx | refine ExSub.dropt (by simp) ?_ | refine ExSub.drop (by simp) ?_))
theorem times_w (n : Int) (h0 : 0 ≤ n) (h1 : n ≤ 4294967295) (st : St) (hG : GlOk2 st.x.gl) : VRet Tryz.prog 7 [.int .u32 n] st (.bool true) st := by
  obtain ⟨n, rfl⟩ := Int.eq_ofNat_of_zero_le h0
  exact times_v n (by omega) st hG
end Go.Proofs.YtnondemehfkalaaGreatDoor
