/- The reader of commands: words, signs, numbers. The compiled code of functions of this seat, printed by a program (ShaMain), and that it is the translation's: checked by the kernel. The library's contracts that this seat's laws use. What the functions of the reader of commands read, in plain Lean. Scanning texts that are put together of pieces. strconv.Itoa, by the shelf's contract. Attr and Seconds. Attr. The compiled code of functions of this seat, printed by a program (ShaMain), and that it is the translation's: checked by the kernel. Percentages and numbers of cues. Percentages. Numbers of cues. The reader of commands: numbers, levels, times, names. The reader of commands: channels, profiles, attributes, terms. The reader of commands: selections. The reader of commands: list and cue. The reader of commands: all commands. The reader of commands: the table of verbs. The reader of commands: the table of verbs, whole. -/
import Derived.Test.YtnondemehfkalaaGreatDoorV1
import Derived.Lib.AtoiAllCases
import Derived.Lib.AtoiErrMem
import Derived.Test.YtnondemehfkalaaGreatDoorShaT
import Derived.Lib.AppendIntMem
import Derived.Laws.RangeAny
set_option linter.unusedSimpArgs false
set_option linter.unusedVariables false
set_option maxRecDepth 10000
namespace Go.Proofs.YtnondemehfkalaaGreatDoor
open Go.Sha

def rWord : List (List UInt8) → Rd (List UInt8)
  | [] => rOk []
  | w :: r => fun ts => if hdIs 0 w ts = true then .ok (w, ts.tail) else rWord r ts
def rSign (s : List UInt8) : Rd Bool := fun ts => if hdIs 2 s ts = true then .ok (true, ts.tail) else .ok (false, ts)
def rNeed (ws : List (List UInt8)) : Rd (List UInt8) := rNext (rWord ws) fun w ts => if (w == []) = true then .error ((hd ts).a, 4) else .ok (w, ts)
def rSlash : Rd Unit := rNext (rSign [47]) fun b ts => if b = true then .ok ((), ts) else .error ((hd ts).a, 4)
def rNumber : Rd (List UInt8) := fun ts => if ((hd ts).k != 1) = true then .error ((hd ts).a, 4) else .ok ((hd ts).t, ts)
def rMust (e : Int) : Rd Unit := fun ts => if (e == 0) = true then .ok ((), ts) else if (e == 3) = true then .error ((hd ts).a, 4) else .error ((hd ts).a, e)

theorem hdIs_ne {k : Int} {t : List UInt8} {ts : List Tok} (h : hdIs k t ts = true) (hk : k ≠ 3) : (hd ts).k ≠ 3 := by
  simp only [hdIs, Bool.and_eq_true, beq_iff_eq] at h
  omega

theorem gword_v (ws : List (List UInt8)) (hl : ws.length < 1000) : RdC 110 [.sl (ws.map .str)] (rWord ws) .str := by
  intro st rid ts hG hw hm
  refine VCalls_of F110_ok mixed (Nat.le_of_ble_eq_true rfl) (fun hwf => ?_)
  have hbw : V.bdL st.nx (ws.map V.str) = true := bdL_map fun _ _ => rfl
  have hrid := (hwf.mem _ _ hm).1
  (repeat' first | ((first | refine go rfl rfl ?_ | (refine Fk.by_ ?_ ?_ <;> intro hc <;> try simp only [hc]) | refine storeK_eq rfl ?_ | with_reducible refine And.intro ?_ ?_ | fail) <;> try simp only [push_cast, reduceIte, Nat.reduceEqDiff, reduceCtorEq, Nat.reduceAdd, Nat.reduceLeDiff, Nat.reduceBEq]))
  refine WT_loop rfl (fun n e z => ∃ j : Nat, n = ws.length - j ∧ j ≤ ws.length ∧ rWord (ws.drop j) ts = rWord ws ts ∧ e = [(9, .int .i64 (j : Int)), (8, .int .i64 (ws.length : Int)), (7, .sl (ws.map .str)), (0, .ptr rid 0)] ∧ st = z) st.nx (Nat.le_refl _) (by rintro _ _ _ ⟨j, _, _, _, _, rfl⟩; rfl)
    ⟨_, _, _, ⟨0, rfl, Nat.zero_le _, rfl, rfl, rfl⟩, (by repeat first | exact .nil | refine .cons (by first | rfl | (simp [V.bd, V.bdL]; try first | omega | assumption)) (by first | rfl | simp only [push_cast, reduceIte, Nat.reduceEqDiff, reduceCtorEq, Nat.reduceAdd, Nat.reduceLeDiff, Nat.reduceBEq]) ?_), .refl hwf⟩ ?_
  rintro n e z ⟨j, rfl, hj, hr, rfl, rfl⟩
  rcases Nat.lt_or_ge j ws.length with hlt | hge
  · obtain ⟨w, hx⟩ : ∃ w, ws[j]? = some w := ⟨_, List.getElem?_eq_getElem hlt⟩
    obtain ⟨q1, q2⟩ := List.getElem?_eq_some_iff.1 hx
    have h2 : decide ((j : Int) < (ws.length : Int)) = true := decide_eq_true (by omega)
    have hwr : IntKind.i64.wrap ((j : Int) + 1) = (j : Int) + 1 := wrap64 (by omega) (by omega)
    rw [List.drop_eq_getElem_cons q1, q2] at hr
    (repeat' first | (with_reducible intro x1 x2 hE hW <;> (try (have hI := rNumber_inv hE; obtain ⟨rfl, rfl, hK⟩ := hI)) <;> (try (have hI := rMust_inv hE; obtain ⟨rfl, -⟩ := hI)) <;> (try (have hI := rUnit_inv hE; obtain ⟨u1, u2, rfl⟩ := hI; dsimp only)) <;> try simp only [stR_eq, lookR, Option.map_some, h2, hwr, hx, V.cells, push_cast, reduceIte, Nat.reduceEqDiff, reduceCtorEq, Nat.reduceAdd, Nat.reduceLeDiff, Nat.reduceBEq]) | (with_reducible intro x1 x2 x3 hE <;> try simp only [stR_eq, lookR, Option.map_some, h2, hwr, hx, V.cells, push_cast, reduceIte, Nat.reduceEqDiff, reduceCtorEq, Nat.reduceAdd, Nat.reduceLeDiff, Nat.reduceBEq]) | (with_reducible intro hE2 <;> try simp only [stR_eq, lookR, Option.map_some, h2, hwr, hx, V.cells, push_cast, reduceIte, Nat.reduceEqDiff, reduceCtorEq, Nat.reduceAdd, Nat.reduceLeDiff, Nat.reduceBEq]) | ((first | refine go rfl rfl ?_ | refine RdK.c (by first | assumption | (simp only [stR_eq, lookR, Option.map_some, h2, hwr, hx, V.cells, push_cast, reduceIte, Nat.reduceEqDiff, reduceCtorEq, Nat.reduceAdd, Nat.reduceLeDiff, Nat.reduceBEq] <;> exact rfl)) (by assumption) (by assumption) ?_ | refine snap_two (by simp only [stR_eq, lookR, Option.map_some, h2, hwr, hx, V.cells, push_cast, reduceIte, Nat.reduceEqDiff, reduceCtorEq, Nat.reduceAdd, Nat.reduceLeDiff, Nat.reduceBEq] <;> exact rfl) ?_ | (refine Fk.by_ ?_ ?_ <;> intro hc <;> try simp only [hc]) | refine storeK_eq rfl ?_ | with_reducible refine And.intro ?_ ?_ | fail) <;> try simp only [stR_eq, lookR, Option.map_some, h2, hwr, hx, V.cells, push_cast, reduceIte, Nat.reduceEqDiff, reduceCtorEq, Nat.reduceAdd, Nat.reduceLeDiff, Nat.reduceBEq]))
    · have hw' := hw.tail (hdIs_ne hc (by decide))
      have he : rWord ws ts = .ok (w, ts.tail) := by rw [← hr]; simp [rWord, hc]
      (first | exact finRo hwf (by first | exact .inl rfl | exact .inr rfl) (by first | rfl | (simp only [push_cast, reduceIte, Nat.reduceEqDiff, reduceCtorEq, Nat.reduceAdd, Nat.reduceLeDiff, Nat.reduceBEq]; exact rfl)) (by first | exact .inl rfl | (right; simp only [push_cast, reduceIte, Nat.reduceEqDiff, reduceCtorEq, Nat.reduceAdd, Nat.reduceLeDiff, Nat.reduceBEq]; try rfl)) (by first | rfl | assumption | exact bd_cmd | (simp [V.bd, V.bdL]; done)) (by simp) (by (repeat first | exact (wfR hwf _).subm | exact subR hm hwf | refine Sub.drop (by simp) ?_)) (by (repeat first | exact (hwf).suba | refine Sub.drop (by simp) ?_)) ((hwf).subx) (by first | assumption | (simp [*]; done) | (simp only [if_true, if_false, Bool.false_eq_true, *]; done) | fail) (by first | assumption | (simp [*]; done) | fail) | exact finRe hwf (by first | (simp [*]; done) | (simp only [if_true, if_false, Bool.false_eq_true, *]; done)) (by simp) (by (repeat first | exact (wfR hwf _).subm | exact subR hm hwf | refine Sub.drop (by simp) ?_)) (by (repeat first | exact (hwf).suba | refine Sub.drop (by simp) ?_)) ((hwf).subx))
    · simp only [rWord, hc, Bool.false_eq_true, if_false] at hr
      exact ⟨_, _, _, by omega, ⟨j + 1, rfl, by omega, hr, rfl, rfl⟩, (by repeat first | exact .nil | refine .cons (by first | rfl | (simp [V.bd, V.bdL]; try first | omega | assumption)) (by first | rfl | simp only [push_cast, reduceIte, Nat.reduceEqDiff, reduceCtorEq, Nat.reduceAdd, Nat.reduceLeDiff, Nat.reduceBEq]) ?_), .refl hwf⟩
  · have h2 : decide ((j : Int) < (ws.length : Int)) = false := decide_eq_false (by omega)
    have ej : j = ws.length := by omega
    subst ej
    rw [List.drop_length] at hr
    have he : rWord ws ts = .ok ([], ts) := by rw [← hr]; rfl
    (repeat' first | (with_reducible intro x1 x2 hE hW <;> (try (have hI := rNumber_inv hE; obtain ⟨rfl, rfl, hK⟩ := hI)) <;> (try (have hI := rMust_inv hE; obtain ⟨rfl, -⟩ := hI)) <;> (try (have hI := rUnit_inv hE; obtain ⟨u1, u2, rfl⟩ := hI; dsimp only)) <;> try simp only [stR_eq, lookR, Option.map_some, h2, push_cast, reduceIte, Nat.reduceEqDiff, reduceCtorEq, Nat.reduceAdd, Nat.reduceLeDiff, Nat.reduceBEq]) | (with_reducible intro x1 x2 x3 hE <;> try simp only [stR_eq, lookR, Option.map_some, h2, push_cast, reduceIte, Nat.reduceEqDiff, reduceCtorEq, Nat.reduceAdd, Nat.reduceLeDiff, Nat.reduceBEq]) | (with_reducible intro hE2 <;> try simp only [stR_eq, lookR, Option.map_some, h2, push_cast, reduceIte, Nat.reduceEqDiff, reduceCtorEq, Nat.reduceAdd, Nat.reduceLeDiff, Nat.reduceBEq]) | ((first | refine go rfl rfl ?_ | refine RdK.c (by first | assumption | (simp only [stR_eq, lookR, Option.map_some, h2, push_cast, reduceIte, Nat.reduceEqDiff, reduceCtorEq, Nat.reduceAdd, Nat.reduceLeDiff, Nat.reduceBEq] <;> exact rfl)) (by assumption) (by assumption) ?_ | refine snap_two (by simp only [stR_eq, lookR, Option.map_some, h2, push_cast, reduceIte, Nat.reduceEqDiff, reduceCtorEq, Nat.reduceAdd, Nat.reduceLeDiff, Nat.reduceBEq] <;> exact rfl) ?_ | (refine Fk.by_ ?_ ?_ <;> intro hc <;> try simp only [hc]) | refine storeK_eq rfl ?_ | with_reducible refine And.intro ?_ ?_ | fail) <;> try simp only [stR_eq, lookR, Option.map_some, h2, push_cast, reduceIte, Nat.reduceEqDiff, reduceCtorEq, Nat.reduceAdd, Nat.reduceLeDiff, Nat.reduceBEq]))
    (first | exact finRo hwf (by first | exact .inl rfl | exact .inr rfl) (by first | rfl | (simp only [push_cast, reduceIte, Nat.reduceEqDiff, reduceCtorEq, Nat.reduceAdd, Nat.reduceLeDiff, Nat.reduceBEq]; exact rfl)) (by first | exact .inl rfl | (right; simp only [push_cast, reduceIte, Nat.reduceEqDiff, reduceCtorEq, Nat.reduceAdd, Nat.reduceLeDiff, Nat.reduceBEq]; try rfl)) (by first | rfl | assumption | exact bd_cmd | (simp [V.bd, V.bdL]; done)) (by simp) (by (repeat first | exact (wfR hwf _).subm | exact subR hm hwf | refine Sub.drop (by simp) ?_)) (by (repeat first | exact (hwf).suba | refine Sub.drop (by simp) ?_)) ((hwf).subx) (by first | assumption | (simp [*]; done) | (simp only [if_true, if_false, Bool.false_eq_true, *]; done) | fail) (by first | assumption | (simp [*]; done) | fail) | exact finRe hwf (by first | (simp [*]; done) | (simp only [if_true, if_false, Bool.false_eq_true, *]; done)) (by simp) (by (repeat first | exact (wfR hwf _).subm | exact subR hm hwf | refine Sub.drop (by simp) ?_)) (by (repeat first | exact (hwf).suba | refine Sub.drop (by simp) ?_)) ((hwf).subx))

theorem gneed_v (ws : List (List UInt8)) (hl : ws.length < 1000) : RdC 109 [.sl (ws.map .str)] (rNeed ws) .str := by
  intro st rid ts hG hw hm
  have hbw : V.bdL st.nx (ws.map V.str) = true := bdL_map fun _ _ => rfl
  refine VCalls_of F109_ok mixed (Nat.le_of_ble_eq_true rfl) (fun hwf => ?_)
  (repeat' first | (with_reducible intro x1 x2 hE hW <;> (try (have hI := rNumber_inv hE; obtain ⟨rfl, rfl, hK⟩ := hI)) <;> (try (have hI := rMust_inv hE; obtain ⟨rfl, -⟩ := hI)) <;> (try (have hI := rUnit_inv hE; obtain ⟨u1, u2, rfl⟩ := hI; dsimp only)) <;> try simp only [stR_eq, lookR, Option.map_some, hm, push_cast, reduceIte, Nat.reduceEqDiff, reduceCtorEq, Nat.reduceAdd, Nat.reduceLeDiff, Nat.reduceBEq]) | (with_reducible intro x1 x2 x3 hE <;> try simp only [stR_eq, lookR, Option.map_some, hm, push_cast, reduceIte, Nat.reduceEqDiff, reduceCtorEq, Nat.reduceAdd, Nat.reduceLeDiff, Nat.reduceBEq]) | (with_reducible intro hE2 <;> try simp only [stR_eq, lookR, Option.map_some, hm, push_cast, reduceIte, Nat.reduceEqDiff, reduceCtorEq, Nat.reduceAdd, Nat.reduceLeDiff, Nat.reduceBEq]) | ((first | refine go rfl rfl ?_ | refine rd_call (gword_v ws hl) (by first | rfl | (simp only [stR_eq, lookR, Option.map_some, hm, push_cast, reduceIte, Nat.reduceEqDiff, reduceCtorEq, Nat.reduceAdd, Nat.reduceLeDiff, Nat.reduceBEq]; exact rfl)) (by assumption) (by assumption) (by first | assumption | (simp only [stR_eq, lookR, Option.map_some, hm, push_cast, reduceIte, Nat.reduceEqDiff, reduceCtorEq, Nat.reduceAdd, Nat.reduceLeDiff, Nat.reduceBEq] <;> exact rfl)) ?_ ?_ | refine RdK.c (by first | assumption | (simp only [stR_eq, lookR, Option.map_some, hm, push_cast, reduceIte, Nat.reduceEqDiff, reduceCtorEq, Nat.reduceAdd, Nat.reduceLeDiff, Nat.reduceBEq] <;> exact rfl)) (by assumption) (by assumption) ?_ | refine snap_two (by simp only [stR_eq, lookR, Option.map_some, hm, push_cast, reduceIte, Nat.reduceEqDiff, reduceCtorEq, Nat.reduceAdd, Nat.reduceLeDiff, Nat.reduceBEq] <;> exact rfl) ?_ | (refine Fk.by_ ?_ ?_ <;> intro hc <;> try simp only [hc]) | refine storeK_eq rfl ?_ | with_reducible refine And.intro ?_ ?_ | fail) <;> try simp only [stR_eq, lookR, Option.map_some, hm, push_cast, reduceIte, Nat.reduceEqDiff, reduceCtorEq, Nat.reduceAdd, Nat.reduceLeDiff, Nat.reduceBEq]))
  all_goals first | (first | exact finRo hwf (by first | exact .inl rfl | exact .inr rfl) (by first | rfl | (simp only [rNeed, rNext, push_cast, reduceIte, Nat.reduceEqDiff, reduceCtorEq, Nat.reduceAdd, Nat.reduceLeDiff, Nat.reduceBEq]; exact rfl)) (by first | exact .inl rfl | (right; simp only [push_cast, reduceIte, Nat.reduceEqDiff, reduceCtorEq, Nat.reduceAdd, Nat.reduceLeDiff, Nat.reduceBEq]; try rfl)) (by first | rfl | assumption | exact bd_cmd | (simp [V.bd, V.bdL]; done)) (by simp) (by (repeat first | exact (wfR hwf _).subm | exact subR hm hwf | refine Sub.drop (by simp) ?_)) (by (repeat first | exact (hwf).suba | refine Sub.drop (by simp) ?_)) ((hwf).subx) (by first | assumption | (simp [rNeed, rNext, *]; done) | (simp only [rNeed, rNext, if_true, if_false, Bool.false_eq_true, *]; done) | fail) (by first | assumption | (simp [rNeed, rNext, *]; done) | fail) | exact finRe hwf (by first | (simp [rNeed, rNext, *]; done) | (simp only [rNeed, rNext, if_true, if_false, Bool.false_eq_true, *]; done)) (by simp) (by (repeat first | exact (wfR hwf _).subm | exact subR hm hwf | refine Sub.drop (by simp) ?_)) (by (repeat first | exact (hwf).suba | refine Sub.drop (by simp) ?_)) ((hwf).subx))

instance {a : List UInt8} : RdK 110 [.sl [.str a]] (RdP (rWord [a]) .str) := (gword_v [a] (by simp)).k
instance {a b : List UInt8} : RdK 110 [.sl [.str a, .str b]] (RdP (rWord [a, b]) .str) := (gword_v [a, b] (by simp)).k
instance {a : List UInt8} : RdK 109 [.sl [.str a]] (RdP (rNeed [a]) .str) := (gneed_v [a] (by simp)).k
instance {a b : List UInt8} : RdK 109 [.sl [.str a, .str b]] (RdP (rNeed [a, b]) .str) := (gneed_v [a, b] (by simp)).k
instance {a b c d : List UInt8} : RdK 109 [.sl [.str a, .str b, .str c, .str d]] (RdP (rNeed [a, b, c, d]) .str) := (gneed_v [a, b, c, d] (by simp)).k
instance {a b c d e f : List UInt8} : RdK 109 [.sl [.str a, .str b, .str c, .str d, .str e, .str f]] (RdP (rNeed [a, b, c, d, e, f]) .str) := (gneed_v [a, b, c, d, e, f] (by simp)).k
theorem gsign_v (s : List UInt8) : RdC 91 [.str s] (rSign s) .bool := by
  intro st rid ts hG hw hm
  refine VCalls_of F91_ok mixed (Nat.le_of_ble_eq_true rfl) (fun hwf => ?_)
  (repeat' first | (with_reducible intro x1 x2 hE hW <;> (try (have hI := rNumber_inv hE; obtain ⟨rfl, rfl, hK⟩ := hI)) <;> (try (have hI := rMust_inv hE; obtain ⟨rfl, -⟩ := hI)) <;> (try (have hI := rUnit_inv hE; obtain ⟨u1, u2, rfl⟩ := hI; dsimp only)) <;> try simp only [stR_eq, lookR, Option.map_some, push_cast, reduceIte, Nat.reduceEqDiff, reduceCtorEq, Nat.reduceAdd, Nat.reduceLeDiff, Nat.reduceBEq]) | (with_reducible intro x1 x2 x3 hE <;> try simp only [stR_eq, lookR, Option.map_some, push_cast, reduceIte, Nat.reduceEqDiff, reduceCtorEq, Nat.reduceAdd, Nat.reduceLeDiff, Nat.reduceBEq]) | (with_reducible intro hE2 <;> try simp only [stR_eq, lookR, Option.map_some, push_cast, reduceIte, Nat.reduceEqDiff, reduceCtorEq, Nat.reduceAdd, Nat.reduceLeDiff, Nat.reduceBEq]) | ((first | refine go rfl rfl ?_ | refine RdK.c (by first | assumption | (simp only [stR_eq, lookR, Option.map_some, push_cast, reduceIte, Nat.reduceEqDiff, reduceCtorEq, Nat.reduceAdd, Nat.reduceLeDiff, Nat.reduceBEq] <;> exact rfl)) (by assumption) (by assumption) ?_ | refine snap_two (by simp only [stR_eq, lookR, Option.map_some, push_cast, reduceIte, Nat.reduceEqDiff, reduceCtorEq, Nat.reduceAdd, Nat.reduceLeDiff, Nat.reduceBEq] <;> exact rfl) ?_ | (refine Fk.by_ ?_ ?_ <;> intro hc <;> try simp only [hc]) | refine storeK_eq rfl ?_ | with_reducible refine And.intro ?_ ?_ | fail) <;> try simp only [stR_eq, lookR, Option.map_some, push_cast, reduceIte, Nat.reduceEqDiff, reduceCtorEq, Nat.reduceAdd, Nat.reduceLeDiff, Nat.reduceBEq]))
  all_goals first | (have hw' := hw.tail (hdIs_ne hc (by decide)); (first | exact finRo hwf (by first | exact .inl rfl | exact .inr rfl) (by first | rfl | (simp only [rSign, push_cast, reduceIte, Nat.reduceEqDiff, reduceCtorEq, Nat.reduceAdd, Nat.reduceLeDiff, Nat.reduceBEq]; exact rfl)) (by first | exact .inl rfl | (right; simp only [push_cast, reduceIte, Nat.reduceEqDiff, reduceCtorEq, Nat.reduceAdd, Nat.reduceLeDiff, Nat.reduceBEq]; try rfl)) (by first | rfl | assumption | exact bd_cmd | (simp [V.bd, V.bdL]; done)) (by simp) (by (repeat first | exact (wfR hwf _).subm | exact subR hm hwf | refine Sub.drop (by simp) ?_)) (by (repeat first | exact (hwf).suba | refine Sub.drop (by simp) ?_)) ((hwf).subx) (by first | assumption | (simp [rSign, *]; done) | (simp only [rSign, if_true, if_false, Bool.false_eq_true, *]; done) | fail) (by first | assumption | (simp [rSign, *]; done) | fail) | exact finRe hwf (by first | (simp [rSign, *]; done) | (simp only [rSign, if_true, if_false, Bool.false_eq_true, *]; done)) (by simp) (by (repeat first | exact (wfR hwf _).subm | exact subR hm hwf | refine Sub.drop (by simp) ?_)) (by (repeat first | exact (hwf).suba | refine Sub.drop (by simp) ?_)) ((hwf).subx))) | (first | exact finRo hwf (by first | exact .inl rfl | exact .inr rfl) (by first | rfl | (simp only [rSign, push_cast, reduceIte, Nat.reduceEqDiff, reduceCtorEq, Nat.reduceAdd, Nat.reduceLeDiff, Nat.reduceBEq]; exact rfl)) (by first | exact .inl rfl | (right; simp only [push_cast, reduceIte, Nat.reduceEqDiff, reduceCtorEq, Nat.reduceAdd, Nat.reduceLeDiff, Nat.reduceBEq]; try rfl)) (by first | rfl | assumption | exact bd_cmd | (simp [V.bd, V.bdL]; done)) (by simp) (by (repeat first | exact (wfR hwf _).subm | exact subR hm hwf | refine Sub.drop (by simp) ?_)) (by (repeat first | exact (hwf).suba | refine Sub.drop (by simp) ?_)) ((hwf).subx) (by first | assumption | (simp [rSign, *]; done) | (simp only [rSign, if_true, if_false, Bool.false_eq_true, *]; done) | fail) (by first | assumption | (simp [rSign, *]; done) | fail) | exact finRe hwf (by first | (simp [rSign, *]; done) | (simp only [rSign, if_true, if_false, Bool.false_eq_true, *]; done)) (by simp) (by (repeat first | exact (wfR hwf _).subm | exact subR hm hwf | refine Sub.drop (by simp) ?_)) (by (repeat first | exact (hwf).suba | refine Sub.drop (by simp) ?_)) ((hwf).subx))

instance {s : List UInt8} : RdK 91 [.str s] (RdP (rSign s) .bool) := (gsign_v s).k
theorem gslash_v : RdC 174 [] rSlash (fun _ => .tup []) := by
  intro st rid ts hG hw hm
  refine VCalls_of F174_ok mixed (Nat.le_of_ble_eq_true rfl) (fun hwf => ?_)
  (repeat' first | (with_reducible intro x1 x2 hE hW <;> (try (have hI := rNumber_inv hE; obtain ⟨rfl, rfl, hK⟩ := hI)) <;> (try (have hI := rMust_inv hE; obtain ⟨rfl, -⟩ := hI)) <;> (try (have hI := rUnit_inv hE; obtain ⟨u1, u2, rfl⟩ := hI; dsimp only)) <;> try simp only [stR_eq, lookR, Option.map_some, hm, push_cast, reduceIte, Nat.reduceEqDiff, reduceCtorEq, Nat.reduceAdd, Nat.reduceLeDiff, Nat.reduceBEq]) | (with_reducible intro x1 x2 x3 hE <;> try simp only [stR_eq, lookR, Option.map_some, hm, push_cast, reduceIte, Nat.reduceEqDiff, reduceCtorEq, Nat.reduceAdd, Nat.reduceLeDiff, Nat.reduceBEq]) | (with_reducible intro hE2 <;> try simp only [stR_eq, lookR, Option.map_some, hm, push_cast, reduceIte, Nat.reduceEqDiff, reduceCtorEq, Nat.reduceAdd, Nat.reduceLeDiff, Nat.reduceBEq]) | ((first | refine go rfl rfl ?_ | refine RdK.c (by first | assumption | (simp only [stR_eq, lookR, Option.map_some, hm, push_cast, reduceIte, Nat.reduceEqDiff, reduceCtorEq, Nat.reduceAdd, Nat.reduceLeDiff, Nat.reduceBEq] <;> exact rfl)) (by assumption) (by assumption) ?_ | refine snap_two (by simp only [stR_eq, lookR, Option.map_some, hm, push_cast, reduceIte, Nat.reduceEqDiff, reduceCtorEq, Nat.reduceAdd, Nat.reduceLeDiff, Nat.reduceBEq] <;> exact rfl) ?_ | (refine Fk.by_ ?_ ?_ <;> intro hc <;> try simp only [hc]) | refine storeK_eq rfl ?_ | with_reducible refine And.intro ?_ ?_ | fail) <;> try simp only [stR_eq, lookR, Option.map_some, hm, push_cast, reduceIte, Nat.reduceEqDiff, reduceCtorEq, Nat.reduceAdd, Nat.reduceLeDiff, Nat.reduceBEq]))
  all_goals first | (first | exact finRo (a := ()) hwf (by first | exact .inl rfl | exact .inr rfl) (by first | rfl | (simp only [rSlash, rNext, push_cast, reduceIte, Nat.reduceEqDiff, reduceCtorEq, Nat.reduceAdd, Nat.reduceLeDiff, Nat.reduceBEq]; exact rfl)) (by first | exact .inl rfl | (right; simp only [push_cast, reduceIte, Nat.reduceEqDiff, reduceCtorEq, Nat.reduceAdd, Nat.reduceLeDiff, Nat.reduceBEq]; try rfl)) (by first | rfl | assumption | exact bd_cmd | (simp [V.bd, V.bdL]; done)) (by simp) (by (repeat first | exact (wfR hwf _).subm | exact subR hm hwf | refine Sub.drop (by simp) ?_)) (by (repeat first | exact (hwf).suba | refine Sub.drop (by simp) ?_)) ((hwf).subx) (by first | assumption | (simp [rSlash, rNext, *]; done) | (simp only [rSlash, rNext, if_true, if_false, Bool.false_eq_true, *]; done) | fail) (by first | assumption | (simp [rSlash, rNext, *]; done) | fail) | exact finRe hwf (by first | (simp [rSlash, rNext, *]; done) | (simp only [rSlash, rNext, if_true, if_false, Bool.false_eq_true, *]; done)) (by simp) (by (repeat first | exact (wfR hwf _).subm | exact subR hm hwf | refine Sub.drop (by simp) ?_)) (by (repeat first | exact (hwf).suba | refine Sub.drop (by simp) ?_)) ((hwf).subx))

instance : RdK 174 [] (RdP rSlash (fun _ => .tup [])) := (gslash_v).k
theorem gnumber_v : RdC 168 [] rNumber .str := by
  intro st rid ts hG hw hm
  refine VCalls_of F168_ok mixed (Nat.le_of_ble_eq_true rfl) (fun hwf => ?_)
  (repeat' first | (with_reducible intro x1 x2 hE hW <;> (try (have hI := rNumber_inv hE; obtain ⟨rfl, rfl, hK⟩ := hI)) <;> (try (have hI := rMust_inv hE; obtain ⟨rfl, -⟩ := hI)) <;> (try (have hI := rUnit_inv hE; obtain ⟨u1, u2, rfl⟩ := hI; dsimp only)) <;> try simp only [stR_eq, lookR, Option.map_some, hm, tkV, push_cast, reduceIte, Nat.reduceEqDiff, reduceCtorEq, Nat.reduceAdd, Nat.reduceLeDiff, Nat.reduceBEq]) | (with_reducible intro x1 x2 x3 hE <;> try simp only [stR_eq, lookR, Option.map_some, hm, tkV, push_cast, reduceIte, Nat.reduceEqDiff, reduceCtorEq, Nat.reduceAdd, Nat.reduceLeDiff, Nat.reduceBEq]) | (with_reducible intro hE2 <;> try simp only [stR_eq, lookR, Option.map_some, hm, tkV, push_cast, reduceIte, Nat.reduceEqDiff, reduceCtorEq, Nat.reduceAdd, Nat.reduceLeDiff, Nat.reduceBEq]) | ((first | refine go rfl rfl ?_ | refine RdK.c (by first | assumption | (simp only [stR_eq, lookR, Option.map_some, hm, tkV, push_cast, reduceIte, Nat.reduceEqDiff, reduceCtorEq, Nat.reduceAdd, Nat.reduceLeDiff, Nat.reduceBEq] <;> exact rfl)) (by assumption) (by assumption) ?_ | refine snap_two (by simp only [stR_eq, lookR, Option.map_some, hm, tkV, push_cast, reduceIte, Nat.reduceEqDiff, reduceCtorEq, Nat.reduceAdd, Nat.reduceLeDiff, Nat.reduceBEq] <;> exact rfl) ?_ | (refine Fk.by_ ?_ ?_ <;> intro hc <;> try simp only [hc]) | refine storeK_eq rfl ?_ | with_reducible refine And.intro ?_ ?_ | fail) <;> try simp only [stR_eq, lookR, Option.map_some, hm, tkV, push_cast, reduceIte, Nat.reduceEqDiff, reduceCtorEq, Nat.reduceAdd, Nat.reduceLeDiff, Nat.reduceBEq]))
  all_goals first | (first | exact finRo hwf (by first | exact .inl rfl | exact .inr rfl) (by first | rfl | (simp only [rNumber, push_cast, reduceIte, Nat.reduceEqDiff, reduceCtorEq, Nat.reduceAdd, Nat.reduceLeDiff, Nat.reduceBEq]; exact rfl)) (by first | exact .inl rfl | (right; simp only [push_cast, reduceIte, Nat.reduceEqDiff, reduceCtorEq, Nat.reduceAdd, Nat.reduceLeDiff, Nat.reduceBEq]; try rfl)) (by first | rfl | assumption | exact bd_cmd | (simp [V.bd, V.bdL]; done)) (by simp) (by (repeat first | exact (wfR hwf _).subm | exact subR hm hwf | refine Sub.drop (by simp) ?_)) (by (repeat first | exact (hwf).suba | refine Sub.drop (by simp) ?_)) ((hwf).subx) (by first | assumption | (simp [rNumber, *]; done) | (simp only [rNumber, if_true, if_false, Bool.false_eq_true, *]; done) | fail) (by first | assumption | (simp [rNumber, *]; done) | fail) | exact finRe hwf (by first | (simp [rNumber, *]; done) | (simp only [rNumber, if_true, if_false, Bool.false_eq_true, *]; done)) (by simp) (by (repeat first | exact (wfR hwf _).subm | exact subR hm hwf | refine Sub.drop (by simp) ?_)) (by (repeat first | exact (hwf).suba | refine Sub.drop (by simp) ?_)) ((hwf).subx))

instance : RdK 168 [] (RdP rNumber .str) := (gnumber_v).k
theorem gmust_v (e : Int) : RdC 170 [.int .i64 e] (rMust e) (fun _ => .tup []) := by
  intro st rid ts hG hw hm
  refine VCalls_of F170_ok mixed (Nat.le_of_ble_eq_true rfl) (fun hwf => ?_)
  (repeat' first | (with_reducible intro x1 x2 hE hW <;> (try (have hI := rNumber_inv hE; obtain ⟨rfl, rfl, hK⟩ := hI)) <;> (try (have hI := rMust_inv hE; obtain ⟨rfl, -⟩ := hI)) <;> (try (have hI := rUnit_inv hE; obtain ⟨u1, u2, rfl⟩ := hI; dsimp only)) <;> try simp only [stR_eq, lookR, Option.map_some, hm, tkV, push_cast, reduceIte, Nat.reduceEqDiff, reduceCtorEq, Nat.reduceAdd, Nat.reduceLeDiff, Nat.reduceBEq]) | (with_reducible intro x1 x2 x3 hE <;> try simp only [stR_eq, lookR, Option.map_some, hm, tkV, push_cast, reduceIte, Nat.reduceEqDiff, reduceCtorEq, Nat.reduceAdd, Nat.reduceLeDiff, Nat.reduceBEq]) | (with_reducible intro hE2 <;> try simp only [stR_eq, lookR, Option.map_some, hm, tkV, push_cast, reduceIte, Nat.reduceEqDiff, reduceCtorEq, Nat.reduceAdd, Nat.reduceLeDiff, Nat.reduceBEq]) | ((first | refine go rfl rfl ?_ | refine RdK.c (by first | assumption | (simp only [stR_eq, lookR, Option.map_some, hm, tkV, push_cast, reduceIte, Nat.reduceEqDiff, reduceCtorEq, Nat.reduceAdd, Nat.reduceLeDiff, Nat.reduceBEq] <;> exact rfl)) (by assumption) (by assumption) ?_ | refine snap_two (by simp only [stR_eq, lookR, Option.map_some, hm, tkV, push_cast, reduceIte, Nat.reduceEqDiff, reduceCtorEq, Nat.reduceAdd, Nat.reduceLeDiff, Nat.reduceBEq] <;> exact rfl) ?_ | (refine Fk.by_ ?_ ?_ <;> intro hc <;> try simp only [hc]) | refine storeK_eq rfl ?_ | with_reducible refine And.intro ?_ ?_ | fail) <;> try simp only [stR_eq, lookR, Option.map_some, hm, tkV, push_cast, reduceIte, Nat.reduceEqDiff, reduceCtorEq, Nat.reduceAdd, Nat.reduceLeDiff, Nat.reduceBEq]))
  all_goals first | (first | exact finRo (a := ()) hwf (by first | exact .inl rfl | exact .inr rfl) (by first | rfl | (simp only [rMust, push_cast, reduceIte, Nat.reduceEqDiff, reduceCtorEq, Nat.reduceAdd, Nat.reduceLeDiff, Nat.reduceBEq]; exact rfl)) (by first | exact .inl rfl | (right; simp only [push_cast, reduceIte, Nat.reduceEqDiff, reduceCtorEq, Nat.reduceAdd, Nat.reduceLeDiff, Nat.reduceBEq]; try rfl)) (by first | rfl | assumption | exact bd_cmd | (simp [V.bd, V.bdL]; done)) (by simp) (by (repeat first | exact (wfR hwf _).subm | exact subR hm hwf | refine Sub.drop (by simp) ?_)) (by (repeat first | exact (hwf).suba | refine Sub.drop (by simp) ?_)) ((hwf).subx) (by first | assumption | (simp [rMust, *]; done) | (simp only [rMust, if_true, if_false, Bool.false_eq_true, *]; done) | fail) (by first | assumption | (simp [rMust, *]; done) | fail) | exact finRe hwf (by first | (simp [rMust, *]; done) | (simp only [rMust, if_true, if_false, Bool.false_eq_true, *]; done)) (by simp) (by (repeat first | exact (wfR hwf _).subm | exact subR hm hwf | refine Sub.drop (by simp) ?_)) (by (repeat first | exact (hwf).suba | refine Sub.drop (by simp) ?_)) ((hwf).subx))
instance {e : Int} : RdK 170 [.int .i64 e] (RdP (rMust e) (fun _ => .tup [])) := (gmust_v e).k
end Go.Proofs.YtnondemehfkalaaGreatDoor

namespace Go.Proofs.YtnondemehfkalaaGreatDoor
open Go.Sha
/-- strings.Trim -/
def F37 : FT := ⟨43, 2, [.tmp 4],
 [.seq 1 2,
 .reg [.s 4 (.mv (.w []))],
 .seq 3 10,
 .seq 4 5,
 .reg [.s 7 (.m 0),
 .s 8 (.bin .eql (.t 7) (.w [])),
 .s 9 (.m 8),
 .x 10 (.m 1) 9,
 .x 11 (.bin .eql (.t 10) (.w [])) 9,
 .s 12 (.pick (.t 9) (.c (.bool true)) (.t 11))],
 .cond (.t 12) 6 9,
 .seq 7 8,
 .reg [.s 13 (.m 0),
 .s 4 (.m 13)],
 .ret,
 .skip,
 .seq 11 18,
 .seq 12 13,
 .reg [.s 14 (.m 1),
 .s 15 (.lens (.t 14)),
 .s 16 (.bin .eql (.t 15) (.i 1)),
 .s 17 (.m 16),
 .y 18 (.m 1) 17,
 .y 19 (.ichr (.t 18) (.i 0)) 17,
 .y 20 (.bin .lss (.t 19) (.c (.int .u8 128))) 17,
 .s 21 (.pick (.t 17) (.t 20) (.c (.bool false)))],
 .cond (.t 21) 14 17,
 .seq 15 16,
 .dreg 8 [.s 22 (.m 0),
 .s 23 (.m 1),
 .s 24 (.ichr (.t 23) (.i 0)),
 .s 25 (.f 48 [(.t 22), (.t 24)]),
 .s 26 (.m 1),
 .s 27 (.ichr (.t 26) (.i 0)),
 .s 28 (.f 84 [(.t 25), (.t 27)]),
 .s 4 (.m 28)],
 .ret,
 .skip,
 .seq 19 28,
 .seq 20 21,
 .reg [.s 30 (.m 1),
 .s 31 (.f 49 [(.t 30)]),
 .s 29 (.m 31),
 .s 32 (.ext 0 (.t 29)),
 .s 33 (.ext 1 (.t 29)),
 .s 5 (.alloc 83 Z2),
 .n (.store 256 (.t 5) (.t 32)),
 .s 6 (.m 33)],
 .seq 22 23,
 .reg [.s 34 (.m 6)],
 .cond (.t 34) 24 27,
 .seq 25 26,
 .reg [.s 35 (.m 0),
 .s 36 (.f 50 [(.t 35), (.t 5)]),
 .s 37 (.f 85 [(.t 36), (.t 5)]),
 .s 4 (.m 37)],
 .ret,
 .skip,
 .seq 29 30,
 .reg [.s 38 (.m 0),
 .s 39 (.m 1),
 .s 40 (.f 51 [(.t 38), (.t 39)]),
 .s 41 (.m 1),
 .s 42 (.f 86 [(.t 40), (.t 41)]),
 .s 4 (.m 42)],
 .ret]⟩

/-- strings.trimRightASCII -/
def F50 : FT := ⟨22, 2, [.tmp 4],
 [.seq 1 2,
 .reg [.s 4 (.mv (.w []))],
 .seq 3 19,
 .block 0 4,
 .loop 5,
 .seq 6 11,
 .seq 7 8,
 .reg [.s 5 (.m 0),
 .s 6 (.lens (.t 5)),
 .s 7 (.bin .gtr (.t 6) (.i 0))],
 .cond (.t 7) 9 10,
 .skip,
 .exit 0,
 .block 1 12,
 .seq 13 18,
 .seq 14 15,
 .reg [.s 8 (.m 1),
 .s 9 (.m 0),
 .s 10 (.m 0),
 .s 11 (.lens (.t 10)),
 .s 12 (.bin .sub (.t 11) (.i 1)),
 .s 13 (.ichr (.t 9) (.t 12)),
 .s 14 (.f 95 [(.t 8), (.t 13)]),
 .s 15 (.un .not (.t 14))],
 .cond (.t 15) 16 17,
 .exit 0,
 .skip,
 .reg [.s 16 (.m 0),
 .s 17 (.m 0),
 .s 18 (.lens (.t 17)),
 .s 19 (.bin .sub (.t 18) (.i 1)),
 .s 20 (.slices (.t 16) none (some (.t 19))),
 .s 0 (.m 20)],
 .seq 20 21,
 .reg [.s 21 (.m 0),
 .s 4 (.m 21)],
 .ret]⟩

/-- strings.trimLeftASCII -/
def F85 : FT := ⟨16, 2, [.tmp 4],
 [.seq 1 2,
 .reg [.s 4 (.mv (.w []))],
 .seq 3 19,
 .block 0 4,
 .loop 5,
 .seq 6 11,
 .seq 7 8,
 .reg [.s 5 (.m 0),
 .s 6 (.lens (.t 5)),
 .s 7 (.bin .gtr (.t 6) (.i 0))],
 .cond (.t 7) 9 10,
 .skip,
 .exit 0,
 .block 1 12,
 .seq 13 18,
 .seq 14 15,
 .reg [.s 8 (.m 1),
 .s 9 (.m 0),
 .s 10 (.ichr (.t 9) (.i 0)),
 .s 11 (.f 95 [(.t 8), (.t 10)]),
 .s 12 (.un .not (.t 11))],
 .cond (.t 12) 16 17,
 .exit 0,
 .skip,
 .reg [.s 13 (.m 0),
 .s 14 (.slices (.t 13) (some (.i 1)) none),
 .s 0 (.m 14)],
 .seq 20 21,
 .reg [.s 15 (.m 0),
 .s 4 (.m 15)],
 .ret]⟩

/-- (*strings.asciiSet).contains -/
def F95 : FT := ⟨10, 2, [.tmp 4],
 [.seq 1 2,
 .reg [.s 4 (.mv (.c (.bool false)))],
 .seq 3 4,
 .reg [.s 5 (.m 0),
 .s 6 (.m 1),
 .s 7 (.k 5),
 .s 8 (.iadra 256 1 (.t 7) (.t 6)),
 .s 9 (.l 8),
 .s 4 (.m 9)],
 .ret]⟩

theorem F37_ok : compFn Tryz.prog 37 = some F37 := by kernel_rfl
theorem F50_ok : compFn Tryz.prog 50 = some F50 := by kernel_rfl
theorem F85_ok : compFn Tryz.prog 85 = some F85 := by kernel_rfl
theorem F95_ok : compFn Tryz.prog 95 = some F95 := by kernel_rfl
end Go.Proofs.YtnondemehfkalaaGreatDoor

set_option maxRecDepth 10000
namespace Go.Proofs.YtnondemehfkalaaGreatDoor
open Go.Sha Go.RowKit

theorem Below.of_drew {n : Nat} {w w' : World} (h : w' = w ∨ w' = w.drew) : Below n w w' := by
  rcases h with rfl | rfl
  · exact Below.refl _ _
  · exact Below.drew (Below.refl _ _)

/-! ### strings.Cut at one byte -/
theorem callable98 : Callable Tryz.prog 98 := ⟨_, Tryz.func98, by kernel_rfl, by kernel_rfl⟩
theorem callable23 : Callable Tryz.prog 23 := ⟨_, Tryz.func23, by kernel_rfl, by kernel_rfl⟩
theorem callable49 : Callable Tryz.prog 49 := ⟨_, Tryz.func49, by kernel_rfl, by kernel_rfl⟩
theorem index1_v (s : List UInt8) (c : UInt8) (st : St) : VRet Tryz.prog 98 [.str s, .str [c]] st (.int .i64 (Lib.indexByte s c)) st := by
  refine VRet_of_below callable98 (fun w A vs hw ha => ?_)
  obtain ⟨u, v, rfl, h1, h2⟩ := ha.two
  have e1 := h1.str_inv
  have e2 := h2.str_inv
  subst e1; subst e2
  refine (Tryz.stringslite_Index_one ⟨s.toArray⟩ c w).mono fun e w' ⟨he, hb⟩ => ?_
  subst he; subst hb
  exact ⟨_, rfl, fun w' A' => .int _ _, Below.refl _ _⟩
theorem contains1_v (s : List UInt8) (c : UInt8) (st : St) : VRet Tryz.prog 23 [.str s, .str [c]] st (.bool (decide (0 ≤ Lib.indexByte s c))) st := by
  refine VRet_of_below callable23 (fun w A vs hw ha => ?_)
  obtain ⟨u, v, rfl, h1, h2⟩ := ha.two
  have e1 := h1.str_inv
  have e2 := h2.str_inv
  subst e1; subst e2
  refine (Tryz.strings_Contains_one ⟨s.toArray⟩ c w).mono fun e w' ⟨he, hb⟩ => ?_
  subst he; subst hb
  exact ⟨_, rfl, fun w' A' => .bool _, Below.refl _ _⟩

/-- Where a byte stands first; the length if nowhere. -/
def posB (c : UInt8) (s : List UInt8) : Nat := (s.takeWhile fun b => !(b == c)).length
theorem posB_le {c : UInt8} {s : List UInt8} : posB c s ≤ s.length := (List.takeWhile_sublist _).length_le
theorem posB_cons {c b : UInt8} {s : List UInt8} : posB c (b :: s) = if (b == c) = true then 0 else posB c s + 1 := by
  unfold posB
  by_cases h : (b == c) = true
  · rw [if_pos h, List.takeWhile_cons, if_neg (by simp [h])]; rfl
  · rw [if_neg h, List.takeWhile_cons, if_pos (by simpa using h)]; rfl
theorem index_pos (c : UInt8) : ∀ s : List UInt8, Lib.indexByte s c = if posB c s < s.length then (posB c s : Int) else -1
  | [] => rfl
  | b :: s => by
    have ih := index_pos c s
    rw [Lib.indexByte, posB_cons, List.length_cons]
    by_cases h : (b == c) = true
    · rw [if_pos h, if_pos h, if_pos (by omega)]; rfl
    · rw [if_neg h, if_neg h]
      by_cases hp : posB c s < s.length
      · rw [if_pos hp] at ih
        rw [ih, if_neg (show ¬ ((posB c s : Int) == -1) = true by simp), if_pos (show posB c s + 1 < s.length + 1 by omega)]; omega
      · rw [if_neg hp] at ih
        rw [ih, if_pos (show ((-1 : Int) == -1) = true from rfl), if_neg (show ¬ posB c s + 1 < s.length + 1 by omega)]

def cutW (c : UInt8) (s : List UInt8) : List UInt8 := s.take (posB c s)
def cutR (c : UInt8) (s : List UInt8) : List UInt8 := s.drop (posB c s + 1)
def cutP (c : UInt8) (s : List UInt8) : Bool := decide (posB c s < s.length)
theorem slcut_v (s : List UInt8) (c : UInt8) (st : St) (hs : s.length < 4611686018427387904) : VRet Tryz.prog 83 [.str s, .str [c]] st (.tup [.str (cutW c s), .str (cutR c s), .bool (cutP c s)]) st := by
  refine VCalls_of F83_ok mixed (Nat.le_of_ble_eq_true rfl) (fun hwf => ?_)
  have hi := index_pos c s
  have hle := posB_le (c := c) (s := s)
  by_cases hp : posB c s < s.length
  · rw [if_pos hp] at hi
    have h1 : decide ((0 : Int) ≤ (posB c s : Int)) = true := decide_eq_true (by omega)
    have hw : IntKind.i64.wrap ((posB c s : Int) + (0 + 1)) = (posB c s : Int) + 1 := wrap64 (by omega) (by omega)
    have hP : cutP c s = true := decide_eq_true hp
    have h2 : posB c s + 1 ≤ s.length := hp
    (repeat' first | ((first | refine go rfl rfl ?_ | refine Cl.by_ (by (first | refine index1_v _ _ _)) ?_ | (refine Fk.by_ ?_ ?_ <;> intro hc <;> try simp only [hc]) | refine storeK_eq rfl ?_ | with_reducible refine And.intro ?_ ?_ | fail) <;> try simp only [hi, h1, hw, hle, h2, Nat.zero_le, Nat.le_refl, List.take_length, push_cast, reduceIte, Nat.reduceEqDiff, reduceCtorEq, Nat.reduceAdd, Nat.reduceLeDiff, Nat.reduceBEq]))
    rw [hP]
    all_goals refine finB (hwf) (by simp only [F83, cutW, cutR, push_cast, reduceIte, Nat.reduceEqDiff, reduceCtorEq, Nat.reduceAdd, Nat.reduceLeDiff, Nat.reduceBEq]; exact rfl) (by first | exact .inl rfl | (right; simp only [F83, cutW, cutR, push_cast, reduceIte, Nat.reduceEqDiff, reduceCtorEq, Nat.reduceAdd, Nat.reduceLeDiff, Nat.reduceBEq]; try rfl)) (by first | rfl | assumption) (by simp) (by simp) (by (repeat first | exact (hwf).subm | exact (hwf).suba | refine Sub.drop (by simp) ?_)) (by (repeat first | exact (hwf).subm | exact (hwf).suba | refine Sub.drop (by simp) ?_)) (by (repeat first | exact (hwf).subx | refine ExSub.dropt (by simp) ?_ | refine ExSub.drop (by simp) ?_))
  · rw [if_neg hp] at hi
    have h1 : decide ((0 : Int) ≤ -1) = false := rfl
    have hP : cutP c s = false := decide_eq_false hp
    have e : posB c s = s.length := by omega
    (repeat' first | ((first | refine go rfl rfl ?_ | refine Cl.by_ (by (first | refine index1_v _ _ _)) ?_ | (refine Fk.by_ ?_ ?_ <;> intro hc <;> try simp only [hc]) | refine storeK_eq rfl ?_ | with_reducible refine And.intro ?_ ?_ | fail) <;> try simp only [hi, h1, push_cast, reduceIte, Nat.reduceEqDiff, reduceCtorEq, Nat.reduceAdd, Nat.reduceLeDiff, Nat.reduceBEq]))
    have e1 : cutW c s = s := by unfold cutW; rw [e, List.take_length]
    have e2 : cutR c s = [] := by unfold cutR; exact List.drop_eq_nil_of_le (by omega)
    rw [hP, e1, e2]
    all_goals refine finB (hwf) (by simp only [F83, push_cast, reduceIte, Nat.reduceEqDiff, reduceCtorEq, Nat.reduceAdd, Nat.reduceLeDiff, Nat.reduceBEq]; exact rfl) (by first | exact .inl rfl | (right; simp only [F83, push_cast, reduceIte, Nat.reduceEqDiff, reduceCtorEq, Nat.reduceAdd, Nat.reduceLeDiff, Nat.reduceBEq]; try rfl)) (by first | rfl | assumption) (by simp) (by simp) (by (repeat first | exact (hwf).subm | exact (hwf).suba | refine Sub.drop (by simp) ?_)) (by (repeat first | exact (hwf).subm | exact (hwf).suba | refine Sub.drop (by simp) ?_)) (by (repeat first | exact (hwf).subx | refine ExSub.dropt (by simp) ?_ | refine ExSub.drop (by simp) ?_))
theorem cut_v (s : List UInt8) (c : UInt8) (st : St) (hs : s.length < 4611686018427387904) : VRet Tryz.prog 35 [.str s, .str [c]] st (.tup [.str (cutW c s), .str (cutR c s), .bool (cutP c s)]) st := by
  refine VCalls_of F35_ok mixed (Nat.le_of_ble_eq_true rfl) (fun hwf => ?_)
  (repeat' first | ((first | refine go rfl rfl ?_ | refine Cl.by_ (by (first | refine slcut_v _ _ _ hs)) ?_ | (refine Fk.by_ ?_ ?_ <;> intro hc <;> try simp only [hc]) | refine storeK_eq rfl ?_ | with_reducible refine And.intro ?_ ?_ | fail) <;> try simp only [push_cast, reduceIte, Nat.reduceEqDiff, reduceCtorEq, Nat.reduceAdd, Nat.reduceLeDiff, Nat.reduceBEq]))
  all_goals refine finB (hwf) (by simp only [F35, push_cast, reduceIte, Nat.reduceEqDiff, reduceCtorEq, Nat.reduceAdd, Nat.reduceLeDiff, Nat.reduceBEq]; exact rfl) (by first | exact .inl rfl | (right; simp only [F35, push_cast, reduceIte, Nat.reduceEqDiff, reduceCtorEq, Nat.reduceAdd, Nat.reduceLeDiff, Nat.reduceBEq]; try rfl)) (by first | rfl | assumption) (by simp) (by simp) (by (repeat first | exact (hwf).subm | exact (hwf).suba | refine Sub.drop (by simp) ?_)) (by (repeat first | exact (hwf).subm | exact (hwf).suba | refine Sub.drop (by simp) ?_)) (by (repeat first | exact (hwf).subx | refine ExSub.dropt (by simp) ?_ | refine ExSub.drop (by simp) ?_))

/-! ### strings.Trim of digits -/
def tenS : List UInt8 := [48, 49, 50, 51, 52, 53, 54, 55, 56, 57]
def setV : List V := (List.range 256).map fun n => V.bool (decide (48 ≤ n ∧ n ≤ 57))
theorem setV_get (b : UInt8) : setV[b.toNat]? = some (.bool (digB b)) := by
  unfold setV
  rw [List.getElem?_map, List.getElem?_range b.toNat_lt]
  simp only [Option.map_some, Option.some.injEq, V.bool.injEq, digB, isDig]
  rw [Bool.eq_iff_iff]
  simp only [decide_eq_true_eq, Bool.and_eq_true]
  omega
theorem setV_len : setV.length = 256 := by simp [setV]
theorem u8_all (p : UInt8 → Bool) (h : (List.range 256).all (fun n => p n.toUInt8) = true) (b : UInt8) : p b = true := by
  have := List.all_eq_true.1 h b.toNat (List.mem_range.2 b.toNat_lt)
  have e : b.toNat.toUInt8 = b := by simp
  rwa [e] at this
theorem ten_dig (b : UInt8) : tenS.contains b = digB b := by
  have := u8_all (fun b => tenS.contains b == digB b) (by decide +kernel) b
  simpa using this
theorem makeSet_v (st : St) : VRet Tryz.prog 49 [.str tenS] st (.tup [.agg setV, .bool true]) st := by
  refine VRet_of_below callable49 (fun w A vs hw ha => ?_)
  obtain ⟨u, rfl, h1⟩ := ha.one
  have e1 := h1.str_inv
  subst e1
  refine (Tryz.strings_makeASCIISet Tryz.zeroValue83 ⟨tenS.toArray⟩ w (by decide) (fun j b hj => by
    have := List.all_eq_true.1 (show tenS.all (fun b => decide (b.toNat < 128)) = true from rfl) b (List.mem_of_getElem? hj)
    simpa using this)).mono fun e w' ⟨he, hb⟩ => ?_
  subst he; subst hb
  refine ⟨_, rfl, fun w' A' => ?_, Below.alloc (Below.refl _ _) (Nat.le_refl _) _⟩
  have hcell : ∀ (i : Nat) (v : Value) (c : V), (Lib.setCells tenS).toList[i]? = some v → setV[i]? = some c → Rep w' A' v c ∧ v.oneCell' = true := fun i v c hv hc => by
    have hi : i < 256 := by have := (List.getElem?_eq_some_iff.1 hc).1; rw [setV_len] at this; exact this
    have e2 : i.toUInt8.toNat = i := by simp [Nat.toUInt8, UInt8.toNat_ofNat', Nat.mod_eq_of_lt hi]
    have g1 := Lib.setCells_at tenS i.toUInt8
    have g2 := setV_get i.toUInt8
    rw [e2] at g1 g2
    rw [Array.getElem?_toList, g1] at hv
    rw [g2] at hc
    cases hv; cases hc
    rw [ten_dig]
    exact ⟨.bool _, rfl⟩
  refine .tup [.agg (Lib.setCells tenS), .bool true] [.agg setV, .bool true] rfl (fun i v c h1 h2 => ?_)
  match i, h1, h2 with
  | 0, h1, h2 =>
    simp at h1 h2; subst h1 h2
    have := Rep.agg (w := w') (A := A') (Lib.setCells tenS).toList setV (by rw [Array.length_toList, Lib.setCells_size, setV_len]) (fun v hv => by
      obtain ⟨i, hi⟩ := List.mem_iff_getElem?.1 hv
      have hlt : i < setV.length := by rw [setV_len]; have := (List.getElem?_eq_some_iff.1 hi).1; rw [Array.length_toList, Lib.setCells_size] at this; exact this
      exact (hcell i v setV[i] hi (List.getElem?_eq_getElem hlt)).2) (fun i v c hv hc => (hcell i v c hv hc).1)
    rwa [Array.toArray_toList] at this
  | 1, h1, h2 => simp at h1 h2; subst h1 h2; exact .bool _

theorem has_v (st : St) (id : Nat) (b : UInt8) (h : Sha.look st.mem id = some setV) : VRet Tryz.prog 95 [.ptr id 0, .int .u8 b.toNat] st (.bool (digB b)) st := by
  have hg := setV_get b
  have hl := setV_len
  have hb : b.toNat < 256 := b.toNat_lt
  refine VCalls_of F95_ok mixed (Nat.le_of_ble_eq_true rfl) (fun hwf => ?_)
  have hi : iadraV 256 1 (.ptr id 0) (.int .u8 (b.toNat : Int)) = some (.ptr id b.toNat) := by simp [iadraV, natV, hb]
  (repeat' first | ((first | refine go rfl rfl ?_ | (refine Fk.by_ ?_ ?_ <;> intro hc <;> try simp only [hc]) | refine storeK_eq rfl ?_ | with_reducible refine And.intro ?_ ?_ | fail) <;> try simp only [h, hg, hl, hb, hi, push_cast, reduceIte, Nat.reduceEqDiff, reduceCtorEq, Nat.reduceAdd, Nat.reduceLeDiff, Nat.reduceBEq]))
  all_goals refine finB (hwf) (by simp only [F95, push_cast, reduceIte, Nat.reduceEqDiff, reduceCtorEq, Nat.reduceAdd, Nat.reduceLeDiff, Nat.reduceBEq]; exact rfl) (by first | exact .inl rfl | (right; simp only [F95, push_cast, reduceIte, Nat.reduceEqDiff, reduceCtorEq, Nat.reduceAdd, Nat.reduceLeDiff, Nat.reduceBEq]; try rfl)) (by first | rfl | assumption) (by simp) (by simp) (by (repeat first | exact (hwf).subm | exact (hwf).suba | refine Sub.drop (by simp) ?_)) (by (repeat first | exact (hwf).subm | exact (hwf).suba | refine Sub.drop (by simp) ?_)) (by (repeat first | exact (hwf).subx | refine ExSub.dropt (by simp) ?_ | refine ExSub.drop (by simp) ?_))

/-- Without the digits at its beginning; at its end. -/
def trL (s : List UInt8) : List UInt8 := s.dropWhile digB
def trR (s : List UInt8) : List UInt8 := (s.reverse.dropWhile digB).reverse
theorem trimL_v (st : St) (id : Nat) (s : List UInt8) (h : Sha.look st.mem id = some setV) (hs : s.length < 4611686018427387904) : VRet Tryz.prog 85 [.str s, .ptr id 0] st (.str (trL s)) st := by
  refine VCalls_of F85_ok mixed (Nat.le_of_ble_eq_true rfl) (fun hwf => ?_)
  have hid := (hwf.mem _ _ h).1
  (repeat' first | ((first | refine go rfl rfl ?_ | (refine Fk.by_ ?_ ?_ <;> intro hc <;> try simp only [hc]) | refine storeK_eq rfl ?_ | with_reducible refine And.intro ?_ ?_ | fail) <;> try simp only [push_cast, reduceIte, Nat.reduceEqDiff, reduceCtorEq, Nat.reduceAdd, Nat.reduceLeDiff, Nat.reduceBEq]))
  refine WT_loop rfl (fun n e z => ∃ t : List UInt8, n = t.length ∧ t.length ≤ s.length ∧ trL t = trL s ∧ e = [(0, .str t), (1, .ptr id 0), (4, .str [])] ∧ st = z) st.nx (Nat.le_refl _) (by rintro _ _ _ ⟨j, _, _, _, _, rfl⟩; rfl)
    ⟨_, _, _, ⟨s, rfl, Nat.le_refl _, rfl, rfl, rfl⟩, (by repeat first | exact .nil | refine .cons (by first | rfl | (simp [V.bd, V.bdL]; try first | omega | assumption)) (by first | rfl | simp only [push_cast, reduceIte, Nat.reduceEqDiff, reduceCtorEq, Nat.reduceAdd, Nat.reduceLeDiff, Nat.reduceBEq]) ?_), .refl hwf⟩ ?_
  rintro n e z ⟨t, rfl, hl, ht, rfl, rfl⟩
  cases t with
  | nil =>
    have h1 : decide ((0 : Int) < 0) = false := rfl
    (repeat' first | ((first | refine go rfl rfl ?_ | (refine Fk.by_ ?_ ?_ <;> intro hc <;> try simp only [hc]) | refine storeK_eq rfl ?_ | with_reducible refine And.intro ?_ ?_ | fail) <;> try simp only [h1, push_cast, reduceIte, Nat.reduceEqDiff, reduceCtorEq, Nat.reduceAdd, Nat.reduceLeDiff, Nat.reduceBEq]))
    all_goals exact finRet0 hwf rfl (by rw [← ht]; rfl) rfl
  | cons b t =>
    have h1 : decide ((0 : Int) < (t.length : Int) + 1) = true := decide_eq_true (by omega)
    have h2 : t.length + 1 ≤ t.length + 1 := Nat.le_refl _
    cases hb : digB b with
    | true =>
      have h3 : ∀ st', st' = st → VRet Tryz.prog 95 [.ptr id 0, .int .u8 b.toNat] st' (.bool true) st' := fun st' e => by subst e; have := has_v _ id b h; rwa [hb] at this
      (repeat' first | ((first | refine go rfl rfl ?_ | refine Cl.by_ (by (first | refine h3 _ rfl)) ?_ | (refine Fk.by_ ?_ ?_ <;> intro hc <;> try simp only [hc]) | refine storeK_eq rfl ?_ | with_reducible refine And.intro ?_ ?_ | fail) <;> try simp only [h1, h2, List.take_length, push_cast, reduceIte, Nat.reduceEqDiff, reduceCtorEq, Nat.reduceAdd, Nat.reduceLeDiff, Nat.reduceBEq]))
      exact ⟨_, _, _, Nat.lt_succ_self _, ⟨t, rfl, by simp at hl; omega, by rw [← ht]; simp [trL, hb], rfl, rfl⟩, (by repeat first | exact .nil | refine .cons (by first | rfl | (simp [V.bd, V.bdL]; try first | omega | assumption)) (by first | rfl | simp only [push_cast, reduceIte, Nat.reduceEqDiff, reduceCtorEq, Nat.reduceAdd, Nat.reduceLeDiff, Nat.reduceBEq]) ?_), .refl hwf⟩
    | false =>
      have h3 : ∀ st', st' = st → VRet Tryz.prog 95 [.ptr id 0, .int .u8 b.toNat] st' (.bool false) st' := fun st' e => by subst e; have := has_v _ id b h; rwa [hb] at this
      (repeat' first | ((first | refine go rfl rfl ?_ | refine Cl.by_ (by (first | refine h3 _ rfl)) ?_ | (refine Fk.by_ ?_ ?_ <;> intro hc <;> try simp only [hc]) | refine storeK_eq rfl ?_ | with_reducible refine And.intro ?_ ?_ | fail) <;> try simp only [h1, h2, push_cast, reduceIte, Nat.reduceEqDiff, reduceCtorEq, Nat.reduceAdd, Nat.reduceLeDiff, Nat.reduceBEq]))
      all_goals exact finRet0 hwf rfl (by rw [← ht]; simp [trL, resOne, hb]) rfl

theorem trimR_v (st : St) (id : Nat) (s : List UInt8) (h : Sha.look st.mem id = some setV) (hs : s.length < 4611686018427387904) : VRet Tryz.prog 50 [.str s, .ptr id 0] st (.str (trR s)) st := by
  refine VCalls_of F50_ok mixed (Nat.le_of_ble_eq_true rfl) (fun hwf => ?_)
  have hid := (hwf.mem _ _ h).1
  (repeat' first | ((first | refine go rfl rfl ?_ | (refine Fk.by_ ?_ ?_ <;> intro hc <;> try simp only [hc]) | refine storeK_eq rfl ?_ | with_reducible refine And.intro ?_ ?_ | fail) <;> try simp only [push_cast, reduceIte, Nat.reduceEqDiff, reduceCtorEq, Nat.reduceAdd, Nat.reduceLeDiff, Nat.reduceBEq]))
  refine WT_loop rfl (fun n e z => ∃ t : List UInt8, n = t.length ∧ t.length ≤ s.length ∧ trR t = trR s ∧ e = [(0, .str t), (1, .ptr id 0), (4, .str [])] ∧ st = z) st.nx (Nat.le_refl _) (by rintro _ _ _ ⟨j, _, _, _, _, rfl⟩; rfl)
    ⟨_, _, _, ⟨s, rfl, Nat.le_refl _, rfl, rfl, rfl⟩, (by repeat first | exact .nil | refine .cons (by first | rfl | (simp [V.bd, V.bdL]; try first | omega | assumption)) (by first | rfl | simp only [push_cast, reduceIte, Nat.reduceEqDiff, reduceCtorEq, Nat.reduceAdd, Nat.reduceLeDiff, Nat.reduceBEq]) ?_), .refl hwf⟩ ?_
  rintro n e z ⟨t, rfl, hl, ht, rfl, rfl⟩
  rcases List.eq_nil_or_concat t with rfl | ⟨t', b, rfl⟩
  · have h1 : decide ((0 : Int) < 0) = false := rfl
    (repeat' first | ((first | refine go rfl rfl ?_ | (refine Fk.by_ ?_ ?_ <;> intro hc <;> try simp only [hc]) | refine storeK_eq rfl ?_ | with_reducible refine And.intro ?_ ?_ | fail) <;> try simp only [h1, push_cast, reduceIte, Nat.reduceEqDiff, reduceCtorEq, Nat.reduceAdd, Nat.reduceLeDiff, Nat.reduceBEq]))
    all_goals exact finRet0 hwf rfl (by rw [← ht]; rfl) rfl
  · have hlen : (t'.concat b).length = t'.length + 1 := by simp
    have h1 : decide ((0 : Int) < (t'.length : Int) + 1) = true := decide_eq_true (by omega)
    have hw : IntKind.i64.wrap ((t'.length : Int) + 1 - 1) = (t'.length : Int) := by rw [wrap64 (by omega) (by omega)]; omega
    have hg : (t'.concat b)[t'.length]? = some b := by simp
    have h2 : t'.length ≤ t'.length + 1 := Nat.le_succ _
    have htk : (t'.concat b).take t'.length = t' := by simp
    cases hb : digB b with
    | true =>
      have h3 : ∀ st', st' = st → VRet Tryz.prog 95 [.ptr id 0, .int .u8 b.toNat] st' (.bool true) st' := fun st' e => by subst e; have := has_v _ id b h; rwa [hb] at this
      (repeat' first | ((first | refine go rfl rfl ?_ | refine Cl.by_ (by (first | refine h3 _ rfl)) ?_ | (refine Fk.by_ ?_ ?_ <;> intro hc <;> try simp only [hc]) | refine storeK_eq rfl ?_ | with_reducible refine And.intro ?_ ?_ | fail) <;> try simp only [h1, hw, hg, h2, hlen, htk, Nat.zero_le, push_cast, reduceIte, Nat.reduceEqDiff, reduceCtorEq, Nat.reduceAdd, Nat.reduceLeDiff, Nat.reduceBEq]))
      exact ⟨_, _, _, Nat.lt_succ_self _, ⟨t', rfl, by omega, by rw [← ht]; simp [trR, hb], rfl, rfl⟩, (by repeat first | exact .nil | refine .cons (by first | rfl | (simp [V.bd, V.bdL]; try first | omega | assumption)) (by first | rfl | simp only [push_cast, reduceIte, Nat.reduceEqDiff, reduceCtorEq, Nat.reduceAdd, Nat.reduceLeDiff, Nat.reduceBEq]) ?_), .refl hwf⟩
    | false =>
      have h3 : ∀ st', st' = st → VRet Tryz.prog 95 [.ptr id 0, .int .u8 b.toNat] st' (.bool false) st' := fun st' e => by subst e; have := has_v _ id b h; rwa [hb] at this
      (repeat' first | ((first | refine go rfl rfl ?_ | refine Cl.by_ (by (first | refine h3 _ rfl)) ?_ | (refine Fk.by_ ?_ ?_ <;> intro hc <;> try simp only [hc]) | refine storeK_eq rfl ?_ | with_reducible refine And.intro ?_ ?_ | fail) <;> try simp only [h1, hw, hg, h2, hlen, htk, push_cast, reduceIte, Nat.reduceEqDiff, reduceCtorEq, Nat.reduceAdd, Nat.reduceLeDiff, Nat.reduceBEq]))
      all_goals exact finRet0 hwf rfl (by rw [← ht]; simp [trR, resOne, hb]) rfl

theorem trim_all (s : List UInt8) : (trL (trR s) == []) = s.all digB := by
  have h1 : ∀ l : List UInt8, l.dropWhile digB = [] ↔ l.all digB = true := fun l => by
    induction l with
    | nil => simp
    | cons b l ih => cases hb : digB b <;> simp [List.dropWhile_cons, hb, ih]
  rw [Bool.eq_iff_iff, beq_iff_eq]
  unfold trL
  rw [h1]
  unfold trR
  rw [List.all_reverse]
  constructor
  · intro h
    cases hd' : s.reverse.dropWhile digB with
    | nil => have := (h1 _).1 hd'; rwa [List.all_reverse] at this
    | cons b l =>
      exfalso
      have hb := List.head_dropWhile_not digB (l := s.reverse) (by rw [hd']; simp)
      simp only [hd', List.head_cons] at hb
      rw [hd'] at h
      simp [hb] at h
  · intro h
    have : s.reverse.dropWhile digB = [] := (h1 _).2 (by rw [List.all_reverse]; exact h)
    rw [this]; rfl

theorem trimD_v (s : List UInt8) (st : St) (hs : s.length < 4611686018427387904) : VRet Tryz.prog 37 [.str s, .str tenS] st (.str (trL (trR s))) st := by
  refine VCalls_of F37_ok mixed (Nat.le_of_ble_eq_true rfl) (fun hwf => ?_)
  have hlr : (trR s).length < 4611686018427387904 := by
    have : (trR s).length ≤ s.length := by unfold trR; rw [List.length_reverse]; have := (List.dropWhile_sublist digB (l := s.reverse)).length_le; simpa using this
    omega
  have h10 : (tenS.length : Int) = 10 := rfl
  cases s with
  | nil =>
    (repeat' first | ((first | refine go rfl rfl ?_ | (refine Fk.by_ ?_ ?_ <;> intro hc <;> try simp only [hc]) | refine storeK_eq rfl ?_ | with_reducible refine And.intro ?_ ?_ | fail) <;> try simp only [tenS, push_cast, reduceIte, Nat.reduceEqDiff, reduceCtorEq, Nat.reduceAdd, Nat.reduceLeDiff, Nat.reduceBEq]))
    all_goals exact finRet0 hwf rfl rfl rfl
  | cons b s =>
    (repeat' first | ((first | refine go rfl rfl ?_ | refine Cl.by_ (by (first | refine makeSet_v _ | refine trimR_v _ _ _ (by simp [Sha.look]) hs | refine trimL_v _ _ _ (by simp [Sha.look]) hlr)) ?_ | (refine Fk.by_ ?_ ?_ <;> intro hc <;> try simp only [hc]) | refine storeK_eq rfl ?_ | with_reducible refine And.intro ?_ ?_ | fail) <;> try simp only [push_cast, reduceIte, Nat.reduceEqDiff, reduceCtorEq, Nat.reduceAdd, Nat.reduceLeDiff, Nat.reduceBEq]))
    all_goals refine finB (hwf) (by simp only [F37, push_cast, reduceIte, Nat.reduceEqDiff, reduceCtorEq, Nat.reduceAdd, Nat.reduceLeDiff, Nat.reduceBEq]; exact rfl) (by first | exact .inl rfl | (right; simp only [F37, push_cast, reduceIte, Nat.reduceEqDiff, reduceCtorEq, Nat.reduceAdd, Nat.reduceLeDiff, Nat.reduceBEq]; try rfl)) (by first | rfl | assumption) (by simp) (by simp) (by (repeat first | exact (hwf).subm | exact (hwf).suba | refine Sub.drop (by simp) ?_)) (by (repeat first | exact (hwf).subm | exact (hwf).suba | refine Sub.drop (by simp) ?_)) (by (repeat first | exact (hwf).subx | refine ExSub.dropt (by simp) ?_ | refine ExSub.drop (by simp) ?_))

/-! ### digits, value -/
def digsB (s : List UInt8) : Bool := s != [] && s.all digB && (s.length == 1 || s[0]? != some 48)
theorem digits_v (s : List UInt8) (st : St) (hs : s.length < 4611686018427387904) : VRet Tryz.prog 36 [.str s] st (.bool (digsB s)) st := by
  refine VCalls_of F36_ok mixed (Nat.le_of_ble_eq_true rfl) (fun hwf => ?_)
  have ht := trim_all s
  cases s with
  | nil =>
    (repeat' first | ((first | refine go rfl rfl ?_ | (refine Fk.by_ ?_ ?_ <;> intro hc <;> try simp only [hc]) | refine storeK_eq rfl ?_ | with_reducible refine And.intro ?_ ?_ | fail) <;> try simp only [push_cast, reduceIte, Nat.reduceEqDiff, reduceCtorEq, Nat.reduceAdd, Nat.reduceLeDiff, Nat.reduceBEq]))
    all_goals exact finRet0 hwf rfl rfl rfl
  | cons b s =>
    have h0 : (b :: s != []) = true := rfl
    have h1 : (((s.length : Int) + 1 == 1)) = ((b :: s).length == 1) := by
      rw [Bool.eq_iff_iff]; simp only [beq_iff_eq, List.length_cons]; omega
    have h2 : (((b.toNat : Int)) != 48) = ((b :: s)[0]? != some 48) := by
      rw [Bool.eq_iff_iff]; simp only [bne_iff_ne, ne_eq, List.getElem?_cons_zero, Option.some.injEq]
      constructor
      · rintro h rfl; exact h rfl
      · intro h e; exact h (UInt8.toNat_inj.1 (by have : (48 : UInt8).toNat = 48 := rfl; omega))
    have hR : digsB (b :: s) = ((digB b && s.all digB) && (((s.length : Int) + 1 == 1) || (((b.toNat : Int)) != 48))) := by rw [h1, h2]; rfl
    (repeat' first | ((first | refine go rfl rfl ?_ | refine Cl.by_ (by (first | refine trimD_v _ _ hs)) ?_ | (refine Fk.by_ ?_ ?_ <;> intro hc <;> try simp only [hc]) | refine storeK_eq rfl ?_ | with_reducible refine And.intro ?_ ?_ | fail) <;> try simp only [h0, ht, push_cast, reduceIte, Nat.reduceEqDiff, reduceCtorEq, Nat.reduceAdd, Nat.reduceLeDiff, Nat.reduceBEq]))
    all_goals exact finRet0 hwf rfl (by rw [hR]; clear h1 h2 hR ht h0; simp [resOne, *]) rfl

/-- The number that digits spell. -/
def numD (s : List UInt8) : Nat := s.foldl (fun n b => 10 * n + (b.toNat - 48)) 0
theorem parse_digs : ∀ (s : List UInt8) (acc : Nat), s.all digB = true → acc < 18446744073709551616 → Lib.parseUint10 acc s = if s.foldl (fun n b => 10 * n + (b.toNat - 48)) acc < 18446744073709551616 then .ok (s.foldl (fun n b => 10 * n + (b.toNat - 48)) acc) else .range
  | [], acc, _, h => by simp [Lib.parseUint10, h]
  | b :: s, acc, h, ha => by
    have mono : ∀ (s : List UInt8) (n : Nat), n ≤ s.foldl (fun n b => 10 * n + (b.toNat - 48)) n := by
      intro s
      induction s with
      | nil => intro n; exact Nat.le_refl _
      | cons c s ih => intro n; rw [List.foldl_cons]; refine Nat.le_trans ?_ (ih _); omega
    simp only [List.all_cons, Bool.and_eq_true] at h
    obtain ⟨hb, hs⟩ := h
    have hb' : 48 ≤ b.toNat ∧ b.toNat ≤ 57 := by
      simp only [digB, isDig, Bool.and_eq_true, decide_eq_true_eq] at hb; omega
    rw [Lib.parseUint10, if_pos hb', List.foldl_cons]
    have hm := mono s (10 * acc + (b.toNat - 48))
    by_cases h1 : 1844674407370955162 ≤ acc
    · rw [if_pos h1, if_neg (by omega)]
    · rw [if_neg h1]
      by_cases h2 : 18446744073709551616 ≤ acc * 10 + (b.toNat - 48)
      · rw [if_pos h2, if_neg (by omega)]
      · rw [if_neg h2, parse_digs s _ hs (by omega), Nat.mul_comm]
theorem atoi_digs {s : List UInt8} (h0 : s ≠ []) (h : s.all digB = true) : Lib.atoiAll s = if numD s < 9223372036854775808 then .ok (numD s : Int) else .range := by
  cases s with
  | nil => exact absurd rfl h0
  | cons b s =>
    have hb : digB b = true := by simp only [List.all_cons, Bool.and_eq_true] at h; exact h.1
    have hb' : 48 ≤ b.toNat ∧ b.toNat ≤ 57 := by
      simp only [digB, isDig, Bool.and_eq_true, decide_eq_true_eq] at hb; omega
    rw [Lib.atoiAll_plain b s (by omega) (by omega), Lib.parseMag, if_neg (by simp), parse_digs (b :: s) 0 h (by omega)]
    show Lib.signless (if numD (b :: s) < 18446744073709551616 then .ok (numD (b :: s)) else .range) = _
    by_cases h1 : numD (b :: s) < 18446744073709551616
    · rw [if_pos h1]
      unfold Lib.signless
      by_cases h2 : numD (b :: s) < 9223372036854775808
      · rw [if_pos h2]; simp only; rw [if_neg (by omega)]
      · rw [if_neg h2]; simp only; rw [if_pos (by omega)]
    · rw [if_neg h1, if_neg (by omega)]; rfl

def capV (n : Nat) : Nat := min n 1099511627776
theorem callable87 : Callable Tryz.prog 87 := ⟨_, Tryz.func87, by kernel_rfl, by kernel_rfl⟩
theorem atoi_ok_v (s : List UInt8) (st : St) (hs : s.length < 140737488355328) (h0 : s ≠ []) (h : s.all digB = true) (hn : numD s < 9223372036854775808) : VRet Tryz.prog 87 [.str s] st (.tup [.int .i64 (numD s), .nili]) st := by
  refine VRet_of_below callable87 (fun w A vs hw ha => ?_)
  obtain ⟨u, rfl, h1⟩ := ha.one
  have e1 := h1.str_inv
  subst e1
  have hat := atoi_digs h0 h
  rw [if_pos hn] at hat
  refine (Tryz.strconv_Atoi_ok ⟨s.toArray⟩ (by simp [ByteArray.size]; omega) (numD s : Int) (by simpa using hat) w).mono fun e w' ⟨he, hb⟩ => ?_
  subst he
  refine ⟨_, rfl, fun w' A' => ?_, ?_⟩
  · refine .tup [.int .i64 (numD s), .nilIface] [.int .i64 (numD s), .nili] rfl (fun i v c h1 h2 => ?_)
    match i, h1, h2 with
    | 0, h1, h2 => simp at h1 h2; subst h1 h2; exact .int _ _
    | 1, h1, h2 => simp at h1 h2; subst h1 h2; exact .nili
  · rcases hb with rfl | ⟨t, rfl⟩
    · exact Below.refl _ _
    · exact Lib.bytesWorld_below w 5 t
theorem atoi_range_v (s : List UInt8) (st : St) (hg : GlOk st.x.gl) (hs : s.length < 140737488355328) (h0 : s ≠ []) (h : s.all digB = true) (hn : ¬ numD s < 9223372036854775808) : VRet Tryz.prog 87 [.str s] st (.tup [.und, .iface 189 .und]) st := by
  refine .inl ⟨callable87, fun w A vs hw ha => ?_⟩
  obtain ⟨u, rfl, h1⟩ := ha.one
  have e1 := h1.str_inv
  subst e1
  have hat := atoi_digs h0 h
  rw [if_neg hn] at hat
  obtain ⟨cs, T, fz, ev, g1, g2, g3⟩ := hg.err
  have hcell : w.cell? ⟨8, 0, none⟩ = some ev := by
    unfold World.cell?
    rw [(hw.x.gl _ g1).1]
    simpa using g2
  refine (Tryz.strconv_Atoi_range ⟨s.toArray⟩ (by simp [ByteArray.size]; omega) (by simpa using hat) ev w hcell g3).mono fun e w' ⟨N, he, _, _, hb⟩ => ?_
  subst he
  refine ⟨.ret (.tup [.und, .iface 189 .und]), A, st, ⟨rfl, rfl⟩, ?_, hw.below hb, Ext.below hw hb⟩
  refine .tup [_, _] [.und, .iface 189 .und] rfl (fun i v c h1 h2 => ?_)
  match i, h1, h2 with
  | 0, h1, h2 => simp at h1 h2; subst h1 h2; exact .und _
  | 1, h1, h2 => simp at h1 h2; subst h1 h2; exact .iface _ _ _ (.und _)

theorem value_v (s : List UInt8) (st : St) (hg : GlOk st.x.gl) (hs : s.length < 140737488355328) (h0 : s ≠ []) (h : s.all digB = true) : VRet Tryz.prog 38 [.str s] st (.int .i64 (capV (numD s))) st := by
  refine VCalls_of F38_ok mixed (Nat.le_of_ble_eq_true rfl) (fun hwf => ?_)
  by_cases hn : numD s < 9223372036854775808
  · (repeat' first | ((first | refine go rfl rfl ?_ | refine Cl.by_ (by (first | refine atoi_ok_v _ _ hs h0 h hn)) ?_ | (refine Fk.by_ ?_ ?_ <;> intro hc <;> try simp only [hc]) | refine storeK_eq rfl ?_ | with_reducible refine And.intro ?_ ?_ | fail) <;> try simp only [push_cast, reduceIte, Nat.reduceEqDiff, reduceCtorEq, Nat.reduceAdd, Nat.reduceLeDiff, Nat.reduceBEq]))
    all_goals exact finRet0 hwf rfl (by simp only [resOne, capV]; congr 1; split <;> omega) rfl
  · (repeat' first | ((first | refine go rfl rfl ?_ | refine Cl.by_ (by (first | refine atoi_range_v _ _ hg hs h0 h hn)) ?_ | (refine Fk.by_ ?_ ?_ <;> intro hc <;> try simp only [hc]) | refine storeK_eq rfl ?_ | with_reducible refine And.intro ?_ ?_ | fail) <;> try simp only [push_cast, reduceIte, Nat.reduceEqDiff, reduceCtorEq, Nat.reduceAdd, Nat.reduceLeDiff, Nat.reduceBEq]))
    all_goals exact finRet0 hwf rfl (by simp only [resOne, capV]; congr 1; omega) rfl
end Go.Proofs.YtnondemehfkalaaGreatDoor

set_option maxRecDepth 10000
namespace Go.Proofs.YtnondemehfkalaaGreatDoor
open Go.Sha

/-! ### words and numbers -/
abbrev namesB : List (List UInt8) := [[105, 110, 116, 101, 110, 115, 105, 116, 121], [112, 97, 110], [116, 105, 108, 116], [114, 101, 100], [103, 114, 101, 101, 110], [98, 108, 117, 101], [119, 104, 105, 116, 101], [97, 109, 98, 101, 114], [99, 121, 97, 110], [109, 97, 103, 101, 110, 116, 97], [121, 101, 108, 108, 111, 119], [103, 111, 98, 111], [115, 104, 117, 116, 116, 101, 114], [122, 111, 111, 109], [102, 111, 99, 117, 115]]
def idxB (w : List UInt8) : List (List UInt8) → Nat
  | [] => 0
  | x :: r => if (x == w) = true then 0 else idxB w r + 1
def attrN (w : List UInt8) : Int × Int :=
  if idxB w namesB < 15 then ((idxB w namesB : Int), 0) else if (w == [112, 111, 115, 105, 116, 105, 111, 110]) = true then (16, 0) else if (w == [99, 111, 108, 111, 117, 114]) = true then (17, 0) else if (w == [98, 101, 97, 109]) = true then (18, 0) else (0, 8)
def msS (s : List UInt8) : Int := 1000 * (capV (numD (cutW 46 s)) : Int) + (capV (numD (49 :: (cutR 46 s ++ [48, 48, 48]).take 3)) : Int) - 1000
def secBad (s : List UInt8) : Bool := !(digsB (cutW 46 s)) || (cutP 46 s && (cutR 46 s == [] || decide (3 < ((cutR 46 s).length : Int)) || !((cutR 46 s).all digB)))
def secN (s : List UInt8) : Int × Int := if secBad s = true then (0, 3) else if decide (10000000 < msS s) = true then (0, 2) else (msS s, 0)
def dig3 (s : List UInt8) : Bool := decide (1 ≤ s.length) && decide (s.length ≤ 3) && s.all digB
def thouN (s : List UInt8) : Option Nat := if (!(dig3 (cutW 46 s)) || (decide (1 < (cutW 46 s).length) && (cutW 46 s)[0]? == some 48) || (cutP 46 s && !(dig3 (cutR 46 s)))) = true then none else some (numD (cutW 46 s ++ (cutR 46 s ++ [48, 48, 48]).take 3))
def ofN (n : Nat) : Nat := (65535 * n + 50000) / 100000
def pctN (s : List UInt8) : Int × Int := if (s == [102, 117, 108, 108]) = true then (65535, 0) else match thouN s with
  | none => (0, 3)
  | some n => if decide (100000 < (n : Int)) = true then (0, 2) else ((ofN n : Int), 0)
def digs1 (s : List UInt8) : Bool := s != [] && s.all digB
def chkBad (s : List UInt8) : Bool := !(digs1 (cutW 46 s)) || (cutP 46 s && (!(digs1 (cutR 46 s)) || (cutR 46 s).getLast? == some 48)) || ((cutW 46 s).length != 1 && (cutW 46 s)[0]? == some 48)
def chkN (s : List UInt8) : Int := if chkBad s = true then 3 else if (s == [48] || decide (4 < (cutW 46 s).length) || decide (3 < (cutR 46 s).length)) = true then 2 else 0

/-! ### commands -/
structure Sel where
  op : Int
  g : Int
  f : Int
  t : Int
  deriving DecidableEq
structure Fix where
  ch : Int
  pt : Int
  pf : List UInt8
  un : Int
  ad : Int
  ph : Int
  deriving DecidableEq
structure Cmd where
  kind : Int
  verb : List UInt8
  obj : List UInt8
  num : List UInt8
  list : Int
  sel : Option (List Sel)
  attr : Int
  lev : Int
  pal : Int
  time : Int
  fl : Int
  pl : Fix
  deriving DecidableEq
def selV (x : Sel) : V := .agg [.int .i64 x.op, .int .i64 x.g, .int .i64 x.f, .int .i64 x.t]
def fixV (x : Fix) : V := .agg [.int .i64 x.ch, .int .i64 x.pt, .str x.pf, .int .i64 x.un, .int .i64 x.ad, .int .i64 x.ph, .str []]
def fix0 : Fix := ⟨0, 0, [], 0, 0, 0⟩
def cmd0 : Cmd := ⟨0, [], [], [], 0, none, 0, 0, 0, 0, 0, fix0⟩
def selsV (l : List Sel) : V := .sl (l.map selV)
def selO : Option (List Sel) → V
  | none => .nils
  | some l => selsV l
def cmdL (c : Cmd) : List V := [.int .i64 c.kind, .str c.verb, .str c.obj, .str c.num, .int .i64 c.list, selO c.sel, .int .i64 c.attr, .int .i64 c.lev, .int .i64 c.pal, .int .i64 c.time, .int .i64 c.fl, .int .i64 c.pl.ch, .int .i64 c.pl.pt, .str c.pl.pf, .int .i64 c.pl.un, .int .i64 c.pl.ad, .int .i64 c.pl.ph, .str [], .nils]
def cmdV (c : Cmd) : V := .agg (cmdL c)

/-! ### readings -/
def rInt (most : Int) : Rd Int := rNext rNumber fun s ts => if (!(digsB s)) = true then .error ((hd ts).a, 4) else if (decide ((capV (numD s) : Int) < 1) || decide (most < (capV (numD s) : Int))) = true then .error ((hd ts).a, 2) else .ok ((capV (numD s) : Int), ts.tail)
def rCue : Rd (List UInt8) := rNext rNumber fun s => rNext (rMust (chkN s)) fun _ ts => .ok ((hd ts).t, ts.tail)
def rLevel : Rd Int := fun ts => (rNext (if hdIs 0 [102, 117, 108, 108] ts = true then rOk (hd ts).t else rNumber) fun s => rNext (rMust (pctN s).2) fun _ ts => .ok ((pctN s).1, ts.tail)) ts
def rTime : Rd Int := rNext (rWord [[116, 105, 109, 101]]) fun w => if (w == []) = true then rOk (-1) else rNext rNumber fun s => rNext (rMust (secN s).2) fun _ ts => .ok ((secN s).1, ts.tail)
def rUnit : Rd Fix := rNext rNumber fun s ts =>
  let rest := if cutP 46 s = true then cutR 46 s else [49]
  if (!(digsB (cutW 46 s)) || !(digsB rest)) = true then .error ((hd ts).a, 4) else
  if (decide ((capV (numD (cutW 46 s)) : Int) < 1) || decide (999 < (capV (numD (cutW 46 s)) : Int)) || decide ((capV (numD rest) : Int) < 1) || decide (64 < (capV (numD rest) : Int))) = true then .error ((hd ts).a, 2) else .ok (⟨capV (numD (cutW 46 s)), capV (numD rest), [], 0, 0, 0⟩, ts.tail)
noncomputable def rProfile : Rd (List UInt8) := fun ts => if ((hd ts).k != 0) = true then .error ((hd ts).a, 4) else if (wordN (hd ts).t == 8) = true then .error ((hd ts).a, 4) else if (wordN (hd ts).t == 13) = true then .error ((hd ts).a, 8) else .ok ((hd ts).t, ts.tail)
def rTerm (op : Int) : Rd Sel := rNext (rWord [[103, 114, 111, 117, 112]]) fun w => if (w != []) = true then rNext (rInt 1048576) fun n => rOk ⟨op, n, 0, 0⟩ else
  rNext (rInt 999) fun a => rNext (rWord [[116, 104, 114, 117]]) fun w ts => if (w != []) = true then (rNext (rInt 999) fun b ts' => if decide (b < a) = true then .error ((hd ts).a, 9) else .ok (⟨op, 0, a, b⟩, ts')) ts else .ok (⟨op, 0, a, a⟩, ts)
def rMore (acc : List Sel) : Nat → Rd (List Sel)
  | 0 => rOk acc
  | n + 1 => rNext (rSign [43]) fun p => if p = true then rNext (rTerm 0) fun x => rMore (acc ++ [x]) n else rNext (rSign [45]) fun m => if m = true then rNext (rTerm 1) fun x => rMore (acc ++ [x]) n else rOk acc
def rSelection : Rd (List Sel) := rNext (rTerm 0) fun x ts => rMore [x] ts.length ts
def rKind (none : Int) : Rd Int := fun ts => if ((hd ts).k != 0) = true then .ok (none, ts) else if ((attrN (hd ts).t).2 != 0) = true then .ok (none, ts) else .ok ((attrN (hd ts).t).1, ts.tail)
def rPl : Rd (Int × List UInt8) := rNext (rInt 1048576) fun n => rNext rSlash fun _ => rNext rCue fun q => rOk (n, q)
def rPlace (c : Cmd) : Rd Cmd := rNext rPl fun nq => rOk { c with list := nq.1, num := nq.2 }
def rSet : Rd Cmd := rNext rSelection fun l => rNext (rKind 0) fun a => rNext (rNeed [[97, 116]]) fun _ => rNext (rWord [[112, 97, 108, 101, 116, 116, 101], [104, 111, 109, 101]]) fun w =>
  let c : Cmd := { cmd0 with kind := 0, verb := [97, 116], sel := some l, attr := a }
  if (w == [112, 97, 108, 101, 116, 116, 101]) = true then rNext (rInt 1048576) fun n => rNext rTime fun t => rOk { c with pal := n, time := t }
  else if (w == [104, 111, 109, 101]) = true then rNext rTime fun t => rOk { c with pal := -1, time := t }
  else fun ts => if decide (15 ≤ a) = true then .error ((hd ts).a, 4) else (rNext rLevel fun v => rNext rTime fun t => rOk { c with lev := v, time := t }) ts
def rClear : Rd Cmd := fun ts => if ((hd ts).k != 3) = true then (rNext rSelection fun l => rNext (rKind (-1)) fun a => rOk { cmd0 with kind := 1, verb := [99, 108, 101, 97, 114], sel := some l, attr := a }) ts else .ok ({ cmd0 with kind := 1, verb := [99, 108, 101, 97, 114], attr := -1 }, ts)
def rRecord : Rd Cmd := rNext (rNeed [[99, 117, 101], [112, 97, 108, 101, 116, 116, 101], [115, 117, 98], [103, 114, 111, 117, 112]]) fun w =>
  let c : Cmd := { cmd0 with kind := 2, verb := [114, 101, 99, 111, 114, 100], obj := w }
  if (w != [99, 117, 101]) = true then rNext (rInt 1048576) fun n => if (w == [103, 114, 111, 117, 112]) = true then rNext rSelection fun l => rOk { c with list := n, sel := some l } else rOk { c with list := n }
  else rNext (rPlace c) fun c => rNext (rWord [[111, 110, 108, 121]]) fun o => rNext (rWord [[112, 97, 114, 116]]) fun p => rNext (if (p != []) = true then rInt 4 else rOk 1) fun v => rNext rTime fun t => rOk { c with fl := if (o != []) = true then 1 else 0, lev := v, time := t }
def rUpdate : Rd Cmd := rNext (rNeed [[99, 117, 101]]) fun w => rPlace { cmd0 with kind := 3, verb := [117, 112, 100, 97, 116, 101], obj := w }
def rRemove : Rd Cmd := rNext (rNeed [[99, 117, 101], [112, 97, 108, 101, 116, 116, 101], [103, 114, 111, 117, 112], [115, 117, 98], [101, 102, 102, 101, 99, 116], [102, 105, 120, 116, 117, 114, 101]]) fun w =>
  let c : Cmd := { cmd0 with kind := 4, verb := [100, 101, 108, 101, 116, 101], obj := w }
  if (w == [99, 117, 101]) = true then rNext (rPlace c) fun c => rNext (rWord [[107, 101, 101, 112]]) fun k => rOk { c with fl := if (k != []) = true then 2 else 0 }
  else if (w == [102, 105, 120, 116, 117, 114, 101]) = true then rNext rUnit fun f => rOk { c with pl := f } else rNext (rInt 1048576) fun n => rOk { c with list := n }
noncomputable def rPatch : Rd Cmd := rNext rUnit fun f => rNext rProfile fun p => rNext (rNeed [[97, 116]]) fun _ => rNext (rInt 8) fun u => rNext rSlash fun _ => rNext (rInt 512) fun a => rNext (rWord [[112, 104, 97, 115, 101]]) fun w => rNext (if (w != []) = true then rInt 3 else rOk 1) fun ph => rOk { cmd0 with kind := 5, verb := [112, 97, 116, 99, 104], pl := ⟨f.ch, f.pt, p, u, a, ph⟩ }
def rPlay (verb : List UInt8) : Rd Cmd := rNext (rInt 1048576) fun n =>
  let c : Cmd := { cmd0 with kind := 6, verb := verb, list := n }
  if (verb == [103, 111, 116, 111]) = true then rNext (rNeed [[99, 117, 101]]) fun _ => rNext rCue fun q => rOk { c with num := q }
  else if (verb == [114, 97, 116, 101]) = true then rNext (rNeed [[97, 116]]) fun _ => rNext (rInt 400) fun v => rOk { c with lev := v }
  else if (verb == [114, 101, 108, 101, 97, 115, 101]) = true then rNext rTime fun t => rOk { c with time := t } else rOk c
def rFader (verb : List UInt8) : Rd Cmd := rNext (if (verb != [109, 97, 115, 116, 101, 114]) = true then rInt 1048576 else rOk 0) fun n => rNext (rNeed [[97, 116]]) fun _ => rNext rLevel fun v => rNext rTime fun t => rOk { cmd0 with kind := 7, verb := verb, list := n, lev := v, time := t }
def rBlackout (verb : List UInt8) : Rd Cmd := rNext (rNeed [[111, 110], [111, 102, 102]]) fun w => rOk { cmd0 with kind := 7, verb := verb, lev := if (w == [111, 110]) = true then 1 else 0 }
def rEffect (verb : List UInt8) : Rd Cmd := rNext (rInt 1048576) fun n =>
  let c : Cmd := { cmd0 with kind := 8, verb := verb, list := n }
  if (verb == [115, 116, 111, 112]) = true then rOk c else rNext (rNeed [[111, 110], [97, 116]]) fun w => if (w == [111, 110]) = true then rNext rSelection fun l => rOk { c with sel := some l } else rNext (rInt 400) fun v => rOk { c with verb := [115, 112, 101, 101, 100], lev := v }
def rUndo (verb : List UInt8) : Rd Cmd := rOk { cmd0 with kind := 9, verb := verb }
noncomputable def tabV : List (List UInt8 × Nat × (List UInt8 → Rd Cmd)) := [([99, 108, 101, 97, 114], 114, fun _ => rClear), ([114, 101, 99, 111, 114, 100], 115, fun _ => rRecord), ([117, 112, 100, 97, 116, 101], 116, fun _ => rUpdate), ([100, 101, 108, 101, 116, 101], 117, fun _ => rRemove), ([112, 97, 116, 99, 104], 118, fun _ => rPatch), ([98, 108, 97, 99, 107, 111, 117, 116], 119, rBlackout), ([103, 111], 121, rPlay), ([98, 97, 99, 107], 121, rPlay), ([112, 97, 117, 115, 101], 121, rPlay), ([114, 101, 115, 117, 109, 101], 121, rPlay), ([114, 101, 118, 101, 114, 115, 101], 121, rPlay), ([103, 111, 116, 111], 121, rPlay), ([114, 97, 116, 101], 121, rPlay), ([114, 101, 108, 101, 97, 115, 101], 121, rPlay), ([108, 105, 115, 116], 122, rFader), ([115, 117, 98], 122, rFader), ([109, 97, 115, 116, 101, 114], 122, rFader), ([101, 102, 102, 101, 99, 116], 123, rEffect), ([115, 116, 111, 112], 123, rEffect), ([117, 110, 100, 111], 124, rUndo), ([114, 101, 100, 111], 124, rUndo)]
noncomputable def lukT (t : List UInt8) : List (List UInt8 × Nat × (List UInt8 → Rd Cmd)) → Option (Nat × (List UInt8 → Rd Cmd))
  | [] => none
  | p :: r => if t = p.1 then some p.2 else lukT t r
noncomputable def rCommand : Rd Cmd := fun ts => if ((hd ts).k != 0 || (hd ts).t == [103, 114, 111, 117, 112]) = true then rSet ts else match lukT (hd ts).t tabV with
  | none => .error ((hd ts).a, 4)
  | some q => q.2 (hd ts).t ts.tail
end Go.Proofs.YtnondemehfkalaaGreatDoor

set_option maxRecDepth 10000
namespace Go.Proofs.YtnondemehfkalaaGreatDoor
open Go.Sha

/-- A rest that stops a token: nothing, or a blank. -/
def Stops (r : List UInt8) : Prop := r = [] ∨ ∃ r', r = 32 :: r'

theorem Stops.while {r : List UInt8} (h : Stops r) {ok : UInt8 → Bool} (ho : ok 32 = false) : r.takeWhile ok = [] := by
  rcases h with rfl | ⟨r', rfl⟩
  · rfl
  · rw [List.takeWhile_cons, if_neg (by simp [ho])]

theorem drop_mid (p t r : List UInt8) {i : Nat} (hi : i ≤ t.length) : (p ++ (t ++ r)).drop (p.length + i) = t.drop i ++ r := by
  rw [List.drop_append, List.drop_of_length_le (by omega), List.nil_append, show p.length + i - p.length = i by omega, List.drop_append_of_le_length hi]

theorem get_mid (p t r : List UInt8) {i : Nat} (hi : i < t.length) : (p ++ (t ++ r))[p.length + i]? = t[i]? := by
  rw [List.getElem?_append_right (by omega), show p.length + i - p.length = i by omega, List.getElem?_append_left hi]

theorem at_mid {ok : UInt8 → Bool} (p t r : List UInt8) {i : Nat} (hi : i < t.length) : atIs ok (p ++ (t ++ r)) (p.length + i) = atIs ok t i := by
  unfold atIs; rw [get_mid p t r hi]

theorem at_stop {ok : UInt8 → Bool} (p t : List UInt8) {r : List UInt8} (hr : Stops r) (ho : ok 32 = false) {i : Nat} (hi : i ≤ t.length) : atIs ok (p ++ (t ++ r)) (p.length + i) = atIs ok t i := by
  rcases Nat.lt_or_ge i t.length with h | h
  · exact at_mid p t r h
  · have e : i = t.length := by omega
    subst e
    rw [atIs_none (Nat.le_refl _)]
    unfold atIs
    rw [List.getElem?_append_right (by omega), show p.length + t.length - p.length = t.length by omega, List.getElem?_append_right (by omega), Nat.sub_self]
    rcases hr with rfl | ⟨r', rfl⟩
    · rfl
    · exact ho

theorem run_stop {ok : UInt8 → Bool} (p t : List UInt8) {r : List UInt8} (hr : Stops r) (ho : ok 32 = false) {i : Nat} (hi : i ≤ t.length) : runTo ok (p ++ (t ++ r)) (p.length + i) = p.length + runTo ok t i := by
  unfold runTo
  rw [drop_mid p t r hi, List.takeWhile_append, hr.while ho]
  split
  · rename_i h; rw [List.append_nil, h]; omega
  · omega

theorem runWithin {ok : UInt8 → Bool} (p t r : List UInt8) {i : Nat} (hi : i ≤ t.length) (h : runTo ok t i < t.length) : runTo ok (p ++ (t ++ r)) (p.length + i) = p.length + runTo ok t i := by
  unfold runTo at h ⊢
  rw [drop_mid p t r hi, List.takeWhile_append, if_neg (by rw [List.length_drop]; omega)]
  omega

theorem cut_mid (p t r : List UInt8) {a e : Nat} (ha : a ≤ t.length) (he : e ≤ t.length) : ((p ++ (t ++ r)).take (p.length + e)).drop (p.length + a) = (t.take e).drop a := by
  rw [List.drop_take, drop_mid p t r ha, List.drop_take, show p.length + e - (p.length + a) = e - a by omega, List.take_append_of_le_length (by rw [List.length_drop]; omega)]

theorem lex_mid {p t r : List UInt8} {k : Int} {u : List UInt8} {e : Nat} (hr : Stops r) (h : lexAt t 0 = some (k, u, e)) (hk : k ≠ 3) : lexAt (p ++ (t ++ r)) p.length = some (k, u, p.length + e) := by
  have hnil : 0 < t.length := by
    rcases Nat.eq_zero_or_pos t.length with h0 | h0
    · unfold lexAt at h
      rw [if_pos h0.symm] at h
      cases h; exact absurd rfl hk
    · exact h0
  have el := at_mid (ok := letB) p t r hnil
  have eq := at_mid (ok := isB 34) p t r hnil
  have ed := at_mid (ok := digB) p t r hnil
  have es := at_mid (ok := sgnB) p t r hnil
  rw [Nat.add_zero] at el eq ed es
  have hw := run_stop (ok := wrdB) p t hr rfl (Nat.zero_le _)
  have hd := run_stop (ok := digB) p t hr rfl (Nat.zero_le _)
  rw [Nat.add_zero] at hw hd
  unfold lexAt at h ⊢
  rw [if_neg (by simp only [List.length_append]; omega), el, eq, ed, es, hw, hd]
  rw [if_neg (by omega)] at h
  split at h
  · rename_i h1
    rw [if_pos h1]
    cases h
    have := cut_mid p t r (a := 0) (e := runTo wrdB t 0) (Nat.zero_le _) (runTo_le (Nat.zero_le _))
    rw [Nat.add_zero] at this
    rw [this]
  · rename_i h1
    rw [if_neg h1]
    split at h
    · rename_i h2
      rw [if_pos h2]
      split at h
      · rename_i h3
        cases h
        have hq := atIs_lt h3
        have e1 := runWithin (ok := plnB) p t r (i := 0 + 1) (by omega) hq
        rw [show p.length + (0 + 1) = p.length + 1 by omega] at e1
        rw [e1, at_mid p t r hq, if_pos h3]
        have := cut_mid p t r (a := 0) (e := runTo plnB t (0 + 1) + 1) (Nat.zero_le _) (by omega)
        rw [Nat.add_zero] at this
        rw [Nat.add_assoc, this]
      · cases h
    · rename_i h2
      rw [if_neg h2]
      split at h
      · rename_i h3
        rw [if_pos h3]
        have hdl : runTo digB t 0 ≤ t.length := runTo_le (Nat.zero_le _)
        have e1 := at_stop (ok := isB 46) p t hr rfl hdl
        have e2 : (atIs (isB 46) t (runTo digB t 0) && atIs digB (p ++ (t ++ r)) (p.length + runTo digB t 0 + 1)) = (atIs (isB 46) t (runTo digB t 0) && atIs digB t (runTo digB t 0 + 1)) := by
          cases h4 : atIs (isB 46) t (runTo digB t 0) with
          | false => rfl
          | true =>
            have := atIs_lt h4
            rw [Nat.add_assoc, at_stop (ok := digB) p t hr rfl (by omega)]
        rw [e1, e2]
        split at h
        · rename_i h4
          rw [if_pos h4]
          cases h
          have h5 : runTo digB t 0 < t.length := by
            rw [Bool.and_eq_true] at h4
            exact atIs_lt h4.1
          rw [Nat.add_assoc, run_stop (ok := digB) p t hr rfl (by omega)]
          have := cut_mid p t r (a := 0) (e := runTo digB t (runTo digB t 0 + 1)) (Nat.zero_le _) (runTo_le (by omega))
          rw [Nat.add_zero] at this
          rw [this]
        · rename_i h4
          rw [if_neg h4]
          cases h
          have := cut_mid p t r (a := 0) (e := runTo digB t 0) (Nat.zero_le _) hdl
          rw [Nat.add_zero] at this
          rw [this]
      · rename_i h3
        rw [if_neg h3]
        split at h
        · rename_i h4
          rw [if_pos h4]
          cases h
          have := cut_mid p t r (a := 0) (e := 0 + 1) (Nat.zero_le _) (by omega)
          rw [Nat.add_zero] at this
          rw [show p.length + 1 = p.length + (0 + 1) by omega, this]
        · cases h

theorem run_is {ok : UInt8 → Bool} {s : List UInt8} : ∀ (n : Nat) {i j : Nat}, j - i = n → i ≤ j → (∀ k, i ≤ k → k < j → atIs ok s k = true) → atIs ok s j = false → runTo ok s i = j
  | 0, i, j, hn, hij, _, he => by
    have : i = j := by omega
    subst this; exact runTo_stop he
  | n + 1, i, j, hn, hij, h, he => by
    rw [← (runTo_go (h i (Nat.le_refl _) (by omega))).1]
    exact run_is n (by omega) (by omega) (fun k h1 h2 => h k (by omega) h2) he
theorem atIs_of {ok : UInt8 → Bool} {s : List UInt8} {i : Nat} {b : UInt8} (h : s[i]? = some b) : atIs ok s i = ok b := by
  unfold atIs; rw [h]
theorem skip_blanks (p r : List UInt8) (c : Nat) (h : atIs (isB 32) r 0 = false) : runTo (isB 32) (p ++ (List.replicate c 32 ++ r)) p.length = p.length + c := by
  have h1 : ∀ j, j < c → atIs (isB 32) (p ++ (List.replicate c 32 ++ r)) (p.length + j) = true := fun j hj => by
    rw [atIs_of (b := 32) (by rw [List.getElem?_append_right (by omega), show p.length + j - p.length = j by omega, List.getElem?_append_left (by simpa using hj)]; simp [hj])]
    rfl
  refine run_is c (by omega) (by omega) (fun k h2 h3 => ?_) ?_
  · have := h1 (k - p.length) (by omega)
    rwa [show p.length + (k - p.length) = k by omega] at this
  · unfold atIs at h ⊢
    rw [List.getElem?_append_right (by omega), show p.length + c - p.length = c by omega, List.getElem?_append_right (by simp), List.length_replicate, Nat.sub_self]
    exact h

/-- A piece of a text: blanks, then what reads as one token. -/
structure Pc where
  n : Nat
  k : Int
  u : List UInt8
  t : List UInt8
def Pc.Ok (p : Pc) : Prop := lexAt p.u 0 = some (p.k, p.t, p.u.length) ∧ p.k ≠ 3 ∧ atIs (isB 32) p.u 0 = false
def pcs (l : List Pc) (m : Nat) : List UInt8 := l.flatMap (fun p => List.replicate p.n 32 ++ p.u) ++ List.replicate m 32
def pcT : Nat → List Pc → Nat → List Tok
  | o, [], m => [⟨3, [], ((o + m : Nat) : Int)⟩]
  | o, p :: r, m => ⟨p.k, p.t, ((o + p.n : Nat) : Int)⟩ :: pcT (o + p.n + p.u.length) r m
theorem pcs_cons {x : Pc} {l : List Pc} {m : Nat} : pcs (x :: l) m = List.replicate x.n 32 ++ (x.u ++ pcs l m) := by simp [pcs]
theorem pcs_stops {l : List Pc} {m : Nat} (h : ∀ x ∈ l, 0 < x.n) : Stops (pcs l m) := by
  cases l with
  | nil =>
    cases m with
    | zero => exact .inl rfl
    | succ m => exact .inr ⟨List.replicate m 32, by simp [pcs, List.replicate_succ]⟩
  | cons x l =>
    obtain ⟨d, hd⟩ : ∃ d, x.n = d + 1 := ⟨x.n - 1, by have := h x (List.mem_cons_self ..); omega⟩
    exact .inr ⟨List.replicate d 32 ++ (x.u ++ pcs l m), by rw [pcs_cons, hd, List.replicate_succ]; rfl⟩
theorem pc_scan : ∀ (l : List Pc) (m f : Nat) (p : List UInt8) (acc : List Tok), (∀ x ∈ l, x.Ok) → (∀ x ∈ l.tail, 0 < x.n) → (pcs l m).length < f → acc.length + l.length < 256 →
    scanG f (p ++ pcs l m) p.length acc = (acc ++ pcT p.length l m, 0, 0)
  | _, _, 0, _, _, _, _, h, _ => by omega
  | [], m, f + 1, p, acc, _, _, _, hacc => by
    have e : pcs [] m = List.replicate m 32 ++ [] := by simp [pcs]
    have hr : runTo (isB 32) (p ++ pcs [] m) p.length = p.length + m := by rw [e]; exact skip_blanks p [] m rfl
    have hlx : lexAt (p ++ pcs [] m) (p.length + m) = some (3, [], p.length + m) := by
      unfold lexAt
      rw [if_pos (by rw [e]; simp)]
    have ha : ¬ acc.length = 256 := by simp at hacc; omega
    unfold scanG
    rw [hr, hlx]
    simp only [if_neg ha, if_true]
    rfl
  | x :: l, m, f + 1, p, acc, hok, hn, hf, hacc => by
    obtain ⟨o1, o2, o3⟩ := hok x (List.mem_cons_self ..)
    rw [pcs_cons] at hf ⊢
    have hul : 0 < x.u.length := by
      rcases Nat.eq_zero_or_pos x.u.length with h0 | h0
      · unfold lexAt at o1
        rw [if_pos h0.symm] at o1
        simp only [Option.some.injEq, Prod.mk.injEq] at o1
        exact absurd o1.1.symm o2
      · exact h0
    have hst := pcs_stops (m := m) (l := l) (fun y hy => hn y hy)
    have hr := skip_blanks p (x.u ++ pcs l m) x.n (by
      unfold atIs at o3 ⊢
      rw [List.getElem?_append_left hul]; exact o3)
    have hlx := lex_mid (p := p ++ List.replicate x.n 32) hst o1 o2
    rw [List.length_append, List.length_replicate, List.append_assoc] at hlx
    have ha : ¬ acc.length = 256 := by simp only [List.length_cons] at hacc; omega
    unfold scanG
    rw [hr, hlx]
    simp only [if_neg ha, if_neg o2]
    have ih := pc_scan l m f (p ++ List.replicate x.n 32 ++ x.u) (acc ++ [⟨x.k, x.t, ((p.length + x.n : Nat) : Int)⟩]) (fun y hy => hok y (List.mem_cons_of_mem _ hy)) (fun y hy => hn y (List.mem_of_mem_tail hy)) (by simp only [List.length_append, List.length_replicate] at hf; omega) (by simp only [List.length_append, List.length_cons, List.length_nil] at hacc ⊢; omega)
    have e2 : (p ++ List.replicate x.n 32 ++ x.u).length = p.length + x.n + x.u.length := by simp only [List.length_append, List.length_replicate]
    rw [e2, show (p ++ List.replicate x.n 32 ++ x.u) ++ pcs l m = p ++ (List.replicate x.n 32 ++ (x.u ++ pcs l m)) by simp] at ih
    rw [ih, pcT, List.append_assoc]; rfl
theorem scanR_pcs {l : List Pc} {m : Nat} (hok : ∀ x ∈ l, x.Ok) (hn : ∀ x ∈ l.tail, 0 < x.n) (hl : (pcs l m).length ≤ 4096) (h256 : l.length < 256) : scanR (pcs l m) = (pcT 0 l m, 0, 0) := by
  unfold scanR
  rw [if_neg (by omega)]
  have := pc_scan l m ((pcs l m).length + 1) [] [] hok hn (by omega) (by simpa using h256)
  simpa using this
end Go.Proofs.YtnondemehfkalaaGreatDoor

set_option maxRecDepth 10000
namespace Go.Proofs.YtnondemehfkalaaGreatDoor
open Go.Sha Go.RowKit
open Go.Lib (below_grow)

theorem callable17 : Callable Tryz.prog 17 := ⟨_, Tryz.func17, by kernel_rfl, by kernel_rfl⟩
theorem itoa_v (n : Int) (h0 : -9223372036854775808 ≤ n) (h1 : n ≤ 9223372036854775807) (st : St) (hG : GlOk2 st.x.gl) : VRet Tryz.prog 17 [.int .i64 n] st (.str (Lib.itoa n)) st := by
  refine .inl ⟨callable17, fun w A vs hw ha => ?_⟩
  obtain ⟨u, rfl, h2⟩ := ha.one
  have e1 := h2.int_inv
  subst e1
  obtain ⟨_, g, T, fz, hg, hm⟩ := hG
  have htab : Lib.TabIs Tryz.prog w "internal/strconv.uint64pow10" .u64 Lib.pow10Tab := by
    unfold Lib.TabIs World.var?
    rw [hg]
    simp only [Option.bind_some]
    rw [(hw.x.gl _ hm).1]
  refine (Tryz.strconv_Itoa n h0 h1 w htab).mono fun e w' ⟨he, k, os, hw'⟩ => ?_
  subst he
  have hb : Below w.heap.size w w' := by rw [hw']; exact below_grow _ w (Nat.le_refl _) k os
  exact ⟨.ret (.str (Lib.itoa n)), A, st, ⟨rfl, rfl⟩, .str _, hw.below hb, Ext.below hw hb⟩

/-! ### what its texts are -/
def numOk (n : Nat) : Bool := digsB (Lib.itoa n) && decide (numD (Lib.itoa n) = n) && decide ((Lib.itoa n).length ≤ 3) && decide (lexAt (Lib.itoa n) 0 = some (1, Lib.itoa n, (Lib.itoa n).length)) && !(atIs (isB 32) (Lib.itoa n) 0)
theorem numOk_all : (List.range 1000).all numOk = true := by decide +kernel
theorem numOk_at {n : Nat} (h : n < 1000) : digsB (Lib.itoa n) = true ∧ numD (Lib.itoa n) = n ∧ (Lib.itoa n).length ≤ 3 ∧ lexAt (Lib.itoa n) 0 = some (1, Lib.itoa n, (Lib.itoa n).length) ∧ atIs (isB 32) (Lib.itoa n) 0 = false := by
  have := List.all_eq_true.1 numOk_all n (List.mem_range.2 h)
  simpa [numOk, and_assoc] using this
def pctOk (n : Nat) : Bool := decide (pctN (Lib.itoa n) = ((((2 * 65535 * n + 100) / 200 : Nat) : Int), (0 : Int)))
theorem pctOk_all : (List.range 101).all pctOk = true := by decide +kernel
theorem pctOk_at {n : Nat} (h : n ≤ 100) : pctN (Lib.itoa n) = ((((2 * 65535 * n + 100) / 200 : Nat) : Int), (0 : Int)) := by
  have := List.all_eq_true.1 pctOk_all n (List.mem_range.2 (by omega))
  simpa [pctOk] using this
end Go.Proofs.YtnondemehfkalaaGreatDoor

set_option maxRecDepth 10000
namespace Go.Proofs.YtnondemehfkalaaGreatDoor
open Go.Sha Go.RowKit

theorem capV_le (n : Nat) : capV n ≤ 1099511627776 := Nat.min_le_right _ _
theorem digsB_ok {s : List UInt8} (h : digsB s = true) : s ≠ [] ∧ s.all digB = true := by
  simp only [digsB, Bool.and_eq_true, bne_iff_ne] at h; exact ⟨h.1.1, h.1.2⟩
theorem sec_ok {s : List UInt8} (h : secBad s = false) : digsB (cutW 46 s) = true ∧ (cutP 46 s = true → (cutR 46 s).all digB = true) := by
  simp only [secBad, Bool.or_eq_false_iff, Bool.and_eq_false_iff, Bool.not_eq_false'] at h
  refine ⟨h.1, fun hp => ?_⟩
  rcases h.2 with h | h
  · rw [hp] at h; cases h
  · exact h.2
theorem cutR_none {c : UInt8} {s : List UInt8} (h : cutP c s = false) : cutR c s = [] := by
  simp only [cutP, decide_eq_false_iff_not] at h
  exact List.drop_eq_nil_of_le (by omega)
theorem take_all {p : UInt8 → Bool} {l : List UInt8} {n : Nat} (h : l.all p = true) : (l.take n).all p = true := by
  rw [List.all_eq_true] at h ⊢
  exact fun x hx => h x (List.mem_of_mem_take hx)

theorem sl3 (l : List UInt8) : sliceS (l ++ [48, 48, 48]) (some 0) (natV (.int .i64 3)) = some (.str ((l ++ [48, 48, 48]).take 3)) := by
  have h : (3 : Nat) ≤ (l ++ [48, 48, 48]).length := by simp
  have h2 : natV (.int .i64 3) = some 3 := by rfl
  simp only [sliceS, h2, Option.bind_some]
  rw [if_pos ⟨Nat.zero_le _, h⟩]
  simp

theorem seconds_v (s : List UInt8) (st : St) (hg : GlOk st.x.gl) (hs : s.length < 140737488355328) : VRet Tryz.prog 15 [.str s] st (.tup [.int .i64 (secN s).1, .int .i64 (secN s).2]) st := by
  have h1 : (cutW 46 s).length ≤ s.length := by unfold cutW; rw [List.length_take]; omega
  have h2 : (cutR 46 s).length ≤ s.length := by unfold cutR; rw [List.length_drop]; omega
  have ht := trim_all (cutR 46 s)
  have ht' : (trL (trR (cutR 46 s)) != []) = !((cutR 46 s).all digB) := by rw [← ht]; rfl
  have hv1 : secBad s = false → VRet Tryz.prog 38 [.str (cutW 46 s)] st (.int .i64 (capV (numD (cutW 46 s)))) st := fun h => by
    obtain ⟨q1, q2⟩ := digsB_ok (sec_ok h).1
    exact value_v _ _ hg (by omega) q1 q2
  have hv2 : secBad s = false → VRet Tryz.prog 38 [.str (49 :: (cutR 46 s ++ [48, 48, 48]).take 3)] st (.int .i64 (capV (numD (49 :: (cutR 46 s ++ [48, 48, 48]).take 3)))) st := fun h => by
    refine value_v _ _ hg ?_ (by simp) ?_
    · rw [List.length_cons, List.length_take]; omega
    · rw [List.all_cons]
      have : (cutR 46 s).all digB = true := by
        cases hp : cutP 46 s with
        | true => exact (sec_ok h).2 hp
        | false => rw [cutR_none hp]; rfl
      have h3 : (cutR 46 s ++ [48, 48, 48]).all digB = true := by rw [List.all_append, this]; rfl
      rw [take_all h3]; rfl
  have c1 := capV_le (numD (cutW 46 s))
  have c2 := capV_le (numD (49 :: (cutR 46 s ++ [48, 48, 48]).take 3))
  have w1 : IntKind.i64.wrap (1000 * (capV (numD (cutW 46 s)) : Int)) = 1000 * (capV (numD (cutW 46 s)) : Int) := wrap64 (by omega) (by omega)
  have w2 : IntKind.i64.wrap (1000 * (capV (numD (cutW 46 s)) : Int) + (capV (numD (49 :: (cutR 46 s ++ [48, 48, 48]).take 3)) : Int)) = 1000 * (capV (numD (cutW 46 s)) : Int) + (capV (numD (49 :: (cutR 46 s ++ [48, 48, 48]).take 3)) : Int) := wrap64 (by omega) (by omega)
  have w3 : IntKind.i64.wrap (1000 * (capV (numD (cutW 46 s)) : Int) + (capV (numD (49 :: (cutR 46 s ++ [48, 48, 48]).take 3)) : Int) - 1000) = msS s := wrap64 (by omega) (by omega)
  have h3 : (3 : Nat) ≤ (cutR 46 s ++ [48, 48, 48]).length := by simp
  have hl4 : (cutR 46 s).length ≤ 9223372036854775804 := by omega
  have hl5 : 1 + (List.take 3 (cutR 46 s ++ [48, 48, 48])).length ≤ 9223372036854775807 := by rw [List.length_take]; omega
  refine VCalls_of F15_ok mixed (Nat.le_of_ble_eq_true rfl) (fun hwf => ?_)
  (repeat' first | ((first | refine go rfl rfl ?_ | refine Cl.by_ (by (first | refine cut_v _ _ _ (by omega) | refine digits_v _ _ (by omega) | refine trimD_v _ _ (by omega) | refine hv1 (by simp [secBad, *]) | refine hv2 (by simp [secBad, *]))) ?_ | (refine Fk.by_ ?_ ?_ <;> intro hc <;> try simp only [hc]) | refine storeK_eq rfl ?_ | with_reducible refine And.intro ?_ ?_ | fail) <;> try simp only [ht', w1, w2, w3, h3, sl3, hl4, hl5, Nat.zero_le, List.drop_zero, push_cast, reduceIte, Nat.reduceEqDiff, reduceCtorEq, Nat.reduceAdd, Nat.reduceLeDiff, Nat.reduceBEq]))
  all_goals exact finRet0 hwf rfl (by simp [resOne, secN, secBad, *]) rfl

/-! ### Attr -/
theorem sl_new {w : World} {A : Abs} {st : St} (hs : Sim w A st) (vs : List Value) (xs : List V) (e : Nat) (hl : vs.length = xs.length) (hm : xs.length ≤ maxLen) (hc : ∀ x ∈ xs, x.cells = [x])
    (h : ∀ (i : Nat) (v : Value) (x : V), vs[i]? = some v → xs[i]? = some x → v.oneCell' = true ∧ Rep w A v x) :
    ∃ A', Sim (w.alloc (.cells vs.toArray e)) A' ⟨st.nx + 1, st.mem, (st.nx, ⟨e, 1, xs, false, false⟩) :: st.arr, st.x⟩ ∧ Ext w A (w.alloc (.cells vs.toArray e)) A' ∧ Rep (w.alloc (.cells vs.toArray e)) A' (.slice (some ⟨w.heap.size, 0, none⟩) xs.length xs.length) (.sl xs) := by
  have hx := Ext.newArr (w0 := w) hs ⟨rfl, rfl, rfl, rfl⟩ (.cells vs.toArray e) xs.length (.slice (some ⟨w.heap.size, 0, none⟩) xs.length xs.length) (!false) (xs.length * 1)
  have hcell : ∀ (i : Nat) (x : V), xs[i]? = some x → ∃ v, vs[i]? = some v ∧ v.oneCell' = true ∧ Rep w A v x := fun i x hi => by
    have hlt : i < vs.length := by rw [hl]; exact (List.getElem?_eq_some_iff.1 hi).1
    obtain ⟨q1, q2⟩ := h i vs[i] x (List.getElem?_eq_getElem hlt) hi
    exact ⟨_, List.getElem?_eq_getElem hlt, q1, q2⟩
  refine ⟨_, Sim.newArr (w0 := w) hs ⟨rfl, rfl, rfl, rfl⟩ (cur := vs.toArray) (xs := xs) (e := e) (es := 1) (cap := xs.length) (wr := false) (fz := false) (fun x hx => by rw [hc x hx]; rfl) (Nat.le_refl _) hm (by simp [hl]) (fun i j x c hi hj => ?_), hx, ?_⟩
  · rw [hc x (List.mem_of_getElem? hi)] at hj
    match j, hj with
    | 0, hj =>
      simp at hj; subst hj
      obtain ⟨v, q1, q2, q3⟩ := hcell i x hi
      exact ⟨v, by simpa using q1, q2, q3⟩
  · refine .sl xs w.heap.size 0 xs.length 1 (fun i _ => vs[i]?.getD .nilIface) (fun x hx => by rw [hc x hx]; rfl) (Nat.le_refl _) hm (fun i j x c hi hj => ?_) (fun i j x c hi hj => ?_)
    · rw [hc x (List.mem_of_getElem? hi)] at hj
      match j, hj with
      | 0, hj =>
        simp at hj; subst hj
        obtain ⟨v, q1, q2, q3⟩ := hcell i x hi
        have hlt := (List.getElem?_eq_some_iff.1 hi).1
        refine ⟨.inr ⟨rfl, rfl, by omega⟩, ?_, by rw [q1]; exact q2⟩
        have := World.cell?_alloc_new w vs.toArray e i
        simp only [Nat.zero_add, Nat.mul_one, Nat.add_zero]
        rw [q1]
        unfold World.cell?
        rw [heap_alloc_new]
        simpa using q1
    · rw [hc x (List.mem_of_getElem? hi)] at hj
      match j, hj with
      | 0, hj =>
        simp at hj; subst hj
        obtain ⟨v, q1, q2, q3⟩ := hcell i x hi
        simp only [q1]
        exact q3.mono hx
def attrsS : List UInt8 := [105, 110, 116, 101, 110, 115, 105, 116, 121, 32, 112, 97, 110, 32, 116, 105, 108, 116, 32, 114, 101, 100, 32, 103, 114, 101, 101, 110, 32, 98, 108, 117, 101, 32, 119, 104, 105, 116, 101, 32, 97, 109, 98, 101, 114, 32, 99, 121, 97, 110, 32, 109, 97, 103, 101, 110, 116, 97, 32, 121, 101, 108, 108, 111, 119, 32, 103, 111, 98, 111, 32, 115, 104, 117, 116, 116, 101, 114, 32, 122, 111, 111, 109, 32, 102, 111, 99, 117, 115]
theorem attr_fields : Lib.fields attrsS = namesB := by decide +kernel
theorem callable32 : Callable Tryz.prog 32 := ⟨_, Tryz.func32, by kernel_rfl, by kernel_rfl⟩
theorem fields_v (st : St) (hg : GlOk st.x.gl) : VRet Tryz.prog 32 [.str attrsS] st (.sl (namesB.map .str)) ⟨st.nx + 1, st.mem, (st.nx, ⟨9, 1, namesB.map .str, false, false⟩) :: st.arr, st.x⟩ := by
  refine .inl ⟨callable32, fun w A vs hw ha => ?_⟩
  obtain ⟨u, rfl, h1⟩ := ha.one
  have e1 := h1.str_inv
  subst e1
  obtain ⟨g, T, fz, g1, g2⟩ := hg.spc
  have htab : Lib.TabIs Tryz.prog w "strings.asciiSpace" .u8 Lib.asciiSpaceTab := by
    have := (hw.x.gl _ g2).1
    simp only [Lib.TabIs, World.var?, g1, Option.bind_some, this]
  refine (Tryz.strings_Fields ⟨attrsS.toArray⟩ w (by decide) (fun j b hj => by
    have := List.all_eq_true.1 (show attrsS.all (fun b => decide (b.toNat < 128)) = true from rfl) b (List.mem_of_getElem? hj)
    simpa using this) htab).mono fun e w' ⟨he, hb⟩ => ?_
  subst he; subst hb
  have hn : Lib.fields attrsS = namesB := attr_fields
  obtain ⟨A', q1, q2, q3⟩ := sl_new hw (namesB.map fun l => Value.string ⟨l.toArray⟩) (namesB.map .str) 9 rfl (by decide) (fun x hx => by
    obtain ⟨l, _, rfl⟩ := List.mem_map.1 hx; rfl) (fun i v x hi hx => by
    rw [List.getElem?_map] at hi hx
    cases hk : namesB[i]? with
    | none => rw [hk] at hi; cases hi
    | some l => rw [hk] at hi hx; cases hi; cases hx; exact ⟨rfl, .str _⟩)
  refine ⟨.ret (.sl (namesB.map .str)), A', _, ⟨rfl, rfl⟩, ?_, ?_, ?_⟩
  · show EndRel _ _ (.returned (.slice (some ⟨w.heap.size, 0, none⟩) (Lib.fields attrsS).length (Lib.fields attrsS).length)) _
    rw [hn]; exact q3
  · show Sim (w.alloc (.cells ((Lib.fields attrsS).map fun l => Value.string ⟨l.toArray⟩).toArray 9)) _ _
    rw [hn]; exact q1
  · show Ext _ _ (w.alloc (.cells ((Lib.fields attrsS).map fun l => Value.string ⟨l.toArray⟩).toArray 9)) _
    rw [hn]; exact q2
end Go.Proofs.YtnondemehfkalaaGreatDoor

set_option maxRecDepth 10000
namespace Go.Proofs.YtnondemehfkalaaGreatDoor
open Go.Sha Go.RowKit

theorem idxB_le {w : List UInt8} : ∀ {l : List (List UInt8)}, idxB w l ≤ l.length
  | [] => Nat.le_refl _
  | x :: r => by
    have := idxB_le (w := w) (l := r)
    simp only [idxB, List.length_cons]; split <;> omega
theorem idxB_drop {w : List UInt8} : ∀ {l : List (List UInt8)} {j : Nat}, j ≤ idxB w l → idxB w l = j + idxB w (l.drop j)
  | l, 0, _ => by simp
  | [], j + 1, h => by simp [idxB] at h
  | x :: r, j + 1, h => by
    simp only [idxB] at h ⊢
    split at h
    · omega
    · rename_i hx
      rw [if_neg hx, List.drop_succ_cons]
      have := idxB_drop (w := w) (l := r) (j := j) (by omega)
      omega
theorem idxB_get {w x : List UInt8} {l : List (List UInt8)} {j : Nat} (h : l[j]? = some x) : idxB w (l.drop j) = if (w == x) = true then 0 else idxB w (l.drop (j + 1)) + 1 := by
  obtain ⟨q1, q2⟩ := List.getElem?_eq_some_iff.1 h
  rw [List.drop_eq_getElem_cons q1, q2]
  simp only [idxB, Bool.beq_comm (a := x)]
theorem index_v (w : List UInt8) (l : List (List UInt8)) (st : St) (hl : l.length < 1000) : VRet Tryz.prog 31 [.sl (l.map .str), .str w] st (.int .i64 (if idxB w l < l.length then (idxB w l : Int) else -1)) st := by
  refine VCalls_of F31_ok mixed (Nat.le_of_ble_eq_true rfl) (fun hwf => ?_)
  have hbw : V.bdL st.nx (l.map V.str) = true := bdL_map fun _ _ => rfl
  (repeat' first | ((first | refine go rfl rfl ?_ | (refine Fk.by_ ?_ ?_ <;> intro hc <;> try simp only [hc]) | refine storeK_eq rfl ?_ | with_reducible refine And.intro ?_ ?_ | fail) <;> try simp only [push_cast, reduceIte, Nat.reduceEqDiff, reduceCtorEq, Nat.reduceAdd, Nat.reduceLeDiff, Nat.reduceBEq]))
  refine WT_loop rfl (fun n e z => ∃ j : Nat, n = l.length - j ∧ j ≤ l.length ∧ j ≤ idxB w l ∧ e = [(8, .int .i64 (j : Int)), (7, .int .i64 (l.length : Int)), (0, .sl (l.map .str)), (1, .str w)] ∧ st = z) st.nx (Nat.le_refl _) (by rintro _ _ _ ⟨j, _, _, _, _, rfl⟩; rfl)
    ⟨_, _, _, ⟨0, rfl, Nat.zero_le _, Nat.zero_le _, rfl, rfl⟩, (by repeat first | exact .nil | refine .cons (by first | rfl | (simp [V.bd, V.bdL]; try first | omega | assumption)) (by first | rfl | simp only [push_cast, reduceIte, Nat.reduceEqDiff, reduceCtorEq, Nat.reduceAdd, Nat.reduceLeDiff, Nat.reduceBEq]) ?_), .refl hwf⟩ ?_
  rintro n e z ⟨j, rfl, hj, hr, rfl, rfl⟩
  rcases Nat.lt_or_ge j l.length with hlt | hge
  · obtain ⟨x, hx⟩ : ∃ x, l[j]? = some x := ⟨_, List.getElem?_eq_getElem hlt⟩
    have h2 : decide ((j : Int) < (l.length : Int)) = true := decide_eq_true (by omega)
    have hwr : IntKind.i64.wrap ((j : Int) + 1) = (j : Int) + 1 := wrap64 (by omega) (by omega)
    have hd1 := idxB_drop hr
    have hd2 := idxB_get (w := w) hx
    (repeat' first | ((first | refine go rfl rfl ?_ | (refine Fk.by_ ?_ ?_ <;> intro hc <;> try simp only [hc]) | refine storeK_eq rfl ?_ | with_reducible refine And.intro ?_ ?_ | fail) <;> try simp only [h2, hwr, hx, V.cells, push_cast, reduceIte, Nat.reduceEqDiff, reduceCtorEq, Nat.reduceAdd, Nat.reduceLeDiff, Nat.reduceBEq]))
    · rw [hc, if_pos rfl] at hd2
      exact finRet0 hwf rfl (by rw [show idxB w l = j by omega, if_pos hlt]; rfl) rfl
    · rw [hc, if_neg Bool.false_ne_true] at hd2
      exact ⟨_, _, _, by omega, ⟨j + 1, rfl, by omega, by omega, rfl, rfl⟩, (by repeat first | exact .nil | refine .cons (by first | rfl | (simp [V.bd, V.bdL]; try first | omega | assumption)) (by first | rfl | simp only [push_cast, reduceIte, Nat.reduceEqDiff, reduceCtorEq, Nat.reduceAdd, Nat.reduceLeDiff, Nat.reduceBEq]) ?_), .refl hwf⟩
  · have h2 : decide ((j : Int) < (l.length : Int)) = false := decide_eq_false (by omega)
    have := idxB_le (w := w) (l := l)
    (repeat' first | ((first | refine go rfl rfl ?_ | (refine Fk.by_ ?_ ?_ <;> intro hc <;> try simp only [hc]) | refine storeK_eq rfl ?_ | with_reducible refine And.intro ?_ ?_ | fail) <;> try simp only [h2, push_cast, reduceIte, Nat.reduceEqDiff, reduceCtorEq, Nat.reduceAdd, Nat.reduceLeDiff, Nat.reduceBEq]))
    all_goals exact finRet0 hwf rfl (by rw [if_neg (by omega)]; rfl) rfl

theorem takeWhile_self {p : UInt8 → Bool} : ∀ {l : List UInt8}, (∀ b ∈ l, p b = true) → l.takeWhile p = l
  | [], _ => rfl
  | b :: l, h => by rw [List.takeWhile_cons, if_pos (h b List.mem_cons_self), takeWhile_self (fun c hc => h c (List.mem_cons_of_mem _ hc))]
theorem idx_none {c : UInt8} {s : List UInt8} (h : 0 ≤ Lib.indexByte s c) : c ∈ s := by
  rw [index_pos] at h
  split at h
  · rename_i hp
    unfold posB at hp
    by_cases hm : c ∈ s
    · exact hm
    · exfalso
      have : s.takeWhile (fun b => !(b == c)) = s := by
        refine takeWhile_self (fun b hb => ?_)
        have : b ≠ c := fun e => hm (e ▸ hb)
        simp [this]
      rw [this] at hp; omega
  · omega
theorem idxB_mem {w : List UInt8} : ∀ {l : List (List UInt8)}, idxB w l < l.length → w ∈ l
  | [], h => by simp at h
  | x :: r, h => by
    simp only [idxB, List.length_cons] at h
    split at h
    · rename_i hx; rw [beq_iff_eq] at hx; rw [hx]; exact List.mem_cons_self
    · exact List.mem_cons_of_mem _ (idxB_mem (by omega))
theorem attr_sp {w : List UInt8} (h : w = [] ∨ (32 : UInt8) ∈ w) : attrN w = (0, 8) := by
  have hne : ∀ x : List UInt8, x ≠ [] → (32 : UInt8) ∉ x → w ≠ x := by
    rintro x h1 h2 rfl
    rcases h with h | h
    · exact h1 h
    · exact h2 h
  have hidx : ¬ idxB w namesB < 15 := fun hlt => by
    have hm := idxB_mem (w := w) (l := namesB) hlt
    have hall : namesB.all (fun x => x != [] && !(x.contains 32)) = true := by decide
    have := List.all_eq_true.1 hall w hm
    simp at this
    exact (h.elim this.1 this.2)
  unfold attrN
  rw [if_neg hidx, if_neg (by simpa using hne _ (by decide) (by decide)), if_neg (by simpa using hne _ (by decide) (by decide)), if_neg (by simpa using hne _ (by decide) (by decide))]

theorem attr_v (w : List UInt8) (st : St) (hg : GlOk st.x.gl) : VRet Tryz.prog 13 [.str w] st (.tup [.int .i64 (attrN w).1, .int .i64 (attrN w).2]) st := by
  refine VCalls_of F13_ok mixed (Nat.le_of_ble_eq_true rfl) (fun hwf => ?_)
  by_cases he : (w == []) = true
  · (repeat' first | ((first | refine go rfl rfl ?_ | (refine Fk.by_ ?_ ?_ <;> intro hc <;> try simp only [hc]) | refine storeK_eq rfl ?_ | with_reducible refine And.intro ?_ ?_ | fail) <;> try simp only [he, push_cast, reduceIte, Nat.reduceEqDiff, reduceCtorEq, Nat.reduceAdd, Nat.reduceLeDiff, Nat.reduceBEq]))
    all_goals exact finRet0 hwf rfl (by rw [attr_sp (.inl (by simpa using he))]; rfl) rfl
  rw [Bool.not_eq_true] at he
  cases hs : decide (0 ≤ Lib.indexByte w 32) with
  | true =>
    (repeat' first | ((first | refine go rfl rfl ?_ | refine Cl.by_ (by (first | refine contains1_v _ _ _)) ?_ | (refine Fk.by_ ?_ ?_ <;> intro hc <;> try simp only [hc]) | refine storeK_eq rfl ?_ | with_reducible refine And.intro ?_ ?_ | fail) <;> try simp only [he, hs, push_cast, reduceIte, Nat.reduceEqDiff, reduceCtorEq, Nat.reduceAdd, Nat.reduceLeDiff, Nat.reduceBEq]))
    all_goals exact finRet0 hwf rfl (by rw [attr_sp (.inr (idx_none (by simpa using hs)))]; rfl) rfl
  | false =>
    have hi : ∀ st', VRet Tryz.prog 31 [.sl (namesB.map .str), .str w] st' (.int .i64 (if idxB w namesB < 15 then (idxB w namesB : Int) else -1)) st' := fun st' => index_v w namesB st' (by decide)
    have f1 : findV (.str [99, 111, 108, 111, 117, 114]) [(.str [112, 111, 115, 105, 116, 105, 111, 110], .int .i64 1)] 0 = some none := rfl
    have f2 : findV (.str [98, 101, 97, 109]) [(.str [112, 111, 115, 105, 116, 105, 111, 110], .int .i64 1), (.str [99, 111, 108, 111, 117, 114], .int .i64 2)] 0 = some none := rfl
    have f3 : findV (.str w) [(.str [112, 111, 115, 105, 116, 105, 111, 110], .int .i64 1), (.str [99, 111, 108, 111, 117, 114], .int .i64 2), (.str [98, 101, 97, 109], .int .i64 3)] 0 = some (luk w [([112, 111, 115, 105, 116, 105, 111, 110], .int .i64 1), ([99, 111, 108, 111, 117, 114], .int .i64 2), ([98, 101, 97, 109], .int .i64 3)] 0) := findV_strs w [([112, 111, 115, 105, 116, 105, 111, 110], .int .i64 1), ([99, 111, 108, 111, 117, 114], .int .i64 2), ([98, 101, 97, 109], .int .i64 3)] 0
    by_cases hx : idxB w namesB < 15
    · have h1 : decide (idxB w namesB < 15) = true := decide_eq_true hx
      have h2 : decide ((0 : Int) ≤ (idxB w namesB : Int)) = true := decide_eq_true (by omega)
      (repeat' first | ((first | refine go rfl rfl ?_ | refine Cl.by_ (by (first | refine contains1_v _ _ _ | refine fields_v _ hg | refine hi _)) ?_ | (refine Fk.by_ ?_ ?_ <;> intro hc <;> try simp only [hc]) | refine storeK_eq rfl ?_ | with_reducible refine And.intro ?_ ?_ | fail) <;> try simp only [he, hs, hx, h2, push_cast, reduceIte, Nat.reduceEqDiff, reduceCtorEq, Nat.reduceAdd, Nat.reduceLeDiff, Nat.reduceBEq]))
      have hA : attrN w = ((idxB w namesB : Int), 0) := if_pos hx
      rw [hA]
      all_goals refine finB (hwf) (by simp only [F13, push_cast, reduceIte, Nat.reduceEqDiff, reduceCtorEq, Nat.reduceAdd, Nat.reduceLeDiff, Nat.reduceBEq]; exact rfl) (by first | exact .inl rfl | (right; simp only [F13, push_cast, reduceIte, Nat.reduceEqDiff, reduceCtorEq, Nat.reduceAdd, Nat.reduceLeDiff, Nat.reduceBEq]; try rfl)) (by first | rfl | assumption) (by simp) (by simp) (by (repeat first | exact (hwf).subm | exact (hwf).suba | refine Sub.drop (by simp) ?_)) (by (repeat first | exact (hwf).subm | exact (hwf).suba | refine Sub.drop (by simp) ?_)) (by (repeat first | exact (hwf).subx | refine ExSub.dropt (by simp) ?_ | refine ExSub.drop (by simp) ?_))
    · have fin : ∀ (o : Option (Nat × V)) (r : Int × Int), luk w [([112, 111, 115, 105, 116, 105, 111, 110], .int .i64 1), ([99, 111, 108, 111, 117, 114], .int .i64 2), ([98, 101, 97, 109], .int .i64 3)] 0 = o → attrN w = r → (o = none ∧ r = (0, 8) ∨ ∃ i c, o = some (i, .int .i64 c) ∧ r = (15 + c, 0) ∧ 0 ≤ c ∧ c ≤ 3) := fun o r ho hr => by
        unfold attrN at hr
        rw [if_neg hx] at hr
        simp only [luk, beq_iff_eq] at ho hr
        by_cases h1 : w = [112, 111, 115, 105, 116, 105, 111, 110]
        · rw [if_pos h1] at ho hr; subst ho; subst hr; exact .inr ⟨_, _, rfl, rfl, by decide, by decide⟩
        rw [if_neg h1] at ho hr
        by_cases h2 : w = [99, 111, 108, 111, 117, 114]
        · rw [if_pos h2] at ho hr; subst ho; subst hr; exact .inr ⟨_, _, rfl, rfl, by decide, by decide⟩
        rw [if_neg h2] at ho hr
        by_cases h3 : w = [98, 101, 97, 109]
        · rw [if_pos h3] at ho hr; subst ho; subst hr; exact .inr ⟨_, _, rfl, rfl, by decide, by decide⟩
        rw [if_neg h3] at ho hr
        subst ho; subst hr; exact .inl ⟨rfl, rfl⟩
      rcases fin _ _ rfl rfl with ⟨h1, h2⟩ | ⟨i, c, h1, h2, h3, h4⟩
      · rw [h1] at f3
        rw [h2]
        (repeat' first | ((first | refine go rfl rfl ?_ | refine Cl.by_ (by (first | refine contains1_v _ _ _ | refine fields_v _ hg | refine hi _)) ?_ | (refine Fk.by_ ?_ ?_ <;> intro hc <;> try simp only [hc]) | refine storeK_eq rfl ?_ | with_reducible refine And.intro ?_ ?_ | fail) <;> try simp only [he, hs, hx, f1, f2, f3, push_cast, reduceIte, Nat.reduceEqDiff, reduceCtorEq, Nat.reduceAdd, Nat.reduceLeDiff, Nat.reduceBEq]))
        all_goals refine finB (hwf) (by simp only [F13, push_cast, reduceIte, Nat.reduceEqDiff, reduceCtorEq, Nat.reduceAdd, Nat.reduceLeDiff, Nat.reduceBEq]; exact rfl) (by first | exact .inl rfl | (right; simp only [F13, push_cast, reduceIte, Nat.reduceEqDiff, reduceCtorEq, Nat.reduceAdd, Nat.reduceLeDiff, Nat.reduceBEq]; try rfl)) (by first | rfl | assumption) (by simp) (by simp) (by (repeat first | exact (hwf).subm | exact (hwf).suba | refine Sub.drop (by simp) ?_)) (by (repeat first | exact (hwf).subm | exact (hwf).suba | refine Sub.drop (by simp) ?_)) (by (repeat first | exact (hwf).subx | refine ExSub.dropt (by simp) ?_ | refine ExSub.drop (by simp) ?_))
      · rw [h1] at f3
        rw [h2]
        have hw : IntKind.i64.wrap (15 + c) = 15 + c := wrap64 (by omega) (by omega)
        (repeat' first | ((first | refine go rfl rfl ?_ | refine Cl.by_ (by (first | refine contains1_v _ _ _ | refine fields_v _ hg | refine hi _)) ?_ | (refine Fk.by_ ?_ ?_ <;> intro hc <;> try simp only [hc]) | refine storeK_eq rfl ?_ | with_reducible refine And.intro ?_ ?_ | fail) <;> try simp only [he, hs, hx, f1, f2, f3, hw, push_cast, reduceIte, Nat.reduceEqDiff, reduceCtorEq, Nat.reduceAdd, Nat.reduceLeDiff, Nat.reduceBEq]))
        all_goals refine finB (hwf) (by simp only [F13, push_cast, reduceIte, Nat.reduceEqDiff, reduceCtorEq, Nat.reduceAdd, Nat.reduceLeDiff, Nat.reduceBEq]; exact rfl) (by first | exact .inl rfl | (right; simp only [F13, push_cast, reduceIte, Nat.reduceEqDiff, reduceCtorEq, Nat.reduceAdd, Nat.reduceLeDiff, Nat.reduceBEq]; try rfl)) (by first | rfl | assumption) (by simp) (by simp) (by (repeat first | exact (hwf).subm | exact (hwf).suba | refine Sub.drop (by simp) ?_)) (by (repeat first | exact (hwf).subm | exact (hwf).suba | refine Sub.drop (by simp) ?_)) (by (repeat first | exact (hwf).subx | refine ExSub.dropt (by simp) ?_ | refine ExSub.drop (by simp) ?_))
end Go.Proofs.YtnondemehfkalaaGreatDoor

namespace Go.Proofs.YtnondemehfkalaaGreatDoor
open Go.Sha
/-- luminaire/level.Percent -/
def F169 : FT := ⟨21, 1, [.tmp 2, .tmp 3],
 [.seq 1 2,
 .reg [.s 2 (.mv (.i 0)),
 .s 3 (.mv (.i 0))],
 .seq 3 10,
 .seq 4 5,
 .reg [.s 6 (.m 0),
 .s 7 (.bin .eql (.t 6) (.w [102, 117, 108, 108]))],
 .cond (.t 7) 6 9,
 .seq 7 8,
 .reg [.s 2 (.mv (.i 65535)),
 .s 3 (.mv (.i 0))],
 .ret,
 .skip,
 .seq 11 12,
 .reg [.s 9 (.m 0),
 .s 10 (.f 205 [(.t 9)]),
 .s 8 (.m 10),
 .s 11 (.ext 0 (.t 8)),
 .s 12 (.ext 1 (.t 8)),
 .s 4 (.m 11),
 .s 5 (.m 12)],
 .seq 13 27,
 .block 0 14,
 .seq 15 16,
 .reg [.s 14 (.m 5),
 .s 15 (.un .not (.t 14)),
 .s 13 (.m 15)],
 .cond (.t 13) 17 20,
 .seq 18 19,
 .reg [.s 2 (.mv (.i 0)),
 .s 3 (.mv (.i 3))],
 .ret,
 .seq 21 22,
 .reg [.s 17 (.m 4),
 .s 18 (.bin .gtr (.t 17) (.i 100000)),
 .s 16 (.m 18)],
 .cond (.t 16) 23 26,
 .seq 24 25,
 .reg [.s 2 (.mv (.i 0)),
 .s 3 (.mv (.i 2))],
 .ret,
 .skip,
 .seq 28 29,
 .reg [.s 19 (.m 4),
 .s 20 (.f 206 [(.t 19)]),
 .s 2 (.m 20),
 .s 3 (.mv (.i 0))],
 .ret]⟩

/-- luminaire/level.thousandths -/
def F205 : FT := ⟨46, 1, [.tmp 2, .tmp 3],
 [.seq 1 2,
 .reg [.s 2 (.mv (.i 0)),
 .s 3 (.mv (.c (.bool false)))],
 .seq 3 4,
 .reg [.s 10 (.m 0),
 .s 11 (.f 35 [(.t 10), (.w [46])]),
 .s 9 (.m 11),
 .s 12 (.ext 0 (.t 9)),
 .s 13 (.ext 1 (.t 9)),
 .s 14 (.ext 2 (.t 9)),
 .s 4 (.m 12),
 .s 5 (.m 13),
 .s 6 (.m 14)],
 .seq 5 12,
 .seq 6 7,
 .reg [.s 15 (.m 4),
 .s 16 (.f 219 [(.t 15)]),
 .s 17 (.un .not (.t 16)),
 .s 18 (.m 17),
 .x 19 (.m 4) 18,
 .x 20 (.lens (.t 19)) 18,
 .x 21 (.bin .gtr (.t 20) (.i 1)) 18,
 .x 22 (.m 21) 18,
 .y 23 (.m 4) 22,
 .y 24 (.ichr (.t 23) (.i 0)) 22,
 .y 25 (.bin .eql (.t 24) (.c (.int .u8 48))) 22,
 .x 26 (.pick (.t 22) (.t 25) (.c (.bool false))) 18,
 .s 27 (.pick (.t 18) (.c (.bool true)) (.t 26)),
 .s 28 (.m 27),
 .x 29 (.m 6) 28,
 .x 30 (.m 29) 28,
 .y 31 (.m 5) 30,
 .y 32 (.f 219 [(.t 31)]) 30,
 .y 33 (.un .not (.t 32)) 30,
 .x 34 (.pick (.t 30) (.t 33) (.c (.bool false))) 28,
 .s 35 (.pick (.t 28) (.c (.bool true)) (.t 34))],
 .cond (.t 35) 8 11,
 .seq 9 10,
 .reg [.s 2 (.mv (.i 0)),
 .s 3 (.mv (.c (.bool false)))],
 .ret,
 .skip,
 .seq 13 14,
 .reg [.s 7 (.alloc 3 [(.i 0)]),
 .n (.store 1 (.t 7) (.i 0))],
 .seq 15 16,
 .reg [.s 36 (.mkfn (.func 220) [] [(.t 7)]),
 .s 8 (.m 36)],
 .seq 17 18,
 .reg [.s 37 (.m 8),
 .s 38 (.m 4),
 .s 39 (.call (.t 37) [(.t 38)])],
 .seq 19 20,
 .reg [.s 40 (.m 8),
 .s 41 (.m 5),
 .s 42 (.bin .add (.t 41) (.w [48, 48, 48])),
 .s 43 (.slices (.t 42) none (some (.i 3))),
 .s 44 (.call (.t 40) [(.t 43)])],
 .seq 21 22,
 .reg [.s 45 (.l 7),
 .s 2 (.m 45),
 .s 3 (.mv (.c (.bool true)))],
 .ret]⟩

/-- luminaire/level.of -/
def F206 : FT := ⟨7, 1, [.tmp 2],
 [.seq 1 2,
 .reg [.s 2 (.mv (.i 0))],
 .seq 3 4,
 .reg [.s 3 (.m 0),
 .s 4 (.bin .mul (.i 65535) (.t 3)),
 .s 5 (.bin .add (.t 4) (.i 50000)),
 .s 6 (.bin .quo (.t 5) (.i 100000)),
 .s 2 (.m 6)],
 .ret]⟩

/-- luminaire/number.Check -/
def F208 : FT := ⟨44, 1, [.tmp 2],
 [.seq 1 2,
 .reg [.s 2 (.mv (.i 0))],
 .seq 3 4,
 .reg [.s 3 (.alloc 221 [(.str []), (.str []), (.bool false)])],
 .seq 5 6,
 .reg [.s 8 (.m 0),
 .s 9 (.f 35 [(.t 8), (.w [46])]),
 .s 7 (.m 9),
 .s 10 (.ext 0 (.t 7)),
 .s 11 (.ext 1 (.t 7)),
 .s 12 (.ext 2 (.t 7)),
 .s 13 (.a 0 3),
 .n (.store 1 (.t 13) (.t 10)),
 .s 14 (.a 1 3),
 .n (.store 1 (.t 14) (.t 11)),
 .s 15 (.a 2 3),
 .n (.store 1 (.t 15) (.t 12))],
 .seq 7 8,
 .reg [.s 16 (.mkfn (.func 222) [] [(.t 3)]),
 .s 17 (.mkfn (.func 224) [] [(.t 3)]),
 .s 18 (.mkfn (.func 226) [] [(.t 3)]),
 .s 19 (.bslice 22 1 [(.t 16), (.t 17), (.t 18)]),
 .s 4 (.m 19)],
 .seq 9 31,
 .seq 10 11,
 .reg [.s 20 (.m 4),
 .s 21 (.len (.t 20)),
 .s 22 (.mv (.i 0))],
 .block 0 12,
 .loop 13,
 .seq 14 15,
 .reg [.s 23 (.bin .lss (.t 22) (.t 21))],
 .seq 16 19,
 .cond (.t 23) 17 18,
 .skip,
 .exit 0,
 .seq 20 30,
 .block 1 21,
 .seq 22 23,
 .reg [.s 24 (.iadr 1 (.t 20) (.t 22)),
 .s 25 (.l 24),
 .s 6 (.m 25)],
 .seq 24 25,
 .reg [.s 26 (.m 6),
 .s 27 (.call (.t 26) []),
 .s 28 (.un .not (.t 27))],
 .cond (.t 28) 26 29,
 .seq 27 28,
 .reg [.s 2 (.mv (.i 3))],
 .ret,
 .skip,
 .reg [.s 29 (.bin .add (.t 22) (.i 1)),
 .s 22 (.m 29)],
 .seq 32 39,
 .seq 33 34,
 .reg [.s 30 (.m 0),
 .s 31 (.bin .eql (.t 30) (.w [48])),
 .s 32 (.m 31),
 .x 33 (.a 0 3) 32,
 .x 34 (.l 33) 32,
 .x 35 (.lens (.t 34)) 32,
 .x 36 (.bin .gtr (.t 35) (.i 4)) 32,
 .s 37 (.pick (.t 32) (.c (.bool true)) (.t 36)),
 .s 38 (.m 37),
 .x 39 (.a 1 3) 38,
 .x 40 (.l 39) 38,
 .x 41 (.lens (.t 40)) 38,
 .x 42 (.bin .gtr (.t 41) (.i 3)) 38,
 .s 43 (.pick (.t 38) (.c (.bool true)) (.t 42))],
 .cond (.t 43) 35 38,
 .seq 36 37,
 .reg [.s 2 (.mv (.i 2))],
 .ret,
 .skip,
 .seq 40 41,
 .reg [.s 2 (.mv (.i 0))],
 .ret]⟩

/-- luminaire/level.digits -/
def F219 : FT := ⟨18, 1, [.tmp 2],
 [.seq 1 2,
 .reg [.s 2 (.mv (.c (.bool false)))],
 .seq 3 4,
 .reg [.s 3 (.mv (.c (.fn (.func 229) [] [])))],
 .seq 5 6,
 .reg [.s 4 (.m 0),
 .s 5 (.lens (.t 4)),
 .s 6 (.bin .geq (.t 5) (.i 1)),
 .s 7 (.m 6),
 .y 8 (.m 0) 7,
 .y 9 (.lens (.t 8)) 7,
 .y 10 (.bin .leq (.t 9) (.i 3)) 7,
 .s 11 (.pick (.t 7) (.t 10) (.c (.bool false))),
 .s 12 (.m 11),
 .y 13 (.m 0) 12,
 .y 14 (.m 3) 12,
 .y 15 (.f 230 [(.t 13), (.t 14)]) 12,
 .y 16 (.bin .lss (.t 15) (.i 0)) 12,
 .s 17 (.pick (.t 12) (.t 16) (.c (.bool false))),
 .s 2 (.m 17)],
 .ret]⟩

/-- luminaire/level.thousandths$1 -/
def F220 : FT := ⟨19, 1, [],
 [.seq 1 2,
 .reg [.s 5 (.m 0),
 .s 6 (.cvsb 5 (.t 5)),
 .s 7 (.len (.t 6)),
 .s 8 (.mv (.i 0))],
 .block 0 3,
 .loop 4,
 .seq 5 6,
 .reg [.s 9 (.bin .lss (.t 8) (.t 7))],
 .seq 7 10,
 .cond (.t 9) 8 9,
 .skip,
 .exit 0,
 .seq 11 15,
 .block 1 12,
 .seq 13 14,
 .reg [.s 10 (.iadr 1 (.t 6) (.t 8)),
 .s 11 (.l 10),
 .s 4 (.m 11)],
 .reg [.s 12 (.l 1),
 .s 13 (.bin .mul (.i 10) (.t 12)),
 .s 14 (.m 4),
 .s 15 (.bin .sub (.t 14) (.c (.int .u8 48))),
 .s 16 (.cvi .i64 (.t 15)),
 .s 17 (.bin .add (.t 13) (.t 16)),
 .n (.store 1 (.t 1) (.t 17))],
 .reg [.s 18 (.bin .add (.t 8) (.i 1)),
 .s 8 (.m 18)]]⟩

/-- luminaire/number.Check$1 -/
def F222 : FT := ⟨5, 0, [.tmp 1],
 [.seq 1 2,
 .reg [.s 1 (.mv (.c (.bool false)))],
 .seq 3 4,
 .reg [.s 2 (.a 0 0),
 .s 3 (.l 2),
 .s 4 (.f 223 [(.t 3)]),
 .s 1 (.m 4)],
 .ret]⟩

/-- luminaire/number.digits -/
def F223 : FT := ⟨10, 1, [.tmp 2],
 [.seq 1 2,
 .reg [.s 2 (.mv (.c (.bool false)))],
 .seq 3 4,
 .reg [.s 3 (.m 0),
 .s 4 (.bin .neq (.t 3) (.w [])),
 .s 5 (.m 4),
 .y 6 (.m 0) 5,
 .y 7 (.f 231 [(.t 6), (.c (.fn (.func 232) [] []))]) 5,
 .y 8 (.un .not (.t 7)) 5,
 .s 9 (.pick (.t 5) (.t 8) (.c (.bool false))),
 .s 2 (.m 9)],
 .ret]⟩

/-- luminaire/number.Check$2 -/
def F224 : FT := ⟨16, 0, [.tmp 1],
 [.seq 1 2,
 .reg [.s 1 (.mv (.c (.bool false)))],
 .seq 3 4,
 .reg [.s 2 (.a 2 0),
 .s 3 (.l 2),
 .s 4 (.un .not (.t 3)),
 .s 5 (.m 4),
 .x 6 (.a 1 0) 5,
 .x 7 (.l 6) 5,
 .x 8 (.f 223 [(.t 7)]) 5,
 .x 9 (.m 8) 5,
 .y 10 (.a 1 0) 9,
 .y 11 (.l 10) 9,
 .y 12 (.f 225 [(.t 11), (.w [48])]) 9,
 .y 13 (.un .not (.t 12)) 9,
 .x 14 (.pick (.t 9) (.t 13) (.c (.bool false))) 5,
 .s 15 (.pick (.t 5) (.c (.bool true)) (.t 14)),
 .s 1 (.m 15)],
 .ret]⟩

/-- luminaire/number.Check$3 -/
def F226 : FT := ⟨12, 0, [.tmp 1],
 [.seq 1 2,
 .reg [.s 1 (.mv (.c (.bool false)))],
 .seq 3 4,
 .reg [.s 2 (.a 0 0),
 .s 3 (.l 2),
 .s 4 (.lens (.t 3)),
 .s 5 (.bin .eql (.t 4) (.i 1)),
 .s 6 (.m 5),
 .x 7 (.a 0 0) 6,
 .x 8 (.l 7) 6,
 .x 9 (.ichr (.t 8) (.i 0)) 6,
 .x 10 (.bin .neq (.t 9) (.c (.int .u8 48))) 6,
 .s 11 (.pick (.t 6) (.c (.bool true)) (.t 10)),
 .s 1 (.m 11)],
 .ret]⟩

/-- strings.IndexFunc -/
def F230 : FT := ⟨8, 2, [.tmp 4],
 [.seq 1 2,
 .reg [.s 4 (.mv (.i 0))],
 .seq 3 4,
 .reg [.s 5 (.m 0),
 .s 6 (.m 1),
 .s 7 (.f 233 [(.t 5), (.t 6), (.c (.bool true))]),
 .s 4 (.m 7)],
 .ret]⟩

/-- strings.ContainsFunc -/
def F231 : FT := ⟨9, 2, [.tmp 4],
 [.seq 1 2,
 .reg [.s 4 (.mv (.c (.bool false)))],
 .seq 3 4,
 .reg [.s 5 (.m 0),
 .s 6 (.m 1),
 .s 7 (.f 230 [(.t 5), (.t 6)]),
 .s 8 (.bin .geq (.t 7) (.i 0)),
 .s 4 (.m 8)],
 .ret]⟩

theorem F169_ok : compFn Tryz.prog 169 = some F169 := by kernel_rfl
theorem F205_ok : compFn Tryz.prog 205 = some F205 := by kernel_rfl
theorem F206_ok : compFn Tryz.prog 206 = some F206 := by kernel_rfl
theorem F208_ok : compFn Tryz.prog 208 = some F208 := by kernel_rfl
theorem F219_ok : compFn Tryz.prog 219 = some F219 := by kernel_rfl
theorem F220_ok : compFn Tryz.prog 220 = some F220 := by kernel_rfl
theorem F222_ok : compFn Tryz.prog 222 = some F222 := by kernel_rfl
theorem F223_ok : compFn Tryz.prog 223 = some F223 := by kernel_rfl
theorem F224_ok : compFn Tryz.prog 224 = some F224 := by kernel_rfl
theorem F226_ok : compFn Tryz.prog 226 = some F226 := by kernel_rfl
theorem F230_ok : compFn Tryz.prog 230 = some F230 := by kernel_rfl
theorem F231_ok : compFn Tryz.prog 231 = some F231 := by kernel_rfl
end Go.Proofs.YtnondemehfkalaaGreatDoor

set_option maxRecDepth 10000
namespace Go.Proofs.YtnondemehfkalaaGreatDoor
open Go.Sha Go.RowKit

def othR (r : Nat) : Bool := decide (r < 48) || decide (57 < r)
theorem pred229 (w : World) : PredAt Tryz.prog 229 #[] encR othR w := fun W r _ => by
  unfold FnGives
  by_cases h1 : r < 48 <;> by_cases h2 : 57 < r
  all_goals
    have z1 : (r : Int) < 48 ↔ r < 48 := by omega
    have z2 : (57 : Int) < (r : Int) ↔ 57 < r := by omega
    go_enter Tryz.func229, Tryz.ntmps229
    go_wp2
    all_goals first | (exfalso; omega) | (go_ret; exact ⟨by simp [othR, h1, h2], 0, rfl⟩)
theorem pred232 (w : World) : PredAt Tryz.prog 232 #[] encR othR w := fun W r _ => by
  unfold FnGives
  by_cases h1 : r < 48 <;> by_cases h2 : 57 < r
  all_goals
    have z1 : (r : Int) < 48 ↔ r < 48 := by omega
    have z2 : (57 : Int) < (r : Int) ↔ 57 < r := by omega
    go_enter Tryz.func232, Tryz.ntmps232
    go_wp2
    all_goals first | (exfalso; omega) | (go_ret; exact ⟨by simp [othR, h1, h2], 0, rfl⟩)

theorem oth_from (s : ByteArray) : ∀ (f pos : Nat), s.size ≤ pos + f → (decide (Lib.idxFuncFrom othR true s f pos < 0)) = (s.data.toList.drop pos).all digB
  | 0, pos, h => by
    rw [List.drop_eq_nil_of_le (by rw [Array.length_toList]; exact h)]; rfl
  | f + 1, pos, h => by
    unfold Lib.idxFuncFrom
    by_cases hp : pos < s.size
    · have hp' : pos < s.data.toList.length := by rw [Array.length_toList]; exact hp
      have hb : s.data.toList[pos]'hp' = s[pos]'hp := rfl
      rw [if_pos hp, List.drop_eq_getElem_cons hp', List.all_cons, hb]
      by_cases ha : (s[pos]'hp).toNat < 128
      · rw [decode_ascii s pos hp ha]
        have ih := oth_from s f (pos + 1) (by omega)
        cases hd : digB (s[pos]'hp) with
        | true =>
          have : ¬ othR (s[pos]'hp).toNat = true := by
            simp only [digB, isDig, Bool.and_eq_true, decide_eq_true_eq] at hd
            simp only [othR, Bool.or_eq_true, decide_eq_true_eq]; omega
          rw [if_neg this, ih]; rfl
        | false =>
          have : othR (s[pos]'hp).toNat = true := by
            simp only [digB, isDig, Bool.and_eq_false_iff, decide_eq_false_iff_not] at hd
            simp only [othR, Bool.or_eq_true, decide_eq_true_eq]; omega
          rw [if_pos this]
          simp
      · obtain ⟨h1, h2⟩ := decode_high s pos hp (by omega)
        have : othR (Utf8.decode s pos).1 = true := by
          simp only [othR, Bool.or_eq_true, decide_eq_true_eq]; omega
        have hd : digB (s[pos]'hp) = false := by
          simp only [digB, isDig, Bool.and_eq_false_iff, decide_eq_false_iff_not]; omega
        rw [if_pos this, hd]
        simp
    · rw [if_neg hp, List.drop_eq_nil_of_le (by rw [Array.length_toList]; exact Nat.le_of_not_lt hp)]; rfl
theorem oth_idx (s : List UInt8) : decide (Lib.idxFunc othR true ⟨s.toArray⟩ < 0) = s.all digB := by
  have := oth_from ⟨s.toArray⟩ s.length 0 (by simp [ByteArray.size])
  simpa [Lib.idxFunc, ByteArray.size] using this

theorem Reps_three {w : World} {A : Abs} {vs : List Value} {a b c : V} (h : Reps w A vs [a, b, c]) : ∃ u v x, vs = [u, v, x] ∧ Rep w A u a ∧ Rep w A v b ∧ Rep w A x c := by
  obtain ⟨h1, h2⟩ := h
  match vs, h1 with
  | [u, v, x], _ => exact ⟨u, v, x, rfl, h2 0 u a rfl rfl, h2 1 v b rfl rfl, h2 2 x c rfl rfl⟩
theorem callable233 : Callable Tryz.prog 233 := ⟨_, Tryz.func233, by kernel_rfl, by kernel_rfl⟩
theorem idxf_v (g : Nat) (eg : ∀ args w, (callFunc g args).run Tryz.prog w = .ok (.enter g args) w) (hp : ∀ w, PredAt Tryz.prog g #[] encR othR w) (s : List UInt8) (st : St) :
    VRet Tryz.prog 233 [.str s, .fn (.func g) [] [], .bool true] st (.int .i64 (Lib.idxFunc othR true ⟨s.toArray⟩)) st := by
  refine VRet_of_below callable233 (fun w A vs hw ha => ?_)
  obtain ⟨u, v, x, rfl, h1, h2, h3⟩ := Reps_three ha
  have e1 := h1.str_inv
  subst e1
  cases h3
  cases h2 with
  | fn f vs us cs ds hl hk hr hs =>
    have := List.eq_nil_of_length_eq_zero hl
    have := List.eq_nil_of_length_eq_zero hk
    subst_vars
    refine (Tryz.strings_indexFunc g #[] eg othR true ⟨s.toArray⟩ w (hp w)).mono fun e w' ⟨he, hb⟩ => ?_
    subst he
    exact ⟨_, rfl, fun w' A' => .int _ _, hb⟩
theorem eg229 : ∀ args w, (callFunc 229 args).run Tryz.prog w = .ok (.enter 229 args) w := enters_of Tryz.func229 (by kernel_rfl) rfl
theorem eg232 : ∀ args w, (callFunc 232 args).run Tryz.prog w = .ok (.enter 232 args) w := enters_of Tryz.func232 (by kernel_rfl) rfl
theorem indexfunc_v (s : List UInt8) (st : St) : VRet Tryz.prog 230 [.str s, .fn (.func 229) [] []] st (.int .i64 (Lib.idxFunc othR true ⟨s.toArray⟩)) st := by
  refine VCalls_of F230_ok mixed (Nat.le_of_ble_eq_true rfl) (fun hwf => ?_)
  (repeat' first | ((first | refine go rfl rfl ?_ | refine Cl.by_ (by (first | refine idxf_v 229 eg229 pred229 _ _)) ?_ | (refine Fk.by_ ?_ ?_ <;> intro hc <;> try simp only [hc]) | refine storeK_eq rfl ?_ | with_reducible refine And.intro ?_ ?_ | fail) <;> try simp only [push_cast, reduceIte, Nat.reduceEqDiff, reduceCtorEq, Nat.reduceAdd, Nat.reduceLeDiff, Nat.reduceBEq]))
  all_goals refine finB (hwf) (by simp only [F230, push_cast, reduceIte, Nat.reduceEqDiff, reduceCtorEq, Nat.reduceAdd, Nat.reduceLeDiff, Nat.reduceBEq]; exact rfl) (by first | exact .inl rfl | (right; simp only [F230, push_cast, reduceIte, Nat.reduceEqDiff, reduceCtorEq, Nat.reduceAdd, Nat.reduceLeDiff, Nat.reduceBEq]; try rfl)) (by first | rfl | assumption) (by simp) (by simp) (by (repeat first | exact (hwf).subm | exact (hwf).suba | refine Sub.drop (by simp) ?_)) (by (repeat first | exact (hwf).subm | exact (hwf).suba | refine Sub.drop (by simp) ?_)) (by (repeat first | exact (hwf).subx | refine ExSub.dropt (by simp) ?_ | refine ExSub.drop (by simp) ?_))
theorem indexfunc2_v (s : List UInt8) (st : St) : VRet Tryz.prog 230 [.str s, .fn (.func 232) [] []] st (.int .i64 (Lib.idxFunc othR true ⟨s.toArray⟩)) st := by
  refine VCalls_of F230_ok mixed (Nat.le_of_ble_eq_true rfl) (fun hwf => ?_)
  (repeat' first | ((first | refine go rfl rfl ?_ | refine Cl.by_ (by (first | refine idxf_v 232 eg232 pred232 _ _)) ?_ | (refine Fk.by_ ?_ ?_ <;> intro hc <;> try simp only [hc]) | refine storeK_eq rfl ?_ | with_reducible refine And.intro ?_ ?_ | fail) <;> try simp only [push_cast, reduceIte, Nat.reduceEqDiff, reduceCtorEq, Nat.reduceAdd, Nat.reduceLeDiff, Nat.reduceBEq]))
  all_goals refine finB (hwf) (by simp only [F230, push_cast, reduceIte, Nat.reduceEqDiff, reduceCtorEq, Nat.reduceAdd, Nat.reduceLeDiff, Nat.reduceBEq]; exact rfl) (by first | exact .inl rfl | (right; simp only [F230, push_cast, reduceIte, Nat.reduceEqDiff, reduceCtorEq, Nat.reduceAdd, Nat.reduceLeDiff, Nat.reduceBEq]; try rfl)) (by first | rfl | assumption) (by simp) (by simp) (by (repeat first | exact (hwf).subm | exact (hwf).suba | refine Sub.drop (by simp) ?_)) (by (repeat first | exact (hwf).subm | exact (hwf).suba | refine Sub.drop (by simp) ?_)) (by (repeat first | exact (hwf).subx | refine ExSub.dropt (by simp) ?_ | refine ExSub.drop (by simp) ?_))
theorem ldigits_v (s : List UInt8) (st : St) : VRet Tryz.prog 219 [.str s] st (.bool (dig3 s)) st := by
  have ho := oth_idx s
  have hR : dig3 s = ((decide ((1 : Int) ≤ (s.length : Int)) && decide ((s.length : Int) ≤ 3)) && decide (Lib.idxFunc othR true ⟨s.toArray⟩ < 0)) := by
    rw [ho]; unfold dig3
    congr 1; congr 1
    · rw [decide_eq_decide]; omega
    · rw [decide_eq_decide]; omega
  refine VCalls_of F219_ok mixed (Nat.le_of_ble_eq_true rfl) (fun hwf => ?_)
  (repeat' first | ((first | refine go rfl rfl ?_ | refine Cl.by_ (by (first | refine indexfunc_v _ _)) ?_ | (refine Fk.by_ ?_ ?_ <;> intro hc <;> try simp only [hc]) | refine storeK_eq rfl ?_ | with_reducible refine And.intro ?_ ?_ | fail) <;> try simp only [push_cast, reduceIte, Nat.reduceEqDiff, reduceCtorEq, Nat.reduceAdd, Nat.reduceLeDiff, Nat.reduceBEq]))
  all_goals exact finRet0 hwf rfl (by rw [hR]; simp [resOne, *]) rfl
theorem containsfunc_v (s : List UInt8) (st : St) : VRet Tryz.prog 231 [.str s, .fn (.func 232) [] []] st (.bool (decide (0 ≤ Lib.idxFunc othR true ⟨s.toArray⟩))) st := by
  refine VCalls_of F231_ok mixed (Nat.le_of_ble_eq_true rfl) (fun hwf => ?_)
  (repeat' first | ((first | refine go rfl rfl ?_ | refine Cl.by_ (by (first | refine indexfunc2_v _ _)) ?_ | (refine Fk.by_ ?_ ?_ <;> intro hc <;> try simp only [hc]) | refine storeK_eq rfl ?_ | with_reducible refine And.intro ?_ ?_ | fail) <;> try simp only [push_cast, reduceIte, Nat.reduceEqDiff, reduceCtorEq, Nat.reduceAdd, Nat.reduceLeDiff, Nat.reduceBEq]))
  all_goals refine finB (hwf) (by simp only [F231, push_cast, reduceIte, Nat.reduceEqDiff, reduceCtorEq, Nat.reduceAdd, Nat.reduceLeDiff, Nat.reduceBEq]; exact rfl) (by first | exact .inl rfl | (right; simp only [F231, push_cast, reduceIte, Nat.reduceEqDiff, reduceCtorEq, Nat.reduceAdd, Nat.reduceLeDiff, Nat.reduceBEq]; try rfl)) (by first | rfl | assumption) (by simp) (by simp) (by (repeat first | exact (hwf).subm | exact (hwf).suba | refine Sub.drop (by simp) ?_)) (by (repeat first | exact (hwf).subm | exact (hwf).suba | refine Sub.drop (by simp) ?_)) (by (repeat first | exact (hwf).subx | refine ExSub.dropt (by simp) ?_ | refine ExSub.drop (by simp) ?_))
theorem ndigits_v (s : List UInt8) (st : St) : VRet Tryz.prog 223 [.str s] st (.bool (digs1 s)) st := by
  have ho := oth_idx s
  have hR : digs1 s = ((s != []) && !decide (0 ≤ Lib.idxFunc othR true ⟨s.toArray⟩)) := by
    unfold digs1
    rw [← ho]; congr 1
    rw [Bool.eq_iff_iff]; simp
  refine VCalls_of F223_ok mixed (Nat.le_of_ble_eq_true rfl) (fun hwf => ?_)
  (repeat' first | ((first | refine go rfl rfl ?_ | refine Cl.by_ (by (first | refine containsfunc_v _ _)) ?_ | (refine Fk.by_ ?_ ?_ <;> intro hc <;> try simp only [hc]) | refine storeK_eq rfl ?_ | with_reducible refine And.intro ?_ ?_ | fail) <;> try simp only [push_cast, reduceIte, Nat.reduceEqDiff, reduceCtorEq, Nat.reduceAdd, Nat.reduceLeDiff, Nat.reduceBEq]))
  all_goals exact finRet0 hwf rfl (by rw [hR]; simp [resOne, *]) rfl
end Go.Proofs.YtnondemehfkalaaGreatDoor

set_option maxRecDepth 10000
namespace Go.Proofs.YtnondemehfkalaaGreatDoor
open Go.Sha Go.RowKit

def foldN (n : Nat) (s : List UInt8) : Nat := s.foldl (fun n b => 10 * n + (b.toNat - 48)) n
theorem foldN_snoc {n : Nat} {s : List UInt8} {b : UInt8} : foldN n (s ++ [b]) = 10 * foldN n s + (b.toNat - 48) := by simp [foldN]
theorem foldN_app {n : Nat} {s t : List UInt8} : foldN n (s ++ t) = foldN (foldN n s) t := by simp [foldN]
theorem foldN_le : ∀ (s : List UInt8) (n m : Nat), s.all digB = true → n ≤ m → foldN n s ≤ 10 ^ s.length * (m + 1) - 1
  | [], n, m, _, h => by simp [foldN]; omega
  | b :: s, n, m, h, hn => by
    simp only [List.all_cons, Bool.and_eq_true] at h
    have hb : 48 ≤ b.toNat ∧ b.toNat ≤ 57 := by have := h.1; simp only [digB, isDig, Bool.and_eq_true, decide_eq_true_eq] at this; omega
    have ih := foldN_le s (10 * n + (b.toNat - 48)) (10 * m + 9) h.2 (by omega)
    have e : foldN n (b :: s) = foldN (10 * n + (b.toNat - 48)) s := rfl
    rw [e, List.length_cons, Nat.pow_succ]
    have : 10 ^ s.length * (10 * m + 9 + 1) = 10 ^ s.length * 10 * (m + 1) := by rw [Nat.mul_assoc]; congr 1
    omega
theorem fold_v (s : List UInt8) (st : St) (id n : Nat) (h : Sha.look st.mem id = some [.int .i64 n]) (hd : s.all digB = true) (hl : s.length ≤ 3) (hn : n ≤ 999) :
    VRet Tryz.prog 220 [.str s, .ptr id 0] st (.tup []) ⟨st.nx, updM st.mem id [.int .i64 (foldN n s)], st.arr, st.x⟩ := by
  refine VCalls_of F220_ok mixed (Nat.le_of_ble_eq_true rfl) (fun hwf => ?_)
  have hid := (hwf.mem _ _ h).1
  have hlm : (s.map bV).length = s.length := by simp
  have hmx : s.length ≤ maxLen := by unfold maxLen; omega
  have hbV : ∀ m, V.bdL m (s.map bV) = true := fun m => bdL_map fun _ _ => rfl
  (repeat' first | ((first | refine go rfl rfl ?_ | (refine Fk.by_ ?_ ?_ <;> intro hc <;> try simp only [hc]) | refine storeK_eq rfl ?_ | with_reducible refine And.intro ?_ ?_ | fail) <;> try simp only [hlm, hmx, push_cast, reduceIte, Nat.reduceEqDiff, reduceCtorEq, Nat.reduceAdd, Nat.reduceLeDiff, Nat.reduceBEq]))
  have hW := hwf.put (id := id) (cs := [.int .i64 (foldN n s)]) rfl
  refine WT_loop rfl (fun m e z => ∃ j : Nat, m = s.length - j ∧ j ≤ s.length ∧ e = [(8, .int .i64 (j : Int)), (7, .int .i64 (s.length : Int)), (6, .osl st.nx s.length), (0, .str s), (1, .ptr id 0)] ∧ z = ⟨st.nx + 1, updM st.mem id [.int .i64 (foldN n (s.take j))], (st.nx, ⟨5, 1, s.map bV, true, true⟩) :: st.arr, st.x⟩) (st.nx + 1) (Nat.le_refl _) (by rintro _ _ _ ⟨j, _, _, _, rfl⟩; rfl)
    ⟨_, _, _, ⟨0, rfl, Nat.zero_le _, rfl, by rw [updM_self (by simpa [foldN] using h)]⟩, (by repeat first | exact .nil | refine .cons (by first | rfl | (simp [V.bd, V.bdL]; try first | omega | assumption)) (by first | rfl | simp only [push_cast, reduceIte, Nat.reduceEqDiff, reduceCtorEq, Nat.reduceAdd, Nat.reduceLeDiff, Nat.reduceBEq]) ?_), .refl (hwf.newA (hbV _))⟩ ?_
  rintro m e z ⟨j, rfl, hj, rfl, rfl⟩
  rcases Nat.lt_or_ge j s.length with hlt | hge
  · obtain ⟨b, hb⟩ : ∃ b, s[j]? = some b := ⟨_, List.getElem?_eq_getElem hlt⟩
    obtain ⟨q1, q2⟩ := List.getElem?_eq_some_iff.1 hb
    have hdb : 48 ≤ b.toNat ∧ b.toNat ≤ 57 := by
      have := List.all_eq_true.1 hd b (List.mem_of_getElem? hb)
      simp only [digB, isDig, Bool.and_eq_true, decide_eq_true_eq] at this; omega
    have hle := foldN_le (s.take j) n 999 (take_all hd) hn
    have hp : 10 ^ (s.take j).length * (999 + 1) - 1 ≤ 999999 := by
      have : (s.take j).length ≤ 3 := by rw [List.length_take]; omega
      have := Nat.pow_le_pow_right (n := 10) (by omega) this
      have := Nat.mul_le_mul_right 1000 this
      omega
    have h2 : decide ((j : Int) < (s.length : Int)) = true := decide_eq_true (by omega)
    have hwr : IntKind.i64.wrap ((j : Int) + 1) = (j : Int) + 1 := wrap64 (by omega) (by omega)
    have w1 : IntKind.u8.wrap ((b.toNat : Int) - 48) = (b.toNat : Int) - 48 := by
      show ((b.toNat : Int) - 48) % 256 = _
      omega
    have w2 : IntKind.i64.wrap ((b.toNat : Int) - 48) = (b.toNat : Int) - 48 := wrap64 (by omega) (by omega)
    have w3 : IntKind.i64.wrap (10 * (foldN n (s.take j) : Int)) = 10 * (foldN n (s.take j) : Int) := wrap64 (by omega) (by omega)
    have w4 : IntKind.i64.wrap (10 * (foldN n (s.take j) : Int) + ((b.toNat : Int) - 48)) = (foldN n (s.take (j + 1)) : Int) := by
      rw [wrap64 (by omega) (by omega), List.take_add_one, hb]
      simp only [Option.toList]
      rw [foldN_snoc]; omega
    have e1 : (st.nx = id) = False := eq_false (by omega)
    (repeat' first | ((first | refine go rfl rfl ?_ | (refine Fk.by_ ?_ ?_ <;> intro hc <;> try simp only [hc]) | refine storeK_eq rfl ?_ | with_reducible refine And.intro ?_ ?_ | fail) <;> try simp only [h2, hwr, hb, hlt, hlm, look_updM, updM_updM, h, w1, w2, w3, w4, e1, push_cast, reduceIte, Nat.reduceEqDiff, reduceCtorEq, Nat.reduceAdd, Nat.reduceLeDiff, Nat.reduceBEq]))
    exact ⟨_, _, _, by omega, ⟨j + 1, rfl, by omega, rfl, rfl⟩, (by repeat first | exact .nil | refine .cons (by first | rfl | (simp [V.bd, V.bdL]; try first | omega | assumption)) (by first | rfl | simp only [push_cast, reduceIte, Nat.reduceEqDiff, reduceCtorEq, Nat.reduceAdd, Nat.reduceLeDiff, Nat.reduceBEq]) ?_), .refl ((hwf.put (cs := [.int .i64 (foldN n (s.take (j + 1)))]) rfl).newA (hbV _))⟩
  · have h2 : decide ((j : Int) < (s.length : Int)) = false := decide_eq_false (by omega)
    have ej : j = s.length := by omega
    subst ej
    rw [List.take_length]
    (repeat' first | ((first | refine go rfl rfl ?_ | (refine Fk.by_ ?_ ?_ <;> intro hc <;> try simp only [hc]) | refine storeK_eq rfl ?_ | with_reducible refine And.intro ?_ ?_ | fail) <;> try simp only [h2, push_cast, reduceIte, Nat.reduceEqDiff, reduceCtorEq, Nat.reduceAdd, Nat.reduceLeDiff, Nat.reduceBEq]))
    refine finB (hW) (by simp only [F220, push_cast, reduceIte, Nat.reduceEqDiff, reduceCtorEq, Nat.reduceAdd, Nat.reduceLeDiff, Nat.reduceBEq]; exact rfl) (by first | exact .inl rfl | (right; simp only [F220, push_cast, reduceIte, Nat.reduceEqDiff, reduceCtorEq, Nat.reduceAdd, Nat.reduceLeDiff, Nat.reduceBEq]; try rfl)) (by first | rfl | assumption) (by simp) (by simp) (by (repeat first | exact (hW).subm | exact (hW).suba | refine Sub.drop (by simp) ?_)) (by (repeat first | exact (hW).subm | exact (hW).suba | refine Sub.drop (by simp) ?_)) (by (repeat first | exact (hW).subx | refine ExSub.dropt (by simp) ?_ | refine ExSub.drop (by simp) ?_))
theorem numD_app {s t : List UInt8} : numD (s ++ t) = foldN (foldN 0 s) t := by rw [← foldN_app]; rfl
theorem dig3_ok {s : List UInt8} (h : dig3 s = true) : s.length ≤ 3 ∧ s.all digB = true := by
  simp only [dig3, Bool.and_eq_true, decide_eq_true_eq] at h; exact ⟨h.1.2, h.2⟩
def thBad (s : List UInt8) : Bool := !(dig3 (cutW 46 s)) || (decide (1 < ((cutW 46 s).length : Int)) && (cutW 46 s)[0]? == some 48) || (cutP 46 s && !(dig3 (cutR 46 s)))
theorem thouN_eq (s : List UInt8) : thouN s = if thBad s = true then none else some (numD (cutW 46 s ++ (cutR 46 s ++ [48, 48, 48]).take 3)) := by
  unfold thouN thBad
  have : decide (1 < ((cutW 46 s).length : Int)) = decide (1 < (cutW 46 s).length) := by rw [decide_eq_decide]; omega
  rw [this]
theorem thou_v (s : List UInt8) (st : St) (hs : s.length < 140737488355328) : VRet Tryz.prog 205 [.str s] st (.tup [.int .i64 ((thouN s).getD 0), .bool (thouN s).isSome]) st := by
  have h1 : (cutW 46 s).length ≤ s.length := by unfold cutW; rw [List.length_take]; omega
  have h2 : (cutR 46 s).length ≤ s.length := by unfold cutR; rw [List.length_drop]; omega
  have hl4 : (cutR 46 s).length ≤ 9223372036854775804 := by omega
  have hok : thBad s = false → ((cutW 46 s).length ≤ 3 ∧ (cutW 46 s).all digB = true) ∧ (cutR 46 s).all digB = true := fun h => by
    simp only [thBad, Bool.or_eq_false_iff, Bool.not_eq_false'] at h
    refine ⟨dig3_ok h.1.1, ?_⟩
    cases hp : cutP 46 s with
    | false => rw [cutR_none hp]; rfl
    | true =>
      have := h.2
      rw [hp] at this
      simp only [Bool.true_and, Bool.not_eq_false'] at this
      exact (dig3_ok this).2
  have hv1 : thBad s = false → ∀ (st' : St) (id : Nat), Sha.look st'.mem id = some [.int .i64 0] → VRet Tryz.prog 220 [.str (cutW 46 s), .ptr id 0] st' (.tup []) ⟨st'.nx, updM st'.mem id [.int .i64 (foldN 0 (cutW 46 s))], st'.arr, st'.x⟩ := fun h st' id hm => fold_v _ _ _ 0 hm (hok h).1.2 (hok h).1.1 (by omega)
  have hT : ((cutR 46 s ++ [48, 48, 48]).take 3).length ≤ 3 := by rw [List.length_take]; omega
  have hv2 : thBad s = false → ∀ (st' : St) (id : Nat), Sha.look st'.mem id = some [.int .i64 (foldN 0 (cutW 46 s))] → VRet Tryz.prog 220 [.str ((cutR 46 s ++ [48, 48, 48]).take 3), .ptr id 0] st' (.tup []) ⟨st'.nx, updM st'.mem id [.int .i64 (numD (cutW 46 s ++ (cutR 46 s ++ [48, 48, 48]).take 3))], st'.arr, st'.x⟩ := fun h st' id hm => by
    rw [numD_app]
    have h3 : (cutR 46 s ++ [48, 48, 48]).all digB = true := by rw [List.all_append, (hok h).2]; rfl
    have hb := foldN_le (cutW 46 s) 0 0 (hok h).1.2 (by omega)
    have hp := Nat.pow_le_pow_right (n := 10) (by omega) (hok h).1.1
    exact fold_v _ _ _ _ hm (take_all h3) hT (by omega)
  have hT2 := thouN_eq s
  have hcut := cut_v s 46 st (by omega)
  refine VCalls_of F205_ok mixed (Nat.le_of_ble_eq_true rfl) (fun hwf => ?_)
  cases hb : thBad s with
  | true =>
    rw [hb, if_pos rfl] at hT2
    rw [hT2]
    unfold thBad at hb
    clear hv1 hv2 hT hT2 hok
    generalize cutW 46 s = W at *
    cases W with
    | nil =>
      have hd0 : dig3 [] = false := rfl
      (repeat' first | ((first | refine go rfl rfl ?_ | refine Cl.by_ (by (first | refine hcut | refine ldigits_v _ _)) ?_ | (refine Fk.by_ ?_ ?_ <;> intro hc <;> try simp only [hc]) | refine storeK_eq rfl ?_ | with_reducible refine And.intro ?_ ?_ | fail) <;> try simp only [hd0, push_cast, reduceIte, Nat.reduceEqDiff, reduceCtorEq, Nat.reduceAdd, Nat.reduceLeDiff, Nat.reduceBEq]))
      all_goals exact finRet0 hwf rfl rfl rfl
    | cons b t =>
      have h0' : (((b.toNat : Int)) == 48) = ((b :: t)[0]? == some 48) := by
        rw [Bool.eq_iff_iff]; simp only [beq_iff_eq, List.getElem?_cons_zero, Option.some.injEq]
        constructor
        · intro h; exact UInt8.toNat_inj.1 (by have : (48 : UInt8).toNat = 48 := rfl; omega)
        · rintro rfl; rfl
      have hl : decide (1 < ((b :: t).length : Int)) = decide (1 < (t.length : Int) + 1) := by rw [List.length_cons]; norm_cast
      rw [hl] at hb
      simp only [List.getElem?_cons_zero] at hb h0'
      (repeat' first | ((first | refine go rfl rfl ?_ | refine Cl.by_ (by (first | refine hcut | refine ldigits_v _ _)) ?_ | (refine Fk.by_ ?_ ?_ <;> intro hc <;> try simp only [hc]) | refine storeK_eq rfl ?_ | with_reducible refine And.intro ?_ ?_ | fail) <;> try simp only [h0', push_cast, reduceIte, Nat.reduceEqDiff, reduceCtorEq, Nat.reduceAdd, Nat.reduceLeDiff, Nat.reduceBEq]))
      all_goals first | exact finRet0 hwf rfl rfl rfl | (exfalso; simp [*] at hb; done)
  | false =>
    rw [hb, if_neg Bool.false_ne_true] at hT2
    rw [hT2]
    have hv1' := hv1 hb
    have hv2' := hv2 hb
    unfold thBad at hb
    clear hv1 hv2 hT hT2 hok
    generalize cutW 46 s = W at *
    cases W with
    | nil => simp [dig3] at hb
    | cons b t =>
      have h0' : (((b.toNat : Int)) == 48) = ((b :: t)[0]? == some 48) := by
        rw [Bool.eq_iff_iff]; simp only [beq_iff_eq, List.getElem?_cons_zero, Option.some.injEq]
        constructor
        · intro h; exact UInt8.toNat_inj.1 (by have : (48 : UInt8).toNat = 48 := rfl; omega)
        · rintro rfl; rfl
      have hl : decide (1 < ((b :: t).length : Int)) = decide (1 < (t.length : Int) + 1) := by rw [List.length_cons]; norm_cast
      rw [hl] at hb
      simp only [List.getElem?_cons_zero] at hb h0'
      (repeat' first | ((first | refine go rfl rfl ?_ | refine Cl.by_ (by (first | refine hcut | refine ldigits_v _ _ | refine hv1' _ _ (by simp [Sha.look]) | refine hv2' _ _ (by simp [Sha.look, look_updM, updM]))) ?_ | (refine Fk.by_ ?_ ?_ <;> intro hc <;> try simp only [hc]) | refine storeK_eq rfl ?_ | with_reducible refine And.intro ?_ ?_ | fail) <;> try simp only [hl4, sl3, h0', push_cast, reduceIte, Nat.reduceEqDiff, reduceCtorEq, Nat.reduceAdd, Nat.reduceLeDiff, Nat.reduceBEq]))
      all_goals first | (exfalso; simp [*] at hb; done) | refine finB (hwf) (by simp only [F205, push_cast, reduceIte, Nat.reduceEqDiff, reduceCtorEq, Nat.reduceAdd, Nat.reduceLeDiff, Nat.reduceBEq]; exact rfl) (by first | exact .inl rfl | (right; simp only [F205, push_cast, reduceIte, Nat.reduceEqDiff, reduceCtorEq, Nat.reduceAdd, Nat.reduceLeDiff, Nat.reduceBEq]; try rfl)) (by first | rfl | assumption) (by simp) (by simp) (by (repeat first | exact (hwf).subm | exact (hwf).suba | refine Sub.drop (by simp) ?_)) (by (repeat first | exact (hwf).subm | exact (hwf).suba | refine Sub.drop (by simp) ?_)) (by (repeat first | exact (hwf).subx | refine ExSub.dropt (by simp) ?_ | refine ExSub.drop (by simp) ?_))
theorem of_v (n : Nat) (st : St) (hn : n < 1000000) : VRet Tryz.prog 206 [.int .i64 n] st (.int .i64 (ofN n)) st := by
  have w1 : IntKind.i64.wrap (65535 * (n : Int)) = 65535 * (n : Int) := wrap64 (by omega) (by omega)
  have w2 : IntKind.i64.wrap (65535 * (n : Int) + 50000) = 65535 * (n : Int) + 50000 := wrap64 (by omega) (by omega)
  have w3 : IntKind.i64.wrap ((65535 * (n : Int) + 50000).tdiv 100000) = ofN n := by
    have : (65535 * (n : Int) + 50000).tdiv 100000 = ((ofN n : Nat) : Int) := by
      rw [Int.tdiv_eq_ediv_of_nonneg (by omega)]; unfold ofN; omega
    rw [this]
    exact wrap64 (by unfold ofN; omega) (by unfold ofN; omega)
  refine VCalls_of F206_ok mixed (Nat.le_of_ble_eq_true rfl) (fun hwf => ?_)
  (repeat' first | ((first | refine go rfl rfl ?_ | (refine Fk.by_ ?_ ?_ <;> intro hc <;> try simp only [hc]) | refine storeK_eq rfl ?_ | with_reducible refine And.intro ?_ ?_ | fail) <;> try simp only [w1, w2, w3, push_cast, reduceIte, Nat.reduceEqDiff, reduceCtorEq, Nat.reduceAdd, Nat.reduceLeDiff, Nat.reduceBEq]))
  all_goals first | refine finB (hwf) (by simp only [F206, push_cast, reduceIte, Nat.reduceEqDiff, reduceCtorEq, Nat.reduceAdd, Nat.reduceLeDiff, Nat.reduceBEq]; exact rfl) (by first | exact .inl rfl | (right; simp only [F206, push_cast, reduceIte, Nat.reduceEqDiff, reduceCtorEq, Nat.reduceAdd, Nat.reduceLeDiff, Nat.reduceBEq]; try rfl)) (by first | rfl | assumption) (by simp) (by simp) (by (repeat first | exact (hwf).subm | exact (hwf).suba | refine Sub.drop (by simp) ?_)) (by (repeat first | exact (hwf).subm | exact (hwf).suba | refine Sub.drop (by simp) ?_)) (by (repeat first | exact (hwf).subx | refine ExSub.dropt (by simp) ?_ | refine ExSub.drop (by simp) ?_))
theorem thouN_lt {s : List UInt8} {n : Nat} (h : thouN s = some n) : n < 1000000 := by
  rw [thouN_eq] at h
  split at h
  · cases h
  · rename_i hb
    rw [Bool.not_eq_true] at hb
    simp only [thBad, Bool.or_eq_false_iff, Bool.not_eq_false'] at hb
    obtain ⟨q1, q2⟩ := dig3_ok hb.1.1
    have hr : (cutR 46 s).all digB = true := by
      cases hp : cutP 46 s with
      | false => rw [cutR_none hp]; rfl
      | true =>
        have := hb.2
        rw [hp] at this
        simp only [Bool.true_and, Bool.not_eq_false'] at this
        exact (dig3_ok this).2
    have h3 : (cutR 46 s ++ [48, 48, 48]).all digB = true := by rw [List.all_append, hr]; rfl
    have hb := foldN_le (cutW 46 s ++ (cutR 46 s ++ [48, 48, 48]).take 3) 0 0 (by rw [List.all_append, q2, take_all h3]; rfl) (by omega)
    have hlen : (cutW 46 s ++ (cutR 46 s ++ [48, 48, 48]).take 3).length ≤ 6 := by rw [List.length_append, List.length_take]; omega
    have := Nat.pow_le_pow_right (n := 10) (by omega) hlen
    have e : foldN 0 (cutW 46 s ++ (cutR 46 s ++ [48, 48, 48]).take 3) = n := by injection h
    omega
theorem percent_v (s : List UInt8) (st : St) (hs : s.length < 140737488355328) : VRet Tryz.prog 169 [.str s] st (.tup [.int .i64 (pctN s).1, .int .i64 (pctN s).2]) st := by
  have ht := thou_v s st hs
  refine VCalls_of F169_ok mixed (Nat.le_of_ble_eq_true rfl) (fun hwf => ?_)
  cases hN : thouN s with
  | none =>
    rw [hN] at ht
    (repeat' first | ((first | refine go rfl rfl ?_ | refine Cl.by_ (by (first | refine ht)) ?_ | (refine Fk.by_ ?_ ?_ <;> intro hc <;> try simp only [hc]) | refine storeK_eq rfl ?_ | with_reducible refine And.intro ?_ ?_ | fail) <;> try simp only [push_cast, reduceIte, Nat.reduceEqDiff, reduceCtorEq, Nat.reduceAdd, Nat.reduceLeDiff, Nat.reduceBEq]))
    all_goals exact finRet0 hwf rfl (by simp [resOne, pctN, *]) rfl
  | some n =>
    have hlt := thouN_lt hN
    rw [hN] at ht
    have ho := of_v n st hlt
    (repeat' first | ((first | refine go rfl rfl ?_ | refine Cl.by_ (by (first | refine ht | refine ho)) ?_ | (refine Fk.by_ ?_ ?_ <;> intro hc <;> try simp only [hc]) | refine storeK_eq rfl ?_ | with_reducible refine And.intro ?_ ?_ | fail) <;> try simp only [Option.getD_some, push_cast, reduceIte, Nat.reduceEqDiff, reduceCtorEq, Nat.reduceAdd, Nat.reduceLeDiff, Nat.reduceBEq]))
    all_goals exact finRet0 hwf rfl (by simp [resOne, pctN, *]) rfl
end Go.Proofs.YtnondemehfkalaaGreatDoor

set_option maxRecDepth 10000
namespace Go.Proofs.YtnondemehfkalaaGreatDoor
open Go.Sha Go.RowKit

theorem callable225 : Callable Tryz.prog 225 := ⟨_, Tryz.func225, by kernel_rfl, by kernel_rfl⟩
theorem suf_v (s p : List UInt8) (st : St) (hs : s.length < 140737488355328) : VRet Tryz.prog 225 [.str s, .str p] st (.bool (Lib.hasSuffix s p)) st := by
  refine VRet_of_below callable225 (fun w A vs hw ha => ?_)
  obtain ⟨u, v, rfl, h1, h2⟩ := ha.two
  have e1 := h1.str_inv
  have e2 := h2.str_inv
  subst e1; subst e2
  refine (Tryz.strings_HasSuffix ⟨s.toArray⟩ ⟨p.toArray⟩ w (by simp [ByteArray.size]; omega)).mono fun e w' ⟨he, hb⟩ => ?_
  subst he; subst hb
  exact ⟨_, rfl, fun w' A' => .bool _, Below.refl _ _⟩
theorem suf_last (s : List UInt8) (c : UInt8) : Lib.hasSuffix s [c] = (s.getLast? == some c) := by
  unfold Lib.hasSuffix
  rcases List.eq_nil_or_concat s with rfl | ⟨t, b, rfl⟩
  · rfl
  · rw [Bool.eq_iff_iff]
    simp only [List.isSuffixOf_iff_suffix, List.concat_eq_append, List.getLast?_append, List.getLast?_singleton, Option.some_or, beq_iff_eq, Option.some.injEq]
    constructor
    · rintro ⟨l, h⟩
      exact ((List.append_inj' h rfl).2 |> List.cons.inj |>.1).symm
    · rintro rfl; exact ⟨t, rfl⟩
variable {W R : List UInt8} {P : Bool}
theorem chk1_v (st : St) (id : Nat) (h : Sha.look st.mem id = some [.str W, .str R, .bool P]) : VRet Tryz.prog 222 [.ptr id 0] st (.bool (digs1 W)) st := by
  refine VCalls_of F222_ok mixed (Nat.le_of_ble_eq_true rfl) (fun hwf => ?_)
  (repeat' first | ((first | refine go rfl rfl ?_ | refine Cl.by_ (by (first | refine ndigits_v _ _)) ?_ | (refine Fk.by_ ?_ ?_ <;> intro hc <;> try simp only [hc]) | refine storeK_eq rfl ?_ | with_reducible refine And.intro ?_ ?_ | fail) <;> try simp only [h, push_cast, reduceIte, Nat.reduceEqDiff, reduceCtorEq, Nat.reduceAdd, Nat.reduceLeDiff, Nat.reduceBEq]))
  all_goals refine finB (hwf) (by simp only [F222, push_cast, reduceIte, Nat.reduceEqDiff, reduceCtorEq, Nat.reduceAdd, Nat.reduceLeDiff, Nat.reduceBEq]; exact rfl) (by first | exact .inl rfl | (right; simp only [F222, push_cast, reduceIte, Nat.reduceEqDiff, reduceCtorEq, Nat.reduceAdd, Nat.reduceLeDiff, Nat.reduceBEq]; try rfl)) (by first | rfl | assumption) (by simp) (by simp) (by (repeat first | exact (hwf).subm | exact (hwf).suba | refine Sub.drop (by simp) ?_)) (by (repeat first | exact (hwf).subm | exact (hwf).suba | refine Sub.drop (by simp) ?_)) (by (repeat first | exact (hwf).subx | refine ExSub.dropt (by simp) ?_ | refine ExSub.drop (by simp) ?_))
theorem chk2_v (st : St) (id : Nat) (h : Sha.look st.mem id = some [.str W, .str R, .bool P]) (hR : R.length < 140737488355328) : VRet Tryz.prog 224 [.ptr id 0] st (.bool (!P || (digs1 R && !(R.getLast? == some 48)))) st := by
  refine VCalls_of F224_ok mixed (Nat.le_of_ble_eq_true rfl) (fun hwf => ?_)
  (repeat' first | ((first | refine go rfl rfl ?_ | refine Cl.by_ (by (first | refine ndigits_v _ _ | refine suf_v _ _ _ hR)) ?_ | (refine Fk.by_ ?_ ?_ <;> intro hc <;> try simp only [hc]) | refine storeK_eq rfl ?_ | with_reducible refine And.intro ?_ ?_ | fail) <;> try simp only [h, suf_last, push_cast, reduceIte, Nat.reduceEqDiff, reduceCtorEq, Nat.reduceAdd, Nat.reduceLeDiff, Nat.reduceBEq]))
  all_goals exact finRet0 hwf rfl (by simp [resOne, *]) rfl
theorem chk3_v (st : St) (id : Nat) (h : Sha.look st.mem id = some [.str W, .str R, .bool P]) (hW : W ≠ []) : VRet Tryz.prog 226 [.ptr id 0] st (.bool (W.length == 1 || !(W[0]? == some 48))) st := by
  cases W with
  | nil => exact absurd rfl hW
  | cons b t =>
    have h0 : (((b.toNat : Int)) != 48) = !((b :: t)[0]? == some 48) := by
      rw [Bool.eq_iff_iff]; simp only [bne_iff_ne, List.getElem?_cons_zero, Bool.not_eq_true', beq_eq_false_iff_ne, ne_eq, Option.some.injEq]
      constructor
      · rintro h rfl; exact h rfl
      · intro h e; exact h (UInt8.toNat_inj.1 (by have : (48 : UInt8).toNat = 48 := rfl; omega))
    have hl : ((t.length : Int) + 1 == 1) = ((b :: t).length == 1) := by
      rw [Bool.eq_iff_iff]; simp only [beq_iff_eq, List.length_cons]; omega
    rw [← h0, ← hl]
    refine VCalls_of F226_ok mixed (Nat.le_of_ble_eq_true rfl) (fun hwf => ?_)
    (repeat' first | ((first | refine go rfl rfl ?_ | (refine Fk.by_ ?_ ?_ <;> intro hc <;> try simp only [hc]) | refine storeK_eq rfl ?_ | with_reducible refine And.intro ?_ ?_ | fail) <;> try simp only [h, push_cast, reduceIte, Nat.reduceEqDiff, reduceCtorEq, Nat.reduceAdd, Nat.reduceLeDiff, Nat.reduceBEq]))
    all_goals exact finRet0 hwf rfl (by simp [resOne, *]) rfl

theorem check_v (s : List UInt8) (st : St) (hs : s.length < 140737488355328) : VRet Tryz.prog 208 [.str s] st (.int .i64 (chkN s)) st := by
  have h2 : (cutR 46 s).length ≤ s.length := by unfold cutR; rw [List.length_drop]; omega
  refine VCalls_of F208_ok mixed (Nat.le_of_ble_eq_true rfl) (fun hwf => ?_)
  (repeat' first | ((first | refine go rfl rfl ?_ | refine Cl.by_ (by (first | refine cut_v _ _ _ (by omega))) ?_ | (refine Fk.by_ ?_ ?_ <;> intro hc <;> try simp only [hc]) | refine storeK_eq rfl ?_ | with_reducible refine And.intro ?_ ?_ | fail) <;> try simp only [push_cast, reduceIte, Nat.reduceEqDiff, reduceCtorEq, Nat.reduceAdd, Nat.reduceLeDiff, Nat.reduceBEq]))
  have hW := (hwf.new (cs := [.str (cutW 46 s), .str (cutR 46 s), .bool (cutP 46 s)]) (by rfl))
  have hW2 := hW.newA (a := { e := 22, es := 1, xs := [V.fn (Fn.func 222) [] [V.ptr st.nx 0], V.fn (Fn.func 224) [] [V.ptr st.nx 0], V.fn (Fn.func 226) [] [V.ptr st.nx 0]], wr := false, fz := false }) (by simp [V.bdL, V.bd]; omega)
  refine WT_loop rfl (fun m e z => ∃ j : Nat, m = 3 - j ∧ j ≤ 3 ∧ (1 ≤ j → digs1 (cutW 46 s) = true) ∧ (2 ≤ j → (!(cutP 46 s) || (digs1 (cutR 46 s) && !((cutR 46 s).getLast? == some 48))) = true) ∧ (3 ≤ j → ((cutW 46 s).length == 1 || !((cutW 46 s)[0]? == some 48)) = true) ∧ e = [(22, V.int IntKind.i64 (j : Int)), (21, V.int IntKind.i64 3), (20, V.osl (st.nx + 1) 3),
      (4, V.osl (st.nx + 1) 3), (3, V.ptr st.nx 0), (2, V.int IntKind.i64 0), (0, V.str s)] ∧ z = ⟨st.nx + 2, (st.nx, [V.str (cutW 46 s), V.str (cutR 46 s), V.bool (cutP 46 s)]) :: st.mem, (st.nx + 1, ⟨22, 1, [V.fn (Fn.func 222) [] [V.ptr st.nx 0], V.fn (Fn.func 224) [] [V.ptr st.nx 0], V.fn (Fn.func 226) [] [V.ptr st.nx 0]], false, false⟩) :: st.arr, st.x⟩) (st.nx + 2) (Nat.le_refl _) (by rintro _ _ _ ⟨j, _, _, _, _, _, _, rfl⟩; rfl)
    ⟨_, _, _, ⟨0, rfl, Nat.zero_le _, by omega, by omega, by omega, rfl, rfl⟩, (by repeat first | exact .nil | refine .cons (by first | rfl | (simp [V.bd, V.bdL]; try first | omega | assumption)) (by first | rfl | simp only [push_cast, reduceIte, Nat.reduceEqDiff, reduceCtorEq, Nat.reduceAdd, Nat.reduceLeDiff, Nat.reduceBEq]) ?_), .refl hW2⟩ ?_
  rintro m e z ⟨j, rfl, hj, p1, p2, p3, rfl, rfl⟩
  have k0 : ((0 : Nat) < 3) = True := eq_true (by decide)
  have k1 : ((1 : Nat) < 3) = True := eq_true (by decide)
  have k2 : ((2 : Nat) < 3) = True := eq_true (by decide)
  have hbad : chkBad s = !(digs1 (cutW 46 s) && (!(cutP 46 s) || (digs1 (cutR 46 s) && !((cutR 46 s).getLast? == some 48))) && ((cutW 46 s).length == 1 || !((cutW 46 s)[0]? == some 48))) := by
    unfold chkBad
    simp only [Bool.not_and, Bool.not_or, Bool.not_not, bne, Bool.or_assoc]
  rcases (show j = 0 ∨ j = 1 ∨ j = 2 ∨ j = 3 by omega) with rfl | rfl | rfl | rfl
  · have w : IntKind.i64.wrap (0 + 1) = 1 := by decide
    (repeat' first | ((first | refine go rfl rfl ?_ | refine Cl.by_ (by (first | refine chk1_v (W := cutW 46 s) (R := cutR 46 s) (P := cutP 46 s) _ _ (by simp [Sha.look]))) ?_ | (refine Fk.by_ ?_ ?_ <;> intro hc <;> try simp only [hc]) | refine storeK_eq rfl ?_ | with_reducible refine And.intro ?_ ?_ | fail) <;> try simp only [V.cells, k0, w, push_cast, reduceIte, Nat.reduceEqDiff, reduceCtorEq, Nat.reduceAdd, Nat.reduceLeDiff, Nat.reduceBEq]))
    · exact ⟨_, _, _, by omega, ⟨1, rfl, by omega, fun _ => by first | trivial | assumption, by omega, by omega, rfl, rfl⟩, (by repeat first | exact .nil | refine .cons (by first | rfl | (simp [V.bd, V.bdL]; try first | omega | assumption)) (by first | rfl | simp only [push_cast, reduceIte, Nat.reduceEqDiff, reduceCtorEq, Nat.reduceAdd, Nat.reduceLeDiff, Nat.reduceBEq]) ?_), .refl hW2⟩
    · have e : chkN s = 3 := by unfold chkN; rw [if_pos (by rw [hbad, hc]; rfl)]
      rw [e]
      all_goals refine finB (hwf) (by simp only [F208, push_cast, reduceIte, Nat.reduceEqDiff, reduceCtorEq, Nat.reduceAdd, Nat.reduceLeDiff, Nat.reduceBEq]; exact rfl) (by first | exact .inl rfl | (right; simp only [F208, push_cast, reduceIte, Nat.reduceEqDiff, reduceCtorEq, Nat.reduceAdd, Nat.reduceLeDiff, Nat.reduceBEq]; try rfl)) (by first | rfl | assumption) (by simp) (by simp) (by (repeat first | exact (hwf).subm | exact (hwf).suba | refine Sub.drop (by simp) ?_)) (by (repeat first | exact (hwf).subm | exact (hwf).suba | refine Sub.drop (by simp) ?_)) (by (repeat first | exact (hwf).subx | refine ExSub.dropt (by simp) ?_ | refine ExSub.drop (by simp) ?_))
  · have w : IntKind.i64.wrap (1 + 1) = 2 := by decide
    rw [show ((1 : Nat) : Int) = 1 from rfl]
    (repeat' first | ((first | refine go rfl rfl ?_ | refine Cl.by_ (by (first | refine chk2_v (W := cutW 46 s) (R := cutR 46 s) (P := cutP 46 s) _ _ (by simp [Sha.look]) (by omega))) ?_ | (refine Fk.by_ ?_ ?_ <;> intro hc <;> try simp only [hc]) | refine storeK_eq rfl ?_ | with_reducible refine And.intro ?_ ?_ | fail) <;> try simp only [V.cells, k1, w, push_cast, reduceIte, Nat.reduceEqDiff, reduceCtorEq, Nat.reduceAdd, Nat.reduceLeDiff, Nat.reduceBEq]))
    · exact ⟨_, _, _, by omega, ⟨2, rfl, by omega, fun _ => by first | trivial | exact p1 (by omega), fun _ => by first | trivial | assumption, by omega, rfl, rfl⟩, (by repeat first | exact .nil | refine .cons (by first | rfl | (simp [V.bd, V.bdL]; try first | omega | assumption)) (by first | rfl | simp only [push_cast, reduceIte, Nat.reduceEqDiff, reduceCtorEq, Nat.reduceAdd, Nat.reduceLeDiff, Nat.reduceBEq]) ?_), .refl hW2⟩
    · have e : chkN s = 3 := by unfold chkN; rw [if_pos (by rw [hbad, hc, Bool.and_false]; rfl)]
      rw [e]
      all_goals refine finB (hwf) (by simp only [F208, push_cast, reduceIte, Nat.reduceEqDiff, reduceCtorEq, Nat.reduceAdd, Nat.reduceLeDiff, Nat.reduceBEq]; exact rfl) (by first | exact .inl rfl | (right; simp only [F208, push_cast, reduceIte, Nat.reduceEqDiff, reduceCtorEq, Nat.reduceAdd, Nat.reduceLeDiff, Nat.reduceBEq]; try rfl)) (by first | rfl | assumption) (by simp) (by simp) (by (repeat first | exact (hwf).subm | exact (hwf).suba | refine Sub.drop (by simp) ?_)) (by (repeat first | exact (hwf).subm | exact (hwf).suba | refine Sub.drop (by simp) ?_)) (by (repeat first | exact (hwf).subx | refine ExSub.dropt (by simp) ?_ | refine ExSub.drop (by simp) ?_))
  · have w : IntKind.i64.wrap (2 + 1) = 3 := by decide
    have hne : cutW 46 s ≠ [] := fun e => by have := p1 (by omega); rw [e] at this; cases this
    rw [show ((2 : Nat) : Int) = 2 from rfl]
    have nv : natV (.int .i64 2) = some 2 := by rfl
    (repeat' first | ((first | refine go rfl rfl ?_ | refine Cl.by_ (by (first | refine chk3_v (W := cutW 46 s) (R := cutR 46 s) (P := cutP 46 s) _ _ (by simp [Sha.look]) hne)) ?_ | (refine Fk.by_ ?_ ?_ <;> intro hc <;> try simp only [hc]) | refine storeK_eq rfl ?_ | with_reducible refine And.intro ?_ ?_ | fail) <;> try simp only [V.cells, k2, w, nv, push_cast, reduceIte, Nat.reduceEqDiff, reduceCtorEq, Nat.reduceAdd, Nat.reduceLeDiff, Nat.reduceBEq]))
    · exact ⟨_, _, _, by omega, ⟨3, rfl, by omega, fun _ => by first | trivial | exact p1 (by omega), fun _ => by first | trivial | exact p2 (by omega), fun _ => by first | trivial | assumption, rfl, rfl⟩, (by repeat first | exact .nil | refine .cons (by first | rfl | (simp [V.bd, V.bdL]; try first | omega | assumption)) (by first | rfl | simp only [push_cast, reduceIte, Nat.reduceEqDiff, reduceCtorEq, Nat.reduceAdd, Nat.reduceLeDiff, Nat.reduceBEq]) ?_), .refl hW2⟩
    · have e : chkN s = 3 := by unfold chkN; rw [if_pos (by rw [hbad, hc, Bool.and_false]; rfl)]
      rw [e]
      all_goals refine finB (hwf) (by simp only [F208, push_cast, reduceIte, Nat.reduceEqDiff, reduceCtorEq, Nat.reduceAdd, Nat.reduceLeDiff, Nat.reduceBEq]; exact rfl) (by first | exact .inl rfl | (right; simp only [F208, push_cast, reduceIte, Nat.reduceEqDiff, reduceCtorEq, Nat.reduceAdd, Nat.reduceLeDiff, Nat.reduceBEq]; try rfl)) (by first | rfl | assumption) (by simp) (by simp) (by (repeat first | exact (hwf).subm | exact (hwf).suba | refine Sub.drop (by simp) ?_)) (by (repeat first | exact (hwf).subm | exact (hwf).suba | refine Sub.drop (by simp) ?_)) (by (repeat first | exact (hwf).subx | refine ExSub.dropt (by simp) ?_ | refine ExSub.drop (by simp) ?_))
  · have hb : chkBad s = false := by rw [hbad, p1 (by omega), p2 (by omega), p3 (by omega)]; rfl
    have c1 : decide (4 < (cutW 46 s).length) = decide (4 < ((cutW 46 s).length : Int)) := by rw [decide_eq_decide]; omega
    have c2 : decide (3 < (cutR 46 s).length) = decide (3 < ((cutR 46 s).length : Int)) := by rw [decide_eq_decide]; omega
    have e : chkN s = if (s == [48] || decide (4 < ((cutW 46 s).length : Int)) || decide (3 < ((cutR 46 s).length : Int))) = true then 2 else 0 := by
      unfold chkN; rw [if_neg (by rw [hb]; decide), c1, c2]
    rw [e]
    rw [show ((3 : Nat) : Int) = 3 from rfl]
    (repeat' first | ((first | refine go rfl rfl ?_ | (refine Fk.by_ ?_ ?_ <;> intro hc <;> try simp only [hc]) | refine storeK_eq rfl ?_ | with_reducible refine And.intro ?_ ?_ | fail) <;> try simp only [V.cells, push_cast, reduceIte, Nat.reduceEqDiff, reduceCtorEq, Nat.reduceAdd, Nat.reduceLeDiff, Nat.reduceBEq]))
    all_goals simp only [Bool.or_true, Bool.true_or, Bool.or_false, if_true, Bool.false_eq_true, if_false]
    all_goals refine finB (hwf) (by simp only [F208, push_cast, reduceIte, Nat.reduceEqDiff, reduceCtorEq, Nat.reduceAdd, Nat.reduceLeDiff, Nat.reduceBEq]; exact rfl) (by first | exact .inl rfl | (right; simp only [F208, push_cast, reduceIte, Nat.reduceEqDiff, reduceCtorEq, Nat.reduceAdd, Nat.reduceLeDiff, Nat.reduceBEq]; try rfl)) (by first | rfl | assumption) (by simp) (by simp) (by (repeat first | exact (hwf).subm | exact (hwf).suba | refine Sub.drop (by simp) ?_)) (by (repeat first | exact (hwf).subm | exact (hwf).suba | refine Sub.drop (by simp) ?_)) (by (repeat first | exact (hwf).subx | refine ExSub.dropt (by simp) ?_ | refine ExSub.drop (by simp) ?_))
end Go.Proofs.YtnondemehfkalaaGreatDoor

set_option maxRecDepth 10000
namespace Go.Proofs.YtnondemehfkalaaGreatDoor
open Go.Sha

theorem number_fail {st : St} {rid : Nat} {ts : List Tok} {K : VRes → St → Prop} (hk : ((hd ts).k != 1) = true) (hG : GlOk st.x.gl) (hw : WfT ts) (hm : Sha.look st.mem rid = some [.sl (ts.map tkV)]) (h : ∀ ts', K (.pan (failV (hd ts).a 4)) (stR st rid ts')) : VCalls Tryz.prog 168 [.ptr rid 0] st K := by
  refine VCalls.mono (gnumber_v st rid ts hG hw hm) (fun r s hr => ?_)
  unfold rdPost rNumber at hr
  rw [if_pos hk] at hr
  obtain ⟨rfl, ts', rfl⟩ := hr
  exact h ts'
theorem number_ok {st : St} {rid : Nat} {ts : List Tok} (hk : ((hd ts).k != 1) = false) (hG : GlOk st.x.gl) (hw : WfT ts) (hm : Sha.look st.mem rid = some [.sl (ts.map tkV)]) : VRet Tryz.prog 168 [.ptr rid 0] st (.str (hd ts).t) st := by
  refine VCalls.mono (gnumber_v st rid ts hG hw hm) (fun r s hr => ?_)
  unfold rdPost rNumber at hr
  rw [if_neg (by rw [hk]; decide)] at hr
  obtain ⟨rfl, rfl, _⟩ := hr
  exact ⟨rfl, stR_same hm⟩
theorem k1_ne {ts : List Tok} (hk : ((hd ts).k != 1) = false) : (hd ts).k ≠ 3 := by
  simp at hk; omega
theorem rNum_err {α : Type} {f : List UInt8 → Rd α} {ts : List Tok} (hk : ((hd ts).k != 1) = true) : rNext rNumber f ts = .error ((hd ts).a, 4) := by
  simp only [rNext, rNumber, hk, if_true]
theorem rNum_ok {α : Type} {f : List UInt8 → Rd α} {ts : List Tok} (hk : ((hd ts).k != 1) = false) : rNext rNumber f ts = f (hd ts).t ts := by
  simp only [rNext, rNumber, hk, Bool.false_eq_true, if_false]

theorem rint_v (most : Int) : RdC 141 [.int .i64 most] (rInt most) (fun n => .int .i64 n) := by
  intro st rid ts hG hw hm
  have ht := hw.txt
  refine VCalls_of F141_ok mixed (Nat.le_of_ble_eq_true rfl) (fun hwf => ?_)
  cases hk : (hd ts).k != 1 with
  | true =>
    have hE : rInt most ts = _ := rNum_err hk
    (repeat' first | (with_reducible intro x1 x2 hE hW <;> (try (have hI := rNumber_inv hE; obtain ⟨rfl, rfl, hK⟩ := hI)) <;> (try (have hI := rMust_inv hE; obtain ⟨rfl, -⟩ := hI)) <;> (try (have hI := rUnit_inv hE; obtain ⟨u1, u2, rfl⟩ := hI; dsimp only)) <;> try simp only [stR_eq, lookR, Option.map_some, push_cast, reduceIte, Nat.reduceEqDiff, reduceCtorEq, Nat.reduceAdd, Nat.reduceLeDiff, Nat.reduceBEq]) | (with_reducible intro x1 x2 x3 hE <;> try simp only [stR_eq, lookR, Option.map_some, push_cast, reduceIte, Nat.reduceEqDiff, reduceCtorEq, Nat.reduceAdd, Nat.reduceLeDiff, Nat.reduceBEq]) | (with_reducible intro hE2 <;> try simp only [stR_eq, lookR, Option.map_some, push_cast, reduceIte, Nat.reduceEqDiff, reduceCtorEq, Nat.reduceAdd, Nat.reduceLeDiff, Nat.reduceBEq]) | ((first | refine go rfl rfl ?_ | refine number_fail hk hG hw hm (fun ts' => ?_) | refine RdK.c (by first | assumption | (simp only [stR_eq, lookR, Option.map_some, push_cast, reduceIte, Nat.reduceEqDiff, reduceCtorEq, Nat.reduceAdd, Nat.reduceLeDiff, Nat.reduceBEq] <;> exact rfl)) (by assumption) (by assumption) ?_ | refine snap_two (by simp only [stR_eq, lookR, Option.map_some, push_cast, reduceIte, Nat.reduceEqDiff, reduceCtorEq, Nat.reduceAdd, Nat.reduceLeDiff, Nat.reduceBEq] <;> exact rfl) ?_ | (refine Fk.by_ ?_ ?_ <;> intro hc <;> try simp only [hc]) | refine storeK_eq rfl ?_ | with_reducible refine And.intro ?_ ?_ | fail) <;> try simp only [stR_eq, lookR, Option.map_some, push_cast, reduceIte, Nat.reduceEqDiff, reduceCtorEq, Nat.reduceAdd, Nat.reduceLeDiff, Nat.reduceBEq]))
    all_goals first | (first | exact finRo hwf (by first | exact .inl rfl | exact .inr rfl) (by first | rfl | (simp only [push_cast, reduceIte, Nat.reduceEqDiff, reduceCtorEq, Nat.reduceAdd, Nat.reduceLeDiff, Nat.reduceBEq]; exact rfl)) (by first | exact .inl rfl | (right; simp only [push_cast, reduceIte, Nat.reduceEqDiff, reduceCtorEq, Nat.reduceAdd, Nat.reduceLeDiff, Nat.reduceBEq]; try rfl)) (by first | rfl | assumption | exact bd_cmd | (simp [V.bd, V.bdL]; done)) (by simp) (by (repeat first | exact (wfR hwf _).subm | exact subR hm hwf | refine Sub.drop (by simp) ?_)) (by (repeat first | exact (hwf).suba | refine Sub.drop (by simp) ?_)) ((hwf).subx) (by first | assumption | (simp [*]; done) | (simp only [if_true, if_false, Bool.false_eq_true, *]; done) | fail) (by first | assumption | (simp [*]; done) | fail) | exact finRe hwf (by first | (simp [*]; done) | (simp only [if_true, if_false, Bool.false_eq_true, *]; done)) (by simp) (by (repeat first | exact (wfR hwf _).subm | exact subR hm hwf | refine Sub.drop (by simp) ?_)) (by (repeat first | exact (hwf).suba | refine Sub.drop (by simp) ?_)) ((hwf).subx))
  | false =>
    have hn := number_ok hk hG hw hm
    have hR : rInt most ts = _ := rNum_ok hk
    cases hd' : digsB (hd ts).t with
    | false =>
      (repeat' first | (with_reducible intro x1 x2 hE hW <;> (try (have hI := rNumber_inv hE; obtain ⟨rfl, rfl, hK⟩ := hI)) <;> (try (have hI := rMust_inv hE; obtain ⟨rfl, -⟩ := hI)) <;> (try (have hI := rUnit_inv hE; obtain ⟨u1, u2, rfl⟩ := hI; dsimp only)) <;> try simp only [stR_eq, lookR, Option.map_some, hm, hd', push_cast, reduceIte, Nat.reduceEqDiff, reduceCtorEq, Nat.reduceAdd, Nat.reduceLeDiff, Nat.reduceBEq]) | (with_reducible intro x1 x2 x3 hE <;> try simp only [stR_eq, lookR, Option.map_some, hm, hd', push_cast, reduceIte, Nat.reduceEqDiff, reduceCtorEq, Nat.reduceAdd, Nat.reduceLeDiff, Nat.reduceBEq]) | (with_reducible intro hE2 <;> try simp only [stR_eq, lookR, Option.map_some, hm, hd', push_cast, reduceIte, Nat.reduceEqDiff, reduceCtorEq, Nat.reduceAdd, Nat.reduceLeDiff, Nat.reduceBEq]) | ((first | refine go rfl rfl ?_ | refine Cl.by_ (by (first | refine hn | refine digits_v _ _ (by omega))) ?_ | refine RdK.c (by first | assumption | (simp only [stR_eq, lookR, Option.map_some, hm, hd', push_cast, reduceIte, Nat.reduceEqDiff, reduceCtorEq, Nat.reduceAdd, Nat.reduceLeDiff, Nat.reduceBEq] <;> exact rfl)) (by assumption) (by assumption) ?_ | refine snap_two (by simp only [stR_eq, lookR, Option.map_some, hm, hd', push_cast, reduceIte, Nat.reduceEqDiff, reduceCtorEq, Nat.reduceAdd, Nat.reduceLeDiff, Nat.reduceBEq] <;> exact rfl) ?_ | (refine Fk.by_ ?_ ?_ <;> intro hc <;> try simp only [hc]) | refine storeK_eq rfl ?_ | with_reducible refine And.intro ?_ ?_ | fail) <;> try simp only [stR_eq, lookR, Option.map_some, hm, hd', push_cast, reduceIte, Nat.reduceEqDiff, reduceCtorEq, Nat.reduceAdd, Nat.reduceLeDiff, Nat.reduceBEq]))
      all_goals (first | exact finRo hwf (by first | exact .inl rfl | exact .inr rfl) (by first | rfl | (simp only [push_cast, reduceIte, Nat.reduceEqDiff, reduceCtorEq, Nat.reduceAdd, Nat.reduceLeDiff, Nat.reduceBEq]; exact rfl)) (by first | exact .inl rfl | (right; simp only [push_cast, reduceIte, Nat.reduceEqDiff, reduceCtorEq, Nat.reduceAdd, Nat.reduceLeDiff, Nat.reduceBEq]; try rfl)) (by first | rfl | assumption | exact bd_cmd | (simp [V.bd, V.bdL]; done)) (by simp) (by (repeat first | exact (wfR hwf _).subm | exact subR hm hwf | refine Sub.drop (by simp) ?_)) (by (repeat first | exact (hwf).suba | refine Sub.drop (by simp) ?_)) ((hwf).subx) (by first | assumption | (simp [*]; done) | (simp only [if_true, if_false, Bool.false_eq_true, *]; done) | fail) (by first | assumption | (simp [*]; done) | fail) | exact finRe hwf (by first | (simp [*]; done) | (simp only [if_true, if_false, Bool.false_eq_true, *]; done)) (by simp) (by (repeat first | exact (wfR hwf _).subm | exact subR hm hwf | refine Sub.drop (by simp) ?_)) (by (repeat first | exact (hwf).suba | refine Sub.drop (by simp) ?_)) ((hwf).subx))
    | true =>
      have hv := value_v _ st hG ht (digsB_ok hd').1 (digsB_ok hd').2
      (repeat' first | (with_reducible intro x1 x2 hE hW <;> (try (have hI := rNumber_inv hE; obtain ⟨rfl, rfl, hK⟩ := hI)) <;> (try (have hI := rMust_inv hE; obtain ⟨rfl, -⟩ := hI)) <;> (try (have hI := rUnit_inv hE; obtain ⟨u1, u2, rfl⟩ := hI; dsimp only)) <;> try simp only [stR_eq, lookR, Option.map_some, hm, hd', push_cast, reduceIte, Nat.reduceEqDiff, reduceCtorEq, Nat.reduceAdd, Nat.reduceLeDiff, Nat.reduceBEq]) | (with_reducible intro x1 x2 x3 hE <;> try simp only [stR_eq, lookR, Option.map_some, hm, hd', push_cast, reduceIte, Nat.reduceEqDiff, reduceCtorEq, Nat.reduceAdd, Nat.reduceLeDiff, Nat.reduceBEq]) | (with_reducible intro hE2 <;> try simp only [stR_eq, lookR, Option.map_some, hm, hd', push_cast, reduceIte, Nat.reduceEqDiff, reduceCtorEq, Nat.reduceAdd, Nat.reduceLeDiff, Nat.reduceBEq]) | ((first | refine go rfl rfl ?_ | refine Cl.by_ (by (first | refine hn | refine digits_v _ _ (by omega) | refine hv)) ?_ | refine RdK.c (by first | assumption | (simp only [stR_eq, lookR, Option.map_some, hm, hd', push_cast, reduceIte, Nat.reduceEqDiff, reduceCtorEq, Nat.reduceAdd, Nat.reduceLeDiff, Nat.reduceBEq] <;> exact rfl)) (by assumption) (by assumption) ?_ | refine snap_two (by simp only [stR_eq, lookR, Option.map_some, hm, hd', push_cast, reduceIte, Nat.reduceEqDiff, reduceCtorEq, Nat.reduceAdd, Nat.reduceLeDiff, Nat.reduceBEq] <;> exact rfl) ?_ | (refine Fk.by_ ?_ ?_ <;> intro hc <;> try simp only [hc]) | refine storeK_eq rfl ?_ | with_reducible refine And.intro ?_ ?_ | fail) <;> try simp only [stR_eq, lookR, Option.map_some, hm, hd', push_cast, reduceIte, Nat.reduceEqDiff, reduceCtorEq, Nat.reduceAdd, Nat.reduceLeDiff, Nat.reduceBEq]))
      all_goals have hw' := hw.tail (k1_ne hk)
      all_goals first | (first | exact finRo hwf (by first | exact .inl rfl | exact .inr rfl) (by first | rfl | (simp only [push_cast, reduceIte, Nat.reduceEqDiff, reduceCtorEq, Nat.reduceAdd, Nat.reduceLeDiff, Nat.reduceBEq]; exact rfl)) (by first | exact .inl rfl | (right; simp only [push_cast, reduceIte, Nat.reduceEqDiff, reduceCtorEq, Nat.reduceAdd, Nat.reduceLeDiff, Nat.reduceBEq]; try rfl)) (by first | rfl | assumption | exact bd_cmd | (simp [V.bd, V.bdL]; done)) (by simp) (by (repeat first | exact (wfR hwf _).subm | exact subR hm hwf | refine Sub.drop (by simp) ?_)) (by (repeat first | exact (hwf).suba | refine Sub.drop (by simp) ?_)) ((hwf).subx) (by first | assumption | (simp [*]; done) | (simp only [if_true, if_false, Bool.false_eq_true, *]; done) | fail) (by first | assumption | (simp [*]; done) | fail) | exact finRe hwf (by first | (simp [*]; done) | (simp only [if_true, if_false, Bool.false_eq_true, *]; done)) (by simp) (by (repeat first | exact (wfR hwf _).subm | exact subR hm hwf | refine Sub.drop (by simp) ?_)) (by (repeat first | exact (hwf).suba | refine Sub.drop (by simp) ?_)) ((hwf).subx))
instance {most : Int} : RdK 141 [.int .i64 most] (RdP (rInt most) (fun n => .int .i64 n)) := (rint_v most).k
theorem rlist_v : RdC 111 [] (rInt 1048576) (fun n => .int .i64 n) := by
  intro st rid ts hG hw hm
  refine VCalls_of F111_ok mixed (Nat.le_of_ble_eq_true rfl) (fun hwf => ?_)
  (repeat' first | (with_reducible intro x1 x2 hE hW <;> (try (have hI := rNumber_inv hE; obtain ⟨rfl, rfl, hK⟩ := hI)) <;> (try (have hI := rMust_inv hE; obtain ⟨rfl, -⟩ := hI)) <;> (try (have hI := rUnit_inv hE; obtain ⟨u1, u2, rfl⟩ := hI; dsimp only)) <;> try simp only [stR_eq, lookR, Option.map_some, hm, push_cast, reduceIte, Nat.reduceEqDiff, reduceCtorEq, Nat.reduceAdd, Nat.reduceLeDiff, Nat.reduceBEq]) | (with_reducible intro x1 x2 x3 hE <;> try simp only [stR_eq, lookR, Option.map_some, hm, push_cast, reduceIte, Nat.reduceEqDiff, reduceCtorEq, Nat.reduceAdd, Nat.reduceLeDiff, Nat.reduceBEq]) | (with_reducible intro hE2 <;> try simp only [stR_eq, lookR, Option.map_some, hm, push_cast, reduceIte, Nat.reduceEqDiff, reduceCtorEq, Nat.reduceAdd, Nat.reduceLeDiff, Nat.reduceBEq]) | ((first | refine go rfl rfl ?_ | refine RdK.c (by first | assumption | (simp only [stR_eq, lookR, Option.map_some, hm, push_cast, reduceIte, Nat.reduceEqDiff, reduceCtorEq, Nat.reduceAdd, Nat.reduceLeDiff, Nat.reduceBEq] <;> exact rfl)) (by assumption) (by assumption) ?_ | refine snap_two (by simp only [stR_eq, lookR, Option.map_some, hm, push_cast, reduceIte, Nat.reduceEqDiff, reduceCtorEq, Nat.reduceAdd, Nat.reduceLeDiff, Nat.reduceBEq] <;> exact rfl) ?_ | (refine Fk.by_ ?_ ?_ <;> intro hc <;> try simp only [hc]) | refine storeK_eq rfl ?_ | with_reducible refine And.intro ?_ ?_ | fail) <;> try simp only [stR_eq, lookR, Option.map_some, hm, push_cast, reduceIte, Nat.reduceEqDiff, reduceCtorEq, Nat.reduceAdd, Nat.reduceLeDiff, Nat.reduceBEq]))
  all_goals first | (first | exact finRo hwf (by first | exact .inl rfl | exact .inr rfl) (by first | rfl | (simp only [push_cast, reduceIte, Nat.reduceEqDiff, reduceCtorEq, Nat.reduceAdd, Nat.reduceLeDiff, Nat.reduceBEq]; exact rfl)) (by first | exact .inl rfl | (right; simp only [push_cast, reduceIte, Nat.reduceEqDiff, reduceCtorEq, Nat.reduceAdd, Nat.reduceLeDiff, Nat.reduceBEq]; try rfl)) (by first | rfl | assumption | exact bd_cmd | (simp [V.bd, V.bdL]; done)) (by simp) (by (repeat first | exact (wfR hwf _).subm | exact subR hm hwf | refine Sub.drop (by simp) ?_)) (by (repeat first | exact (hwf).suba | refine Sub.drop (by simp) ?_)) ((hwf).subx) (by first | assumption | (simp [*]; done) | (simp only [if_true, if_false, Bool.false_eq_true, *]; done) | fail) (by first | assumption | (simp [*]; done) | fail) | exact finRe hwf (by first | (simp [*]; done) | (simp only [if_true, if_false, Bool.false_eq_true, *]; done)) (by simp) (by (repeat first | exact (wfR hwf _).subm | exact subR hm hwf | refine Sub.drop (by simp) ?_)) (by (repeat first | exact (hwf).suba | refine Sub.drop (by simp) ?_)) ((hwf).subx))
def mustE (e : Int) : Int := if (e == 3) = true then 4 else e
instance : RdK 111 [] (RdP (rInt 1048576) (fun n => .int .i64 n)) := (rlist_v).k
theorem rMust_err {α : Type} {e : Int} {f : Unit → Rd α} {ts : List Tok} (he : (e == 0) = false) : rNext (rMust e) f ts = .error ((hd ts).a, mustE e) := by
  simp only [rNext, rMust, he, Bool.false_eq_true, if_false, mustE]
  cases e == 3 <;> rfl
theorem rMust_ok {α : Type} {e : Int} {f : Unit → Rd α} {ts : List Tok} (he : (e == 0) = true) : rNext (rMust e) f ts = f () ts := by
  simp only [rNext, rMust, he, if_true]
theorem must_fail {st : St} {rid : Nat} {ts : List Tok} {e : Int} {K : VRes → St → Prop} (he : (e == 0) = false) (hG : GlOk st.x.gl) (hw : WfT ts) (hm : Sha.look st.mem rid = some [.sl (ts.map tkV)]) (h : ∀ ts', K (.pan (failV (hd ts).a (mustE e))) (stR st rid ts')) : VCalls Tryz.prog 170 [.ptr rid 0, .int .i64 e] st K := by
  refine VCalls.mono (gmust_v e st rid ts hG hw hm) (fun r s hr => ?_)
  unfold rdPost rMust at hr
  rw [if_neg (by rw [he]; decide)] at hr
  unfold mustE at h
  split at hr <;> rename_i h1
  · split at h1 <;> cases h1
  · split at h1 <;> rename_i h2
    · rw [if_pos h2] at h
      cases h1
      obtain ⟨rfl, ts', rfl⟩ := hr
      exact h ts'
    · rw [if_neg h2] at h
      cases h1
      obtain ⟨rfl, ts', rfl⟩ := hr
      exact h ts'
theorem must_ok {st : St} {rid : Nat} {ts : List Tok} {e : Int} (he : (e == 0) = true) (hG : GlOk st.x.gl) (hw : WfT ts) (hm : Sha.look st.mem rid = some [.sl (ts.map tkV)]) : VRet Tryz.prog 170 [.ptr rid 0, .int .i64 e] st (.tup []) st := by
  refine VCalls.mono (gmust_v e st rid ts hG hw hm) (fun r s hr => ?_)
  unfold rdPost rMust at hr
  rw [if_pos he] at hr
  obtain ⟨rfl, rfl, _⟩ := hr
  exact ⟨rfl, stR_same hm⟩

theorem rcue_v : RdC 175 [] rCue .str := by
  intro st rid ts hG hw hm
  have ht := hw.txt
  refine VCalls_of F175_ok mixed (Nat.le_of_ble_eq_true rfl) (fun hwf => ?_)
  cases hk : (hd ts).k != 1 with
  | true =>
    have hE : rCue ts = _ := rNum_err hk
    (repeat' first | (with_reducible intro x1 x2 hE hW <;> (try (have hI := rNumber_inv hE; obtain ⟨rfl, rfl, hK⟩ := hI)) <;> (try (have hI := rMust_inv hE; obtain ⟨rfl, -⟩ := hI)) <;> (try (have hI := rUnit_inv hE; obtain ⟨u1, u2, rfl⟩ := hI; dsimp only)) <;> try simp only [stR_eq, lookR, Option.map_some, push_cast, reduceIte, Nat.reduceEqDiff, reduceCtorEq, Nat.reduceAdd, Nat.reduceLeDiff, Nat.reduceBEq]) | (with_reducible intro x1 x2 x3 hE <;> try simp only [stR_eq, lookR, Option.map_some, push_cast, reduceIte, Nat.reduceEqDiff, reduceCtorEq, Nat.reduceAdd, Nat.reduceLeDiff, Nat.reduceBEq]) | (with_reducible intro hE2 <;> try simp only [stR_eq, lookR, Option.map_some, push_cast, reduceIte, Nat.reduceEqDiff, reduceCtorEq, Nat.reduceAdd, Nat.reduceLeDiff, Nat.reduceBEq]) | ((first | refine go rfl rfl ?_ | refine number_fail hk hG hw hm (fun ts' => ?_) | refine RdK.c (by first | assumption | (simp only [stR_eq, lookR, Option.map_some, push_cast, reduceIte, Nat.reduceEqDiff, reduceCtorEq, Nat.reduceAdd, Nat.reduceLeDiff, Nat.reduceBEq] <;> exact rfl)) (by assumption) (by assumption) ?_ | refine snap_two (by simp only [stR_eq, lookR, Option.map_some, push_cast, reduceIte, Nat.reduceEqDiff, reduceCtorEq, Nat.reduceAdd, Nat.reduceLeDiff, Nat.reduceBEq] <;> exact rfl) ?_ | (refine Fk.by_ ?_ ?_ <;> intro hc <;> try simp only [hc]) | refine storeK_eq rfl ?_ | with_reducible refine And.intro ?_ ?_ | fail) <;> try simp only [stR_eq, lookR, Option.map_some, push_cast, reduceIte, Nat.reduceEqDiff, reduceCtorEq, Nat.reduceAdd, Nat.reduceLeDiff, Nat.reduceBEq]))
    all_goals first | (first | exact finRo hwf (by first | exact .inl rfl | exact .inr rfl) (by first | rfl | (simp only [push_cast, reduceIte, Nat.reduceEqDiff, reduceCtorEq, Nat.reduceAdd, Nat.reduceLeDiff, Nat.reduceBEq]; exact rfl)) (by first | exact .inl rfl | (right; simp only [push_cast, reduceIte, Nat.reduceEqDiff, reduceCtorEq, Nat.reduceAdd, Nat.reduceLeDiff, Nat.reduceBEq]; try rfl)) (by first | rfl | assumption | exact bd_cmd | (simp [V.bd, V.bdL]; done)) (by simp) (by (repeat first | exact (wfR hwf _).subm | exact subR hm hwf | refine Sub.drop (by simp) ?_)) (by (repeat first | exact (hwf).suba | refine Sub.drop (by simp) ?_)) ((hwf).subx) (by first | assumption | (simp [*]; done) | (simp only [if_true, if_false, Bool.false_eq_true, *]; done) | fail) (by first | assumption | (simp [*]; done) | fail) | exact finRe hwf (by first | (simp [*]; done) | (simp only [if_true, if_false, Bool.false_eq_true, *]; done)) (by simp) (by (repeat first | exact (wfR hwf _).subm | exact subR hm hwf | refine Sub.drop (by simp) ?_)) (by (repeat first | exact (hwf).suba | refine Sub.drop (by simp) ?_)) ((hwf).subx))
  | false =>
    have hn := number_ok hk hG hw hm
    have hR : rCue ts = _ := rNum_ok hk
    cases he : chkN (hd ts).t == 0 with
    | false =>
      rw [rMust_err he] at hR
      (repeat' first | (with_reducible intro x1 x2 hE hW <;> (try (have hI := rNumber_inv hE; obtain ⟨rfl, rfl, hK⟩ := hI)) <;> (try (have hI := rMust_inv hE; obtain ⟨rfl, -⟩ := hI)) <;> (try (have hI := rUnit_inv hE; obtain ⟨u1, u2, rfl⟩ := hI; dsimp only)) <;> try simp only [stR_eq, lookR, Option.map_some, hm, push_cast, reduceIte, Nat.reduceEqDiff, reduceCtorEq, Nat.reduceAdd, Nat.reduceLeDiff, Nat.reduceBEq]) | (with_reducible intro x1 x2 x3 hE <;> try simp only [stR_eq, lookR, Option.map_some, hm, push_cast, reduceIte, Nat.reduceEqDiff, reduceCtorEq, Nat.reduceAdd, Nat.reduceLeDiff, Nat.reduceBEq]) | (with_reducible intro hE2 <;> try simp only [stR_eq, lookR, Option.map_some, hm, push_cast, reduceIte, Nat.reduceEqDiff, reduceCtorEq, Nat.reduceAdd, Nat.reduceLeDiff, Nat.reduceBEq]) | ((first | refine go rfl rfl ?_ | refine must_fail he hG hw hm (fun ts' => ?_) | refine Cl.by_ (by (first | refine hn | refine check_v _ _ ht)) ?_ | refine RdK.c (by first | assumption | (simp only [stR_eq, lookR, Option.map_some, hm, push_cast, reduceIte, Nat.reduceEqDiff, reduceCtorEq, Nat.reduceAdd, Nat.reduceLeDiff, Nat.reduceBEq] <;> exact rfl)) (by assumption) (by assumption) ?_ | refine snap_two (by simp only [stR_eq, lookR, Option.map_some, hm, push_cast, reduceIte, Nat.reduceEqDiff, reduceCtorEq, Nat.reduceAdd, Nat.reduceLeDiff, Nat.reduceBEq] <;> exact rfl) ?_ | (refine Fk.by_ ?_ ?_ <;> intro hc <;> try simp only [hc]) | refine storeK_eq rfl ?_ | with_reducible refine And.intro ?_ ?_ | fail) <;> try simp only [stR_eq, lookR, Option.map_some, hm, push_cast, reduceIte, Nat.reduceEqDiff, reduceCtorEq, Nat.reduceAdd, Nat.reduceLeDiff, Nat.reduceBEq]))
      all_goals first | (first | exact finRo hwf (by first | exact .inl rfl | exact .inr rfl) (by first | rfl | (simp only [push_cast, reduceIte, Nat.reduceEqDiff, reduceCtorEq, Nat.reduceAdd, Nat.reduceLeDiff, Nat.reduceBEq]; exact rfl)) (by first | exact .inl rfl | (right; simp only [push_cast, reduceIte, Nat.reduceEqDiff, reduceCtorEq, Nat.reduceAdd, Nat.reduceLeDiff, Nat.reduceBEq]; try rfl)) (by first | rfl | assumption | exact bd_cmd | (simp [V.bd, V.bdL]; done)) (by simp) (by (repeat first | exact (wfR hwf _).subm | exact subR hm hwf | refine Sub.drop (by simp) ?_)) (by (repeat first | exact (hwf).suba | refine Sub.drop (by simp) ?_)) ((hwf).subx) (by first | assumption | (simp [*]; done) | (simp only [if_true, if_false, Bool.false_eq_true, *]; done) | fail) (by first | assumption | (simp [*]; done) | fail) | exact finRe hwf (by first | (simp [*]; done) | (simp only [if_true, if_false, Bool.false_eq_true, *]; done)) (by simp) (by (repeat first | exact (wfR hwf _).subm | exact subR hm hwf | refine Sub.drop (by simp) ?_)) (by (repeat first | exact (hwf).suba | refine Sub.drop (by simp) ?_)) ((hwf).subx))
    | true =>
      rw [rMust_ok he] at hR
      (repeat' first | (with_reducible intro x1 x2 hE hW <;> (try (have hI := rNumber_inv hE; obtain ⟨rfl, rfl, hK⟩ := hI)) <;> (try (have hI := rMust_inv hE; obtain ⟨rfl, -⟩ := hI)) <;> (try (have hI := rUnit_inv hE; obtain ⟨u1, u2, rfl⟩ := hI; dsimp only)) <;> try simp only [stR_eq, lookR, Option.map_some, hm, tkV, push_cast, reduceIte, Nat.reduceEqDiff, reduceCtorEq, Nat.reduceAdd, Nat.reduceLeDiff, Nat.reduceBEq]) | (with_reducible intro x1 x2 x3 hE <;> try simp only [stR_eq, lookR, Option.map_some, hm, tkV, push_cast, reduceIte, Nat.reduceEqDiff, reduceCtorEq, Nat.reduceAdd, Nat.reduceLeDiff, Nat.reduceBEq]) | (with_reducible intro hE2 <;> try simp only [stR_eq, lookR, Option.map_some, hm, tkV, push_cast, reduceIte, Nat.reduceEqDiff, reduceCtorEq, Nat.reduceAdd, Nat.reduceLeDiff, Nat.reduceBEq]) | ((first | refine go rfl rfl ?_ | refine Cl.by_ (by (first | refine hn | refine check_v _ _ ht | refine must_ok he hG hw hm)) ?_ | refine RdK.c (by first | assumption | (simp only [stR_eq, lookR, Option.map_some, hm, tkV, push_cast, reduceIte, Nat.reduceEqDiff, reduceCtorEq, Nat.reduceAdd, Nat.reduceLeDiff, Nat.reduceBEq] <;> exact rfl)) (by assumption) (by assumption) ?_ | refine snap_two (by simp only [stR_eq, lookR, Option.map_some, hm, tkV, push_cast, reduceIte, Nat.reduceEqDiff, reduceCtorEq, Nat.reduceAdd, Nat.reduceLeDiff, Nat.reduceBEq] <;> exact rfl) ?_ | (refine Fk.by_ ?_ ?_ <;> intro hc <;> try simp only [hc]) | refine storeK_eq rfl ?_ | with_reducible refine And.intro ?_ ?_ | fail) <;> try simp only [stR_eq, lookR, Option.map_some, hm, tkV, push_cast, reduceIte, Nat.reduceEqDiff, reduceCtorEq, Nat.reduceAdd, Nat.reduceLeDiff, Nat.reduceBEq]))
      all_goals have hw' := hw.tail (k1_ne hk)
      all_goals first | (first | exact finRo hwf (by first | exact .inl rfl | exact .inr rfl) (by first | rfl | (simp only [push_cast, reduceIte, Nat.reduceEqDiff, reduceCtorEq, Nat.reduceAdd, Nat.reduceLeDiff, Nat.reduceBEq]; exact rfl)) (by first | exact .inl rfl | (right; simp only [push_cast, reduceIte, Nat.reduceEqDiff, reduceCtorEq, Nat.reduceAdd, Nat.reduceLeDiff, Nat.reduceBEq]; try rfl)) (by first | rfl | assumption | exact bd_cmd | (simp [V.bd, V.bdL]; done)) (by simp) (by (repeat first | exact (wfR hwf _).subm | exact subR hm hwf | refine Sub.drop (by simp) ?_)) (by (repeat first | exact (hwf).suba | refine Sub.drop (by simp) ?_)) ((hwf).subx) (by first | assumption | (simp [*]; done) | (simp only [if_true, if_false, Bool.false_eq_true, *]; done) | fail) (by first | assumption | (simp [*]; done) | fail) | exact finRe hwf (by first | (simp [*]; done) | (simp only [if_true, if_false, Bool.false_eq_true, *]; done)) (by simp) (by (repeat first | exact (wfR hwf _).subm | exact subR hm hwf | refine Sub.drop (by simp) ?_)) (by (repeat first | exact (hwf).suba | refine Sub.drop (by simp) ?_)) ((hwf).subx))
instance : RdK 175 [] (RdP rCue .str) := (rcue_v).k
theorem hdIs_full {ts : List Tok} {t : List UInt8} (h : hdIs 0 t ts = true) : (hd ts).t = t ∧ (hd ts).k ≠ 3 := by
  simp only [hdIs, Bool.and_eq_true, beq_iff_eq] at h
  exact ⟨h.2, by omega⟩
theorem rlevel_v : RdC 112 [] rLevel (fun n => .int .i64 n) := by
  intro st rid ts hG hw hm
  have ht := hw.txt
  refine VCalls_of F112_ok mixed (Nat.le_of_ble_eq_true rfl) (fun hwf => ?_)
  cases hf : hdIs 0 [102, 117, 108, 108] ts with
  | true =>
    have hk3 := (hdIs_full hf).2
    have hR : rLevel ts = rNext (rMust (pctN (hd ts).t).2) (fun _ ts => .ok ((pctN (hd ts).t).1, ts.tail)) ts := by
      simp only [rLevel, hf, if_true]
      show rNext (rMust (pctN (hd ts).t).2) (fun _ ts' => .ok ((pctN (hd ts).t).1, ts'.tail)) ts = _
      cases he : (pctN (hd ts).t).2 == 0
      · rw [rMust_err he, rMust_err he]
      · rw [rMust_ok he, rMust_ok he]
    cases he : (pctN (hd ts).t).2 == 0 with
    | false =>
      rw [rMust_err he] at hR
      (repeat' first | (with_reducible intro x1 x2 hE hW <;> (try (have hI := rNumber_inv hE; obtain ⟨rfl, rfl, hK⟩ := hI)) <;> (try (have hI := rMust_inv hE; obtain ⟨rfl, -⟩ := hI)) <;> (try (have hI := rUnit_inv hE; obtain ⟨u1, u2, rfl⟩ := hI; dsimp only)) <;> try simp only [stR_eq, lookR, Option.map_some, hm, hf, tkV, push_cast, reduceIte, Nat.reduceEqDiff, reduceCtorEq, Nat.reduceAdd, Nat.reduceLeDiff, Nat.reduceBEq]) | (with_reducible intro x1 x2 x3 hE <;> try simp only [stR_eq, lookR, Option.map_some, hm, hf, tkV, push_cast, reduceIte, Nat.reduceEqDiff, reduceCtorEq, Nat.reduceAdd, Nat.reduceLeDiff, Nat.reduceBEq]) | (with_reducible intro hE2 <;> try simp only [stR_eq, lookR, Option.map_some, hm, hf, tkV, push_cast, reduceIte, Nat.reduceEqDiff, reduceCtorEq, Nat.reduceAdd, Nat.reduceLeDiff, Nat.reduceBEq]) | ((first | refine go rfl rfl ?_ | refine must_fail he hG hw hm (fun ts' => ?_) | refine Cl.by_ (by (first | refine percent_v _ _ ht)) ?_ | refine RdK.c (by first | assumption | (simp only [stR_eq, lookR, Option.map_some, hm, hf, tkV, push_cast, reduceIte, Nat.reduceEqDiff, reduceCtorEq, Nat.reduceAdd, Nat.reduceLeDiff, Nat.reduceBEq] <;> exact rfl)) (by assumption) (by assumption) ?_ | refine snap_two (by simp only [stR_eq, lookR, Option.map_some, hm, hf, tkV, push_cast, reduceIte, Nat.reduceEqDiff, reduceCtorEq, Nat.reduceAdd, Nat.reduceLeDiff, Nat.reduceBEq] <;> exact rfl) ?_ | (refine Fk.by_ ?_ ?_ <;> intro hc <;> try simp only [hc]) | refine storeK_eq rfl ?_ | with_reducible refine And.intro ?_ ?_ | fail) <;> try simp only [stR_eq, lookR, Option.map_some, hm, hf, tkV, push_cast, reduceIte, Nat.reduceEqDiff, reduceCtorEq, Nat.reduceAdd, Nat.reduceLeDiff, Nat.reduceBEq]))
      all_goals first | (first | exact finRo hwf (by first | exact .inl rfl | exact .inr rfl) (by first | rfl | (simp only [push_cast, reduceIte, Nat.reduceEqDiff, reduceCtorEq, Nat.reduceAdd, Nat.reduceLeDiff, Nat.reduceBEq]; exact rfl)) (by first | exact .inl rfl | (right; simp only [push_cast, reduceIte, Nat.reduceEqDiff, reduceCtorEq, Nat.reduceAdd, Nat.reduceLeDiff, Nat.reduceBEq]; try rfl)) (by first | rfl | assumption | exact bd_cmd | (simp [V.bd, V.bdL]; done)) (by simp) (by (repeat first | exact (wfR hwf _).subm | exact subR hm hwf | refine Sub.drop (by simp) ?_)) (by (repeat first | exact (hwf).suba | refine Sub.drop (by simp) ?_)) ((hwf).subx) (by first | assumption | (simp [*]; done) | (simp only [if_true, if_false, Bool.false_eq_true, *]; done) | fail) (by first | assumption | (simp [*]; done) | fail) | exact finRe hwf (by first | (simp [*]; done) | (simp only [if_true, if_false, Bool.false_eq_true, *]; done)) (by simp) (by (repeat first | exact (wfR hwf _).subm | exact subR hm hwf | refine Sub.drop (by simp) ?_)) (by (repeat first | exact (hwf).suba | refine Sub.drop (by simp) ?_)) ((hwf).subx))
    | true =>
      rw [rMust_ok he] at hR
      (repeat' first | (with_reducible intro x1 x2 hE hW <;> (try (have hI := rNumber_inv hE; obtain ⟨rfl, rfl, hK⟩ := hI)) <;> (try (have hI := rMust_inv hE; obtain ⟨rfl, -⟩ := hI)) <;> (try (have hI := rUnit_inv hE; obtain ⟨u1, u2, rfl⟩ := hI; dsimp only)) <;> try simp only [stR_eq, lookR, Option.map_some, hm, hf, tkV, push_cast, reduceIte, Nat.reduceEqDiff, reduceCtorEq, Nat.reduceAdd, Nat.reduceLeDiff, Nat.reduceBEq]) | (with_reducible intro x1 x2 x3 hE <;> try simp only [stR_eq, lookR, Option.map_some, hm, hf, tkV, push_cast, reduceIte, Nat.reduceEqDiff, reduceCtorEq, Nat.reduceAdd, Nat.reduceLeDiff, Nat.reduceBEq]) | (with_reducible intro hE2 <;> try simp only [stR_eq, lookR, Option.map_some, hm, hf, tkV, push_cast, reduceIte, Nat.reduceEqDiff, reduceCtorEq, Nat.reduceAdd, Nat.reduceLeDiff, Nat.reduceBEq]) | ((first | refine go rfl rfl ?_ | refine Cl.by_ (by (first | refine percent_v _ _ ht | refine must_ok he hG hw hm)) ?_ | refine RdK.c (by first | assumption | (simp only [stR_eq, lookR, Option.map_some, hm, hf, tkV, push_cast, reduceIte, Nat.reduceEqDiff, reduceCtorEq, Nat.reduceAdd, Nat.reduceLeDiff, Nat.reduceBEq] <;> exact rfl)) (by assumption) (by assumption) ?_ | refine snap_two (by simp only [stR_eq, lookR, Option.map_some, hm, hf, tkV, push_cast, reduceIte, Nat.reduceEqDiff, reduceCtorEq, Nat.reduceAdd, Nat.reduceLeDiff, Nat.reduceBEq] <;> exact rfl) ?_ | (refine Fk.by_ ?_ ?_ <;> intro hc <;> try simp only [hc]) | refine storeK_eq rfl ?_ | with_reducible refine And.intro ?_ ?_ | fail) <;> try simp only [stR_eq, lookR, Option.map_some, hm, hf, tkV, push_cast, reduceIte, Nat.reduceEqDiff, reduceCtorEq, Nat.reduceAdd, Nat.reduceLeDiff, Nat.reduceBEq]))
      all_goals have hw' := hw.tail hk3
      all_goals first | (first | exact finRo hwf (by first | exact .inl rfl | exact .inr rfl) (by first | rfl | (simp only [push_cast, reduceIte, Nat.reduceEqDiff, reduceCtorEq, Nat.reduceAdd, Nat.reduceLeDiff, Nat.reduceBEq]; exact rfl)) (by first | exact .inl rfl | (right; simp only [push_cast, reduceIte, Nat.reduceEqDiff, reduceCtorEq, Nat.reduceAdd, Nat.reduceLeDiff, Nat.reduceBEq]; try rfl)) (by first | rfl | assumption | exact bd_cmd | (simp [V.bd, V.bdL]; done)) (by simp) (by (repeat first | exact (wfR hwf _).subm | exact subR hm hwf | refine Sub.drop (by simp) ?_)) (by (repeat first | exact (hwf).suba | refine Sub.drop (by simp) ?_)) ((hwf).subx) (by first | assumption | (simp [*]; done) | (simp only [if_true, if_false, Bool.false_eq_true, *]; done) | fail) (by first | assumption | (simp [*]; done) | fail) | exact finRe hwf (by first | (simp [*]; done) | (simp only [if_true, if_false, Bool.false_eq_true, *]; done)) (by simp) (by (repeat first | exact (wfR hwf _).subm | exact subR hm hwf | refine Sub.drop (by simp) ?_)) (by (repeat first | exact (hwf).suba | refine Sub.drop (by simp) ?_)) ((hwf).subx))
  | false =>
    cases hk : (hd ts).k != 1 with
    | true =>
      have hE : rLevel ts = .error ((hd ts).a, 4) := by simp only [rLevel, hf, Bool.false_eq_true, if_false]; exact rNum_err hk
      (repeat' first | (with_reducible intro x1 x2 hE hW <;> (try (have hI := rNumber_inv hE; obtain ⟨rfl, rfl, hK⟩ := hI)) <;> (try (have hI := rMust_inv hE; obtain ⟨rfl, -⟩ := hI)) <;> (try (have hI := rUnit_inv hE; obtain ⟨u1, u2, rfl⟩ := hI; dsimp only)) <;> try simp only [stR_eq, lookR, Option.map_some, hf, push_cast, reduceIte, Nat.reduceEqDiff, reduceCtorEq, Nat.reduceAdd, Nat.reduceLeDiff, Nat.reduceBEq]) | (with_reducible intro x1 x2 x3 hE <;> try simp only [stR_eq, lookR, Option.map_some, hf, push_cast, reduceIte, Nat.reduceEqDiff, reduceCtorEq, Nat.reduceAdd, Nat.reduceLeDiff, Nat.reduceBEq]) | (with_reducible intro hE2 <;> try simp only [stR_eq, lookR, Option.map_some, hf, push_cast, reduceIte, Nat.reduceEqDiff, reduceCtorEq, Nat.reduceAdd, Nat.reduceLeDiff, Nat.reduceBEq]) | ((first | refine go rfl rfl ?_ | refine number_fail hk hG hw hm (fun ts' => ?_) | refine RdK.c (by first | assumption | (simp only [stR_eq, lookR, Option.map_some, hf, push_cast, reduceIte, Nat.reduceEqDiff, reduceCtorEq, Nat.reduceAdd, Nat.reduceLeDiff, Nat.reduceBEq] <;> exact rfl)) (by assumption) (by assumption) ?_ | refine snap_two (by simp only [stR_eq, lookR, Option.map_some, hf, push_cast, reduceIte, Nat.reduceEqDiff, reduceCtorEq, Nat.reduceAdd, Nat.reduceLeDiff, Nat.reduceBEq] <;> exact rfl) ?_ | (refine Fk.by_ ?_ ?_ <;> intro hc <;> try simp only [hc]) | refine storeK_eq rfl ?_ | with_reducible refine And.intro ?_ ?_ | fail) <;> try simp only [stR_eq, lookR, Option.map_some, hf, push_cast, reduceIte, Nat.reduceEqDiff, reduceCtorEq, Nat.reduceAdd, Nat.reduceLeDiff, Nat.reduceBEq]))
      all_goals first | (first | exact finRo hwf (by first | exact .inl rfl | exact .inr rfl) (by first | rfl | (simp only [push_cast, reduceIte, Nat.reduceEqDiff, reduceCtorEq, Nat.reduceAdd, Nat.reduceLeDiff, Nat.reduceBEq]; exact rfl)) (by first | exact .inl rfl | (right; simp only [push_cast, reduceIte, Nat.reduceEqDiff, reduceCtorEq, Nat.reduceAdd, Nat.reduceLeDiff, Nat.reduceBEq]; try rfl)) (by first | rfl | assumption | exact bd_cmd | (simp [V.bd, V.bdL]; done)) (by simp) (by (repeat first | exact (wfR hwf _).subm | exact subR hm hwf | refine Sub.drop (by simp) ?_)) (by (repeat first | exact (hwf).suba | refine Sub.drop (by simp) ?_)) ((hwf).subx) (by first | assumption | (simp [*]; done) | (simp only [if_true, if_false, Bool.false_eq_true, *]; done) | fail) (by first | assumption | (simp [*]; done) | fail) | exact finRe hwf (by first | (simp [*]; done) | (simp only [if_true, if_false, Bool.false_eq_true, *]; done)) (by simp) (by (repeat first | exact (wfR hwf _).subm | exact subR hm hwf | refine Sub.drop (by simp) ?_)) (by (repeat first | exact (hwf).suba | refine Sub.drop (by simp) ?_)) ((hwf).subx))
    | false =>
      have hn := number_ok hk hG hw hm
      have hR : rLevel ts = rNext (rMust (pctN (hd ts).t).2) (fun _ ts => .ok ((pctN (hd ts).t).1, ts.tail)) ts := by
        simp only [rLevel, hf, Bool.false_eq_true, if_false]
        rw [rNum_ok hk]
        cases he : (pctN (hd ts).t).2 == 0
        · rw [rMust_err he, rMust_err he]
        · rw [rMust_ok he, rMust_ok he]
      cases he : (pctN (hd ts).t).2 == 0 with
      | false =>
        rw [rMust_err he] at hR
        (repeat' first | (with_reducible intro x1 x2 hE hW <;> (try (have hI := rNumber_inv hE; obtain ⟨rfl, rfl, hK⟩ := hI)) <;> (try (have hI := rMust_inv hE; obtain ⟨rfl, -⟩ := hI)) <;> (try (have hI := rUnit_inv hE; obtain ⟨u1, u2, rfl⟩ := hI; dsimp only)) <;> try simp only [stR_eq, lookR, Option.map_some, hm, hf, tkV, push_cast, reduceIte, Nat.reduceEqDiff, reduceCtorEq, Nat.reduceAdd, Nat.reduceLeDiff, Nat.reduceBEq]) | (with_reducible intro x1 x2 x3 hE <;> try simp only [stR_eq, lookR, Option.map_some, hm, hf, tkV, push_cast, reduceIte, Nat.reduceEqDiff, reduceCtorEq, Nat.reduceAdd, Nat.reduceLeDiff, Nat.reduceBEq]) | (with_reducible intro hE2 <;> try simp only [stR_eq, lookR, Option.map_some, hm, hf, tkV, push_cast, reduceIte, Nat.reduceEqDiff, reduceCtorEq, Nat.reduceAdd, Nat.reduceLeDiff, Nat.reduceBEq]) | ((first | refine go rfl rfl ?_ | refine must_fail he hG hw hm (fun ts' => ?_) | refine Cl.by_ (by (first | refine hn | refine percent_v _ _ ht)) ?_ | refine RdK.c (by first | assumption | (simp only [stR_eq, lookR, Option.map_some, hm, hf, tkV, push_cast, reduceIte, Nat.reduceEqDiff, reduceCtorEq, Nat.reduceAdd, Nat.reduceLeDiff, Nat.reduceBEq] <;> exact rfl)) (by assumption) (by assumption) ?_ | refine snap_two (by simp only [stR_eq, lookR, Option.map_some, hm, hf, tkV, push_cast, reduceIte, Nat.reduceEqDiff, reduceCtorEq, Nat.reduceAdd, Nat.reduceLeDiff, Nat.reduceBEq] <;> exact rfl) ?_ | (refine Fk.by_ ?_ ?_ <;> intro hc <;> try simp only [hc]) | refine storeK_eq rfl ?_ | with_reducible refine And.intro ?_ ?_ | fail) <;> try simp only [stR_eq, lookR, Option.map_some, hm, hf, tkV, push_cast, reduceIte, Nat.reduceEqDiff, reduceCtorEq, Nat.reduceAdd, Nat.reduceLeDiff, Nat.reduceBEq]))
        all_goals first | (first | exact finRo hwf (by first | exact .inl rfl | exact .inr rfl) (by first | rfl | (simp only [push_cast, reduceIte, Nat.reduceEqDiff, reduceCtorEq, Nat.reduceAdd, Nat.reduceLeDiff, Nat.reduceBEq]; exact rfl)) (by first | exact .inl rfl | (right; simp only [push_cast, reduceIte, Nat.reduceEqDiff, reduceCtorEq, Nat.reduceAdd, Nat.reduceLeDiff, Nat.reduceBEq]; try rfl)) (by first | rfl | assumption | exact bd_cmd | (simp [V.bd, V.bdL]; done)) (by simp) (by (repeat first | exact (wfR hwf _).subm | exact subR hm hwf | refine Sub.drop (by simp) ?_)) (by (repeat first | exact (hwf).suba | refine Sub.drop (by simp) ?_)) ((hwf).subx) (by first | assumption | (simp [*]; done) | (simp only [if_true, if_false, Bool.false_eq_true, *]; done) | fail) (by first | assumption | (simp [*]; done) | fail) | exact finRe hwf (by first | (simp [*]; done) | (simp only [if_true, if_false, Bool.false_eq_true, *]; done)) (by simp) (by (repeat first | exact (wfR hwf _).subm | exact subR hm hwf | refine Sub.drop (by simp) ?_)) (by (repeat first | exact (hwf).suba | refine Sub.drop (by simp) ?_)) ((hwf).subx))
      | true =>
        rw [rMust_ok he] at hR
        (repeat' first | (with_reducible intro x1 x2 hE hW <;> (try (have hI := rNumber_inv hE; obtain ⟨rfl, rfl, hK⟩ := hI)) <;> (try (have hI := rMust_inv hE; obtain ⟨rfl, -⟩ := hI)) <;> (try (have hI := rUnit_inv hE; obtain ⟨u1, u2, rfl⟩ := hI; dsimp only)) <;> try simp only [stR_eq, lookR, Option.map_some, hm, hf, tkV, push_cast, reduceIte, Nat.reduceEqDiff, reduceCtorEq, Nat.reduceAdd, Nat.reduceLeDiff, Nat.reduceBEq]) | (with_reducible intro x1 x2 x3 hE <;> try simp only [stR_eq, lookR, Option.map_some, hm, hf, tkV, push_cast, reduceIte, Nat.reduceEqDiff, reduceCtorEq, Nat.reduceAdd, Nat.reduceLeDiff, Nat.reduceBEq]) | (with_reducible intro hE2 <;> try simp only [stR_eq, lookR, Option.map_some, hm, hf, tkV, push_cast, reduceIte, Nat.reduceEqDiff, reduceCtorEq, Nat.reduceAdd, Nat.reduceLeDiff, Nat.reduceBEq]) | ((first | refine go rfl rfl ?_ | refine Cl.by_ (by (first | refine hn | refine percent_v _ _ ht | refine must_ok he hG hw hm)) ?_ | refine RdK.c (by first | assumption | (simp only [stR_eq, lookR, Option.map_some, hm, hf, tkV, push_cast, reduceIte, Nat.reduceEqDiff, reduceCtorEq, Nat.reduceAdd, Nat.reduceLeDiff, Nat.reduceBEq] <;> exact rfl)) (by assumption) (by assumption) ?_ | refine snap_two (by simp only [stR_eq, lookR, Option.map_some, hm, hf, tkV, push_cast, reduceIte, Nat.reduceEqDiff, reduceCtorEq, Nat.reduceAdd, Nat.reduceLeDiff, Nat.reduceBEq] <;> exact rfl) ?_ | (refine Fk.by_ ?_ ?_ <;> intro hc <;> try simp only [hc]) | refine storeK_eq rfl ?_ | with_reducible refine And.intro ?_ ?_ | fail) <;> try simp only [stR_eq, lookR, Option.map_some, hm, hf, tkV, push_cast, reduceIte, Nat.reduceEqDiff, reduceCtorEq, Nat.reduceAdd, Nat.reduceLeDiff, Nat.reduceBEq]))
        all_goals have hw' := hw.tail (k1_ne hk)
        all_goals first | (first | exact finRo hwf (by first | exact .inl rfl | exact .inr rfl) (by first | rfl | (simp only [push_cast, reduceIte, Nat.reduceEqDiff, reduceCtorEq, Nat.reduceAdd, Nat.reduceLeDiff, Nat.reduceBEq]; exact rfl)) (by first | exact .inl rfl | (right; simp only [push_cast, reduceIte, Nat.reduceEqDiff, reduceCtorEq, Nat.reduceAdd, Nat.reduceLeDiff, Nat.reduceBEq]; try rfl)) (by first | rfl | assumption | exact bd_cmd | (simp [V.bd, V.bdL]; done)) (by simp) (by (repeat first | exact (wfR hwf _).subm | exact subR hm hwf | refine Sub.drop (by simp) ?_)) (by (repeat first | exact (hwf).suba | refine Sub.drop (by simp) ?_)) ((hwf).subx) (by first | assumption | (simp [*]; done) | (simp only [if_true, if_false, Bool.false_eq_true, *]; done) | fail) (by first | assumption | (simp [*]; done) | fail) | exact finRe hwf (by first | (simp [*]; done) | (simp only [if_true, if_false, Bool.false_eq_true, *]; done)) (by simp) (by (repeat first | exact (wfR hwf _).subm | exact subR hm hwf | refine Sub.drop (by simp) ?_)) (by (repeat first | exact (hwf).suba | refine Sub.drop (by simp) ?_)) ((hwf).subx))
instance : RdK 112 [] (RdP rLevel (fun n => .int .i64 n)) := (rlevel_v).k
theorem rNumber_inv {ts ts' : List Tok} {a : List UInt8} (h : rNumber ts = .ok (a, ts')) : (hd ts).t = a ∧ ts = ts' ∧ (hd ts).k ≠ 3 := by
  unfold rNumber at h
  split at h
  · cases h
  · rename_i hk
    injection h with h; injection h with h1 h2
    exact ⟨h1, h2, by simp at hk; omega⟩
theorem rMust_inv {ts ts' : List Tok} {e : Int} {a : Unit} (h : rMust e ts = .ok (a, ts')) : ts = ts' ∧ e = 0 := by
  unfold rMust at h
  split at h
  · rename_i hk
    injection h with h; injection h with h1 h2
    exact ⟨h2, by simpa using hk⟩
  · split at h <;> cases h
theorem rtime_v : RdC 113 [] rTime (fun n => .int .i64 n) := by
  intro st rid ts hG hw hm
  refine VCalls_of F113_ok mixed (Nat.le_of_ble_eq_true rfl) (fun hwf => ?_)
  have hrid := (hwf.mem _ _ hm).1
  (repeat' first | (with_reducible intro x1 x2 hE hW <;> (try (have hI := rNumber_inv hE; obtain ⟨rfl, rfl, hK⟩ := hI)) <;> (try (have hI := rMust_inv hE; obtain ⟨rfl, -⟩ := hI)) <;> (try (have hI := rUnit_inv hE; obtain ⟨u1, u2, rfl⟩ := hI; dsimp only)) <;> try simp only [stR_eq, lookR, Option.map_some, hm, push_cast, reduceIte, Nat.reduceEqDiff, reduceCtorEq, Nat.reduceAdd, Nat.reduceLeDiff, Nat.reduceBEq]) | (with_reducible intro x1 x2 x3 hE <;> try simp only [stR_eq, lookR, Option.map_some, hm, push_cast, reduceIte, Nat.reduceEqDiff, reduceCtorEq, Nat.reduceAdd, Nat.reduceLeDiff, Nat.reduceBEq]) | (with_reducible intro hE2 <;> try simp only [stR_eq, lookR, Option.map_some, hm, push_cast, reduceIte, Nat.reduceEqDiff, reduceCtorEq, Nat.reduceAdd, Nat.reduceLeDiff, Nat.reduceBEq]) | ((first | refine go rfl rfl ?_ | refine Cl.by_ (by (first | refine seconds_v _ _ hG (WfT.txt (by assumption)))) ?_ | refine RdK.c (by first | assumption | (simp only [stR_eq, lookR, Option.map_some, hm, push_cast, reduceIte, Nat.reduceEqDiff, reduceCtorEq, Nat.reduceAdd, Nat.reduceLeDiff, Nat.reduceBEq] <;> exact rfl)) (by assumption) (by assumption) ?_ | refine snap_two (by simp only [stR_eq, lookR, Option.map_some, hm, push_cast, reduceIte, Nat.reduceEqDiff, reduceCtorEq, Nat.reduceAdd, Nat.reduceLeDiff, Nat.reduceBEq] <;> exact rfl) ?_ | (refine Fk.by_ ?_ ?_ <;> intro hc <;> try simp only [hc]) | refine storeK_eq rfl ?_ | with_reducible refine And.intro ?_ ?_ | fail) <;> try simp only [stR_eq, lookR, Option.map_some, hm, push_cast, reduceIte, Nat.reduceEqDiff, reduceCtorEq, Nat.reduceAdd, Nat.reduceLeDiff, Nat.reduceBEq]))
  all_goals try have hw' := WfT.tail hW hK
  all_goals first | (first | exact finRo hwf (by first | exact .inl rfl | exact .inr rfl) (by first | rfl | (simp only [rTime, rNext, rOk, push_cast, reduceIte, Nat.reduceEqDiff, reduceCtorEq, Nat.reduceAdd, Nat.reduceLeDiff, Nat.reduceBEq]; exact rfl)) (by first | exact .inl rfl | (right; simp only [push_cast, reduceIte, Nat.reduceEqDiff, reduceCtorEq, Nat.reduceAdd, Nat.reduceLeDiff, Nat.reduceBEq]; try rfl)) (by first | rfl | assumption | exact bd_cmd | (simp [V.bd, V.bdL]; done)) (by simp) (by (repeat first | exact (wfR hwf _).subm | exact subR hm hwf | refine Sub.drop (by simp) ?_)) (by (repeat first | exact (hwf).suba | refine Sub.drop (by simp) ?_)) ((hwf).subx) (by first | assumption | (simp [rTime, rNext, rOk, *]; done) | (simp only [rTime, rNext, rOk, if_true, if_false, Bool.false_eq_true, *]; done) | fail) (by first | assumption | (simp [rTime, rNext, rOk, *]; done) | fail) | exact finRe hwf (by first | (simp [rTime, rNext, rOk, *]; done) | (simp only [rTime, rNext, rOk, if_true, if_false, Bool.false_eq_true, *]; done)) (by simp) (by (repeat first | exact (wfR hwf _).subm | exact subR hm hwf | refine Sub.drop (by simp) ?_)) (by (repeat first | exact (hwf).suba | refine Sub.drop (by simp) ?_)) ((hwf).subx))
instance : RdK 113 [] (RdP rTime (fun n => .int .i64 n)) := (rtime_v).k
end Go.Proofs.YtnondemehfkalaaGreatDoor

set_option maxRecDepth 10000
namespace Go.Proofs.YtnondemehfkalaaGreatDoor
open Go.Sha

theorem cutW_len {c : UInt8} {s : List UInt8} {n : Nat} (h : s.length < n) : (cutW c s).length < n := by unfold cutW; rw [List.length_take]; omega
theorem cutR_len {c : UInt8} {s : List UInt8} {n : Nat} (h : s.length < n) : (cutR c s).length < n := by unfold cutR; rw [List.length_drop]; omega
theorem dg1 {s : List UInt8} (h : (!digsB s) = false) : s ≠ [] := (digsB_ok (by simpa using h)).1
theorem dg2 {s : List UInt8} (h : (!digsB s) = false) : s.all digB = true := (digsB_ok (by simpa using h)).2
theorem lt62 {n : Nat} (h : n < 140737488355328) : n < 4611686018427387904 := by omega

theorem k0_ne {ts : List Tok} (hk : ((hd ts).k != 0) = false) : (hd ts).k ≠ 3 := by
  simp at hk; omega
set_option maxHeartbeats 1000000 in
theorem runit_v : RdC 172 [] rUnit fixV := by
  intro st rid ts hG hw hm
  refine VCalls_of F172_ok mixed (Nat.le_of_ble_eq_true rfl) (fun hwf => ?_)
  have hrid := (hwf.mem _ _ hm).1
  have e1 : (st.nx = rid) = False := eq_false (by omega)
  have e2 : (st.nx + 1 = rid) = False := eq_false (by omega)
  have e3 : (st.nx + 2 = rid) = False := eq_false (by omega)
  have d49 : digsB [49] = true := rfl
  have c49 : capV (numD [49]) = 1 := rfl
  (repeat' first | (with_reducible intro x1 x2 hE hW <;> (try (have hI := rNumber_inv hE; obtain ⟨rfl, rfl, hK⟩ := hI)) <;> (try (have hI := rMust_inv hE; obtain ⟨rfl, -⟩ := hI)) <;> (try (have hI := rUnit_inv hE; obtain ⟨u1, u2, rfl⟩ := hI; dsimp only)) <;> try simp only [stR_eq, lookR, Option.map_some, hm, e1, e2, e3, d49, push_cast, reduceIte, Nat.reduceEqDiff, reduceCtorEq, Nat.reduceAdd, Nat.reduceLeDiff, Nat.reduceBEq]) | (with_reducible intro x1 x2 x3 hE <;> try simp only [stR_eq, lookR, Option.map_some, hm, e1, e2, e3, d49, push_cast, reduceIte, Nat.reduceEqDiff, reduceCtorEq, Nat.reduceAdd, Nat.reduceLeDiff, Nat.reduceBEq]) | (with_reducible intro hE2 <;> try simp only [stR_eq, lookR, Option.map_some, hm, e1, e2, e3, d49, push_cast, reduceIte, Nat.reduceEqDiff, reduceCtorEq, Nat.reduceAdd, Nat.reduceLeDiff, Nat.reduceBEq]) | ((first | refine go rfl rfl ?_ | refine Cl.by_ (by (first | refine cut_v _ _ _ (lt62 (WfT.txt (by assumption))) | refine digits_v _ _ (lt62 (cutW_len (WfT.txt (by assumption)))) | refine digits_v _ _ (lt62 (cutR_len (WfT.txt (by assumption)))) | refine digits_v [49] _ (by decide) | refine value_v _ _ hG (cutW_len (WfT.txt (by assumption))) (dg1 (by first | assumption | (simp only [Bool.not_eq_false']; assumption))) (dg2 (by first | assumption | (simp only [Bool.not_eq_false']; assumption))) | refine value_v _ _ hG (cutR_len (WfT.txt (by assumption))) (dg1 (by first | assumption | (simp only [Bool.not_eq_false']; assumption))) (dg2 (by first | assumption | (simp only [Bool.not_eq_false']; assumption))) | refine value_v [49] _ hG (by decide) (by decide) (by decide))) ?_ | refine RdK.c (by first | assumption | (simp only [stR_eq, lookR, Option.map_some, hm, e1, e2, e3, d49, push_cast, reduceIte, Nat.reduceEqDiff, reduceCtorEq, Nat.reduceAdd, Nat.reduceLeDiff, Nat.reduceBEq] <;> exact rfl)) (by assumption) (by assumption) ?_ | refine snap_two (by simp only [stR_eq, lookR, Option.map_some, hm, e1, e2, e3, d49, push_cast, reduceIte, Nat.reduceEqDiff, reduceCtorEq, Nat.reduceAdd, Nat.reduceLeDiff, Nat.reduceBEq] <;> exact rfl) ?_ | (refine Fk.by_ ?_ ?_ <;> intro hc <;> try simp only [hc]) | refine storeK_eq rfl ?_ | with_reducible refine And.intro ?_ ?_ | fail) <;> try simp only [stR_eq, lookR, Option.map_some, hm, e1, e2, e3, d49, push_cast, reduceIte, Nat.reduceEqDiff, reduceCtorEq, Nat.reduceAdd, Nat.reduceLeDiff, Nat.reduceBEq]))
  all_goals try have hw' := WfT.tail hW hK
  all_goals first | (exfalso; simp [c49] at hc; done) | (first | exact finRo (a := ⟨_, _, _, _, _, _⟩) hwf (by first | exact .inl rfl | exact .inr rfl) (by first | rfl | (simp only [F172, rUnit, rNext, rOk, push_cast, reduceIte, Nat.reduceEqDiff, reduceCtorEq, Nat.reduceAdd, Nat.reduceLeDiff, Nat.reduceBEq]; exact rfl)) (by first | exact .inl rfl | (right; simp only [push_cast, reduceIte, Nat.reduceEqDiff, reduceCtorEq, Nat.reduceAdd, Nat.reduceLeDiff, Nat.reduceBEq]; try rfl)) (by first | rfl | assumption | exact bd_cmd | (simp [V.bd, V.bdL]; done)) (by simp) (by (repeat first | exact (wfR hwf _).subm | exact subR hm hwf | refine Sub.drop (by simp) ?_)) (by (repeat first | exact (hwf).suba | refine Sub.drop (by simp) ?_)) ((hwf).subx) (by first | assumption | (simp [F172, rUnit, rNext, rOk, *]; done) | (simp only [F172, rUnit, rNext, rOk, if_true, if_false, Bool.false_eq_true, *]; done) | fail) (by first | assumption | (simp [F172, rUnit, rNext, rOk, *]; done) | fail) | exact finRe hwf (by first | (simp [F172, rUnit, rNext, rOk, *]; done) | (simp only [F172, rUnit, rNext, rOk, if_true, if_false, Bool.false_eq_true, *]; done)) (by simp) (by (repeat first | exact (wfR hwf _).subm | exact subR hm hwf | refine Sub.drop (by simp) ?_)) (by (repeat first | exact (hwf).suba | refine Sub.drop (by simp) ?_)) ((hwf).subx))

instance : RdK 172 [] (RdP rUnit fixV) := (runit_v).k
theorem rprofile_v : RdC 173 [] rProfile .str := by
  intro st rid ts hG hw hm
  refine VCalls_of F173_ok mixed (Nat.le_of_ble_eq_true rfl) (fun hwf => ?_)
  have hrid := (hwf.mem _ _ hm).1
  have e1 : (st.nx = rid) = False := eq_false (by omega)
  have e2 : (st.nx + 1 = rid) = False := eq_false (by omega)
  have e3 : (st.nx + 2 = rid) = False := eq_false (by omega)
  (repeat' first | (with_reducible intro x1 x2 hE hW <;> (try (have hI := rNumber_inv hE; obtain ⟨rfl, rfl, hK⟩ := hI)) <;> (try (have hI := rMust_inv hE; obtain ⟨rfl, -⟩ := hI)) <;> (try (have hI := rUnit_inv hE; obtain ⟨u1, u2, rfl⟩ := hI; dsimp only)) <;> try simp only [stR_eq, lookR, Option.map_some, hm, e1, e2, e3, tkV, push_cast, reduceIte, Nat.reduceEqDiff, reduceCtorEq, Nat.reduceAdd, Nat.reduceLeDiff, Nat.reduceBEq]) | (with_reducible intro x1 x2 x3 hE <;> try simp only [stR_eq, lookR, Option.map_some, hm, e1, e2, e3, tkV, push_cast, reduceIte, Nat.reduceEqDiff, reduceCtorEq, Nat.reduceAdd, Nat.reduceLeDiff, Nat.reduceBEq]) | (with_reducible intro hE2 <;> try simp only [stR_eq, lookR, Option.map_some, hm, e1, e2, e3, tkV, push_cast, reduceIte, Nat.reduceEqDiff, reduceCtorEq, Nat.reduceAdd, Nat.reduceLeDiff, Nat.reduceBEq]) | ((first | refine go rfl rfl ?_ | refine Cl.by_ (by (first | refine Word_v _ _ (WfT.txt (by assumption)))) ?_ | refine RdK.c (by first | assumption | (simp only [stR_eq, lookR, Option.map_some, hm, e1, e2, e3, tkV, push_cast, reduceIte, Nat.reduceEqDiff, reduceCtorEq, Nat.reduceAdd, Nat.reduceLeDiff, Nat.reduceBEq] <;> exact rfl)) (by assumption) (by assumption) ?_ | refine snap_two (by simp only [stR_eq, lookR, Option.map_some, hm, e1, e2, e3, tkV, push_cast, reduceIte, Nat.reduceEqDiff, reduceCtorEq, Nat.reduceAdd, Nat.reduceLeDiff, Nat.reduceBEq] <;> exact rfl) ?_ | (refine Fk.by_ ?_ ?_ <;> intro hc <;> try simp only [hc]) | refine storeK_eq rfl ?_ | with_reducible refine And.intro ?_ ?_ | fail) <;> try simp only [stR_eq, lookR, Option.map_some, hm, e1, e2, e3, tkV, push_cast, reduceIte, Nat.reduceEqDiff, reduceCtorEq, Nat.reduceAdd, Nat.reduceLeDiff, Nat.reduceBEq]))
  all_goals try have hw' := hw.tail (k0_ne (by assumption))
  all_goals first | (first | exact finRo hwf (by first | exact .inl rfl | exact .inr rfl) (by first | rfl | (simp only [rProfile, rNext, rOk, push_cast, reduceIte, Nat.reduceEqDiff, reduceCtorEq, Nat.reduceAdd, Nat.reduceLeDiff, Nat.reduceBEq]; exact rfl)) (by first | exact .inl rfl | (right; simp only [push_cast, reduceIte, Nat.reduceEqDiff, reduceCtorEq, Nat.reduceAdd, Nat.reduceLeDiff, Nat.reduceBEq]; try rfl)) (by first | rfl | assumption | exact bd_cmd | (simp [V.bd, V.bdL]; done)) (by simp) (by (repeat first | exact (wfR hwf _).subm | exact subR hm hwf | refine Sub.drop (by simp) ?_)) (by (repeat first | exact (hwf).suba | refine Sub.drop (by simp) ?_)) ((hwf).subx) (by first | assumption | (simp [rProfile, rNext, rOk, *]; done) | (simp only [rProfile, rNext, rOk, if_true, if_false, Bool.false_eq_true, *]; done) | fail) (by first | assumption | (simp [rProfile, rNext, rOk, *]; done) | fail) | exact finRe hwf (by first | (simp [rProfile, rNext, rOk, *]; done) | (simp only [rProfile, rNext, rOk, if_true, if_false, Bool.false_eq_true, *]; done)) (by simp) (by (repeat first | exact (wfR hwf _).subm | exact subR hm hwf | refine Sub.drop (by simp) ?_)) (by (repeat first | exact (hwf).suba | refine Sub.drop (by simp) ?_)) ((hwf).subx))

instance : RdK 173 [] (RdP rProfile .str) := (rprofile_v).k
theorem rkind_v (none : Int) : RdC 108 [.int .i64 none] (rKind none) (fun n => .int .i64 n) := by
  intro st rid ts hG hw hm
  refine VCalls_of F108_ok mixed (Nat.le_of_ble_eq_true rfl) (fun hwf => ?_)
  have hrid := (hwf.mem _ _ hm).1
  have e1 : (st.nx = rid) = False := eq_false (by omega)
  have e2 : (st.nx + 1 = rid) = False := eq_false (by omega)
  have e3 : (st.nx + 2 = rid) = False := eq_false (by omega)
  (repeat' first | (with_reducible intro x1 x2 hE hW <;> (try (have hI := rNumber_inv hE; obtain ⟨rfl, rfl, hK⟩ := hI)) <;> (try (have hI := rMust_inv hE; obtain ⟨rfl, -⟩ := hI)) <;> (try (have hI := rUnit_inv hE; obtain ⟨u1, u2, rfl⟩ := hI; dsimp only)) <;> try simp only [stR_eq, lookR, Option.map_some, hm, e1, e2, e3, tkV, push_cast, reduceIte, Nat.reduceEqDiff, reduceCtorEq, Nat.reduceAdd, Nat.reduceLeDiff, Nat.reduceBEq]) | (with_reducible intro x1 x2 x3 hE <;> try simp only [stR_eq, lookR, Option.map_some, hm, e1, e2, e3, tkV, push_cast, reduceIte, Nat.reduceEqDiff, reduceCtorEq, Nat.reduceAdd, Nat.reduceLeDiff, Nat.reduceBEq]) | (with_reducible intro hE2 <;> try simp only [stR_eq, lookR, Option.map_some, hm, e1, e2, e3, tkV, push_cast, reduceIte, Nat.reduceEqDiff, reduceCtorEq, Nat.reduceAdd, Nat.reduceLeDiff, Nat.reduceBEq]) | ((first | refine go rfl rfl ?_ | refine Cl.by_ (by (first | refine attr_v _ _ hG)) ?_ | refine RdK.c (by first | assumption | (simp only [stR_eq, lookR, Option.map_some, hm, e1, e2, e3, tkV, push_cast, reduceIte, Nat.reduceEqDiff, reduceCtorEq, Nat.reduceAdd, Nat.reduceLeDiff, Nat.reduceBEq] <;> exact rfl)) (by assumption) (by assumption) ?_ | refine snap_two (by simp only [stR_eq, lookR, Option.map_some, hm, e1, e2, e3, tkV, push_cast, reduceIte, Nat.reduceEqDiff, reduceCtorEq, Nat.reduceAdd, Nat.reduceLeDiff, Nat.reduceBEq] <;> exact rfl) ?_ | (refine Fk.by_ ?_ ?_ <;> intro hc <;> try simp only [hc]) | refine storeK_eq rfl ?_ | with_reducible refine And.intro ?_ ?_ | fail) <;> try simp only [stR_eq, lookR, Option.map_some, hm, e1, e2, e3, tkV, push_cast, reduceIte, Nat.reduceEqDiff, reduceCtorEq, Nat.reduceAdd, Nat.reduceLeDiff, Nat.reduceBEq]))
  all_goals try have hw' := hw.tail (k0_ne (by assumption))
  all_goals first | (first | exact finRo hwf (by first | exact .inl rfl | exact .inr rfl) (by first | rfl | (simp only [rKind, rNext, rOk, push_cast, reduceIte, Nat.reduceEqDiff, reduceCtorEq, Nat.reduceAdd, Nat.reduceLeDiff, Nat.reduceBEq]; exact rfl)) (by first | exact .inl rfl | (right; simp only [push_cast, reduceIte, Nat.reduceEqDiff, reduceCtorEq, Nat.reduceAdd, Nat.reduceLeDiff, Nat.reduceBEq]; try rfl)) (by first | rfl | assumption | exact bd_cmd | (simp [V.bd, V.bdL]; done)) (by simp) (by (repeat first | exact (wfR hwf _).subm | exact subR hm hwf | refine Sub.drop (by simp) ?_)) (by (repeat first | exact (hwf).suba | refine Sub.drop (by simp) ?_)) ((hwf).subx) (by first | assumption | (simp [rKind, rNext, rOk, *]; done) | (simp only [rKind, rNext, rOk, if_true, if_false, Bool.false_eq_true, *]; done) | fail) (by first | assumption | (simp [rKind, rNext, rOk, *]; done) | fail) | exact finRe hwf (by first | (simp [rKind, rNext, rOk, *]; done) | (simp only [rKind, rNext, rOk, if_true, if_false, Bool.false_eq_true, *]; done)) (by simp) (by (repeat first | exact (wfR hwf _).subm | exact subR hm hwf | refine Sub.drop (by simp) ?_)) (by (repeat first | exact (hwf).suba | refine Sub.drop (by simp) ?_)) ((hwf).subx))

instance {none : Int} : RdK 108 [.int .i64 none] (RdP (rKind none) (fun n => .int .i64 n)) := (rkind_v none).k
theorem rterm_v (op : Int) : RdC 90 [.int .i64 op] (rTerm op) selV := by
  intro st rid ts hG hw hm
  refine VCalls_of F90_ok mixed (Nat.le_of_ble_eq_true rfl) (fun hwf => ?_)
  have hrid := (hwf.mem _ _ hm).1
  have e1 : (st.nx = rid) = False := eq_false (by omega)
  have e2 : (st.nx + 1 = rid) = False := eq_false (by omega)
  have e3 : (st.nx + 2 = rid) = False := eq_false (by omega)
  (repeat' first | (with_reducible intro x1 x2 hE hW <;> (try (have hI := rNumber_inv hE; obtain ⟨rfl, rfl, hK⟩ := hI)) <;> (try (have hI := rMust_inv hE; obtain ⟨rfl, -⟩ := hI)) <;> (try (have hI := rUnit_inv hE; obtain ⟨u1, u2, rfl⟩ := hI; dsimp only)) <;> try simp only [stR_eq, lookR, Option.map_some, hm, e1, e2, e3, tkV, push_cast, reduceIte, Nat.reduceEqDiff, reduceCtorEq, Nat.reduceAdd, Nat.reduceLeDiff, Nat.reduceBEq]) | (with_reducible intro x1 x2 x3 hE <;> try simp only [stR_eq, lookR, Option.map_some, hm, e1, e2, e3, tkV, push_cast, reduceIte, Nat.reduceEqDiff, reduceCtorEq, Nat.reduceAdd, Nat.reduceLeDiff, Nat.reduceBEq]) | (with_reducible intro hE2 <;> try simp only [stR_eq, lookR, Option.map_some, hm, e1, e2, e3, tkV, push_cast, reduceIte, Nat.reduceEqDiff, reduceCtorEq, Nat.reduceAdd, Nat.reduceLeDiff, Nat.reduceBEq]) | ((first | refine go rfl rfl ?_ | refine RdK.c (by first | assumption | (simp only [stR_eq, lookR, Option.map_some, hm, e1, e2, e3, tkV, push_cast, reduceIte, Nat.reduceEqDiff, reduceCtorEq, Nat.reduceAdd, Nat.reduceLeDiff, Nat.reduceBEq] <;> exact rfl)) (by assumption) (by assumption) ?_ | refine snap_two (by simp only [stR_eq, lookR, Option.map_some, hm, e1, e2, e3, tkV, push_cast, reduceIte, Nat.reduceEqDiff, reduceCtorEq, Nat.reduceAdd, Nat.reduceLeDiff, Nat.reduceBEq] <;> exact rfl) ?_ | (refine Fk.by_ ?_ ?_ <;> intro hc <;> try simp only [hc]) | refine storeK_eq rfl ?_ | with_reducible refine And.intro ?_ ?_ | fail) <;> try simp only [stR_eq, lookR, Option.map_some, hm, e1, e2, e3, tkV, push_cast, reduceIte, Nat.reduceEqDiff, reduceCtorEq, Nat.reduceAdd, Nat.reduceLeDiff, Nat.reduceBEq]))
  all_goals first | (first | exact finRo (a := ⟨_, _, _, _⟩) hwf (by first | exact .inl rfl | exact .inr rfl) (by first | rfl | (simp only [F90, rTerm, rNext, rOk, push_cast, reduceIte, Nat.reduceEqDiff, reduceCtorEq, Nat.reduceAdd, Nat.reduceLeDiff, Nat.reduceBEq]; exact rfl)) (by first | exact .inl rfl | (right; simp only [push_cast, reduceIte, Nat.reduceEqDiff, reduceCtorEq, Nat.reduceAdd, Nat.reduceLeDiff, Nat.reduceBEq]; try rfl)) (by first | rfl | assumption | exact bd_cmd | (simp [V.bd, V.bdL]; done)) (by simp) (by (repeat first | exact (wfR hwf _).subm | exact subR hm hwf | refine Sub.drop (by simp) ?_)) (by (repeat first | exact (hwf).suba | refine Sub.drop (by simp) ?_)) ((hwf).subx) (by first | assumption | (simp [F90, rTerm, rNext, rOk, *]; done) | (simp only [F90, rTerm, rNext, rOk, if_true, if_false, Bool.false_eq_true, *]; done) | fail) (by first | assumption | (simp [F90, rTerm, rNext, rOk, *]; done) | fail) | exact finRe hwf (by first | (simp [F90, rTerm, rNext, rOk, *]; done) | (simp only [F90, rTerm, rNext, rOk, if_true, if_false, Bool.false_eq_true, *]; done)) (by simp) (by (repeat first | exact (wfR hwf _).subm | exact subR hm hwf | refine Sub.drop (by simp) ?_)) (by (repeat first | exact (hwf).suba | refine Sub.drop (by simp) ?_)) ((hwf).subx))
instance {op : Int} : RdK 90 [.int .i64 op] (RdP (rTerm op) selV) := (rterm_v op).k
end Go.Proofs.YtnondemehfkalaaGreatDoor

set_option maxRecDepth 10000
namespace Go.Proofs.YtnondemehfkalaaGreatDoor
open Go.Sha

theorem bdL_sel {n : Nat} {l : List Sel} : V.bdL n (l.map selV) = true := bdL_map fun _ _ => rfl
theorem all_sel {l : List Sel} : (l.map selV).all (fun x => x.cells.length == 4) = true := by simp [selV, V.cells]
theorem cells_selV {x : Sel} : (selV x).cells = [.int .i64 x.op, .int .i64 x.g, .int .i64 x.f, .int .i64 x.t] := @_root_.id (_ = _) rfl
theorem app_sel {l : List Sel} {x : Sel} : l.map selV ++ [selV x] = (l ++ [x]).map selV := by simp
theorem rSign_len {s : List UInt8} {ts ts' : List Tok} (h : rSign s ts = .ok (true, ts')) : ts'.length = ts.length - 1 := by
  unfold rSign at h
  split at h
  · injection h with h; injection h with _ h; rw [← h]; simp
  · injection h with h; injection h with h _; cases h

theorem rSign_len2 {s : List UInt8} {ts ts' : List Tok} (h : rSign s ts = .ok (false, ts')) : ts' = ts := by
  unfold rSign at h
  split at h
  · injection h with h; injection h with h _; cases h
  · injection h with h; injection h with _ h; exact h.symm
theorem rSign_pos {s : List UInt8} {ts ts' : List Tok} (h : rSign s ts = .ok (true, ts')) : 0 < ts.length := by
  unfold rSign at h
  split at h
  · rename_i h1
    cases ts with
    | nil => simp [hdIs, hd] at h1
    | cons _ _ => simp
  · injection h with h; injection h with h _; cases h
theorem snap_sel {st : St} {x : Sel} : snapA st (selV x) = some (selV x) := by rfl
theorem part_sel {st : St} {x : Sel} : partOk st (selV x) = true := by rfl
/-- Readings never give tokens back. -/
def Shr {α : Type} (m : Rd α) : Prop := ∀ ts a ts', m ts = .ok (a, ts') → ts'.length ≤ ts.length
theorem Shr.next {α β : Type} {m : Rd α} {f : α → Rd β} (h : Shr m) (k : ∀ a, Shr (f a)) : Shr (rNext m f) := fun ts b ts' e => by
  unfold rNext at e
  split at e
  · rename_i a t1 h1
    exact Nat.le_trans (k a t1 b ts' e) (h ts a t1 h1)
  · cases e
theorem Shr.ok {α : Type} {a : α} : Shr (rOk a) := fun ts b ts' e => by
  injection e with e; injection e with _ e; rw [e]; exact Nat.le_refl _
theorem Shr.ite {α : Type} {c : Prop} [Decidable c] {a b : Rd α} (h : Shr a) (k : Shr b) : Shr (if c then a else b) := by
  split
  · exact h
  · exact k
theorem Shr.word : ∀ {ws : List (List UInt8)}, Shr (rWord ws)
  | [] => Shr.ok
  | w :: r => fun ts b ts' e => by
    unfold rWord at e
    split at e
    · injection e with e; injection e with _ e; rw [← e]; simp
    · exact Shr.word (ws := r) ts b ts' e
theorem Shr.number : Shr rNumber := fun ts b ts' e => by rw [(rNumber_inv e).2.1]; exact Nat.le_refl _
theorem Shr.int {most : Int} : Shr (rInt most) := Shr.next Shr.number fun s ts b ts' e => by
  split at e
  · cases e
  · split at e
    · cases e
    · injection e with e; injection e with _ e; rw [← e]; simp
theorem Shr.term {op : Int} : Shr (rTerm op) := Shr.next Shr.word fun w => Shr.ite (Shr.next Shr.int fun n => Shr.ok) (Shr.next Shr.int fun a => Shr.next Shr.word fun w ts b ts' e => by
  split at e
  · refine Shr.next Shr.int (fun b' t c t' e' => ?_) ts b ts' e
    split at e'
    · cases e'
    · injection e' with e'; injection e' with _ e'; rw [e']; exact Nat.le_refl _
  · injection e with e; injection e with _ e; rw [e]; exact Nat.le_refl _)
theorem rselection_v : RdC 45 [] rSelection selsV := by
  intro st rid ts hG hw hm
  refine VCalls_of F45_ok mixed (Nat.le_of_ble_eq_true rfl) (fun hwf => ?_)
  have hrid := (hwf.mem _ _ hm).1
  have e1 : (st.nx = rid) = False := eq_false (by omega)
  have e2 : (st.nx + 1 = rid) = False := eq_false (by omega)
  (repeat' first | (with_reducible intro x1 x2 hE hW <;> (try (have hI := rNumber_inv hE; obtain ⟨rfl, rfl, hK⟩ := hI)) <;> (try (have hI := rMust_inv hE; obtain ⟨rfl, -⟩ := hI)) <;> (try (have hI := rUnit_inv hE; obtain ⟨u1, u2, rfl⟩ := hI; dsimp only)) <;> try simp only [stR_eq, lookR, Option.map_some, hm, e1, e2, cells_selV, push_cast, reduceIte, Nat.reduceEqDiff, reduceCtorEq, Nat.reduceAdd, Nat.reduceLeDiff, Nat.reduceBEq]) | (with_reducible intro x1 x2 x3 hE <;> try simp only [stR_eq, lookR, Option.map_some, hm, e1, e2, cells_selV, push_cast, reduceIte, Nat.reduceEqDiff, reduceCtorEq, Nat.reduceAdd, Nat.reduceLeDiff, Nat.reduceBEq]) | (with_reducible intro hE2 <;> try simp only [stR_eq, lookR, Option.map_some, hm, e1, e2, cells_selV, push_cast, reduceIte, Nat.reduceEqDiff, reduceCtorEq, Nat.reduceAdd, Nat.reduceLeDiff, Nat.reduceBEq]) | ((first | refine go rfl rfl ?_ | refine RdK.c (by first | assumption | (simp only [stR_eq, lookR, Option.map_some, hm, e1, e2, cells_selV, push_cast, reduceIte, Nat.reduceEqDiff, reduceCtorEq, Nat.reduceAdd, Nat.reduceLeDiff, Nat.reduceBEq] <;> exact rfl)) (by assumption) (by assumption) ?_ | refine snap_two (by simp only [stR_eq, lookR, Option.map_some, hm, e1, e2, cells_selV, push_cast, reduceIte, Nat.reduceEqDiff, reduceCtorEq, Nat.reduceAdd, Nat.reduceLeDiff, Nat.reduceBEq] <;> exact rfl) ?_ | (refine Fk.by_ ?_ ?_ <;> intro hc <;> try simp only [hc]) | refine storeK_eq rfl ?_ | with_reducible refine And.intro ?_ ?_ | fail) <;> try simp only [stR_eq, lookR, Option.map_some, hm, e1, e2, cells_selV, push_cast, reduceIte, Nat.reduceEqDiff, reduceCtorEq, Nat.reduceAdd, Nat.reduceLeDiff, Nat.reduceBEq]))
  · refine WT_loop rfl (fun m e z => ∃ (acc : List Sel) (ts' : List Tok), m ≥ 0 ∧ ts'.length ≤ m ∧ WfT ts' ∧ acc.length + ts'.length ≤ 1 + x2.length ∧ rSelection ts = rMore acc m ts' ∧ e = [(3, .osl st.nx acc.length), (2, .nils), (0, .ptr rid 0)] ∧ z = ⟨st.nx + 1, updM st.mem rid [.sl (ts'.map tkV)], (st.nx, ⟨43, 4, acc.map selV, false, false⟩) :: st.arr, st.x⟩) (st.nx + 1) (Nat.le_refl _) (by rintro _ _ _ ⟨_, _, _, _, _, _, _, _, rfl⟩; rfl)
      ⟨_, _, _, ⟨[x1], x2, Nat.zero_le _, Nat.le_refl _, hW, by simp only [List.length_singleton]; omega, by simp [rSelection, rNext, hE], rfl, rfl⟩, (by repeat first | exact .nil | refine .cons (by first | rfl | (simp [V.bd, V.bdL]; try first | omega | assumption)) (by first | rfl | simp only [push_cast, reduceIte, Nat.reduceEqDiff, reduceCtorEq, Nat.reduceAdd, Nat.reduceLeDiff, Nat.reduceBEq]) ?_), .refl ((wfR hwf x2).newA (bdL_sel (l := [x1])))⟩ ?_
    rintro m e z ⟨acc, ts', _, hm1, hw1, hacc, hR, rfl, rfl⟩
    have hl1 := hw1.len
    obtain ⟨m, rfl⟩ : ∃ k, m = k + 1 := ⟨m - 1, by omega⟩
    have hsm := hW.small
    have hrm : roomV (acc.length + 1) 32 = true := by
      have h1 : acc.length + 1 ≤ maxLen := by unfold maxLen; omega
      have h2 : (acc.length + 1) * 32 ≤ 140737488355328 := by omega
      unfold roomV
      rw [decide_eq_true h1, decide_eq_true h2]; rfl
    have step1 : ∀ {b : Bool} {x : Sel} {t1 t2 : List Tok}, rSign [43] ts' = .ok (b, t1) → b = true → rTerm 0 t1 = .ok (x, t2) → rSelection ts = rMore (acc ++ [x]) m t2 ∧ t2.length + 1 ≤ ts'.length := fun h1 hb h2 => by
      subst hb
      refine ⟨by rw [hR]; simp only [rMore, rNext, h1, h2, if_true], ?_⟩
      have := rSign_len h1; have := Shr.term _ _ _ h2; omega
    have step2 : ∀ {b c : Bool} {x : Sel} {t0 t1 t2 : List Tok}, rSign [43] ts' = .ok (b, t0) → b = false → rSign [45] t0 = .ok (c, t1) → c = true → rTerm 1 t1 = .ok (x, t2) → rSelection ts = rMore (acc ++ [x]) m t2 ∧ t2.length + 1 ≤ ts'.length := fun h0 hb h1 hc h2 => by
      subst hb; subst hc
      refine ⟨by rw [hR]; simp only [rMore, rNext, h0, h1, h2, if_true, Bool.false_eq_true, if_false], ?_⟩
      have := rSign_len h1; have := Shr.term _ _ _ h2
      have := congrArg List.length (rSign_len2 h0); have := rSign_pos h1; omega
    (repeat' first | (with_reducible intro x1 x2 hE hW <;> (try (have hI := rNumber_inv hE; obtain ⟨rfl, rfl, hK⟩ := hI)) <;> (try (have hI := rMust_inv hE; obtain ⟨rfl, -⟩ := hI)) <;> (try (have hI := rUnit_inv hE; obtain ⟨u1, u2, rfl⟩ := hI; dsimp only)) <;> try simp only [stR_eq, lookR, Option.map_some, hm, e1, e2, cells_selV, app_sel, all_sel, snap_sel, part_sel, hrm, push_cast, reduceIte, Nat.reduceEqDiff, reduceCtorEq, Nat.reduceAdd, Nat.reduceLeDiff, Nat.reduceBEq]) | (with_reducible intro x1 x2 x3 hE <;> try simp only [stR_eq, lookR, Option.map_some, hm, e1, e2, cells_selV, app_sel, all_sel, snap_sel, part_sel, hrm, push_cast, reduceIte, Nat.reduceEqDiff, reduceCtorEq, Nat.reduceAdd, Nat.reduceLeDiff, Nat.reduceBEq]) | (with_reducible intro hE2 <;> try simp only [stR_eq, lookR, Option.map_some, hm, e1, e2, cells_selV, app_sel, all_sel, snap_sel, part_sel, hrm, push_cast, reduceIte, Nat.reduceEqDiff, reduceCtorEq, Nat.reduceAdd, Nat.reduceLeDiff, Nat.reduceBEq]) | ((first | refine go rfl rfl ?_ | refine RdK.c (by first | assumption | (simp only [stR_eq, lookR, Option.map_some, hm, e1, e2, cells_selV, app_sel, all_sel, snap_sel, part_sel, hrm, push_cast, reduceIte, Nat.reduceEqDiff, reduceCtorEq, Nat.reduceAdd, Nat.reduceLeDiff, Nat.reduceBEq] <;> exact rfl)) (by assumption) (by assumption) ?_ | refine snap_two (by simp only [stR_eq, lookR, Option.map_some, hm, e1, e2, cells_selV, app_sel, all_sel, snap_sel, part_sel, hrm, push_cast, reduceIte, Nat.reduceEqDiff, reduceCtorEq, Nat.reduceAdd, Nat.reduceLeDiff, Nat.reduceBEq] <;> exact rfl) ?_ | (refine Fk.by_ ?_ ?_ <;> intro hc <;> try simp only [hc]) | refine storeK_eq rfl ?_ | with_reducible refine And.intro ?_ ?_ | fail) <;> try simp only [stR_eq, lookR, Option.map_some, hm, e1, e2, cells_selV, app_sel, all_sel, snap_sel, part_sel, hrm, push_cast, reduceIte, Nat.reduceEqDiff, reduceCtorEq, Nat.reduceAdd, Nat.reduceLeDiff, Nat.reduceBEq]))
    · obtain ⟨q1, q2⟩ := step1 (by assumption) (by assumption) (by assumption)
      exact ⟨_, _, _, Nat.lt_succ_self _, ⟨acc ++ [x1], x2, Nat.zero_le _, by omega, hW, by simp only [List.length_append, List.length_singleton]; omega, q1, rfl, rfl⟩, (by repeat first | exact .nil | refine .cons (by first | rfl | (simp [V.bd, V.bdL]; try first | omega | assumption)) (by first | rfl | simp only [push_cast, reduceIte, Nat.reduceEqDiff, reduceCtorEq, Nat.reduceAdd, Nat.reduceLeDiff, Nat.reduceBEq]) ?_), Weak.wf rfl (by simp) (by (repeat first | exact ((wfR hwf x2).newA (bdL_sel (l := acc ++ [x1]))).subm | exact ((wfR hwf x2).newA (bdL_sel (l := acc ++ [x1]))).suba | refine Sub.drop (by simp) ?_)) (by (repeat first | exact ((wfR hwf x2).newA (bdL_sel (l := acc ++ [x1]))).subm | exact ((wfR hwf x2).newA (bdL_sel (l := acc ++ [x1]))).suba | refine Sub.drop (by simp) ?_)) (by (repeat first | exact ((wfR hwf x2).newA (bdL_sel (l := acc ++ [x1]))).subx | refine ExSub.dropt (by simp) ?_ | refine ExSub.drop (by simp) ?_)) ((wfR hwf x2).newA (bdL_sel (l := acc ++ [x1])))⟩
    · clear step1 step2
      (first | exact finRo hwf (by first | exact .inl rfl | exact .inr rfl) (by first | rfl | (simp only [F45, rMore, rNext, hR, push_cast, reduceIte, Nat.reduceEqDiff, reduceCtorEq, Nat.reduceAdd, Nat.reduceLeDiff, Nat.reduceBEq]; exact rfl)) (by first | exact .inl rfl | (right; simp only [push_cast, reduceIte, Nat.reduceEqDiff, reduceCtorEq, Nat.reduceAdd, Nat.reduceLeDiff, Nat.reduceBEq]; try rfl)) (by first | rfl | assumption | exact bd_cmd | (simp [V.bd, V.bdL]; done)) (by simp) (by (repeat first | exact (wfR hwf _).subm | exact subR hm hwf | refine Sub.drop (by simp) ?_)) (by (repeat first | exact (hwf).suba | refine Sub.drop (by simp) ?_)) ((hwf).subx) (by first | assumption | (simp [F45, rMore, rNext, hR, *]; done) | (simp only [F45, rMore, rNext, hR, if_true, if_false, Bool.false_eq_true, *]; done) | fail) (by first | assumption | (simp [F45, rMore, rNext, hR, *]; done) | fail) | exact finRe hwf (by first | (simp [F45, rMore, rNext, hR, *]; done) | (simp only [F45, rMore, rNext, hR, if_true, if_false, Bool.false_eq_true, *]; done)) (by simp) (by (repeat first | exact (wfR hwf _).subm | exact subR hm hwf | refine Sub.drop (by simp) ?_)) (by (repeat first | exact (hwf).suba | refine Sub.drop (by simp) ?_)) ((hwf).subx))
    · obtain ⟨q1, q2⟩ := step2 (by assumption) (by assumption) (by assumption) (by assumption) (by assumption)
      exact ⟨_, _, _, Nat.lt_succ_self _, ⟨acc ++ [x1], x2, Nat.zero_le _, by omega, hW, by simp only [List.length_append, List.length_singleton]; omega, q1, rfl, rfl⟩, (by repeat first | exact .nil | refine .cons (by first | rfl | (simp [V.bd, V.bdL]; try first | omega | assumption)) (by first | rfl | simp only [push_cast, reduceIte, Nat.reduceEqDiff, reduceCtorEq, Nat.reduceAdd, Nat.reduceLeDiff, Nat.reduceBEq]) ?_), Weak.wf rfl (by simp) (by (repeat first | exact ((wfR hwf x2).newA (bdL_sel (l := acc ++ [x1]))).subm | exact ((wfR hwf x2).newA (bdL_sel (l := acc ++ [x1]))).suba | refine Sub.drop (by simp) ?_)) (by (repeat first | exact ((wfR hwf x2).newA (bdL_sel (l := acc ++ [x1]))).subm | exact ((wfR hwf x2).newA (bdL_sel (l := acc ++ [x1]))).suba | refine Sub.drop (by simp) ?_)) (by (repeat first | exact ((wfR hwf x2).newA (bdL_sel (l := acc ++ [x1]))).subx | refine ExSub.dropt (by simp) ?_ | refine ExSub.drop (by simp) ?_)) ((wfR hwf x2).newA (bdL_sel (l := acc ++ [x1])))⟩
    all_goals clear step1 step2
    all_goals have hbs : (selsV acc).bd st.nx = true := bdL_sel
    all_goals first | (first | exact finRo hwf (by first | exact .inl rfl | exact .inr rfl) (by first | rfl | (simp only [F45, rMore, rNext, rOk, hR, push_cast, reduceIte, Nat.reduceEqDiff, reduceCtorEq, Nat.reduceAdd, Nat.reduceLeDiff, Nat.reduceBEq]; exact rfl)) (by first | exact .inl rfl | (right; simp only [push_cast, reduceIte, Nat.reduceEqDiff, reduceCtorEq, Nat.reduceAdd, Nat.reduceLeDiff, Nat.reduceBEq]; try rfl)) (by first | rfl | assumption | exact bd_cmd | (simp [V.bd, V.bdL]; done)) (by simp) (by (repeat first | exact (wfR hwf _).subm | exact subR hm hwf | refine Sub.drop (by simp) ?_)) (by (repeat first | exact (hwf).suba | refine Sub.drop (by simp) ?_)) ((hwf).subx) (by first | assumption | (simp [F45, rMore, rNext, rOk, hR, *]; done) | (simp only [F45, rMore, rNext, rOk, hR, if_true, if_false, Bool.false_eq_true, *]; done) | fail) (by first | assumption | (simp [F45, rMore, rNext, rOk, hR, *]; done) | fail) | exact finRe hwf (by first | (simp [F45, rMore, rNext, rOk, hR, *]; done) | (simp only [F45, rMore, rNext, rOk, hR, if_true, if_false, Bool.false_eq_true, *]; done)) (by simp) (by (repeat first | exact (wfR hwf _).subm | exact subR hm hwf | refine Sub.drop (by simp) ?_)) (by (repeat first | exact (hwf).suba | refine Sub.drop (by simp) ?_)) ((hwf).subx)) | (first | exact finRo (a := acc) hwf (by first | exact .inl rfl | exact .inr rfl) (by first | rfl | (simp only [F45, rMore, rNext, rOk, hR, push_cast, reduceIte, Nat.reduceEqDiff, reduceCtorEq, Nat.reduceAdd, Nat.reduceLeDiff, Nat.reduceBEq]; exact rfl)) (by first | exact .inl rfl | (right; simp only [push_cast, reduceIte, Nat.reduceEqDiff, reduceCtorEq, Nat.reduceAdd, Nat.reduceLeDiff, Nat.reduceBEq]; try rfl)) (by first | rfl | assumption | exact bd_cmd | (simp [V.bd, V.bdL]; done)) (by simp) (by (repeat first | exact (wfR hwf _).subm | exact subR hm hwf | refine Sub.drop (by simp) ?_)) (by (repeat first | exact (hwf).suba | refine Sub.drop (by simp) ?_)) ((hwf).subx) (by first | assumption | (simp [F45, rMore, rNext, rOk, hR, *]; done) | (simp only [F45, rMore, rNext, rOk, hR, if_true, if_false, Bool.false_eq_true, *]; done) | fail) (by first | assumption | (simp [F45, rMore, rNext, rOk, hR, *]; done) | fail) | exact finRe hwf (by first | (simp [F45, rMore, rNext, rOk, hR, *]; done) | (simp only [F45, rMore, rNext, rOk, hR, if_true, if_false, Bool.false_eq_true, *]; done)) (by simp) (by (repeat first | exact (wfR hwf _).subm | exact subR hm hwf | refine Sub.drop (by simp) ?_)) (by (repeat first | exact (hwf).suba | refine Sub.drop (by simp) ?_)) ((hwf).subx))
  all_goals first | (first | exact finRo hwf (by first | exact .inl rfl | exact .inr rfl) (by first | rfl | (simp only [F45, rSelection, rNext, rOk, push_cast, reduceIte, Nat.reduceEqDiff, reduceCtorEq, Nat.reduceAdd, Nat.reduceLeDiff, Nat.reduceBEq]; exact rfl)) (by first | exact .inl rfl | (right; simp only [push_cast, reduceIte, Nat.reduceEqDiff, reduceCtorEq, Nat.reduceAdd, Nat.reduceLeDiff, Nat.reduceBEq]; try rfl)) (by first | rfl | assumption | exact bd_cmd | (simp [V.bd, V.bdL]; done)) (by simp) (by (repeat first | exact (wfR hwf _).subm | exact subR hm hwf | refine Sub.drop (by simp) ?_)) (by (repeat first | exact (hwf).suba | refine Sub.drop (by simp) ?_)) ((hwf).subx) (by first | assumption | (simp [F45, rSelection, rNext, rOk, *]; done) | (simp only [F45, rSelection, rNext, rOk, if_true, if_false, Bool.false_eq_true, *]; done) | fail) (by first | assumption | (simp [F45, rSelection, rNext, rOk, *]; done) | fail) | exact finRe hwf (by first | (simp [F45, rSelection, rNext, rOk, *]; done) | (simp only [F45, rSelection, rNext, rOk, if_true, if_false, Bool.false_eq_true, *]; done)) (by simp) (by (repeat first | exact (wfR hwf _).subm | exact subR hm hwf | refine Sub.drop (by simp) ?_)) (by (repeat first | exact (hwf).suba | refine Sub.drop (by simp) ?_)) ((hwf).subx))
instance : RdK 45 [] (RdP rSelection selsV) := (rselection_v).k
end Go.Proofs.YtnondemehfkalaaGreatDoor

set_option maxRecDepth 10000
namespace Go.Proofs.YtnondemehfkalaaGreatDoor
open Go.Sha

theorem bd_cmd {n : Nat} {c : Cmd} : (cmdV c).bd n = true := by
  have : (selO c.sel).bd n = true := by
    cases c.sel with
    | none => rfl
    | some l => exact bdL_sel
  simp [cmdV, cmdL, V.bd, V.bdL, this]
theorem updM_comm {i j : Nat} {a b : List V} (h : i ≠ j) : ∀ {l : List (Nat × List V)}, updM (updM l i a) j b = updM (updM l j b) i a
  | [] => rfl
  | (k, c) :: r => by
    simp only [updM_cons]
    by_cases h1 : k = i
    · have h2 : ¬ k = j := fun e => h (h1.symm.trans e)
      simp only [h1, if_true, updM_cons]
      rw [if_neg (fun e => h e), if_neg (fun e => h e)]
      simp [updM_cons]
    · by_cases h2 : k = j
      · simp only [h1, h2, if_true, if_false, updM_cons]
        have h3 : ¬ j = i := fun e => h e.symm
        simp [updM_cons, h3]
      · simp only [h1, h2, if_false, updM_cons]
        rw [updM_comm h]
def plSt (st : St) (rid cid : Nat) (ts : List Tok) (cs : List V) : St := (stR st rid ts).put cid cs
theorem plSt_eq {st : St} {rid cid : Nat} {ts : List Tok} {cs : List V} : plSt st rid cid ts cs = ⟨st.nx, updM (updM st.mem rid [.sl (ts.map tkV)]) cid cs, st.arr, st.x⟩ := @_root_.id (_ = _) rfl
theorem rplace_v (st : St) (rid cid : Nat) (ts : List Tok) (c0 c1 c2 c3 c4 c5 c6 c7 c8 c9 c10 c11 c12 c13 c14 c15 c16 c17 c18 : V) (hG : GlOk st.x.gl) (hw : WfT ts) (hm : Sha.look st.mem rid = some [.sl (ts.map tkV)])
    (hc : Sha.look st.mem cid = some [c0, c1, c2, c3, c4, c5, c6, c7, c8, c9, c10, c11, c12, c13, c14, c15, c16, c17, c18]) (hne : cid ≠ rid) :
    VCalls Tryz.prog 171 [.ptr rid 0, .ptr cid 0] st fun r s => match rPl ts with
      | .ok (nq, ts') => r = .ret (.tup []) ∧ s = plSt st rid cid ts' [c0, c1, c2, .str nq.2, .int .i64 nq.1, c5, c6, c7, c8, c9, c10, c11, c12, c13, c14, c15, c16, c17, c18] ∧ WfT ts'
      | .error (at', e) => r = .pan (failV at' e) ∧ ∃ ts' cs, s = plSt st rid cid ts' cs := by
  refine VCalls_of F171_ok mixed (Nat.le_of_ble_eq_true rfl) (fun hwf => ?_)
  have hcw := hwf.mem _ _ hc
  have n1 : (cid = rid) = False := eq_false hne
  have n2 : (rid = cid) = False := eq_false hne.symm
  (repeat' first | (with_reducible intro x1 x2 hE hW <;> (try (have hI := rNumber_inv hE; obtain ⟨rfl, rfl, hK⟩ := hI)) <;> (try (have hI := rMust_inv hE; obtain ⟨rfl, -⟩ := hI)) <;> (try (have hI := rUnit_inv hE; obtain ⟨u1, u2, rfl⟩ := hI; dsimp only)) <;> try simp only [stR_eq, lookR, Option.map_some, hm, hc, n1, n2, look_updM, Option.map_some, push_cast, reduceIte, Nat.reduceEqDiff, reduceCtorEq, Nat.reduceAdd, Nat.reduceLeDiff, Nat.reduceBEq]) | (with_reducible intro x1 x2 x3 hE <;> try simp only [stR_eq, lookR, Option.map_some, hm, hc, n1, n2, look_updM, Option.map_some, push_cast, reduceIte, Nat.reduceEqDiff, reduceCtorEq, Nat.reduceAdd, Nat.reduceLeDiff, Nat.reduceBEq]) | (with_reducible intro hE2 <;> try simp only [stR_eq, lookR, Option.map_some, hm, hc, n1, n2, look_updM, Option.map_some, push_cast, reduceIte, Nat.reduceEqDiff, reduceCtorEq, Nat.reduceAdd, Nat.reduceLeDiff, Nat.reduceBEq]) | ((first | refine go rfl rfl ?_ | refine RdK.c (by first | assumption | (simp only [stR_eq, lookR, Option.map_some, hm, hc, n1, n2, look_updM, Option.map_some, push_cast, reduceIte, Nat.reduceEqDiff, reduceCtorEq, Nat.reduceAdd, Nat.reduceLeDiff, Nat.reduceBEq] <;> exact rfl)) (by assumption) (by assumption) ?_ | refine snap_two (by simp only [stR_eq, lookR, Option.map_some, hm, hc, n1, n2, look_updM, Option.map_some, push_cast, reduceIte, Nat.reduceEqDiff, reduceCtorEq, Nat.reduceAdd, Nat.reduceLeDiff, Nat.reduceBEq] <;> exact rfl) ?_ | (refine Fk.by_ ?_ ?_ <;> intro hc <;> try simp only [hc]) | refine storeK_eq rfl ?_ | with_reducible refine And.intro ?_ ?_ | fail) <;> try simp only [stR_eq, lookR, Option.map_some, hm, hc, n1, n2, look_updM, Option.map_some, push_cast, reduceIte, Nat.reduceEqDiff, reduceCtorEq, Nat.reduceAdd, Nat.reduceLeDiff, Nat.reduceBEq]))
  all_goals try simp only [updM_comm hne, updM_updM]
  · refine ⟨[], rfl, .tup [], _, .inl rfl, rfl, Weak.refl ((wfR hwf x2).put (id := cid) (cs := [c0, c1, c2, .str x1, .int .i64 _, c5, c6, c7, c8, c9, c10, c11, c12, c13, c14, c15, c16, c17, c18]) ?_), Nat.le_refl _, ?_⟩
    · have := hcw.2
      simp only [V.bdL, Bool.and_eq_true] at this
      show V.bdL st.nx _ = true
      simp [V.bdL, V.bd, this]
    · simp [rPl, rNext, rOk, plSt_eq, *]
  · refine ⟨_, by rfl, Weak.refl ((wfR hwf hE).put (id := cid) (cs := [c0, c1, c2, c3, .int .i64 _, c5, c6, c7, c8, c9, c10, c11, c12, c13, c14, c15, c16, c17, c18]) ?_), Nat.le_refl _, ?_⟩
    · have := hcw.2
      simp only [V.bdL, Bool.and_eq_true] at this
      show V.bdL st.nx _ = true
      simp [V.bdL, V.bd, this]
    · simp only [rPl, rNext, rOk, *]
      exact ⟨trivial, hE, _, rfl⟩
  · refine ⟨_, by rfl, Weak.refl ((wfR hwf hE).put (id := cid) (cs := [c0, c1, c2, c3, .int .i64 _, c5, c6, c7, c8, c9, c10, c11, c12, c13, c14, c15, c16, c17, c18]) ?_), Nat.le_refl _, ?_⟩
    · have := hcw.2
      simp only [V.bdL, Bool.and_eq_true] at this
      show V.bdL st.nx _ = true
      simp [V.bdL, V.bd, this]
    · simp only [rPl, rNext, rOk, *]
      exact ⟨trivial, hE, _, rfl⟩
  · refine ⟨_, by rfl, Weak.refl (wfR hwf hE), Nat.le_refl _, ?_⟩
    simp only [rPl, rNext, rOk, *]
    have hcc : updM (updM st.mem rid [.sl (hE.map tkV)]) cid [c0, c1, c2, c3, c4, c5, c6, c7, c8, c9, c10, c11, c12, c13, c14, c15, c16, c17, c18] = updM st.mem rid [.sl (hE.map tkV)] := updM_self (by rw [look_updM, if_neg hne]; exact hc)
    exact ⟨trivial, hE, [c0, c1, c2, c3, c4, c5, c6, c7, c8, c9, c10, c11, c12, c13, c14, c15, c16, c17, c18], by rw [plSt_eq, hcc]⟩
theorem place_call {st : St} {rid cid : Nat} {ts : List Tok} {c0 c1 c2 c3 c4 c5 c6 c7 c8 c9 c10 c11 c12 c13 c14 c15 c16 c17 c18 : V} {K : VRes → St → Prop} (hG : GlOk st.x.gl) (hw : WfT ts) (hm : Sha.look st.mem rid = some [.sl (ts.map tkV)])
    (hc : Sha.look st.mem cid = some [c0, c1, c2, c3, c4, c5, c6, c7, c8, c9, c10, c11, c12, c13, c14, c15, c16, c17, c18]) (hne : cid ≠ rid)
    (hok : ∀ nq ts', rPl ts = .ok (nq, ts') → WfT ts' → K (.ret (.tup [])) (plSt st rid cid ts' [c0, c1, c2, .str nq.2, .int .i64 nq.1, c5, c6, c7, c8, c9, c10, c11, c12, c13, c14, c15, c16, c17, c18]))
    (herr : ∀ at' e ts' cs, rPl ts = .error (at', e) → K (.pan (failV at' e)) (plSt st rid cid ts' cs)) : VCalls Tryz.prog 171 [.ptr rid 0, .ptr cid 0] st K := by
  refine VCalls.mono (rplace_v st rid cid ts c0 c1 c2 c3 c4 c5 c6 c7 c8 c9 c10 c11 c12 c13 c14 c15 c16 c17 c18 hG hw hm hc hne) (fun r s hr => ?_)
  split at hr
  · rename_i nq ts' he
    obtain ⟨rfl, rfl, hw'⟩ := hr
    exact hok nq ts' he hw'
  · rename_i at' e he
    obtain ⟨rfl, ts', cs, rfl⟩ := hr
    exact herr at' e ts' cs he
end Go.Proofs.YtnondemehfkalaaGreatDoor

set_option maxRecDepth 10000
namespace Go.Proofs.YtnondemehfkalaaGreatDoor
open Go.Sha

theorem rUnit_inv {ts ts' : List Tok} {f : Fix} (h : rUnit ts = .ok (f, ts')) : ∃ a b, (⟨a, b, [], 0, 0, 0⟩ : Fix) = f := by
  unfold rUnit rNext at h
  split at h
  · dsimp only at h
    split at h
    · split at h
      · cases h
      · split at h
        · cases h
        · injection h with h; injection h with h _
          exact ⟨_, _, h⟩
    · split at h
      · cases h
      · split at h
        · cases h
        · injection h with h; injection h with h _
          exact ⟨_, _, h⟩
  · cases h
set_option maxHeartbeats 40000000 in
theorem rcmds : RdC 64 [] rSet cmdV ∧ (∀ w, RdC 114 [.str w] rClear cmdV) ∧ (∀ w, RdC 116 [.str w] rUpdate cmdV) ∧ (∀ w, RdC 115 [.str w] rRecord cmdV) ∧ (∀ w, RdC 117 [.str w] rRemove cmdV) ∧ (∀ w, RdC 118 [.str w] rPatch cmdV) ∧ (∀ w, RdC 121 [.str w] (rPlay w) cmdV) ∧ (∀ w, RdC 122 [.str w] (rFader w) cmdV) ∧ (∀ w, RdC 119 [.str w] (rBlackout w) cmdV) ∧ (∀ w, RdC 123 [.str w] (rEffect w) cmdV) ∧ (∀ w, RdC 124 [.str w] (rUndo w) cmdV) := by
  refine ⟨?_, fun w => ?_, fun w => ?_, fun w => ?_, fun w => ?_, fun w => ?_, fun w => ?_, fun w => ?_, fun w => ?_, fun w => ?_, fun w => ?_⟩
  all_goals (
    intro st rid ts hG hw hm
    first | refine VCalls_of F64_ok mixed (Nat.le_of_ble_eq_true rfl) (fun hwf => ?_) | refine VCalls_of F114_ok mixed (Nat.le_of_ble_eq_true rfl) (fun hwf => ?_) | refine VCalls_of F116_ok mixed (Nat.le_of_ble_eq_true rfl) (fun hwf => ?_) | refine VCalls_of F115_ok mixed (Nat.le_of_ble_eq_true rfl) (fun hwf => ?_) | refine VCalls_of F117_ok mixed (Nat.le_of_ble_eq_true rfl) (fun hwf => ?_) | refine VCalls_of F118_ok mixed (Nat.le_of_ble_eq_true rfl) (fun hwf => ?_) | refine VCalls_of F121_ok mixed (Nat.le_of_ble_eq_true rfl) (fun hwf => ?_) | refine VCalls_of F122_ok mixed (Nat.le_of_ble_eq_true rfl) (fun hwf => ?_) | refine VCalls_of F119_ok mixed (Nat.le_of_ble_eq_true rfl) (fun hwf => ?_) | refine VCalls_of F123_ok mixed (Nat.le_of_ble_eq_true rfl) (fun hwf => ?_) | refine VCalls_of F124_ok mixed (Nat.le_of_ble_eq_true rfl) (fun hwf => ?_)
    have hrid := (hwf.mem _ _ hm).1
    have e1 : (st.nx = rid) = False := eq_false (by omega)
    have e2 : (st.nx + 1 = rid) = False := eq_false (by omega)
    have e3 : (st.nx + 2 = rid) = False := eq_false (by omega)
    (repeat' first | (with_reducible intro x1 x2 hE hW <;> (try (have hI := rNumber_inv hE; obtain ⟨rfl, rfl, hK⟩ := hI)) <;> (try (have hI := rMust_inv hE; obtain ⟨rfl, -⟩ := hI)) <;> (try (have hI := rUnit_inv hE; obtain ⟨u1, u2, rfl⟩ := hI; dsimp only)) <;> try simp only [stR_eq, lookR, Option.map_some, hm, e1, e2, e3, selsV, plSt_eq, tkV, fixV, push_cast, reduceIte, Nat.reduceEqDiff, reduceCtorEq, Nat.reduceAdd, Nat.reduceLeDiff, Nat.reduceBEq]) | (with_reducible intro x1 x2 x3 hE <;> try simp only [stR_eq, lookR, Option.map_some, hm, e1, e2, e3, selsV, plSt_eq, tkV, fixV, push_cast, reduceIte, Nat.reduceEqDiff, reduceCtorEq, Nat.reduceAdd, Nat.reduceLeDiff, Nat.reduceBEq]) | (with_reducible intro hE2 <;> try simp only [stR_eq, lookR, Option.map_some, hm, e1, e2, e3, selsV, plSt_eq, tkV, fixV, push_cast, reduceIte, Nat.reduceEqDiff, reduceCtorEq, Nat.reduceAdd, Nat.reduceLeDiff, Nat.reduceBEq]) | ((first | refine go rfl rfl ?_ | refine place_call hG (by assumption) (by first | (simp only [lookR, hm, e1, e2, e3, if_false, Sha.look, updM]; done) | (simp only [lookR, hm, e1, e2, e3, if_false, Sha.look, updM]; exact rfl)) (by first | (simp only [lookR, hm, e1, e2, e3, if_false, if_true, Sha.look, updM]; done) | (simp only [lookR, hm, e1, e2, e3, if_false, if_true, Sha.look, updM]; exact rfl)) (by omega) ?_ ?_ | refine RdK.c (by first | assumption | (simp only [stR_eq, lookR, Option.map_some, hm, e1, e2, e3, selsV, plSt_eq, tkV, fixV, push_cast, reduceIte, Nat.reduceEqDiff, reduceCtorEq, Nat.reduceAdd, Nat.reduceLeDiff, Nat.reduceBEq] <;> exact rfl)) (by assumption) (by assumption) ?_ | refine snap_two (by simp only [stR_eq, lookR, Option.map_some, hm, e1, e2, e3, selsV, plSt_eq, tkV, fixV, push_cast, reduceIte, Nat.reduceEqDiff, reduceCtorEq, Nat.reduceAdd, Nat.reduceLeDiff, Nat.reduceBEq] <;> exact rfl) ?_ | (refine Fk.by_ ?_ ?_ <;> intro hc <;> try simp only [hc]) | refine storeK_eq rfl ?_ | with_reducible refine And.intro ?_ ?_ | fail) <;> try simp only [stR_eq, lookR, Option.map_some, hm, e1, e2, e3, selsV, plSt_eq, tkV, fixV, push_cast, reduceIte, Nat.reduceEqDiff, reduceCtorEq, Nat.reduceAdd, Nat.reduceLeDiff, Nat.reduceBEq]))
    all_goals first | (first | exact finRo (a := ⟨_, _, _, _, _, none, _, _, _, _, _, ⟨_, _, _, _, _, _⟩⟩) hwf (by first | exact .inl rfl | exact .inr rfl) (by first | rfl | (simp only [F64, F114, F116, F115, F117, F118, F121, F122, F119, F123, F124, rSet, rClear, rUpdate, rRecord, rRemove, rPatch, rPlay, rFader, rBlackout, rEffect, rUndo, rNext, rOk, cmd0, fix0, rPlace, push_cast, reduceIte, Nat.reduceEqDiff, reduceCtorEq, Nat.reduceAdd, Nat.reduceLeDiff, Nat.reduceBEq]; exact rfl)) (by first | exact .inl rfl | (right; simp only [push_cast, reduceIte, Nat.reduceEqDiff, reduceCtorEq, Nat.reduceAdd, Nat.reduceLeDiff, Nat.reduceBEq]; try rfl)) (by first | rfl | assumption | exact bd_cmd | (simp [V.bd, V.bdL]; done)) (by simp) (by (repeat first | exact (wfR hwf _).subm | exact subR hm hwf | refine Sub.drop (by simp) ?_)) (by (repeat first | exact (hwf).suba | refine Sub.drop (by simp) ?_)) ((hwf).subx) (by first | assumption | (simp [F64, F114, F116, F115, F117, F118, F121, F122, F119, F123, F124, rSet, rClear, rUpdate, rRecord, rRemove, rPatch, rPlay, rFader, rBlackout, rEffect, rUndo, rNext, rOk, cmd0, fix0, rPlace, *]; done) | (simp only [F64, F114, F116, F115, F117, F118, F121, F122, F119, F123, F124, rSet, rClear, rUpdate, rRecord, rRemove, rPatch, rPlay, rFader, rBlackout, rEffect, rUndo, rNext, rOk, cmd0, fix0, rPlace, if_true, if_false, Bool.false_eq_true, *]; done) | fail) (by first | assumption | (simp [F64, F114, F116, F115, F117, F118, F121, F122, F119, F123, F124, rSet, rClear, rUpdate, rRecord, rRemove, rPatch, rPlay, rFader, rBlackout, rEffect, rUndo, rNext, rOk, cmd0, fix0, rPlace, *]; done) | fail) | exact finRe hwf (by first | (simp [F64, F114, F116, F115, F117, F118, F121, F122, F119, F123, F124, rSet, rClear, rUpdate, rRecord, rRemove, rPatch, rPlay, rFader, rBlackout, rEffect, rUndo, rNext, rOk, cmd0, fix0, rPlace, *]; done) | (simp only [F64, F114, F116, F115, F117, F118, F121, F122, F119, F123, F124, rSet, rClear, rUpdate, rRecord, rRemove, rPatch, rPlay, rFader, rBlackout, rEffect, rUndo, rNext, rOk, cmd0, fix0, rPlace, if_true, if_false, Bool.false_eq_true, *]; done)) (by simp) (by (repeat first | exact (wfR hwf _).subm | exact subR hm hwf | refine Sub.drop (by simp) ?_)) (by (repeat first | exact (hwf).suba | refine Sub.drop (by simp) ?_)) ((hwf).subx)) | (first | exact finRo (a := ⟨_, _, _, _, _, some _, _, _, _, _, _, ⟨_, _, _, _, _, _⟩⟩) hwf (by first | exact .inl rfl | exact .inr rfl) (by first | rfl | (simp only [F64, F114, F116, F115, F117, F118, F121, F122, F119, F123, F124, rSet, rClear, rUpdate, rRecord, rRemove, rPatch, rPlay, rFader, rBlackout, rEffect, rUndo, rNext, rOk, cmd0, fix0, rPlace, push_cast, reduceIte, Nat.reduceEqDiff, reduceCtorEq, Nat.reduceAdd, Nat.reduceLeDiff, Nat.reduceBEq]; exact rfl)) (by first | exact .inl rfl | (right; simp only [push_cast, reduceIte, Nat.reduceEqDiff, reduceCtorEq, Nat.reduceAdd, Nat.reduceLeDiff, Nat.reduceBEq]; try rfl)) (by first | rfl | assumption | exact bd_cmd | (simp [V.bd, V.bdL]; done)) (by simp) (by (repeat first | exact (wfR hwf _).subm | exact subR hm hwf | refine Sub.drop (by simp) ?_)) (by (repeat first | exact (hwf).suba | refine Sub.drop (by simp) ?_)) ((hwf).subx) (by first | assumption | (simp [F64, F114, F116, F115, F117, F118, F121, F122, F119, F123, F124, rSet, rClear, rUpdate, rRecord, rRemove, rPatch, rPlay, rFader, rBlackout, rEffect, rUndo, rNext, rOk, cmd0, fix0, rPlace, *]; done) | (simp only [F64, F114, F116, F115, F117, F118, F121, F122, F119, F123, F124, rSet, rClear, rUpdate, rRecord, rRemove, rPatch, rPlay, rFader, rBlackout, rEffect, rUndo, rNext, rOk, cmd0, fix0, rPlace, if_true, if_false, Bool.false_eq_true, *]; done) | fail) (by first | assumption | (simp [F64, F114, F116, F115, F117, F118, F121, F122, F119, F123, F124, rSet, rClear, rUpdate, rRecord, rRemove, rPatch, rPlay, rFader, rBlackout, rEffect, rUndo, rNext, rOk, cmd0, fix0, rPlace, *]; done) | fail) | exact finRe hwf (by first | (simp [F64, F114, F116, F115, F117, F118, F121, F122, F119, F123, F124, rSet, rClear, rUpdate, rRecord, rRemove, rPatch, rPlay, rFader, rBlackout, rEffect, rUndo, rNext, rOk, cmd0, fix0, rPlace, *]; done) | (simp only [F64, F114, F116, F115, F117, F118, F121, F122, F119, F123, F124, rSet, rClear, rUpdate, rRecord, rRemove, rPatch, rPlay, rFader, rBlackout, rEffect, rUndo, rNext, rOk, cmd0, fix0, rPlace, if_true, if_false, Bool.false_eq_true, *]; done)) (by simp) (by (repeat first | exact (wfR hwf _).subm | exact subR hm hwf | refine Sub.drop (by simp) ?_)) (by (repeat first | exact (hwf).suba | refine Sub.drop (by simp) ?_)) ((hwf).subx)))
theorem rset_v : RdC 64 [] rSet cmdV := rcmds.1
theorem rclear_v (w : List UInt8) : RdC 114 [.str w] rClear cmdV := rcmds.2.1 w
theorem rupdate_v (w : List UInt8) : RdC 116 [.str w] rUpdate cmdV := rcmds.2.2.1 w
theorem rrecord_v (w : List UInt8) : RdC 115 [.str w] rRecord cmdV := rcmds.2.2.2.1 w
theorem rremove_v (w : List UInt8) : RdC 117 [.str w] rRemove cmdV := rcmds.2.2.2.2.1 w
theorem rpatch_v (w : List UInt8) : RdC 118 [.str w] rPatch cmdV := rcmds.2.2.2.2.2.1 w
theorem rplay_v (w : List UInt8) : RdC 121 [.str w] (rPlay w) cmdV := rcmds.2.2.2.2.2.2.1 w
theorem rfader_v (w : List UInt8) : RdC 122 [.str w] (rFader w) cmdV := rcmds.2.2.2.2.2.2.2.1 w
theorem rblackout_v (w : List UInt8) : RdC 119 [.str w] (rBlackout w) cmdV := rcmds.2.2.2.2.2.2.2.2.1 w
theorem reffect_v (w : List UInt8) : RdC 123 [.str w] (rEffect w) cmdV := rcmds.2.2.2.2.2.2.2.2.2.1 w
theorem rundo_v (w : List UInt8) : RdC 124 [.str w] (rUndo w) cmdV := rcmds.2.2.2.2.2.2.2.2.2.2 w
instance : RdK 64 [] (RdP rSet cmdV) := (rset_v).k
instance {w : List UInt8} : RdK 114 [.str w] (RdP rClear cmdV) := (rclear_v w).k
instance {w : List UInt8} : RdK 116 [.str w] (RdP rUpdate cmdV) := (rupdate_v w).k
instance {w : List UInt8} : RdK 115 [.str w] (RdP rRecord cmdV) := (rrecord_v w).k
instance {w : List UInt8} : RdK 117 [.str w] (RdP rRemove cmdV) := (rremove_v w).k
instance {w : List UInt8} : RdK 118 [.str w] (RdP rPatch cmdV) := (rpatch_v w).k
instance {w : List UInt8} : RdK 121 [.str w] (RdP (rPlay w) cmdV) := (rplay_v w).k
instance {w : List UInt8} : RdK 122 [.str w] (RdP (rFader w) cmdV) := (rfader_v w).k
instance {w : List UInt8} : RdK 119 [.str w] (RdP (rBlackout w) cmdV) := (rblackout_v w).k
instance {w : List UInt8} : RdK 123 [.str w] (RdP (rEffect w) cmdV) := (reffect_v w).k
instance {w : List UInt8} : RdK 124 [.str w] (RdP (rUndo w) cmdV) := (rundo_v w).k
end Go.Proofs.YtnondemehfkalaaGreatDoor

set_option maxRecDepth 10000
namespace Go.Proofs.YtnondemehfkalaaGreatDoor
open Go.Sha

abbrev Tb := List (List UInt8 × V)
def encT (T : Tb) : List (V × V) := T.map fun p => (V.str p.1, p.2)
def putL (T : Tb) (w : List UInt8) (f : V) : Tb := match luk w T 0 with
  | none => T ++ [(w, f)]
  | some (i, _) => T.set i (w, f)
def addT (T : Tb) (f : V) : List (List UInt8) → Tb
  | [] => T
  | w :: r => addT (putL T w f) f r
theorem addT_snoc {f : V} {w : List UInt8} : ∀ {l : List (List UInt8)} {T : Tb}, addT T f (l ++ [w]) = putL (addT T f l) w f
  | [], T => rfl
  | x :: r, T => by
    show addT (putL T x f) f (r ++ [w]) = _
    rw [addT_snoc]; rfl
theorem putM_enc {T : Tb} {w : List UInt8} {f : V} : putM (encT T) (.str w) f (luk w T 0) = encT (putL T w f) := by
  unfold putL
  cases luk w T 0 with
  | none => simp [putM, encT]
  | some p => simp [putM, encT, List.map_set]
def bdT (n : Nat) (T : Tb) : Prop := ∀ p ∈ T, p.2.bd n = true
theorem bdT_put {n : Nat} {T : Tb} {w : List UInt8} {f : V} (h : bdT n T) (hf : f.bd n = true) : bdT n (putL T w f) := fun p hp => by
  unfold putL at hp
  split at hp
  · rcases List.mem_append.1 hp with hp | hp
    · exact h p hp
    · simp at hp; rw [hp]; exact hf
  · rcases List.mem_or_eq_of_mem_set hp with hp | hp
    · exact h p hp
    · rw [hp]; exact hf
theorem bdT_add {n : Nat} {f : V} (hf : f.bd n = true) : ∀ {l : List (List UInt8)} {T : Tb}, bdT n T → bdT n (addT T f l)
  | [], _, h => h
  | w :: l, T, h => bdT_add (l := l) (T := putL T w f) hf (bdT_put h hf)
theorem bdT_ob {n : Nat} {T : Tb} (h : bdT n T) : (Ob.map (encT T)).bd n = true := by
  simp only [Ob.bd, encT, List.all_map, List.all_eq_true]
  intro p hp
  simp [V.bd, h p hp]
theorem ob_bdT {n : Nat} {T : Tb} (h : (Ob.map (encT T)).bd n = true) : bdT n T := fun p hp => by
  simp only [Ob.bd, encT, List.all_map, List.all_eq_true] at h
  have := h p hp
  simp only [Function.comp, Bool.and_eq_true] at this
  exact this.2
variable {nx mid oid : Nat} {mem : List (Nat × List V)} {arr : List (Nat × Arr)} {obj : List (Nat × Ob)} {gl : List (Nat × Obj)} {ty : List (Nat × TypeId)} {T T' : Tb}
theorem wf_ob (h : St.Wf ⟨nx, mem, arr, ⟨(mid, .map (encT T)) :: obj, gl, ty⟩⟩) (hb : bdT nx T') : St.Wf ⟨nx, mem, arr, ⟨(mid, .map (encT T')) :: obj, gl, ty⟩⟩ where
  x i o hi := by
    simp only [Sha.look] at hi
    split at hi
    · rename_i e; subst e
      injection hi with hi
      subst hi
      have := h.x mid (.map (encT T)) (by simp [Sha.look])
      exact ⟨this.1, bdT_ob hb⟩
    · rename_i hne
      exact h.x i o (by simp only [Sha.look]; rw [if_neg hne]; exact hi)
  t := h.t
  mem := h.mem
  arr := h.arr
  disj := h.disj
theorem same_v (k : Nat) (rid : Nat) (ws : List (List UInt8)) (ho : Sha.look mem oid = some [.mp mid]) (hf : rid < nx) (hl : ws.length < 1000) :
    VRet Tryz.prog 120 [.fn (.func k) [.ptr rid 0] [], .sl (ws.map .str), .ptr oid 0] ⟨nx, mem, arr, ⟨(mid, .map (encT T)) :: obj, gl, ty⟩⟩ (.tup []) ⟨nx, mem, arr, ⟨(mid, .map (encT (addT T (.fn (.func k) [.ptr rid 0] []) ws))) :: obj, gl, ty⟩⟩ := by
  refine VCalls_of F120_ok mixed (Nat.le_of_ble_eq_true rfl) (fun hwf => ?_)
  have hoid : oid < nx := (hwf.mem _ _ ho).1
  have hbT : bdT nx T := ob_bdT (hwf.x mid _ (by simp [Sha.look])).2
  have hbf : (V.fn (.func k) [.ptr rid 0] []).bd nx = true := by simp [V.bd, V.bdL, hf]
  have hbw : V.bdL nx (ws.map V.str) = true := bdL_map fun _ _ => rfl
  (repeat' first | ((first | refine go rfl rfl ?_ | (refine Fk.by_ ?_ ?_ <;> intro hc <;> try simp only [hc]) | refine storeK_eq rfl ?_ | with_reducible refine And.intro ?_ ?_ | fail) <;> try simp only [push_cast, reduceIte, Nat.reduceEqDiff, reduceCtorEq, Nat.reduceAdd, Nat.reduceLeDiff, Nat.reduceBEq]))
  refine WT_loop rfl (fun n e z => ∃ j : Nat, n = ws.length - j ∧ j ≤ ws.length ∧ e = [(9, .int .i64 (j : Int)), (8, .int .i64 (ws.length : Int)), (7, .sl (ws.map .str)), (0, .fn (.func k) [.ptr rid 0] []), (1, .sl (ws.map .str)), (2, .ptr oid 0)] ∧ z = ⟨nx, mem, arr, ⟨(mid, .map (encT (addT T (.fn (.func k) [.ptr rid 0] []) (ws.take j)))) :: obj, gl, ty⟩⟩) nx (Nat.le_refl _) (by rintro _ _ _ ⟨j, _, _, _, rfl⟩; rfl)
    ⟨_, _, _, ⟨0, rfl, Nat.zero_le _, rfl, rfl⟩, (by repeat first | exact .nil | refine .cons (by first | rfl | (simp [V.bd, V.bdL]; try first | omega | assumption)) (by first | rfl | simp only [push_cast, reduceIte, Nat.reduceEqDiff, reduceCtorEq, Nat.reduceAdd, Nat.reduceLeDiff, Nat.reduceBEq]) ?_), .refl hwf⟩ ?_
  rintro n e z ⟨j, rfl, hj, rfl, rfl⟩
  rcases Nat.lt_or_ge j ws.length with hlt | hge
  · obtain ⟨w, hx⟩ : ∃ w, ws[j]? = some w := ⟨_, List.getElem?_eq_getElem hlt⟩
    have h2 : decide ((j : Int) < (ws.length : Int)) = true := decide_eq_true (by omega)
    have hwr : IntKind.i64.wrap ((j : Int) + 1) = (j : Int) + 1 := wrap64 (by omega) (by omega)
    have hT : addT T (.fn (.func k) [.ptr rid 0] []) (ws.take (j + 1)) = putL (addT T (.fn (.func k) [.ptr rid 0] []) (ws.take j)) w (.fn (.func k) [.ptr rid 0] []) := by
      rw [List.take_add_one, hx]; exact addT_snoc
    have hfv : findV (.str w) (encT (addT T (.fn (.func k) [.ptr rid 0] []) (ws.take j))) 0 = some (luk w (addT T (.fn (.func k) [.ptr rid 0] []) (ws.take j)) 0) := findV_strs w _ 0
    (repeat' first | ((first | refine go rfl rfl ?_ | (refine Fk.by_ ?_ ?_ <;> intro hc <;> try simp only [hc]) | refine storeK_eq rfl ?_ | with_reducible refine And.intro ?_ ?_ | fail) <;> try simp only [h2, hwr, hx, V.cells, ho, hfv, putM_enc, ← hT, push_cast, reduceIte, Nat.reduceEqDiff, reduceCtorEq, Nat.reduceAdd, Nat.reduceLeDiff, Nat.reduceBEq]))
    all_goals first | exact ⟨_, _, _, by omega, ⟨j + 1, rfl, by omega, rfl, rfl⟩, (by repeat first | exact .nil | refine .cons (by first | rfl | (simp [V.bd, V.bdL]; try first | omega | assumption)) (by first | rfl | simp only [push_cast, reduceIte, Nat.reduceEqDiff, reduceCtorEq, Nat.reduceAdd, Nat.reduceLeDiff, Nat.reduceBEq]) ?_), .refl (wf_ob hwf (bdT_add hbf hbT))⟩
  · have h2 : decide ((j : Int) < (ws.length : Int)) = false := decide_eq_false (by omega)
    have ej : j = ws.length := by omega
    subst ej
    rw [List.take_length]
    have hwf2 := wf_ob hwf (bdT_add (l := ws) hbf hbT)
    (repeat' first | ((first | refine go rfl rfl ?_ | (refine Fk.by_ ?_ ?_ <;> intro hc <;> try simp only [hc]) | refine storeK_eq rfl ?_ | with_reducible refine And.intro ?_ ?_ | fail) <;> try simp only [h2, push_cast, reduceIte, Nat.reduceEqDiff, reduceCtorEq, Nat.reduceAdd, Nat.reduceLeDiff, Nat.reduceBEq]))
    all_goals exact finRet0 hwf2 rfl rfl rfl
theorem same_call {k rid : Nat} {x : V} {ws : List (List UInt8)} {K : VRes → St → Prop} (hs : mapO (snapA ⟨nx, mem, arr, ⟨(mid, .map (encT T)) :: obj, gl, ty⟩⟩) [.fn (.func k) [.ptr rid 0] [], x, .ptr oid 0] = some [.fn (.func k) [.ptr rid 0] [], .sl (ws.map .str), .ptr oid 0]) (ho : Sha.look mem oid = some [.mp mid]) (hf : rid < nx) (hl : ws.length < 1000)
    (h : K (.ret (.tup [])) ⟨nx, mem, arr, ⟨(mid, .map (encT (addT T (.fn (.func k) [.ptr rid 0] []) ws))) :: obj, gl, ty⟩⟩) : VCalls Tryz.prog 120 [.fn (.func k) [.ptr rid 0] [], x, .ptr oid 0] ⟨nx, mem, arr, ⟨(mid, .map (encT T)) :: obj, gl, ty⟩⟩ K :=
  VCalls_snap (VCalls.mono (same_v k rid ws ho hf hl) (fun r s ⟨h1, h2⟩ => by subst h1; subst h2; exact h)) hs
end Go.Proofs.YtnondemehfkalaaGreatDoor

set_option maxRecDepth 10000
namespace Go.Proofs.YtnondemehfkalaaGreatDoor
open Go.Sha

abbrev vF (rid k : Nat) : V := .fn (.func k) [.ptr rid 0] []
def T0 (rid : Nat) : Tb := [([99, 108, 101, 97, 114], vF rid 114), ([114, 101, 99, 111, 114, 100], vF rid 115), ([117, 112, 100, 97, 116, 101], vF rid 116), ([100, 101, 108, 101, 116, 101], vF rid 117), ([112, 97, 116, 99, 104], vF rid 118), ([98, 108, 97, 99, 107, 111, 117, 116], vF rid 119)]
abbrev wsP : List (List UInt8) := [[103, 111], [98, 97, 99, 107], [112, 97, 117, 115, 101], [114, 101, 115, 117, 109, 101], [114, 101, 118, 101, 114, 115, 101], [103, 111, 116, 111], [114, 97, 116, 101], [114, 101, 108, 101, 97, 115, 101]]
abbrev wsF : List (List UInt8) := [[108, 105, 115, 116], [115, 117, 98], [109, 97, 115, 116, 101, 114]]
abbrev wsE : List (List UInt8) := [[101, 102, 102, 101, 99, 116], [115, 116, 111, 112]]
abbrev wsU : List (List UInt8) := [[117, 110, 100, 111], [114, 101, 100, 111]]
def Tv (rid : Nat) : Tb := addT (addT (addT (addT (T0 rid) (vF rid 121) wsP) (vF rid 122) wsF) (vF rid 123) wsE) (vF rid 124) wsU
theorem vF_bd {rid k n : Nat} (h : rid < n) : (vF rid k).bd n = true := by simp [V.bd, V.bdL, h]
theorem bdT_Tv {rid n : Nat} (h : rid < n) : bdT n (Tv rid) := by
  refine bdT_add (vF_bd h) (bdT_add (vF_bd h) (bdT_add (vF_bd h) (bdT_add (vF_bd h) ?_)))
  intro p hp
  simp only [T0, List.mem_cons, List.not_mem_nil, or_false] at hp
  rcases hp with rfl | rfl | rfl | rfl | rfl | rfl <;> exact vF_bd h
theorem wf_newob {st : St} (h : st.Wf) {T : Tb} (hb : bdT (st.nx + 1) T) : St.Wf ⟨st.nx + 1, st.mem, st.arr, ⟨(st.nx, .map (encT T)) :: st.x.obj, st.x.gl, st.x.ty⟩⟩ where
  x i o hi := by
    simp only [Sha.look] at hi
    split at hi
    · rename_i e; subst e
      injection hi with hi
      subst hi
      exact ⟨Nat.lt_succ_self _, bdT_ob hb⟩
    · exact h.x1 i o hi
  t i T hi := Nat.lt_succ_of_lt (h.t i T hi)
  mem i c hi := ⟨Nat.lt_succ_of_lt (h.mem i c hi).1, bdL_mono (Nat.le_succ _) (h.mem i c hi).2⟩
  arr i c hi := ⟨Nat.lt_succ_of_lt (h.arr i c hi).1, bdL_mono (Nat.le_succ _) (h.arr i c hi).2⟩
  disj := h.disj
set_option maxHeartbeats 2000000 in
theorem verbs_v (st : St) (rid : Nat) (hrid : rid < st.nx) : VRet Tryz.prog 65 [.ptr rid 0] st (.mp st.nx) ⟨st.nx + 1, st.mem, st.arr, ⟨(st.nx, .map (encT (Tv rid))) :: st.x.obj, st.x.gl, st.x.ty⟩⟩ := by
  refine VCalls_of F65_ok mixed (Nat.le_of_ble_eq_true rfl) (fun hwf => ?_)
  have f1 : findV (.str [114, 101, 99, 111, 114, 100]) [(.str [99, 108, 101, 97, 114], vF rid 114)] 0 = some none := by kernel_rfl
  have f2 : findV (.str [117, 112, 100, 97, 116, 101]) [(.str [99, 108, 101, 97, 114], vF rid 114), (.str [114, 101, 99, 111, 114, 100], vF rid 115)] 0 = some none := by kernel_rfl
  have f3 : findV (.str [100, 101, 108, 101, 116, 101]) [(.str [99, 108, 101, 97, 114], vF rid 114), (.str [114, 101, 99, 111, 114, 100], vF rid 115), (.str [117, 112, 100, 97, 116, 101], vF rid 116)] 0 = some none := by kernel_rfl
  have f4 : findV (.str [112, 97, 116, 99, 104]) [(.str [99, 108, 101, 97, 114], vF rid 114), (.str [114, 101, 99, 111, 114, 100], vF rid 115), (.str [117, 112, 100, 97, 116, 101], vF rid 116), (.str [100, 101, 108, 101, 116, 101], vF rid 117)] 0 = some none := by kernel_rfl
  have f5 : findV (.str [98, 108, 97, 99, 107, 111, 117, 116]) [(.str [99, 108, 101, 97, 114], vF rid 114), (.str [114, 101, 99, 111, 114, 100], vF rid 115), (.str [117, 112, 100, 97, 116, 101], vF rid 116), (.str [100, 101, 108, 101, 116, 101], vF rid 117), (.str [112, 97, 116, 99, 104], vF rid 118)] 0 = some none := by kernel_rfl
  have hW := wf_newob hwf (bdT_Tv (rid := rid) (n := st.nx + 1) (by omega))
  (repeat' first | ((first | refine go rfl rfl ?_ | (refine Fk.by_ ?_ ?_ <;> intro hc <;> try simp only [hc]) | refine storeK_eq rfl ?_ | with_reducible refine And.intro ?_ ?_ | fail) <;> try simp only [f1, f2, f3, f4, f5, push_cast, reduceIte, Nat.reduceEqDiff, reduceCtorEq, Nat.reduceAdd, Nat.reduceLeDiff, Nat.reduceBEq]))
  refine same_call (T := T0 rid) (k := 121) (rid := rid) (ws := wsP) (by first | rfl | (simp only [push_cast, reduceIte, Nat.reduceEqDiff, reduceCtorEq, Nat.reduceAdd, Nat.reduceLeDiff, Nat.reduceBEq]; exact rfl)) (by first | (simp only [push_cast, reduceIte, Nat.reduceEqDiff, reduceCtorEq, Nat.reduceAdd, Nat.reduceLeDiff, Nat.reduceBEq]; done) | (simp only [push_cast, reduceIte, Nat.reduceEqDiff, reduceCtorEq, Nat.reduceAdd, Nat.reduceLeDiff, Nat.reduceBEq]; exact rfl)) (by omega) (by decide) ?_
  (repeat' first | ((first | refine go rfl rfl ?_ | (refine Fk.by_ ?_ ?_ <;> intro hc <;> try simp only [hc]) | refine storeK_eq rfl ?_ | with_reducible refine And.intro ?_ ?_ | fail) <;> try simp only [push_cast, reduceIte, Nat.reduceEqDiff, reduceCtorEq, Nat.reduceAdd, Nat.reduceLeDiff, Nat.reduceBEq]))
  refine same_call (T := addT (T0 rid) (vF rid 121) wsP) (k := 122) (rid := rid) (ws := wsF) (by first | rfl | (simp only [push_cast, reduceIte, Nat.reduceEqDiff, reduceCtorEq, Nat.reduceAdd, Nat.reduceLeDiff, Nat.reduceBEq]; exact rfl)) (by first | (simp only [push_cast, reduceIte, Nat.reduceEqDiff, reduceCtorEq, Nat.reduceAdd, Nat.reduceLeDiff, Nat.reduceBEq]; done) | (simp only [push_cast, reduceIte, Nat.reduceEqDiff, reduceCtorEq, Nat.reduceAdd, Nat.reduceLeDiff, Nat.reduceBEq]; exact rfl)) (by omega) (by decide) ?_
  (repeat' first | ((first | refine go rfl rfl ?_ | (refine Fk.by_ ?_ ?_ <;> intro hc <;> try simp only [hc]) | refine storeK_eq rfl ?_ | with_reducible refine And.intro ?_ ?_ | fail) <;> try simp only [push_cast, reduceIte, Nat.reduceEqDiff, reduceCtorEq, Nat.reduceAdd, Nat.reduceLeDiff, Nat.reduceBEq]))
  refine same_call (T := addT (addT (T0 rid) (vF rid 121) wsP) (vF rid 122) wsF) (k := 123) (rid := rid) (ws := wsE) (by first | rfl | (simp only [push_cast, reduceIte, Nat.reduceEqDiff, reduceCtorEq, Nat.reduceAdd, Nat.reduceLeDiff, Nat.reduceBEq]; exact rfl)) (by first | (simp only [push_cast, reduceIte, Nat.reduceEqDiff, reduceCtorEq, Nat.reduceAdd, Nat.reduceLeDiff, Nat.reduceBEq]; done) | (simp only [push_cast, reduceIte, Nat.reduceEqDiff, reduceCtorEq, Nat.reduceAdd, Nat.reduceLeDiff, Nat.reduceBEq]; exact rfl)) (by omega) (by decide) ?_
  (repeat' first | ((first | refine go rfl rfl ?_ | (refine Fk.by_ ?_ ?_ <;> intro hc <;> try simp only [hc]) | refine storeK_eq rfl ?_ | with_reducible refine And.intro ?_ ?_ | fail) <;> try simp only [push_cast, reduceIte, Nat.reduceEqDiff, reduceCtorEq, Nat.reduceAdd, Nat.reduceLeDiff, Nat.reduceBEq]))
  refine same_call (T := addT (addT (addT (T0 rid) (vF rid 121) wsP) (vF rid 122) wsF) (vF rid 123) wsE) (k := 124) (rid := rid) (ws := wsU) (by first | rfl | (simp only [push_cast, reduceIte, Nat.reduceEqDiff, reduceCtorEq, Nat.reduceAdd, Nat.reduceLeDiff, Nat.reduceBEq]; exact rfl)) (by first | (simp only [push_cast, reduceIte, Nat.reduceEqDiff, reduceCtorEq, Nat.reduceAdd, Nat.reduceLeDiff, Nat.reduceBEq]; done) | (simp only [push_cast, reduceIte, Nat.reduceEqDiff, reduceCtorEq, Nat.reduceAdd, Nat.reduceLeDiff, Nat.reduceBEq]; exact rfl)) (by omega) (by decide) ?_
  (repeat' first | ((first | refine go rfl rfl ?_ | (refine Fk.by_ ?_ ?_ <;> intro hc <;> try simp only [hc]) | refine storeK_eq rfl ?_ | with_reducible refine And.intro ?_ ?_ | fail) <;> try simp only [push_cast, reduceIte, Nat.reduceEqDiff, reduceCtorEq, Nat.reduceAdd, Nat.reduceLeDiff, Nat.reduceBEq]))
  exact ⟨_, rfl, .mp st.nx, _, .inl rfl, by simp [V.bd], Weak.wf rfl (by simp) (by refine Sub.drop (by simp) ?_; exact hW.subm) (by repeat first | exact hW.suba | refine Sub.drop (by simp) ?_) hW.subx hW, Nat.le_succ _, rfl, rfl⟩
abbrev verbK (rid : Nat) : V := .mpc ((encT (Tv rid)).map Prod.fst) ((encT (Tv rid)).map Prod.snd)
/-- The table is new: it is read by content. -/
theorem verbsM_v (st : St) (rid : Nat) (hrid : rid < st.nx) : VRet Tryz.prog 65 [.ptr rid 0] st (verbK rid) st :=
  VRet_freeze (bdT_ob (bdT_Tv hrid)) (verbs_v st rid hrid)
end Go.Proofs.YtnondemehfkalaaGreatDoor
