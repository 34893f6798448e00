/- Attr. The compiled code of functions of this seat, printed by a program (ShaMain), and that it is the translation's: checked by the kernel. Percentages and numbers of cues. Percentages. Numbers of cue .. -/
import Derived.Test.YtnondemehfkalaaGreatDoorS1
import Derived.Laws.RangeAny
import Derived.Test.YtnondemehfkalaaGreatDoorProg
import Derived.KernelRfl
import Derived.Test.YtnondemehfkalaaGreatDoorSShaCC
import Derived.Tactics
import Derived.Tactics2
set_option linter.unusedSimpArgs false
set_option linter.unusedVariables false
set_option maxRecDepth 10000
set_option maxRecDepth 10000
namespace Go.Proofs.YtnondemehfkalaaGreatDoor
open Go.Sha Go.RowKit
open Nat renaming reduceEqDiff → ed, reduceLeDiff → ld
open Option renaming map_some → om
open Bool renaming false_eq_true → bf
theorem idxB_le {w : List UInt8} : ∀ {l : List (List UInt8)}, idxB w l ≤ l.length
 | [] => Nat.le_refl _
 | x :: r => by
  have := idxB_le (w := w) (l := r)
  simp only [idxB, List.length_cons]; split <;> omega
theorem idxB_drop {w : List UInt8} : ∀ {l : List (List UInt8)} {j : Nat}, j ≤ idxB w l → idxB w l = j + idxB w (l.drop j)
 | l, 0, _ => by simp
 | [], j + 1, h => by simp [idxB] at h
 | x :: r, j + 1, h => by
  simp only [idxB] at h ⊢
  split at h
  ·omega
  ·rename_i hx
   rw [if_neg hx, List.drop_succ_cons]
   have := idxB_drop (w := w) (l := r) (j := j) (by omega)
   omega
theorem idxB_get {w x : List UInt8} {l : List (List UInt8)} {j : Nat} (h : l[j]? = some x) : idxB w (l.drop j) = if (w == x) = true then 0 else idxB w (l.drop (j + 1)) + 1 := by
 obtain ⟨q1, q2⟩ := List.getElem?_eq_some_iff.1 h
 rw [List.drop_eq_getElem_cons q1, q2]
 simp only [idxB, Bool.beq_comm (a := x)]
theorem index_v (w : List UInt8) (l : List (List UInt8)) (st : St) (hl : l.length < 1000) : VRet Tryz.prog 31 [.sl (l.map .str), .str w] st (.int .i64 (if idxB w l < l.length then (idxB w l : Int) else -1)) st := by
 refine vc F31_ok rfl (fun hwf => ?_)
 have hbw : V.bdL st.nx (l.map V.str) = true := bdL_map fun _ _ => rfl
 (repeat' first | ((first | refine go rfl rfl ?_ | (refine Fk.by_ ?_ ?_ <;> intro hc <;> try simp only [hc]) | refine storeK_eq rfl ?_ | with_reducible refine an ?_ ?_) <;> try simp only [push_cast, ed, reduceCtorEq, ld]))
 refine WT_loop rfl (fun n e z => ∃ j : Nat, n = l.length - j ∧ j ≤ l.length ∧ j ≤ idxB w l ∧ e = [(8, .int .i64 (j : Int)), (7, .int .i64 (l.length : Int)), (0, .sl (l.map .str)), (1, .str w)] ∧ st = z) st.nx (Nat.le_refl _) (by rintro _ _ _ ⟨j, _, _, _, _, rfl⟩; rfl)
  ⟨_, _, _, ⟨0, rfl, Nat.zero_le _, Nat.zero_le _, rfl, rfl⟩, (by repeat first | exact .nil | refine .cons (by first | rfl | (simp [V.bd, V.bdL]; try first | omega | assumption)) (by first | rfl | simp only [push_cast, ed, reduceCtorEq, ld]) ?_), .refl hwf⟩ ?_
 rintro n e z ⟨j, rfl, hj, hr, rfl, rfl⟩
 rcases Nat.lt_or_ge j l.length with hlt | hge
 ·obtain ⟨x, hx⟩ : ∃ x, l[j]? = some x := ⟨_, List.getElem?_eq_getElem hlt⟩
  have h2 : decide ((j : Int) < (l.length : Int)) = true := decide_eq_true (by omega)
  have hwr : IntKind.i64.wrap ((j : Int) + 1) = (j : Int) + 1 := wrap64 (by omega) (by omega)
  have hd1 := idxB_drop hr
  have hd2 := idxB_get (w := w) hx
  (repeat' first | ((first | refine go rfl rfl ?_ | (refine Fk.by_ ?_ ?_ <;> intro hc <;> try simp only [hc]) | refine storeK_eq rfl ?_ | with_reducible refine an ?_ ?_) <;> try simp only [h2, hwr, hx, V.cells, push_cast, ed, reduceCtorEq, ld]))
  ·rw [hc, if_pos rfl] at hd2
   exact finRet0 hwf rfl (by rw [show idxB w l = j by omega, if_pos hlt]; rfl) rfl
  ·rw [hc, if_neg Bool.false_ne_true] at hd2
   exact ⟨_, _, _, by omega, ⟨j + 1, rfl, by omega, by omega, rfl, rfl⟩, (by repeat first | exact .nil | refine .cons (by first | rfl | (simp [V.bd, V.bdL]; try first | omega | assumption)) (by first | rfl | simp only [push_cast, ed, reduceCtorEq, ld]) ?_), .refl hwf⟩
 ·have h2 : decide ((j : Int) < (l.length : Int)) = false := decide_eq_false (by omega)
  have := idxB_le (w := w) (l := l)
  (repeat' first | ((first | refine go rfl rfl ?_ | (refine Fk.by_ ?_ ?_ <;> intro hc <;> try simp only [hc]) | refine storeK_eq rfl ?_ | with_reducible refine an ?_ ?_) <;> try simp only [h2, push_cast, ed, reduceCtorEq, ld]))
  all_goals exact finRet0 hwf rfl (by rw [if_neg (by omega)]; rfl) rfl
theorem takeWhile_self {p : UInt8 → Bool} : ∀ {l : List UInt8}, (∀ b ∈ l, p b = true) → l.takeWhile p = l
 | [], _ => rfl
 | b :: l, h => by rw [List.takeWhile_cons, if_pos (h b List.mem_cons_self), takeWhile_self (fun c hc => h c (List.mem_cons_of_mem _ hc))]
theorem idx_none {c : UInt8} {s : List UInt8} (h : 0 ≤ Lib.indexByte s c) : c ∈ s := by
 rw [index_pos] at h
 split at h
 ·rename_i hp
  unfold posB at hp
  by_cases hm : c ∈ s
  ·exact hm
  ·exfalso
   have : s.takeWhile (fun b => !(b == c)) = s := by
    refine takeWhile_self (fun b hb => ?_)
    have : b ≠ c := fun e => hm (e ▸ hb)
    simp [this]
   rw [this] at hp; omega
 ·omega
theorem idxB_mem {w : List UInt8} : ∀ {l : List (List UInt8)}, idxB w l < l.length → w ∈ l
 | [], h => by simp at h
 | x :: r, h => by
  simp only [idxB, List.length_cons] at h
  split at h
  ·rename_i hx; rw [beq_iff_eq] at hx; rw [hx]; exact List.mem_cons_self
  ·exact List.mem_cons_of_mem _ (idxB_mem (by omega))
theorem attr_sp {w : List UInt8} (h : w = [] ∨ (32 : UInt8) ∈ w) : attrN w = (0, 8) := by
 have hne : ∀ x : List UInt8, x ≠ [] → (32 : UInt8) ∉ x → w ≠ x := by
  rintro x h1 h2 rfl
  rcases h with h | h
  ·exact h1 h
  ·exact h2 h
 have hidx : ¬ idxB w namesB < 15 := fun hlt => by
  have hm := idxB_mem (w := w) (l := namesB) hlt
  have hall : namesB.all (fun x => x != [] && !(x.contains 32)) = true := by decide
  have := List.all_eq_true.1 hall w hm
  simp at this
  exact (h.elim this.1 this.2)
 unfold attrN
 rw [if_neg hidx, if_neg (by simpa using hne _ (by decide) (by decide)), if_neg (by simpa using hne _ (by decide) (by decide)), if_neg (by simpa using hne _ (by decide) (by decide))]
theorem attr_v (w : List UInt8) (st : St) (hg : GlOk st.x.gl) : VRet Tryz.prog 13 [.str w] st (.tup [.int .i64 (attrN w).1, .int .i64 (attrN w).2]) st := by
 refine vc F13_ok rfl (fun hwf => ?_)
 by_cases he : (w == []) = true
 ·(repeat' first | ((first | refine go rfl rfl ?_ | (refine Fk.by_ ?_ ?_ <;> intro hc <;> try simp only [hc]) | refine storeK_eq rfl ?_ | with_reducible refine an ?_ ?_) <;> try simp only [he, push_cast, ed, reduceCtorEq, ld]))
  all_goals exact finRet0 hwf rfl (by rw [attr_sp (.inl (by simpa using he))]; rfl) rfl
 rw [Bool.not_eq_true] at he
 cases hs : decide (0 ≤ Lib.indexByte w 32) with
 | true =>
  (repeat' first | ((first | refine go rfl rfl ?_ | refine Cl.by_ (by (first | refine contains1_v _ _ _)) ?_ | (refine Fk.by_ ?_ ?_ <;> intro hc <;> try simp only [hc]) | refine storeK_eq rfl ?_ | with_reducible refine an ?_ ?_) <;> try simp only [he, hs, push_cast, ed, reduceCtorEq, ld]))
  all_goals exact finRet0 hwf rfl (by rw [attr_sp (.inr (idx_none (by simpa using hs)))]; rfl) rfl
 | false =>
  have hi : ∀ st', VRet Tryz.prog 31 [.sl (namesB.map .str), .str w] st' (.int .i64 (if idxB w namesB < 15 then (idxB w namesB : Int) else -1)) st' := fun st' => index_v w namesB st' (by decide)
  have f1 : findV (.str [99, 111, 108, 111, 117, 114]) [(.str [112, 111, 115, 105, 116, 105, 111, 110], .int .i64 1)] 0 = some none := rfl
  have f2 : findV (.str [98, 101, 97, 109]) [(.str [112, 111, 115, 105, 116, 105, 111, 110], .int .i64 1), (.str [99, 111, 108, 111, 117, 114], .int .i64 2)] 0 = some none := rfl
  have f3 : findV (.str w) [(.str [112, 111, 115, 105, 116, 105, 111, 110], .int .i64 1), (.str [99, 111, 108, 111, 117, 114], .int .i64 2), (.str [98, 101, 97, 109], .int .i64 3)] 0 = some (luk w [([112, 111, 115, 105, 116, 105, 111, 110], .int .i64 1), ([99, 111, 108, 111, 117, 114], .int .i64 2), ([98, 101, 97, 109], .int .i64 3)] 0) := findV_strs w [([112, 111, 115, 105, 116, 105, 111, 110], .int .i64 1), ([99, 111, 108, 111, 117, 114], .int .i64 2), ([98, 101, 97, 109], .int .i64 3)] 0
  by_cases hx : idxB w namesB < 15
  ·have h1 : decide (idxB w namesB < 15) = true := decide_eq_true hx
   have h2 : decide ((0 : Int) ≤ (idxB w namesB : Int)) = true := decide_eq_true (by omega)
   (repeat' first | ((first | refine go rfl rfl ?_ | refine Cl.by_ (by (first | refine contains1_v _ _ _ | refine fields_v _ hg | refine hi _)) ?_ | (refine Fk.by_ ?_ ?_ <;> intro hc <;> try simp only [hc]) | refine storeK_eq rfl ?_ | with_reducible refine an ?_ ?_) <;> try simp only [he, hs, hx, h2, push_cast, ed, reduceCtorEq, ld]))
   have hA : attrN w = ((idxB w namesB : Int), 0) := if_pos hx
   rw [hA]
   all_goals refine finC (hwf) (by simp only [F13, push_cast, ed, reduceCtorEq, ld]; exact rfl) (by first | exact .inl rfl | (right; simp only [F13, push_cast, ed, reduceCtorEq, ld]; try rfl)) (by first | rfl | assumption) (by simp [(hwf).z])
  ·have fin : ∀ (o : Option (Nat × V)) (r : Int × Int), luk w [([112, 111, 115, 105, 116, 105, 111, 110], .int .i64 1), ([99, 111, 108, 111, 117, 114], .int .i64 2), ([98, 101, 97, 109], .int .i64 3)] 0 = o → attrN w = r → (o = none ∧ r = (0, 8) ∨ ∃ i c, o = some (i, .int .i64 c) ∧ r = (15 + c, 0) ∧ 0 ≤ c ∧ c ≤ 3) := fun o r ho hr => by
    unfold attrN at hr
    rw [if_neg hx] at hr
    simp only [luk, beq_iff_eq] at ho hr
    by_cases h1 : w = [112, 111, 115, 105, 116, 105, 111, 110]
    ·rw [if_pos h1] at ho hr; subst ho; subst hr; exact .inr ⟨_, _, rfl, rfl, by decide, by decide⟩
    rw [if_neg h1] at ho hr
    by_cases h2 : w = [99, 111, 108, 111, 117, 114]
    ·rw [if_pos h2] at ho hr; subst ho; subst hr; exact .inr ⟨_, _, rfl, rfl, by decide, by decide⟩
    rw [if_neg h2] at ho hr
    by_cases h3 : w = [98, 101, 97, 109]
    ·rw [if_pos h3] at ho hr; subst ho; subst hr; exact .inr ⟨_, _, rfl, rfl, by decide, by decide⟩
    rw [if_neg h3] at ho hr
    subst ho; subst hr; exact .inl ⟨rfl, rfl⟩
   rcases fin _ _ rfl rfl with ⟨h1, h2⟩ | ⟨i, c, h1, h2, h3, h4⟩
   ·rw [h1] at f3
    rw [h2]
    (repeat' first | ((first | refine go rfl rfl ?_ | refine Cl.by_ (by (first | refine contains1_v _ _ _ | refine fields_v _ hg | refine hi _)) ?_ | (refine Fk.by_ ?_ ?_ <;> intro hc <;> try simp only [hc]) | refine storeK_eq rfl ?_ | with_reducible refine an ?_ ?_) <;> try simp only [he, hs, hx, f1, f2, f3, push_cast, ed, reduceCtorEq, ld]))
    all_goals refine finC (hwf) (by simp only [F13, push_cast, ed, reduceCtorEq, ld]; exact rfl) (by first | exact .inl rfl | (right; simp only [F13, push_cast, ed, reduceCtorEq, ld]; try rfl)) (by first | rfl | assumption) (by simp [(hwf).z])
   ·rw [h1] at f3
    rw [h2]
    have hw : IntKind.i64.wrap (15 + c) = 15 + c := wrap64 (by omega) (by omega)
    (repeat' first | ((first | refine go rfl rfl ?_ | refine Cl.by_ (by (first | refine contains1_v _ _ _ | refine fields_v _ hg | refine hi _)) ?_ | (refine Fk.by_ ?_ ?_ <;> intro hc <;> try simp only [hc]) | refine storeK_eq rfl ?_ | with_reducible refine an ?_ ?_) <;> try simp only [he, hs, hx, f1, f2, f3, hw, push_cast, ed, reduceCtorEq, ld]))
    all_goals refine finC (hwf) (by simp only [F13, push_cast, ed, reduceCtorEq, ld]; exact rfl) (by first | exact .inl rfl | (right; simp only [F13, push_cast, ed, reduceCtorEq, ld]; try rfl)) (by first | rfl | assumption) (by simp [(hwf).z])
def F169 : FT := ⟨21, 1, [.tmp 2, .tmp 3],
 [.seq 1 2,
 .reg [.s 2 (.mv (.i 0)),
 .s 3 (.mv (.i 0))],
 .seq 3 10,
 .seq 4 5,
 .reg [.s 6 (.m 0),
 .s 7 (.bin .eql (.t 6) (.w [102, 117, 108, 108]))],
 .cond (.t 7) 6 9,
 .seq 7 8,
 .reg [.s 2 (.mv (.i 65535)),
 .s 3 (.mv (.i 0))],
 .ret,
 .skip,
 .seq 11 12,
 .reg [.s 9 (.m 0),
 .s 10 (.f 205 [(.t 9)]),
 .s 8 (.m 10),
 .s 11 (.ext 0 (.t 8)),
 .s 12 (.ext 1 (.t 8)),
 .s 4 (.m 11),
 .s 5 (.m 12)],
 .seq 13 27,
 .block 0 14,
 .seq 15 16,
 .reg [.s 14 (.m 5),
 .s 15 (.un .not (.t 14)),
 .s 13 (.m 15)],
 .cond (.t 13) 17 20,
 .seq 18 19,
 .reg [.s 2 (.mv (.i 0)),
 .s 3 (.mv (.i 3))],
 .ret,
 .seq 21 22,
 .reg [.s 17 (.m 4),
 .s 18 (.bin .gtr (.t 17) (.i 100000)),
 .s 16 (.m 18)],
 .cond (.t 16) 23 26,
 .seq 24 25,
 .reg [.s 2 (.mv (.i 0)),
 .s 3 (.mv (.i 2))],
 .ret,
 .skip,
 .seq 28 29,
 .reg [.s 19 (.m 4),
 .s 20 (.f 206 [(.t 19)]),
 .s 2 (.m 20),
 .s 3 (.mv (.i 0))],
 .ret]⟩
def F205 : FT := ⟨46, 1, [.tmp 2, .tmp 3],
 [.seq 1 2,
 .reg [.s 2 (.mv (.i 0)),
 .s 3 (.mv (.c (.bool false)))],
 .seq 3 4,
 .reg [.s 10 (.m 0),
 .s 11 (.f 35 [(.t 10), (.w [46])]),
 .s 9 (.m 11),
 .s 12 (.ext 0 (.t 9)),
 .s 13 (.ext 1 (.t 9)),
 .s 14 (.ext 2 (.t 9)),
 .s 4 (.m 12),
 .s 5 (.m 13),
 .s 6 (.m 14)],
 .seq 5 12,
 .seq 6 7,
 .reg [.s 15 (.m 4),
 .s 16 (.f 219 [(.t 15)]),
 .s 17 (.un .not (.t 16)),
 .s 18 (.m 17),
 .x 19 (.m 4) 18,
 .x 20 (.lens (.t 19)) 18,
 .x 21 (.bin .gtr (.t 20) (.i 1)) 18,
 .x 22 (.m 21) 18,
 .y 23 (.m 4) 22,
 .y 24 (.ichr (.t 23) (.i 0)) 22,
 .y 25 (.bin .eql (.t 24) (.c (.int .u8 48))) 22,
 .x 26 (.pick (.t 22) (.t 25) (.c (.bool false))) 18,
 .s 27 (.pick (.t 18) (.c (.bool true)) (.t 26)),
 .s 28 (.m 27),
 .x 29 (.m 6) 28,
 .x 30 (.m 29) 28,
 .y 31 (.m 5) 30,
 .y 32 (.f 219 [(.t 31)]) 30,
 .y 33 (.un .not (.t 32)) 30,
 .x 34 (.pick (.t 30) (.t 33) (.c (.bool false))) 28,
 .s 35 (.pick (.t 28) (.c (.bool true)) (.t 34))],
 .cond (.t 35) 8 11,
 .seq 9 10,
 .reg [.s 2 (.mv (.i 0)),
 .s 3 (.mv (.c (.bool false)))],
 .ret,
 .skip,
 .seq 13 14,
 .reg [.s 7 (.alloc 3 [(.i 0)]),
 .n (.store 1 (.t 7) (.i 0))],
 .seq 15 16,
 .reg [.s 36 (.mkfn (.func 220) [] [(.t 7)]),
 .s 8 (.m 36)],
 .seq 17 18,
 .reg [.s 37 (.m 8),
 .s 38 (.m 4),
 .s 39 (.call (.t 37) [(.t 38)])],
 .seq 19 20,
 .reg [.s 40 (.m 8),
 .s 41 (.m 5),
 .s 42 (.bin .add (.t 41) (.w [48, 48, 48])),
 .s 43 (.slices (.t 42) none (some (.i 3))),
 .s 44 (.call (.t 40) [(.t 43)])],
 .seq 21 22,
 .reg [.s 45 (.l 7),
 .s 2 (.m 45),
 .s 3 (.mv (.c (.bool true)))],
 .ret]⟩
def F206 : FT := ⟨7, 1, [.tmp 2],
 [.seq 1 2,
 .reg [.s 2 (.mv (.i 0))],
 .seq 3 4,
 .reg [.s 3 (.m 0),
 .s 4 (.bin .mul (.i 65535) (.t 3)),
 .s 5 (.bin .add (.t 4) (.i 50000)),
 .s 6 (.bin .quo (.t 5) (.i 100000)),
 .s 2 (.m 6)],
 .ret]⟩
def F208 : FT := ⟨44, 1, [.tmp 2],
 [.seq 1 2,
 .reg [.s 2 (.mv (.i 0))],
 .seq 3 4,
 .reg [.s 3 (.alloc 221 [(.str []), (.str []), (.bool false)])],
 .seq 5 6,
 .reg [.s 8 (.m 0),
 .s 9 (.f 35 [(.t 8), (.w [46])]),
 .s 7 (.m 9),
 .s 10 (.ext 0 (.t 7)),
 .s 11 (.ext 1 (.t 7)),
 .s 12 (.ext 2 (.t 7)),
 .s 13 (.a 0 3),
 .n (.store 1 (.t 13) (.t 10)),
 .s 14 (.a 1 3),
 .n (.store 1 (.t 14) (.t 11)),
 .s 15 (.a 2 3),
 .n (.store 1 (.t 15) (.t 12))],
 .seq 7 8,
 .reg [.s 16 (.mkfn (.func 222) [] [(.t 3)]),
 .s 17 (.mkfn (.func 224) [] [(.t 3)]),
 .s 18 (.mkfn (.func 226) [] [(.t 3)]),
 .s 19 (.bslice 22 1 [(.t 16), (.t 17), (.t 18)]),
 .s 4 (.m 19)],
 .seq 9 31,
 .seq 10 11,
 .reg [.s 20 (.m 4),
 .s 21 (.len (.t 20)),
 .s 22 (.mv (.i 0))],
 .block 0 12,
 .loop 13,
 .seq 14 15,
 .reg [.s 23 (.bin .lss (.t 22) (.t 21))],
 .seq 16 19,
 .cond (.t 23) 17 18,
 .skip,
 .exit 0,
 .seq 20 30,
 .block 1 21,
 .seq 22 23,
 .reg [.s 24 (.iadr 1 (.t 20) (.t 22)),
 .s 25 (.l 24),
 .s 6 (.m 25)],
 .seq 24 25,
 .reg [.s 26 (.m 6),
 .s 27 (.call (.t 26) []),
 .s 28 (.un .not (.t 27))],
 .cond (.t 28) 26 29,
 .seq 27 28,
 .reg [.s 2 (.mv (.i 3))],
 .ret,
 .skip,
 .reg [.s 29 (.bin .add (.t 22) (.i 1)),
 .s 22 (.m 29)],
 .seq 32 39,
 .seq 33 34,
 .reg [.s 30 (.m 0),
 .s 31 (.bin .eql (.t 30) (.w [48])),
 .s 32 (.m 31),
 .x 33 (.a 0 3) 32,
 .x 34 (.l 33) 32,
 .x 35 (.lens (.t 34)) 32,
 .x 36 (.bin .gtr (.t 35) (.i 4)) 32,
 .s 37 (.pick (.t 32) (.c (.bool true)) (.t 36)),
 .s 38 (.m 37),
 .x 39 (.a 1 3) 38,
 .x 40 (.l 39) 38,
 .x 41 (.lens (.t 40)) 38,
 .x 42 (.bin .gtr (.t 41) (.i 3)) 38,
 .s 43 (.pick (.t 38) (.c (.bool true)) (.t 42))],
 .cond (.t 43) 35 38,
 .seq 36 37,
 .reg [.s 2 (.mv (.i 2))],
 .ret,
 .skip,
 .seq 40 41,
 .reg [.s 2 (.mv (.i 0))],
 .ret]⟩
def F219 : FT := ⟨18, 1, [.tmp 2],
 [.seq 1 2,
 .reg [.s 2 (.mv (.c (.bool false)))],
 .seq 3 4,
 .reg [.s 3 (.mv (.c (.fn (.func 229) [] [])))],
 .seq 5 6,
 .reg [.s 4 (.m 0),
 .s 5 (.lens (.t 4)),
 .s 6 (.bin .geq (.t 5) (.i 1)),
 .s 7 (.m 6),
 .y 8 (.m 0) 7,
 .y 9 (.lens (.t 8)) 7,
 .y 10 (.bin .leq (.t 9) (.i 3)) 7,
 .s 11 (.pick (.t 7) (.t 10) (.c (.bool false))),
 .s 12 (.m 11),
 .y 13 (.m 0) 12,
 .y 14 (.m 3) 12,
 .y 15 (.f 230 [(.t 13), (.t 14)]) 12,
 .y 16 (.bin .lss (.t 15) (.i 0)) 12,
 .s 17 (.pick (.t 12) (.t 16) (.c (.bool false))),
 .s 2 (.m 17)],
 .ret]⟩
def F220 : FT := ⟨19, 1, [],
 [.seq 1 2,
 .reg [.s 5 (.m 0),
 .s 6 (.cvsb 5 (.t 5)),
 .s 7 (.len (.t 6)),
 .s 8 (.mv (.i 0))],
 .block 0 3,
 .loop 4,
 .seq 5 6,
 .reg [.s 9 (.bin .lss (.t 8) (.t 7))],
 .seq 7 10,
 .cond (.t 9) 8 9,
 .skip,
 .exit 0,
 .seq 11 15,
 .block 1 12,
 .seq 13 14,
 .reg [.s 10 (.iadr 1 (.t 6) (.t 8)),
 .s 11 (.l 10),
 .s 4 (.m 11)],
 .reg [.s 12 (.l 1),
 .s 13 (.bin .mul (.i 10) (.t 12)),
 .s 14 (.m 4),
 .s 15 (.bin .sub (.t 14) (.c (.int .u8 48))),
 .s 16 (.cvi .i64 (.t 15)),
 .s 17 (.bin .add (.t 13) (.t 16)),
 .n (.store 1 (.t 1) (.t 17))],
 .reg [.s 18 (.bin .add (.t 8) (.i 1)),
 .s 8 (.m 18)]]⟩
def F222 : FT := ⟨5, 0, [.tmp 1],
 [.seq 1 2,
 .reg [.s 1 (.mv (.c (.bool false)))],
 .seq 3 4,
 .reg [.s 2 (.a 0 0),
 .s 3 (.l 2),
 .s 4 (.f 223 [(.t 3)]),
 .s 1 (.m 4)],
 .ret]⟩
def F223 : FT := ⟨10, 1, [.tmp 2],
 [.seq 1 2,
 .reg [.s 2 (.mv (.c (.bool false)))],
 .seq 3 4,
 .reg [.s 3 (.m 0),
 .s 4 (.bin .neq (.t 3) (.w [])),
 .s 5 (.m 4),
 .y 6 (.m 0) 5,
 .y 7 (.f 231 [(.t 6), (.c (.fn (.func 232) [] []))]) 5,
 .y 8 (.un .not (.t 7)) 5,
 .s 9 (.pick (.t 5) (.t 8) (.c (.bool false))),
 .s 2 (.m 9)],
 .ret]⟩
def F224 : FT := ⟨16, 0, [.tmp 1],
 [.seq 1 2,
 .reg [.s 1 (.mv (.c (.bool false)))],
 .seq 3 4,
 .reg [.s 2 (.a 2 0),
 .s 3 (.l 2),
 .s 4 (.un .not (.t 3)),
 .s 5 (.m 4),
 .x 6 (.a 1 0) 5,
 .x 7 (.l 6) 5,
 .x 8 (.f 223 [(.t 7)]) 5,
 .x 9 (.m 8) 5,
 .y 10 (.a 1 0) 9,
 .y 11 (.l 10) 9,
 .y 12 (.f 225 [(.t 11), (.w [48])]) 9,
 .y 13 (.un .not (.t 12)) 9,
 .x 14 (.pick (.t 9) (.t 13) (.c (.bool false))) 5,
 .s 15 (.pick (.t 5) (.c (.bool true)) (.t 14)),
 .s 1 (.m 15)],
 .ret]⟩
def F226 : FT := ⟨12, 0, [.tmp 1],
 [.seq 1 2,
 .reg [.s 1 (.mv (.c (.bool false)))],
 .seq 3 4,
 .reg [.s 2 (.a 0 0),
 .s 3 (.l 2),
 .s 4 (.lens (.t 3)),
 .s 5 (.bin .eql (.t 4) (.i 1)),
 .s 6 (.m 5),
 .x 7 (.a 0 0) 6,
 .x 8 (.l 7) 6,
 .x 9 (.ichr (.t 8) (.i 0)) 6,
 .x 10 (.bin .neq (.t 9) (.c (.int .u8 48))) 6,
 .s 11 (.pick (.t 6) (.c (.bool true)) (.t 10)),
 .s 1 (.m 11)],
 .ret]⟩
def F230 : FT := ⟨8, 2, [.tmp 4],
 [.seq 1 2,
 .reg [.s 4 (.mv (.i 0))],
 .seq 3 4,
 .reg [.s 5 (.m 0),
 .s 6 (.m 1),
 .s 7 (.f 233 [(.t 5), (.t 6), (.c (.bool true))]),
 .s 4 (.m 7)],
 .ret]⟩
def F231 : FT := ⟨9, 2, [.tmp 4],
 [.seq 1 2,
 .reg [.s 4 (.mv (.c (.bool false)))],
 .seq 3 4,
 .reg [.s 5 (.m 0),
 .s 6 (.m 1),
 .s 7 (.f 230 [(.t 5), (.t 6)]),
 .s 8 (.bin .geq (.t 7) (.i 0)),
 .s 4 (.m 8)],
 .ret]⟩
theorem F169_ok : compFn Tryz.prog 169 = some F169 := by kernel_rfl
theorem F205_ok : compFn Tryz.prog 205 = some F205 := by kernel_rfl
theorem F206_ok : compFn Tryz.prog 206 = some F206 := by kernel_rfl
theorem F208_ok : compFn Tryz.prog 208 = some F208 := by kernel_rfl
theorem F219_ok : compFn Tryz.prog 219 = some F219 := by kernel_rfl
theorem F220_ok : compFn Tryz.prog 220 = some F220 := by kernel_rfl
theorem F222_ok : compFn Tryz.prog 222 = some F222 := by kernel_rfl
theorem F223_ok : compFn Tryz.prog 223 = some F223 := by kernel_rfl
theorem F224_ok : compFn Tryz.prog 224 = some F224 := by kernel_rfl
theorem F226_ok : compFn Tryz.prog 226 = some F226 := by kernel_rfl
theorem F230_ok : compFn Tryz.prog 230 = some F230 := by kernel_rfl
theorem F231_ok : compFn Tryz.prog 231 = some F231 := by kernel_rfl
end Go.Proofs.YtnondemehfkalaaGreatDoor

namespace Go.Proofs.YtnondemehfkalaaGreatDoor
open Go.Sha Go.RowKit
open Nat renaming reduceEqDiff → ed, reduceLeDiff → ld
open Option renaming map_some → om
open Bool renaming false_eq_true → bf
def othR (r : Nat) : Bool := decide (r < 48) || decide (57 < r)
theorem pred229 (w : World) : PredAt Tryz.prog 229 #[] encR othR w := fun W r _ => by
 unfold FnGives
 by_cases h1 : r < 48 <;> by_cases h2 : 57 < r
 all_goals
  have z1 : (r : Int) < 48 ↔ r < 48 := by omega
  have z2 : (57 : Int) < (r : Int) ↔ 57 < r := by omega
  go_enter Tryz.func229, Tryz.ntmps229
  go_wp2
  all_goals first | (exfalso; omega) | (go_ret; exact ⟨by simp [othR, h1, h2], 0, rfl⟩)
theorem pred232 (w : World) : PredAt Tryz.prog 232 #[] encR othR w := fun W r _ => by
 unfold FnGives
 by_cases h1 : r < 48 <;> by_cases h2 : 57 < r
 all_goals
  have z1 : (r : Int) < 48 ↔ r < 48 := by omega
  have z2 : (57 : Int) < (r : Int) ↔ 57 < r := by omega
  go_enter Tryz.func232, Tryz.ntmps232
  go_wp2
  all_goals first | (exfalso; omega) | (go_ret; exact ⟨by simp [othR, h1, h2], 0, rfl⟩)
theorem oth_from (s : ByteArray) : ∀ (f pos : Nat), s.size ≤ pos + f → (decide (Lib.idxFuncFrom othR true s f pos < 0)) = (s.data.toList.drop pos).all digB
 | 0, pos, h => by
  rw [List.drop_eq_nil_of_le (by rw [Array.length_toList]; exact h)]; rfl
 | f + 1, pos, h => by
  unfold Lib.idxFuncFrom
  by_cases hp : pos < s.size
  ·have hp' : pos < s.data.toList.length := by rw [Array.length_toList]; exact hp
   have hb : s.data.toList[pos]'hp' = s[pos]'hp := rfl
   rw [if_pos hp, List.drop_eq_getElem_cons hp', List.all_cons, hb]
   by_cases ha : (s[pos]'hp).toNat < 128
   ·rw [decode_ascii s pos hp ha]
    have ih := oth_from s f (pos + 1) (by omega)
    cases hd : digB (s[pos]'hp) with
    | true =>
     have : ¬ othR (s[pos]'hp).toNat = true := by
      simp only [digB, isDig, Bool.and_eq_true, decide_eq_true_eq] at hd
      simp only [othR, Bool.or_eq_true, decide_eq_true_eq]; omega
     rw [if_neg this, ih]; rfl
    | false =>
     have : othR (s[pos]'hp).toNat = true := by
      simp only [digB, isDig, Bool.and_eq_false_iff, decide_eq_false_iff_not] at hd
      simp only [othR, Bool.or_eq_true, decide_eq_true_eq]; omega
     rw [if_pos this]
     simp
   ·obtain ⟨h1, h2⟩ := decode_high s pos hp (by omega)
    have : othR (Utf8.decode s pos).1 = true := by
     simp only [othR, Bool.or_eq_true, decide_eq_true_eq]; omega
    have hd : digB (s[pos]'hp) = false := by
     simp only [digB, isDig, Bool.and_eq_false_iff, decide_eq_false_iff_not]; omega
    rw [if_pos this, hd]
    simp
  ·rw [if_neg hp, List.drop_eq_nil_of_le (by rw [Array.length_toList]; exact Nat.le_of_not_lt hp)]; rfl
theorem oth_idx (s : List UInt8) : decide (Lib.idxFunc othR true ⟨s.toArray⟩ < 0) = s.all digB := by
 have := oth_from ⟨s.toArray⟩ s.length 0 (by simp [ByteArray.size])
 simpa [Lib.idxFunc, ByteArray.size] using this
theorem Reps_three {w : World} {A : Abs} {vs : List Value} {a b c : V} (h : Reps w A vs [a, b, c]) : ∃ u v x, vs = [u, v, x] ∧ Rep w A u a ∧ Rep w A v b ∧ Rep w A x c := by
 obtain ⟨h1, h2⟩ := h
 match vs, h1 with
 | [u, v, x], _ => exact ⟨u, v, x, rfl, h2 0 u a rfl rfl, h2 1 v b rfl rfl, h2 2 x c rfl rfl⟩
theorem callable233 : Callable Tryz.prog 233 := ⟨_, Tryz.func233, by kernel_rfl, by kernel_rfl⟩
theorem idxf_v (g : Nat) (eg : ∀ args w, (callFunc g args).run Tryz.prog w = .ok (.enter g args) w) (hp : ∀ w, PredAt Tryz.prog g #[] encR othR w) (s : List UInt8) (st : St) :
  VRet Tryz.prog 233 [.str s, .fn (.func g) [] [], .bool true] st (.int .i64 (Lib.idxFunc othR true ⟨s.toArray⟩)) st := by
 refine VRet_of_below callable233 (fun w A vs hw ha => ?_)
 obtain ⟨u, v, x, rfl, h1, h2, h3⟩ := Reps_three ha
 have e1 := h1.str_inv
 subst e1
 cases h3
 cases h2 with
 | fn f vs us cs ds hl hk hr hs =>
  have := List.eq_nil_of_length_eq_zero hl
  have := List.eq_nil_of_length_eq_zero hk
  subst_vars
  refine (Tryz.strings_indexFunc g #[] eg othR true ⟨s.toArray⟩ w (hp w)).mono fun e w' ⟨he, hb⟩ => ?_
  subst he
  exact ⟨_, rfl, fun w' A' => .int _ _, hb⟩
theorem eg229 : ∀ args w, (callFunc 229 args).run Tryz.prog w = .ok (.enter 229 args) w := enters_of Tryz.func229 (by kernel_rfl) rfl
theorem eg232 : ∀ args w, (callFunc 232 args).run Tryz.prog w = .ok (.enter 232 args) w := enters_of Tryz.func232 (by kernel_rfl) rfl
theorem indexfunc_v (s : List UInt8) (st : St) : VRet Tryz.prog 230 [.str s, .fn (.func 229) [] []] st (.int .i64 (Lib.idxFunc othR true ⟨s.toArray⟩)) st := by
 refine vc F230_ok rfl (fun hwf => ?_)
 (repeat' first | ((first | refine go rfl rfl ?_ | refine Cl.by_ (by (first | refine idxf_v 229 eg229 pred229 _ _)) ?_ | (refine Fk.by_ ?_ ?_ <;> intro hc <;> try simp only [hc]) | refine storeK_eq rfl ?_ | with_reducible refine an ?_ ?_) <;> try simp only [push_cast, ed, reduceCtorEq, ld]))
 all_goals refine finC (hwf) (by simp only [F230, push_cast, ed, reduceCtorEq, ld]; exact rfl) (by first | exact .inl rfl | (right; simp only [F230, push_cast, ed, reduceCtorEq, ld]; try rfl)) (by first | rfl | assumption) (by simp [(hwf).z])
theorem indexfunc2_v (s : List UInt8) (st : St) : VRet Tryz.prog 230 [.str s, .fn (.func 232) [] []] st (.int .i64 (Lib.idxFunc othR true ⟨s.toArray⟩)) st := by
 refine vc F230_ok rfl (fun hwf => ?_)
 (repeat' first | ((first | refine go rfl rfl ?_ | refine Cl.by_ (by (first | refine idxf_v 232 eg232 pred232 _ _)) ?_ | (refine Fk.by_ ?_ ?_ <;> intro hc <;> try simp only [hc]) | refine storeK_eq rfl ?_ | with_reducible refine an ?_ ?_) <;> try simp only [push_cast, ed, reduceCtorEq, ld]))
 all_goals refine finC (hwf) (by simp only [F230, push_cast, ed, reduceCtorEq, ld]; exact rfl) (by first | exact .inl rfl | (right; simp only [F230, push_cast, ed, reduceCtorEq, ld]; try rfl)) (by first | rfl | assumption) (by simp [(hwf).z])
theorem ldigits_v (s : List UInt8) (st : St) : VRet Tryz.prog 219 [.str s] st (.bool (dig3 s)) st := by
 have ho := oth_idx s
 have hR : dig3 s = ((decide ((1 : Int) ≤ (s.length : Int)) && decide ((s.length : Int) ≤ 3)) && decide (Lib.idxFunc othR true ⟨s.toArray⟩ < 0)) := by
  rw [ho]; unfold dig3
  congr 1; congr 1
  ·rw [decide_eq_decide]; omega
  ·rw [decide_eq_decide]; omega
 refine vc F219_ok rfl (fun hwf => ?_)
 (repeat' first | ((first | refine go rfl rfl ?_ | refine Cl.by_ (by (first | refine indexfunc_v _ _)) ?_ | (refine Fk.by_ ?_ ?_ <;> intro hc <;> try simp only [hc]) | refine storeK_eq rfl ?_ | with_reducible refine an ?_ ?_) <;> try simp only [push_cast, ed, reduceCtorEq, ld]))
 all_goals exact finRet0 hwf rfl (by rw [hR]; simp [resOne, *]) rfl
theorem containsfunc_v (s : List UInt8) (st : St) : VRet Tryz.prog 231 [.str s, .fn (.func 232) [] []] st (.bool (decide (0 ≤ Lib.idxFunc othR true ⟨s.toArray⟩))) st := by
 refine vc F231_ok rfl (fun hwf => ?_)
 (repeat' first | ((first | refine go rfl rfl ?_ | refine Cl.by_ (by (first | refine indexfunc2_v _ _)) ?_ | (refine Fk.by_ ?_ ?_ <;> intro hc <;> try simp only [hc]) | refine storeK_eq rfl ?_ | with_reducible refine an ?_ ?_) <;> try simp only [push_cast, ed, reduceCtorEq, ld]))
 all_goals refine finC (hwf) (by simp only [F231, push_cast, ed, reduceCtorEq, ld]; exact rfl) (by first | exact .inl rfl | (right; simp only [F231, push_cast, ed, reduceCtorEq, ld]; try rfl)) (by first | rfl | assumption) (by simp [(hwf).z])
theorem ndigits_v (s : List UInt8) (st : St) : VRet Tryz.prog 223 [.str s] st (.bool (digs1 s)) st := by
 have ho := oth_idx s
 have hR : digs1 s = ((s != []) && !decide (0 ≤ Lib.idxFunc othR true ⟨s.toArray⟩)) := by
  unfold digs1
  rw [← ho]; congr 1
  rw [Bool.eq_iff_iff]; simp
 refine vc F223_ok rfl (fun hwf => ?_)
 (repeat' first | ((first | refine go rfl rfl ?_ | refine Cl.by_ (by (first | refine containsfunc_v _ _)) ?_ | (refine Fk.by_ ?_ ?_ <;> intro hc <;> try simp only [hc]) | refine storeK_eq rfl ?_ | with_reducible refine an ?_ ?_) <;> try simp only [push_cast, ed, reduceCtorEq, ld]))
 all_goals exact finRet0 hwf rfl (by rw [hR]; simp [resOne, *]) rfl
end Go.Proofs.YtnondemehfkalaaGreatDoor

namespace Go.Proofs.YtnondemehfkalaaGreatDoor
open Go.Sha Go.RowKit
open Nat renaming reduceEqDiff → ed, reduceLeDiff → ld
open Option renaming map_some → om
open Bool renaming false_eq_true → bf
def foldN (n : Nat) (s : List UInt8) : Nat := s.foldl (fun n b => 10 * n + (b.toNat - 48)) n
theorem foldN_snoc {n : Nat} {s : List UInt8} {b : UInt8} : foldN n (s ++ [b]) = 10 * foldN n s + (b.toNat - 48) := by simp [foldN]
theorem foldN_app {n : Nat} {s t : List UInt8} : foldN n (s ++ t) = foldN (foldN n s) t := by simp [foldN]
theorem foldN_le : ∀ (s : List UInt8) (n m : Nat), s.all digB = true → n ≤ m → foldN n s ≤ 10 ^ s.length * (m + 1) - 1
 | [], n, m, _, h => by simp [foldN]; omega
 | b :: s, n, m, h, hn => by
  simp only [List.all_cons, Bool.and_eq_true] at h
  have hb : 48 ≤ b.toNat ∧ b.toNat ≤ 57 := by have := h.1; simp only [digB, isDig, Bool.and_eq_true, decide_eq_true_eq] at this; omega
  have ih := foldN_le s (10 * n + (b.toNat - 48)) (10 * m + 9) h.2 (by omega)
  have e : foldN n (b :: s) = foldN (10 * n + (b.toNat - 48)) s := rfl
  rw [e, List.length_cons, Nat.pow_succ]
  have : 10 ^ s.length * (10 * m + 9 + 1) = 10 ^ s.length * 10 * (m + 1) := by rw [Nat.mul_assoc]; congr 1
  omega
theorem fold_v (s : List UInt8) (st : St) (id n : Nat) (h : Sha.look st.mem id = some [.int .i64 n]) (hd : s.all digB = true) (hl : s.length ≤ 3) (hn : n ≤ 999) :
  VRet Tryz.prog 220 [.str s, .ptr id 0] st (.tup []) ⟨st.nx, updM st.mem id [.int .i64 (foldN n s)], st.arr, st.x⟩ := by
 refine vc F220_ok rfl (fun hwf => ?_)
 have hid := (hwf.mem _ _ h).1
 have hlm : (s.map bV).length = s.length := by simp
 have hmx : s.length ≤ maxLen := by unfold maxLen; omega
 have hbV : ∀ m, V.bdL m (s.map bV) = true := fun m => bdL_map fun _ _ => rfl
 (repeat' first | ((first | refine go rfl rfl ?_ | (refine Fk.by_ ?_ ?_ <;> intro hc <;> try simp only [hc]) | refine storeK_eq rfl ?_ | with_reducible refine an ?_ ?_) <;> try simp only [hlm, hmx, push_cast, ed, reduceCtorEq, ld]))
 have hW := hwf.put (id := id) (cs := [.int .i64 (foldN n s)]) rfl
 refine WT_loop rfl (fun m e z => ∃ j : Nat, m = s.length - j ∧ j ≤ s.length ∧ e = [(8, .int .i64 (j : Int)), (7, .int .i64 (s.length : Int)), (6, .osl st.nx s.length), (0, .str s), (1, .ptr id 0)] ∧ z = ⟨st.nx + 1, updM st.mem id [.int .i64 (foldN n (s.take j))], (st.nx, ⟨5, 1, s.map bV, true, true⟩) :: st.arr, st.x⟩) (st.nx + 1) (Nat.le_refl _) (by rintro _ _ _ ⟨j, _, _, _, rfl⟩; rfl)
  ⟨_, _, _, ⟨0, rfl, Nat.zero_le _, rfl, by rw [updM_self (by simpa [foldN] using h)]⟩, (by repeat first | exact .nil | refine .cons (by first | rfl | (simp [V.bd, V.bdL]; try first | omega | assumption)) (by first | rfl | simp only [push_cast, ed, reduceCtorEq, ld]) ?_), .refl (hwf.newA (hbV _))⟩ ?_
 rintro m e z ⟨j, rfl, hj, rfl, rfl⟩
 rcases Nat.lt_or_ge j s.length with hlt | hge
 ·obtain ⟨b, hb⟩ : ∃ b, s[j]? = some b := ⟨_, List.getElem?_eq_getElem hlt⟩
  obtain ⟨q1, q2⟩ := List.getElem?_eq_some_iff.1 hb
  have hdb : 48 ≤ b.toNat ∧ b.toNat ≤ 57 := by
   have := List.all_eq_true.1 hd b (List.mem_of_getElem? hb)
   simp only [digB, isDig, Bool.and_eq_true, decide_eq_true_eq] at this; omega
  have hle := foldN_le (s.take j) n 999 (take_all hd) hn
  have hp : 10 ^ (s.take j).length * (999 + 1) - 1 ≤ 999999 := by
   have : (s.take j).length ≤ 3 := by rw [List.length_take]; omega
   have := Nat.pow_le_pow_right (n := 10) (by omega) this
   have := Nat.mul_le_mul_right 1000 this
   omega
  have h2 : decide ((j : Int) < (s.length : Int)) = true := decide_eq_true (by omega)
  have hwr : IntKind.i64.wrap ((j : Int) + 1) = (j : Int) + 1 := wrap64 (by omega) (by omega)
  have w1 : IntKind.u8.wrap ((b.toNat : Int) - 48) = (b.toNat : Int) - 48 := by
   show ((b.toNat : Int) - 48) % 256 = _
   omega
  have w2 : IntKind.i64.wrap ((b.toNat : Int) - 48) = (b.toNat : Int) - 48 := wrap64 (by omega) (by omega)
  have w3 : IntKind.i64.wrap (10 * (foldN n (s.take j) : Int)) = 10 * (foldN n (s.take j) : Int) := wrap64 (by omega) (by omega)
  have w4 : IntKind.i64.wrap (10 * (foldN n (s.take j) : Int) + ((b.toNat : Int) - 48)) = (foldN n (s.take (j + 1)) : Int) := by
   rw [wrap64 (by omega) (by omega), List.take_add_one, hb]
   simp only [Option.toList]
   rw [foldN_snoc]; omega
  have e1 : (st.nx = id) = False := eq_false (by omega)
  (repeat' first | ((first | refine go rfl rfl ?_ | (refine Fk.by_ ?_ ?_ <;> intro hc <;> try simp only [hc]) | refine storeK_eq rfl ?_ | with_reducible refine an ?_ ?_) <;> try simp only [h2, hwr, hb, hlt, hlm, look_updM, updM_updM, h, w1, w2, w3, w4, e1, push_cast, ed, reduceCtorEq, ld]))
  exact ⟨_, _, _, by omega, ⟨j + 1, rfl, by omega, rfl, rfl⟩, (by repeat first | exact .nil | refine .cons (by first | rfl | (simp [V.bd, V.bdL]; try first | omega | assumption)) (by first | rfl | simp only [push_cast, ed, reduceCtorEq, ld]) ?_), .refl ((hwf.put (cs := [.int .i64 (foldN n (s.take (j + 1)))]) rfl).newA (hbV _))⟩
 ·have h2 : decide ((j : Int) < (s.length : Int)) = false := decide_eq_false (by omega)
  have ej : j = s.length := by omega
  subst ej
  rw [List.take_length]
  (repeat' first | ((first | refine go rfl rfl ?_ | (refine Fk.by_ ?_ ?_ <;> intro hc <;> try simp only [hc]) | refine storeK_eq rfl ?_ | with_reducible refine an ?_ ?_) <;> try simp only [h2, push_cast, ed, reduceCtorEq, ld]))
  refine finB (hW) (by simp only [F220, push_cast, ed, reduceCtorEq, ld]; exact rfl) (by first | exact .inl rfl | (right; simp only [F220, push_cast, ed, reduceCtorEq, ld]; try rfl)) (by first | rfl | assumption) (by simp) (by simp) (by (repeat first | exact (hW).subm | exact (hW).suba | refine Sub.drop (by simp) ?_)) (by (repeat first | exact (hW).subm | exact (hW).suba | refine Sub.drop (by simp) ?_)) (by (repeat first | exact (hW).subx | refine ExSub.dropt (by simp) ?_ | refine ExSub.drop (by simp) ?_))
theorem numD_app {s t : List UInt8} : numD (s ++ t) = foldN (foldN 0 s) t := by rw [← foldN_app]; rfl
theorem dig3_ok {s : List UInt8} (h : dig3 s = true) : s.length ≤ 3 ∧ s.all digB = true := by
 simp only [dig3, Bool.and_eq_true, decide_eq_true_eq] at h; exact ⟨h.1.2, h.2⟩
def thBad (s : List UInt8) : Bool := !(dig3 (cutW 46 s)) || (decide (1 < ((cutW 46 s).length : Int)) && (cutW 46 s)[0]? == some 48) || (cutP 46 s && !(dig3 (cutR 46 s)))
theorem thouN_eq (s : List UInt8) : thouN s = if thBad s = true then none else some (numD (cutW 46 s ++ (cutR 46 s ++ [48, 48, 48]).take 3)) := by
 unfold thouN thBad
 have : decide (1 < ((cutW 46 s).length : Int)) = decide (1 < (cutW 46 s).length) := by rw [decide_eq_decide]; omega
 rw [this]
theorem thou_v (s : List UInt8) (st : St) (hs : s.length < 140737488355328) : VRet Tryz.prog 205 [.str s] st (.tup [.int .i64 ((thouN s).getD 0), .bool (thouN s).isSome]) st := by
 have h1 : (cutW 46 s).length ≤ s.length := by unfold cutW; rw [List.length_take]; omega
 have h2 : (cutR 46 s).length ≤ s.length := by unfold cutR; rw [List.length_drop]; omega
 have hl4 : (cutR 46 s).length ≤ 9223372036854775804 := by omega
 have hok : thBad s = false → ((cutW 46 s).length ≤ 3 ∧ (cutW 46 s).all digB = true) ∧ (cutR 46 s).all digB = true := fun h => by
  simp only [thBad, Bool.or_eq_false_iff, Bool.not_eq_false'] at h
  refine ⟨dig3_ok h.1.1, ?_⟩
  cases hp : cutP 46 s with
  | false => rw [cutR_none hp]; rfl
  | true =>
   have := h.2
   rw [hp] at this
   simp only [Bool.true_and, Bool.not_eq_false'] at this
   exact (dig3_ok this).2
 have hv1 : thBad s = false → ∀ (st' : St) (id : Nat), Sha.look st'.mem id = some [.int .i64 0] → VRet Tryz.prog 220 [.str (cutW 46 s), .ptr id 0] st' (.tup []) ⟨st'.nx, updM st'.mem id [.int .i64 (foldN 0 (cutW 46 s))], st'.arr, st'.x⟩ := fun h st' id hm => fold_v _ _ _ 0 hm (hok h).1.2 (hok h).1.1 (by omega)
 have hT : ((cutR 46 s ++ [48, 48, 48]).take 3).length ≤ 3 := by rw [List.length_take]; omega
 have hv2 : thBad s = false → ∀ (st' : St) (id : Nat), Sha.look st'.mem id = some [.int .i64 (foldN 0 (cutW 46 s))] → VRet Tryz.prog 220 [.str ((cutR 46 s ++ [48, 48, 48]).take 3), .ptr id 0] st' (.tup []) ⟨st'.nx, updM st'.mem id [.int .i64 (numD (cutW 46 s ++ (cutR 46 s ++ [48, 48, 48]).take 3))], st'.arr, st'.x⟩ := fun h st' id hm => by
  rw [numD_app]
  have h3 : (cutR 46 s ++ [48, 48, 48]).all digB = true := by rw [List.all_append, (hok h).2]; rfl
  have hb := foldN_le (cutW 46 s) 0 0 (hok h).1.2 (by omega)
  have hp := Nat.pow_le_pow_right (n := 10) (by omega) (hok h).1.1
  exact fold_v _ _ _ _ hm (take_all h3) hT (by omega)
 have hT2 := thouN_eq s
 have hcut := cut_v s 46 st (by omega)
 refine vc F205_ok rfl (fun hwf => ?_)
 cases hb : thBad s with
 | true =>
  rw [hb, if_pos rfl] at hT2
  rw [hT2]
  unfold thBad at hb
  clear hv1 hv2 hT hT2 hok
  generalize cutW 46 s = W at *
  cases W with
  | nil =>
   have hd0 : dig3 [] = false := rfl
   (repeat' first | ((first | refine go rfl rfl ?_ | refine Cl.by_ (by (first | refine hcut | refine ldigits_v _ _)) ?_ | (refine Fk.by_ ?_ ?_ <;> intro hc <;> try simp only [hc]) | refine storeK_eq rfl ?_ | with_reducible refine an ?_ ?_) <;> try simp only [hd0, push_cast, ed, reduceCtorEq, ld]))
   all_goals exact finRet0 hwf rfl rfl rfl
  | cons b t =>
   have h0' : (((b.toNat : Int)) == 48) = ((b :: t)[0]? == some 48) := by
    rw [Bool.eq_iff_iff]; simp only [beq_iff_eq, List.getElem?_cons_zero, Option.some.injEq]
    constructor
    ·intro h; exact UInt8.toNat_inj.1 (by have : (48 : UInt8).toNat = 48 := rfl; omega)
    ·rintro rfl; rfl
   have hl : decide (1 < ((b :: t).length : Int)) = decide (1 < (t.length : Int) + 1) := by rw [List.length_cons]; norm_cast
   rw [hl] at hb
   simp only [List.getElem?_cons_zero] at hb h0'
   (repeat' first | ((first | refine go rfl rfl ?_ | refine Cl.by_ (by (first | refine hcut | refine ldigits_v _ _)) ?_ | (refine Fk.by_ ?_ ?_ <;> intro hc <;> try simp only [hc]) | refine storeK_eq rfl ?_ | with_reducible refine an ?_ ?_) <;> try simp only [h0', push_cast, ed, reduceCtorEq, ld]))
   all_goals first | exact finRet0 hwf rfl rfl rfl | (exfalso; simp [*] at hb; done)
 | false =>
  rw [hb, if_neg Bool.false_ne_true] at hT2
  rw [hT2]
  have hv1' := hv1 hb
  have hv2' := hv2 hb
  unfold thBad at hb
  clear hv1 hv2 hT hT2 hok
  generalize cutW 46 s = W at *
  cases W with
  | nil => simp [dig3] at hb
  | cons b t =>
   have h0' : (((b.toNat : Int)) == 48) = ((b :: t)[0]? == some 48) := by
    rw [Bool.eq_iff_iff]; simp only [beq_iff_eq, List.getElem?_cons_zero, Option.some.injEq]
    constructor
    ·intro h; exact UInt8.toNat_inj.1 (by have : (48 : UInt8).toNat = 48 := rfl; omega)
    ·rintro rfl; rfl
   have hl : decide (1 < ((b :: t).length : Int)) = decide (1 < (t.length : Int) + 1) := by rw [List.length_cons]; norm_cast
   rw [hl] at hb
   simp only [List.getElem?_cons_zero] at hb h0'
   (repeat' first | ((first | refine go rfl rfl ?_ | refine Cl.by_ (by (first | refine hcut | refine ldigits_v _ _ | refine hv1' _ _ (by simp [Sha.look]) | refine hv2' _ _ (by simp [Sha.look, look_updM, updM]))) ?_ | (refine Fk.by_ ?_ ?_ <;> intro hc <;> try simp only [hc]) | refine storeK_eq rfl ?_ | with_reducible refine an ?_ ?_) <;> try simp only [hl4, sl3, h0', push_cast, ed, reduceCtorEq, ld]))
   all_goals first | (exfalso; simp [*] at hb; done) | refine finC (hwf) (by simp only [F205, push_cast, ed, reduceCtorEq, ld]; exact rfl) (by first | exact .inl rfl | (right; simp only [F205, push_cast, ed, reduceCtorEq, ld]; try rfl)) (by first | rfl | assumption) (by simp [(hwf).z])
theorem of_v (n : Nat) (st : St) (hn : n < 1000000) : VRet Tryz.prog 206 [.int .i64 n] st (.int .i64 (ofN n)) st := by
 have w1 : IntKind.i64.wrap (65535 * (n : Int)) = 65535 * (n : Int) := wrap64 (by omega) (by omega)
 have w2 : IntKind.i64.wrap (65535 * (n : Int) + 50000) = 65535 * (n : Int) + 50000 := wrap64 (by omega) (by omega)
 have w3 : IntKind.i64.wrap ((65535 * (n : Int) + 50000).tdiv 100000) = ofN n := by
  have : (65535 * (n : Int) + 50000).tdiv 100000 = ((ofN n : Nat) : Int) := by
   rw [Int.tdiv_eq_ediv_of_nonneg (by omega)]; unfold ofN; omega
  rw [this]
  exact wrap64 (by unfold ofN; omega) (by unfold ofN; omega)
 refine vc F206_ok rfl (fun hwf => ?_)
 (repeat' first | ((first | refine go rfl rfl ?_ | (refine Fk.by_ ?_ ?_ <;> intro hc <;> try simp only [hc]) | refine storeK_eq rfl ?_ | with_reducible refine an ?_ ?_) <;> try simp only [w1, w2, w3, push_cast, ed, reduceCtorEq, ld]))
 all_goals first | refine finC (hwf) (by simp only [F206, push_cast, ed, reduceCtorEq, ld]; exact rfl) (by first | exact .inl rfl | (right; simp only [F206, push_cast, ed, reduceCtorEq, ld]; try rfl)) (by first | rfl | assumption) (by simp [(hwf).z])
theorem thouN_lt {s : List UInt8} {n : Nat} (h : thouN s = some n) : n < 1000000 := by
 rw [thouN_eq] at h
 split at h
 ·cases h
 ·rename_i hb
  rw [Bool.not_eq_true] at hb
  simp only [thBad, Bool.or_eq_false_iff, Bool.not_eq_false'] at hb
  obtain ⟨q1, q2⟩ := dig3_ok hb.1.1
  have hr : (cutR 46 s).all digB = true := by
   cases hp : cutP 46 s with
   | false => rw [cutR_none hp]; rfl
   | true =>
    have := hb.2
    rw [hp] at this
    simp only [Bool.true_and, Bool.not_eq_false'] at this
    exact (dig3_ok this).2
  have h3 : (cutR 46 s ++ [48, 48, 48]).all digB = true := by rw [List.all_append, hr]; rfl
  have hb := foldN_le (cutW 46 s ++ (cutR 46 s ++ [48, 48, 48]).take 3) 0 0 (by rw [List.all_append, q2, take_all h3]; rfl) (by omega)
  have hlen : (cutW 46 s ++ (cutR 46 s ++ [48, 48, 48]).take 3).length ≤ 6 := by rw [List.length_append, List.length_take]; omega
  have := Nat.pow_le_pow_right (n := 10) (by omega) hlen
  have e : foldN 0 (cutW 46 s ++ (cutR 46 s ++ [48, 48, 48]).take 3) = n := by injection h
  omega
theorem percent_v (s : List UInt8) (st : St) (hs : s.length < 140737488355328) : VRet Tryz.prog 169 [.str s] st (.tup [.int .i64 (pctN s).1, .int .i64 (pctN s).2]) st := by
 have ht := thou_v s st hs
 refine vc F169_ok rfl (fun hwf => ?_)
 cases hN : thouN s with
 | none =>
  rw [hN] at ht
  (repeat' first | ((first | refine go rfl rfl ?_ | refine Cl.by_ (by (first | refine ht)) ?_ | (refine Fk.by_ ?_ ?_ <;> intro hc <;> try simp only [hc]) | refine storeK_eq rfl ?_ | with_reducible refine an ?_ ?_) <;> try simp only [push_cast, ed, reduceCtorEq, ld]))
  all_goals exact finRet0 hwf rfl (by simp [resOne, pctN, *]) rfl
 | some n =>
  have hlt := thouN_lt hN
  rw [hN] at ht
  have ho := of_v n st hlt
  (repeat' first | ((first | refine go rfl rfl ?_ | refine Cl.by_ (by (first | refine ht | refine ho)) ?_ | (refine Fk.by_ ?_ ?_ <;> intro hc <;> try simp only [hc]) | refine storeK_eq rfl ?_ | with_reducible refine an ?_ ?_) <;> try simp only [Option.getD_some, push_cast, ed, reduceCtorEq, ld]))
  all_goals exact finRet0 hwf rfl (by simp [resOne, pctN, *]) rfl
end Go.Proofs.YtnondemehfkalaaGreatDoor

namespace Go.Proofs.YtnondemehfkalaaGreatDoor
open Go.Sha Go.RowKit
open Nat renaming reduceEqDiff → ed, reduceLeDiff → ld
open Option renaming map_some → om
open Bool renaming false_eq_true → bf
theorem callable225 : Callable Tryz.prog 225 := ⟨_, Tryz.func225, by kernel_rfl, by kernel_rfl⟩
theorem suf_v (s p : List UInt8) (st : St) (hs : s.length < 140737488355328) : VRet Tryz.prog 225 [.str s, .str p] st (.bool (Lib.hasSuffix s p)) st := by
 refine VRet_of_below callable225 (fun w A vs hw ha => ?_)
 obtain ⟨u, v, rfl, h1, h2⟩ := ha.two
 have e1 := h1.str_inv
 have e2 := h2.str_inv
 subst e1; subst e2
 refine (Tryz.strings_HasSuffix ⟨s.toArray⟩ ⟨p.toArray⟩ w (by simp [ByteArray.size]; omega)).mono fun e w' ⟨he, hb⟩ => ?_
 subst he; subst hb
 exact ⟨_, rfl, fun w' A' => .bool _, Below.refl _ _⟩
theorem suf_last (s : List UInt8) (c : UInt8) : Lib.hasSuffix s [c] = (s.getLast? == some c) := by
 unfold Lib.hasSuffix
 rcases List.eq_nil_or_concat s with rfl | ⟨t, b, rfl⟩
 ·rfl
 ·rw [Bool.eq_iff_iff]
  simp only [List.isSuffixOf_iff_suffix, List.concat_eq_append, List.getLast?_append, List.getLast?_singleton, Option.some_or, beq_iff_eq, Option.some.injEq]
  constructor
  ·rintro ⟨l, h⟩
   exact ((List.append_inj' h rfl).2 |> List.cons.inj |>.1).symm
  ·rintro rfl; exact ⟨t, rfl⟩
section
variable {W R : List UInt8} {P : Bool}
theorem chk1_v (st : St) (id : Nat) (h : Sha.look st.mem id = some [.str W, .str R, .bool P]) : VRet Tryz.prog 222 [.ptr id 0] st (.bool (digs1 W)) st := by
 refine vc F222_ok rfl (fun hwf => ?_)
 (repeat' first | ((first | refine go rfl rfl ?_ | refine Cl.by_ (by (first | refine ndigits_v _ _)) ?_ | (refine Fk.by_ ?_ ?_ <;> intro hc <;> try simp only [hc]) | refine storeK_eq rfl ?_ | with_reducible refine an ?_ ?_) <;> try simp only [h, push_cast, ed, reduceCtorEq, ld]))
 all_goals refine finC (hwf) (by simp only [F222, push_cast, ed, reduceCtorEq, ld]; exact rfl) (by first | exact .inl rfl | (right; simp only [F222, push_cast, ed, reduceCtorEq, ld]; try rfl)) (by first | rfl | assumption) (by simp [(hwf).z])
theorem chk2_v (st : St) (id : Nat) (h : Sha.look st.mem id = some [.str W, .str R, .bool P]) (hR : R.length < 140737488355328) : VRet Tryz.prog 224 [.ptr id 0] st (.bool (!P || (digs1 R && !(R.getLast? == some 48)))) st := by
 refine vc F224_ok rfl (fun hwf => ?_)
 (repeat' first | ((first | refine go rfl rfl ?_ | refine Cl.by_ (by (first | refine ndigits_v _ _ | refine suf_v _ _ _ hR)) ?_ | (refine Fk.by_ ?_ ?_ <;> intro hc <;> try simp only [hc]) | refine storeK_eq rfl ?_ | with_reducible refine an ?_ ?_) <;> try simp only [h, suf_last, push_cast, ed, reduceCtorEq, ld]))
 all_goals exact finRet0 hwf rfl (by simp [resOne, *]) rfl
theorem chk3_v (st : St) (id : Nat) (h : Sha.look st.mem id = some [.str W, .str R, .bool P]) (hW : W ≠ []) : VRet Tryz.prog 226 [.ptr id 0] st (.bool (W.length == 1 || !(W[0]? == some 48))) st := by
 cases W with
 | nil => exact absurd rfl hW
 | cons b t =>
  have h0 : (((b.toNat : Int)) != 48) = !((b :: t)[0]? == some 48) := by
   rw [Bool.eq_iff_iff]; simp only [bne_iff_ne, List.getElem?_cons_zero, Bool.not_eq_true', beq_eq_false_iff_ne, ne_eq, Option.some.injEq]
   constructor
   ·rintro h rfl; exact h rfl
   ·intro h e; exact h (UInt8.toNat_inj.1 (by have : (48 : UInt8).toNat = 48 := rfl; omega))
  have hl : ((t.length : Int) + 1 == 1) = ((b :: t).length == 1) := by
   rw [Bool.eq_iff_iff]; simp only [beq_iff_eq, List.length_cons]; omega
  rw [← h0, ← hl]
  refine vc F226_ok rfl (fun hwf => ?_)
  (repeat' first | ((first | refine go rfl rfl ?_ | (refine Fk.by_ ?_ ?_ <;> intro hc <;> try simp only [hc]) | refine storeK_eq rfl ?_ | with_reducible refine an ?_ ?_) <;> try simp only [h, push_cast, ed, reduceCtorEq, ld]))
  all_goals exact finRet0 hwf rfl (by simp [resOne, *]) rfl
theorem check_v (s : List UInt8) (st : St) (hs : s.length < 140737488355328) : VRet Tryz.prog 208 [.str s] st (.int .i64 (chkN s)) st := by
 have h2 : (cutR 46 s).length ≤ s.length := by unfold cutR; rw [List.length_drop]; omega
 refine vc F208_ok rfl (fun hwf => ?_)
 (repeat' first | ((first | refine go rfl rfl ?_ | refine Cl.by_ (by (first | refine cut_v _ _ _ (by omega))) ?_ | (refine Fk.by_ ?_ ?_ <;> intro hc <;> try simp only [hc]) | refine storeK_eq rfl ?_ | with_reducible refine an ?_ ?_) <;> try simp only [push_cast, ed, reduceCtorEq, ld]))
 have hW := (hwf.new (cs := [.str (cutW 46 s), .str (cutR 46 s), .bool (cutP 46 s)]) (by rfl))
 have hW2 := hW.newA (a := { e := 22, es := 1, xs := [V.fn (Fn.func 222) [] [V.ptr st.nx 0], V.fn (Fn.func 224) [] [V.ptr st.nx 0], V.fn (Fn.func 226) [] [V.ptr st.nx 0]], wr := false, fz := false }) (by simp [V.bdL, V.bd]; omega)
 refine WT_loop rfl (fun m e z => ∃ j : Nat, m = 3 - j ∧ j ≤ 3 ∧ (1 ≤ j → digs1 (cutW 46 s) = true) ∧ (2 ≤ j → (!(cutP 46 s) || (digs1 (cutR 46 s) && !((cutR 46 s).getLast? == some 48))) = true) ∧ (3 ≤ j → ((cutW 46 s).length == 1 || !((cutW 46 s)[0]? == some 48)) = true) ∧ e = [(22, V.int IntKind.i64 (j : Int)), (21, V.int IntKind.i64 3), (20, V.osl (st.nx + 1) 3),
   (4, V.osl (st.nx + 1) 3), (3, V.ptr st.nx 0), (2, V.int IntKind.i64 0), (0, V.str s)] ∧ z = ⟨st.nx + 2, (st.nx, [V.str (cutW 46 s), V.str (cutR 46 s), V.bool (cutP 46 s)]) :: st.mem, (st.nx + 1, ⟨22, 1, [V.fn (Fn.func 222) [] [V.ptr st.nx 0], V.fn (Fn.func 224) [] [V.ptr st.nx 0], V.fn (Fn.func 226) [] [V.ptr st.nx 0]], false, false⟩) :: st.arr, st.x⟩) (st.nx + 2) (Nat.le_refl _) (by rintro _ _ _ ⟨j, _, _, _, _, _, _, rfl⟩; rfl)
  ⟨_, _, _, ⟨0, rfl, Nat.zero_le _, by omega, by omega, by omega, rfl, rfl⟩, (by repeat first | exact .nil | refine .cons (by first | rfl | (simp [V.bd, V.bdL]; try first | omega | assumption)) (by first | rfl | simp only [push_cast, ed, reduceCtorEq, ld]) ?_), .refl hW2⟩ ?_
 rintro m e z ⟨j, rfl, hj, p1, p2, p3, rfl, rfl⟩
 have k0 : ((0 : Nat) < 3) = True := eq_true (by decide)
 have k1 : ((1 : Nat) < 3) = True := eq_true (by decide)
 have k2 : ((2 : Nat) < 3) = True := eq_true (by decide)
 have hbad : chkBad s = !(digs1 (cutW 46 s) && (!(cutP 46 s) || (digs1 (cutR 46 s) && !((cutR 46 s).getLast? == some 48))) && ((cutW 46 s).length == 1 || !((cutW 46 s)[0]? == some 48))) := by
  unfold chkBad
  simp only [Bool.not_and, Bool.not_or, Bool.not_not, bne, Bool.or_assoc]
 rcases (show j = 0 ∨ j = 1 ∨ j = 2 ∨ j = 3 by omega) with rfl | rfl | rfl | rfl
 ·have w : IntKind.i64.wrap (0 + 1) = 1 := by decide
  (repeat' first | ((first | refine go rfl rfl ?_ | refine Cl.by_ (by (first | refine chk1_v (W := cutW 46 s) (R := cutR 46 s) (P := cutP 46 s) _ _ (by simp [Sha.look]))) ?_ | (refine Fk.by_ ?_ ?_ <;> intro hc <;> try simp only [hc]) | refine storeK_eq rfl ?_ | with_reducible refine an ?_ ?_) <;> try simp only [V.cells, k0, w, push_cast, ed, reduceCtorEq, ld]))
  ·exact ⟨_, _, _, by omega, ⟨1, rfl, by omega, fun _ => by first | trivial | assumption, by omega, by omega, rfl, rfl⟩, (by repeat first | exact .nil | refine .cons (by first | rfl | (simp [V.bd, V.bdL]; try first | omega | assumption)) (by first | rfl | simp only [push_cast, ed, reduceCtorEq, ld]) ?_), .refl hW2⟩
  ·have e : chkN s = 3 := by unfold chkN; rw [if_pos (by rw [hbad, hc]; rfl)]
   rw [e]
   all_goals refine finC (hwf) (by simp only [F208, push_cast, ed, reduceCtorEq, ld]; exact rfl) (by first | exact .inl rfl | (right; simp only [F208, push_cast, ed, reduceCtorEq, ld]; try rfl)) (by first | rfl | assumption) (by simp [(hwf).z])
 ·have w : IntKind.i64.wrap (1 + 1) = 2 := by decide
  rw [show ((1 : Nat) : Int) = 1 from rfl]
  (repeat' first | ((first | refine go rfl rfl ?_ | refine Cl.by_ (by (first | refine chk2_v (W := cutW 46 s) (R := cutR 46 s) (P := cutP 46 s) _ _ (by simp [Sha.look]) (by omega))) ?_ | (refine Fk.by_ ?_ ?_ <;> intro hc <;> try simp only [hc]) | refine storeK_eq rfl ?_ | with_reducible refine an ?_ ?_) <;> try simp only [V.cells, k1, w, push_cast, ed, reduceCtorEq, ld]))
  ·exact ⟨_, _, _, by omega, ⟨2, rfl, by omega, fun _ => by first | trivial | exact p1 (by omega), fun _ => by first | trivial | assumption, by omega, rfl, rfl⟩, (by repeat first | exact .nil | refine .cons (by first | rfl | (simp [V.bd, V.bdL]; try first | omega | assumption)) (by first | rfl | simp only [push_cast, ed, reduceCtorEq, ld]) ?_), .refl hW2⟩
  ·have e : chkN s = 3 := by unfold chkN; rw [if_pos (by rw [hbad, hc, Bool.and_false]; rfl)]
   rw [e]
   all_goals refine finC (hwf) (by simp only [F208, push_cast, ed, reduceCtorEq, ld]; exact rfl) (by first | exact .inl rfl | (right; simp only [F208, push_cast, ed, reduceCtorEq, ld]; try rfl)) (by first | rfl | assumption) (by simp [(hwf).z])
 ·have w : IntKind.i64.wrap (2 + 1) = 3 := by decide
  have hne : cutW 46 s ≠ [] := fun e => by have := p1 (by omega); rw [e] at this; cases this
  rw [show ((2 : Nat) : Int) = 2 from rfl]
  have nv : natV (.int .i64 2) = some 2 := by rfl
  (repeat' first | ((first | refine go rfl rfl ?_ | refine Cl.by_ (by (first | refine chk3_v (W := cutW 46 s) (R := cutR 46 s) (P := cutP 46 s) _ _ (by simp [Sha.look]) hne)) ?_ | (refine Fk.by_ ?_ ?_ <;> intro hc <;> try simp only [hc]) | refine storeK_eq rfl ?_ | with_reducible refine an ?_ ?_) <;> try simp only [V.cells, k2, w, nv, push_cast, ed, reduceCtorEq, ld]))
  ·exact ⟨_, _, _, by omega, ⟨3, rfl, by omega, fun _ => by first | trivial | exact p1 (by omega), fun _ => by first | trivial | exact p2 (by omega), fun _ => by first | trivial | assumption, rfl, rfl⟩, (by repeat first | exact .nil | refine .cons (by first | rfl | (simp [V.bd, V.bdL]; try first | omega | assumption)) (by first | rfl | simp only [push_cast, ed, reduceCtorEq, ld]) ?_), .refl hW2⟩
  ·have e : chkN s = 3 := by unfold chkN; rw [if_pos (by rw [hbad, hc, Bool.and_false]; rfl)]
   rw [e]
   all_goals refine finC (hwf) (by simp only [F208, push_cast, ed, reduceCtorEq, ld]; exact rfl) (by first | exact .inl rfl | (right; simp only [F208, push_cast, ed, reduceCtorEq, ld]; try rfl)) (by first | rfl | assumption) (by simp [(hwf).z])
 ·have hb : chkBad s = false := by rw [hbad, p1 (by omega), p2 (by omega), p3 (by omega)]; rfl
  have c1 : decide (4 < (cutW 46 s).length) = decide (4 < ((cutW 46 s).length : Int)) := by rw [decide_eq_decide]; omega
  have c2 : decide (3 < (cutR 46 s).length) = decide (3 < ((cutR 46 s).length : Int)) := by rw [decide_eq_decide]; omega
  have e : chkN s = if (s == [48] || decide (4 < ((cutW 46 s).length : Int)) || decide (3 < ((cutR 46 s).length : Int))) = true then 2 else 0 := by
   unfold chkN; rw [if_neg (by rw [hb]; decide), c1, c2]
  rw [e]
  rw [show ((3 : Nat) : Int) = 3 from rfl]
  (repeat' first | ((first | refine go rfl rfl ?_ | (refine Fk.by_ ?_ ?_ <;> intro hc <;> try simp only [hc]) | refine storeK_eq rfl ?_ | with_reducible refine an ?_ ?_) <;> try simp only [V.cells, push_cast, ed, reduceCtorEq, ld]))
  all_goals simp only [Bool.or_true, Bool.true_or, Bool.or_false, if_true, bf, if_false]
  all_goals refine finC (hwf) (by simp only [F208, push_cast, ed, reduceCtorEq, ld]; exact rfl) (by first | exact .inl rfl | (right; simp only [F208, push_cast, ed, reduceCtorEq, ld]; try rfl)) (by first | rfl | assumption) (by simp [(hwf).z])
end
theorem number_fail {st : St} {rid : Nat} {ts : List Tok} {K : VRes → St → Prop} (hk : ((hd ts).k != 1) = true) (hG : GlOk st.x.gl) (hw : WfT ts) (hm : Sha.look st.mem rid = some [.sl (ts.map tkV)]) (h : ∀ ts', K (.pan (failV (hd ts).a 4)) (stR st rid ts')) : VCalls Tryz.prog 168 [.ptr rid 0] st K := by
 refine VCalls.mono (gnumber_v st rid ts hG hw hm) (fun r s hr => ?_)
 unfold rdPost rNumber at hr
 rw [if_pos hk] at hr
 obtain ⟨rfl, ts', rfl⟩ := hr
 exact h ts'
theorem number_ok {st : St} {rid : Nat} {ts : List Tok} (hk : ((hd ts).k != 1) = false) (hG : GlOk st.x.gl) (hw : WfT ts) (hm : Sha.look st.mem rid = some [.sl (ts.map tkV)]) : VRet Tryz.prog 168 [.ptr rid 0] st (.str (hd ts).t) st := by
 refine VCalls.mono (gnumber_v st rid ts hG hw hm) (fun r s hr => ?_)
 unfold rdPost rNumber at hr
 rw [if_neg (by rw [hk]; decide)] at hr
 obtain ⟨rfl, rfl, _⟩ := hr
 exact ⟨rfl, stR_same hm⟩
theorem k1_ne {ts : List Tok} (hk : ((hd ts).k != 1) = false) : (hd ts).k ≠ 3 := by
 simp at hk; omega
theorem rNum_err {α : Type} {f : List UInt8 → Rd α} {ts : List Tok} (hk : ((hd ts).k != 1) = true) : rNext rNumber f ts = .error ((hd ts).a, 4) := by
 simp only [rNext, rNumber, hk, if_true]
theorem rNum_ok {α : Type} {f : List UInt8 → Rd α} {ts : List Tok} (hk : ((hd ts).k != 1) = false) : rNext rNumber f ts = f (hd ts).t ts := by
 simp only [rNext, rNumber, hk, bf, if_false]
theorem rint_v (most : Int) : RdC 141 [.int .i64 most] (rInt most) (fun n => .int .i64 n) := by
 intro st rid ts hG hw hm
 have ht := hw.txt
 refine vc F141_ok rfl (fun hwf => ?_)
 cases hk : (hd ts).k != 1 with
 | true =>
  have hE : rInt most ts = _ := rNum_err hk
  (repeat' first | (with_reducible intro x1 x2 hE hW <;> (try (obtain ⟨rfl, rfl, hK⟩ := rNumber_inv hE)) <;> (try (obtain ⟨rfl, -⟩ := rMust_inv hE)) <;> (try (obtain ⟨u1, u2, rfl⟩ := rUnit_inv hE; dsimp only)) <;> try simp only [stR_eq, lookR, om, push_cast, ed, reduceCtorEq, ld]) | (with_reducible intro x1 x2 x3 hE <;> try simp only [stR_eq, lookR, om, push_cast, ed, reduceCtorEq, ld]) | (with_reducible intro hE2 <;> try simp only [stR_eq, lookR, om, push_cast, ed, reduceCtorEq, ld]) | ((first | refine go rfl rfl ?_ | refine number_fail hk hG hw hm (fun ts' => ?_) | refine RdK.c (by first | assumption | (simp only [stR_eq, lookR, om, push_cast, ed, reduceCtorEq, ld] <;> exact rfl)) (by assumption) (by assumption) ?_ | refine snap_two (by simp only [stR_eq, lookR, om, push_cast, ed, reduceCtorEq, ld] <;> exact rfl) ?_ | (refine Fk.by_ ?_ ?_ <;> intro hc <;> try simp only [hc]) | refine storeK_eq rfl ?_ | with_reducible refine an ?_ ?_) <;> try simp only [stR_eq, lookR, om, push_cast, ed, reduceCtorEq, ld]))
  all_goals first | (first | exact finRo hwf (by first | exact .inl rfl | exact .inr rfl) (by first | rfl | (simp only [push_cast, ed, reduceCtorEq, ld]; exact rfl)) (by first | exact .inl rfl | (right; simp only [push_cast, ed, reduceCtorEq, ld]; try rfl)) (by first | rfl | assumption | exact bd_cmd | (simp [V.bd, V.bdL]; done)) (by simp) (by (repeat first | exact (wfR hwf _).subm | exact subR hm hwf | refine Sub.drop (by simp) ?_)) (by simp [(hwf).z]) ((hwf).subx) (by first | assumption | (simp [*]; done) | (simp only [if_true, if_false, bf, *]; done) | fail) (by first | assumption | (simp [*]; done) | fail) | exact finRe hwf (by first | (simp [*]; done) | (simp only [if_true, if_false, bf, *]; done)) (by simp) (by (repeat first | exact (wfR hwf _).subm | exact subR hm hwf | refine Sub.drop (by simp) ?_)) (by simp [(hwf).z]) ((hwf).subx))
 | false =>
  have hn := number_ok hk hG hw hm
  have hR : rInt most ts = _ := rNum_ok hk
  cases hd' : digsB (hd ts).t with
  | false =>
   (repeat' first | (with_reducible intro x1 x2 hE hW <;> (try (obtain ⟨rfl, rfl, hK⟩ := rNumber_inv hE)) <;> (try (obtain ⟨rfl, -⟩ := rMust_inv hE)) <;> (try (obtain ⟨u1, u2, rfl⟩ := rUnit_inv hE; dsimp only)) <;> try simp only [stR_eq, lookR, om, hm, hd', push_cast, ed, reduceCtorEq, ld]) | (with_reducible intro x1 x2 x3 hE <;> try simp only [stR_eq, lookR, om, hm, hd', push_cast, ed, reduceCtorEq, ld]) | (with_reducible intro hE2 <;> try simp only [stR_eq, lookR, om, hm, hd', push_cast, ed, reduceCtorEq, ld]) | ((first | refine go rfl rfl ?_ | refine Cl.by_ (by (first | refine hn | refine digits_v _ _ (by omega))) ?_ | refine RdK.c (by first | assumption | (simp only [stR_eq, lookR, om, hm, hd', push_cast, ed, reduceCtorEq, ld] <;> exact rfl)) (by assumption) (by assumption) ?_ | refine snap_two (by simp only [stR_eq, lookR, om, hm, hd', push_cast, ed, reduceCtorEq, ld] <;> exact rfl) ?_ | (refine Fk.by_ ?_ ?_ <;> intro hc <;> try simp only [hc]) | refine storeK_eq rfl ?_ | with_reducible refine an ?_ ?_) <;> try simp only [stR_eq, lookR, om, hm, hd', push_cast, ed, reduceCtorEq, ld]))
   all_goals (first | exact finRo hwf (by first | exact .inl rfl | exact .inr rfl) (by first | rfl | (simp only [push_cast, ed, reduceCtorEq, ld]; exact rfl)) (by first | exact .inl rfl | (right; simp only [push_cast, ed, reduceCtorEq, ld]; try rfl)) (by first | rfl | assumption | exact bd_cmd | (simp [V.bd, V.bdL]; done)) (by simp) (by (repeat first | exact (wfR hwf _).subm | exact subR hm hwf | refine Sub.drop (by simp) ?_)) (by simp [(hwf).z]) ((hwf).subx) (by first | assumption | (simp [*]; done) | (simp only [if_true, if_false, bf, *]; done) | fail) (by first | assumption | (simp [*]; done) | fail) | exact finRe hwf (by first | (simp [*]; done) | (simp only [if_true, if_false, bf, *]; done)) (by simp) (by (repeat first | exact (wfR hwf _).subm | exact subR hm hwf | refine Sub.drop (by simp) ?_)) (by simp [(hwf).z]) ((hwf).subx))
  | true =>
   have hv := value_v _ st hG ht (digsB_ok hd').1 (digsB_ok hd').2
   (repeat' first | (with_reducible intro x1 x2 hE hW <;> (try (obtain ⟨rfl, rfl, hK⟩ := rNumber_inv hE)) <;> (try (obtain ⟨rfl, -⟩ := rMust_inv hE)) <;> (try (obtain ⟨u1, u2, rfl⟩ := rUnit_inv hE; dsimp only)) <;> try simp only [stR_eq, lookR, om, hm, hd', push_cast, ed, reduceCtorEq, ld]) | (with_reducible intro x1 x2 x3 hE <;> try simp only [stR_eq, lookR, om, hm, hd', push_cast, ed, reduceCtorEq, ld]) | (with_reducible intro hE2 <;> try simp only [stR_eq, lookR, om, hm, hd', push_cast, ed, reduceCtorEq, ld]) | ((first | refine go rfl rfl ?_ | refine Cl.by_ (by (first | refine hn | refine digits_v _ _ (by omega) | refine hv)) ?_ | refine RdK.c (by first | assumption | (simp only [stR_eq, lookR, om, hm, hd', push_cast, ed, reduceCtorEq, ld] <;> exact rfl)) (by assumption) (by assumption) ?_ | refine snap_two (by simp only [stR_eq, lookR, om, hm, hd', push_cast, ed, reduceCtorEq, ld] <;> exact rfl) ?_ | (refine Fk.by_ ?_ ?_ <;> intro hc <;> try simp only [hc]) | refine storeK_eq rfl ?_ | with_reducible refine an ?_ ?_) <;> try simp only [stR_eq, lookR, om, hm, hd', push_cast, ed, reduceCtorEq, ld]))
   all_goals have hw' := hw.tail (k1_ne hk)
   all_goals first | (first | exact finRo hwf (by first | exact .inl rfl | exact .inr rfl) (by first | rfl | (simp only [push_cast, ed, reduceCtorEq, ld]; exact rfl)) (by first | exact .inl rfl | (right; simp only [push_cast, ed, reduceCtorEq, ld]; try rfl)) (by first | rfl | assumption | exact bd_cmd | (simp [V.bd, V.bdL]; done)) (by simp) (by (repeat first | exact (wfR hwf _).subm | exact subR hm hwf | refine Sub.drop (by simp) ?_)) (by simp [(hwf).z]) ((hwf).subx) (by first | assumption | (simp [*]; done) | (simp only [if_true, if_false, bf, *]; done) | fail) (by first | assumption | (simp [*]; done) | fail) | exact finRe hwf (by first | (simp [*]; done) | (simp only [if_true, if_false, bf, *]; done)) (by simp) (by (repeat first | exact (wfR hwf _).subm | exact subR hm hwf | refine Sub.drop (by simp) ?_)) (by simp [(hwf).z]) ((hwf).subx))
instance {most : Int} : RdK 141 [.int .i64 most] (RdP (rInt most) (fun n => .int .i64 n)) := (rint_v most).k
theorem rlist_v : RdC 111 [] (rInt 1048576) (fun n => .int .i64 n) := by
 intro st rid ts hG hw hm
 refine vc F111_ok rfl (fun hwf => ?_)
 (repeat' first | (with_reducible intro x1 x2 hE hW <;> (try (obtain ⟨rfl, rfl, hK⟩ := rNumber_inv hE)) <;> (try (obtain ⟨rfl, -⟩ := rMust_inv hE)) <;> (try (obtain ⟨u1, u2, rfl⟩ := rUnit_inv hE; dsimp only)) <;> try simp only [stR_eq, lookR, om, hm, push_cast, ed, reduceCtorEq, ld]) | (with_reducible intro x1 x2 x3 hE <;> try simp only [stR_eq, lookR, om, hm, push_cast, ed, reduceCtorEq, ld]) | (with_reducible intro hE2 <;> try simp only [stR_eq, lookR, om, hm, push_cast, ed, reduceCtorEq, ld]) | ((first | refine go rfl rfl ?_ | refine RdK.c (by first | assumption | (simp only [stR_eq, lookR, om, hm, push_cast, ed, reduceCtorEq, ld] <;> exact rfl)) (by assumption) (by assumption) ?_ | refine snap_two (by simp only [stR_eq, lookR, om, hm, push_cast, ed, reduceCtorEq, ld] <;> exact rfl) ?_ | (refine Fk.by_ ?_ ?_ <;> intro hc <;> try simp only [hc]) | refine storeK_eq rfl ?_ | with_reducible refine an ?_ ?_) <;> try simp only [stR_eq, lookR, om, hm, push_cast, ed, reduceCtorEq, ld]))
 all_goals first | (first | exact finRo hwf (by first | exact .inl rfl | exact .inr rfl) (by first | rfl | (simp only [push_cast, ed, reduceCtorEq, ld]; exact rfl)) (by first | exact .inl rfl | (right; simp only [push_cast, ed, reduceCtorEq, ld]; try rfl)) (by first | rfl | assumption | exact bd_cmd | (simp [V.bd, V.bdL]; done)) (by simp) (by (repeat first | exact (wfR hwf _).subm | exact subR hm hwf | refine Sub.drop (by simp) ?_)) (by simp [(hwf).z]) ((hwf).subx) (by first | assumption | (simp [*]; done) | (simp only [if_true, if_false, bf, *]; done) | fail) (by first | assumption | (simp [*]; done) | fail) | exact finRe hwf (by first | (simp [*]; done) | (simp only [if_true, if_false, bf, *]; done)) (by simp) (by (repeat first | exact (wfR hwf _).subm | exact subR hm hwf | refine Sub.drop (by simp) ?_)) (by simp [(hwf).z]) ((hwf).subx))
def mustE (e : Int) : Int := if (e == 3) = true then 4 else e
instance : RdK 111 [] (RdP (rInt 1048576) (fun n => .int .i64 n)) := (rlist_v).k
theorem rMust_err {α : Type} {e : Int} {f : Unit → Rd α} {ts : List Tok} (he : (e == 0) = false) : rNext (rMust e) f ts = .error ((hd ts).a, mustE e) := by
 simp only [rNext, rMust, he, bf, if_false, mustE]
 cases e == 3 <;> rfl
theorem rMust_ok {α : Type} {e : Int} {f : Unit → Rd α} {ts : List Tok} (he : (e == 0) = true) : rNext (rMust e) f ts = f () ts := by
 simp only [rNext, rMust, he, if_true]
theorem must_fail {st : St} {rid : Nat} {ts : List Tok} {e : Int} {K : VRes → St → Prop} (he : (e == 0) = false) (hG : GlOk st.x.gl) (hw : WfT ts) (hm : Sha.look st.mem rid = some [.sl (ts.map tkV)]) (h : ∀ ts', K (.pan (failV (hd ts).a (mustE e))) (stR st rid ts')) : VCalls Tryz.prog 170 [.ptr rid 0, .int .i64 e] st K := by
 refine VCalls.mono (gmust_v e st rid ts hG hw hm) (fun r s hr => ?_)
 unfold rdPost rMust at hr
 rw [if_neg (by rw [he]; decide)] at hr
 unfold mustE at h
 split at hr <;> rename_i h1
 ·split at h1 <;> cases h1
 ·split at h1 <;> rename_i h2
  ·rw [if_pos h2] at h
   cases h1
   obtain ⟨rfl, ts', rfl⟩ := hr
   exact h ts'
  ·rw [if_neg h2] at h
   cases h1
   obtain ⟨rfl, ts', rfl⟩ := hr
   exact h ts'
theorem must_ok {st : St} {rid : Nat} {ts : List Tok} {e : Int} (he : (e == 0) = true) (hG : GlOk st.x.gl) (hw : WfT ts) (hm : Sha.look st.mem rid = some [.sl (ts.map tkV)]) : VRet Tryz.prog 170 [.ptr rid 0, .int .i64 e] st (.tup []) st := by
 refine VCalls.mono (gmust_v e st rid ts hG hw hm) (fun r s hr => ?_)
 unfold rdPost rMust at hr
 rw [if_pos he] at hr
 obtain ⟨rfl, rfl, _⟩ := hr
 exact ⟨rfl, stR_same hm⟩
theorem rcue_v : RdC 175 [] rCue .str := by
 intro st rid ts hG hw hm
 have ht := hw.txt
 refine vc F175_ok rfl (fun hwf => ?_)
 cases hk : (hd ts).k != 1 with
 | true =>
  have hE : rCue ts = _ := rNum_err hk
  (repeat' first | (with_reducible intro x1 x2 hE hW <;> (try (obtain ⟨rfl, rfl, hK⟩ := rNumber_inv hE)) <;> (try (obtain ⟨rfl, -⟩ := rMust_inv hE)) <;> (try (obtain ⟨u1, u2, rfl⟩ := rUnit_inv hE; dsimp only)) <;> try simp only [stR_eq, lookR, om, push_cast, ed, reduceCtorEq, ld]) | (with_reducible intro x1 x2 x3 hE <;> try simp only [stR_eq, lookR, om, push_cast, ed, reduceCtorEq, ld]) | (with_reducible intro hE2 <;> try simp only [stR_eq, lookR, om, push_cast, ed, reduceCtorEq, ld]) | ((first | refine go rfl rfl ?_ | refine number_fail hk hG hw hm (fun ts' => ?_) | refine RdK.c (by first | assumption | (simp only [stR_eq, lookR, om, push_cast, ed, reduceCtorEq, ld] <;> exact rfl)) (by assumption) (by assumption) ?_ | refine snap_two (by simp only [stR_eq, lookR, om, push_cast, ed, reduceCtorEq, ld] <;> exact rfl) ?_ | (refine Fk.by_ ?_ ?_ <;> intro hc <;> try simp only [hc]) | refine storeK_eq rfl ?_ | with_reducible refine an ?_ ?_) <;> try simp only [stR_eq, lookR, om, push_cast, ed, reduceCtorEq, ld]))
  all_goals first | (first | exact finRo hwf (by first | exact .inl rfl | exact .inr rfl) (by first | rfl | (simp only [push_cast, ed, reduceCtorEq, ld]; exact rfl)) (by first | exact .inl rfl | (right; simp only [push_cast, ed, reduceCtorEq, ld]; try rfl)) (by first | rfl | assumption | exact bd_cmd | (simp [V.bd, V.bdL]; done)) (by simp) (by (repeat first | exact (wfR hwf _).subm | exact subR hm hwf | refine Sub.drop (by simp) ?_)) (by simp [(hwf).z]) ((hwf).subx) (by first | assumption | (simp [*]; done) | (simp only [if_true, if_false, bf, *]; done) | fail) (by first | assumption | (simp [*]; done) | fail) | exact finRe hwf (by first | (simp [*]; done) | (simp only [if_true, if_false, bf, *]; done)) (by simp) (by (repeat first | exact (wfR hwf _).subm | exact subR hm hwf | refine Sub.drop (by simp) ?_)) (by simp [(hwf).z]) ((hwf).subx))
 | false =>
  have hn := number_ok hk hG hw hm
  have hR : rCue ts = _ := rNum_ok hk
  cases he : chkN (hd ts).t == 0 with
  | false =>
   rw [rMust_err he] at hR
   (repeat' first | (with_reducible intro x1 x2 hE hW <;> (try (obtain ⟨rfl, rfl, hK⟩ := rNumber_inv hE)) <;> (try (obtain ⟨rfl, -⟩ := rMust_inv hE)) <;> (try (obtain ⟨u1, u2, rfl⟩ := rUnit_inv hE; dsimp only)) <;> try simp only [stR_eq, lookR, om, hm, push_cast, ed, reduceCtorEq, ld]) | (with_reducible intro x1 x2 x3 hE <;> try simp only [stR_eq, lookR, om, hm, push_cast, ed, reduceCtorEq, ld]) | (with_reducible intro hE2 <;> try simp only [stR_eq, lookR, om, hm, push_cast, ed, reduceCtorEq, ld]) | ((first | refine go rfl rfl ?_ | refine must_fail he hG hw hm (fun ts' => ?_) | refine Cl.by_ (by (first | refine hn | refine check_v _ _ ht)) ?_ | refine RdK.c (by first | assumption | (simp only [stR_eq, lookR, om, hm, push_cast, ed, reduceCtorEq, ld] <;> exact rfl)) (by assumption) (by assumption) ?_ | refine snap_two (by simp only [stR_eq, lookR, om, hm, push_cast, ed, reduceCtorEq, ld] <;> exact rfl) ?_ | (refine Fk.by_ ?_ ?_ <;> intro hc <;> try simp only [hc]) | refine storeK_eq rfl ?_ | with_reducible refine an ?_ ?_) <;> try simp only [stR_eq, lookR, om, hm, push_cast, ed, reduceCtorEq, ld]))
   all_goals first | (first | exact finRo hwf (by first | exact .inl rfl | exact .inr rfl) (by first | rfl | (simp only [push_cast, ed, reduceCtorEq, ld]; exact rfl)) (by first | exact .inl rfl | (right; simp only [push_cast, ed, reduceCtorEq, ld]; try rfl)) (by first | rfl | assumption | exact bd_cmd | (simp [V.bd, V.bdL]; done)) (by simp) (by (repeat first | exact (wfR hwf _).subm | exact subR hm hwf | refine Sub.drop (by simp) ?_)) (by simp [(hwf).z]) ((hwf).subx) (by first | assumption | (simp [*]; done) | (simp only [if_true, if_false, bf, *]; done) | fail) (by first | assumption | (simp [*]; done) | fail) | exact finRe hwf (by first | (simp [*]; done) | (simp only [if_true, if_false, bf, *]; done)) (by simp) (by (repeat first | exact (wfR hwf _).subm | exact subR hm hwf | refine Sub.drop (by simp) ?_)) (by simp [(hwf).z]) ((hwf).subx))
  | true =>
   rw [rMust_ok he] at hR
   (repeat' first | (with_reducible intro x1 x2 hE hW <;> (try (obtain ⟨rfl, rfl, hK⟩ := rNumber_inv hE)) <;> (try (obtain ⟨rfl, -⟩ := rMust_inv hE)) <;> (try (obtain ⟨u1, u2, rfl⟩ := rUnit_inv hE; dsimp only)) <;> try simp only [stR_eq, lookR, om, hm, tkV, push_cast, ed, reduceCtorEq, ld]) | (with_reducible intro x1 x2 x3 hE <;> try simp only [stR_eq, lookR, om, hm, tkV, push_cast, ed, reduceCtorEq, ld]) | (with_reducible intro hE2 <;> try simp only [stR_eq, lookR, om, hm, tkV, push_cast, ed, reduceCtorEq, ld]) | ((first | refine go rfl rfl ?_ | refine Cl.by_ (by (first | refine hn | refine check_v _ _ ht | refine must_ok he hG hw hm)) ?_ | refine RdK.c (by first | assumption | (simp only [stR_eq, lookR, om, hm, tkV, push_cast, ed, reduceCtorEq, ld] <;> exact rfl)) (by assumption) (by assumption) ?_ | refine snap_two (by simp only [stR_eq, lookR, om, hm, tkV, push_cast, ed, reduceCtorEq, ld] <;> exact rfl) ?_ | (refine Fk.by_ ?_ ?_ <;> intro hc <;> try simp only [hc]) | refine storeK_eq rfl ?_ | with_reducible refine an ?_ ?_) <;> try simp only [stR_eq, lookR, om, hm, tkV, push_cast, ed, reduceCtorEq, ld]))
   all_goals have hw' := hw.tail (k1_ne hk)
   all_goals first | (first | exact finRo hwf (by first | exact .inl rfl | exact .inr rfl) (by first | rfl | (simp only [push_cast, ed, reduceCtorEq, ld]; exact rfl)) (by first | exact .inl rfl | (right; simp only [push_cast, ed, reduceCtorEq, ld]; try rfl)) (by first | rfl | assumption | exact bd_cmd | (simp [V.bd, V.bdL]; done)) (by simp) (by (repeat first | exact (wfR hwf _).subm | exact subR hm hwf | refine Sub.drop (by simp) ?_)) (by simp [(hwf).z]) ((hwf).subx) (by first | assumption | (simp [*]; done) | (simp only [if_true, if_false, bf, *]; done) | fail) (by first | assumption | (simp [*]; done) | fail) | exact finRe hwf (by first | (simp [*]; done) | (simp only [if_true, if_false, bf, *]; done)) (by simp) (by (repeat first | exact (wfR hwf _).subm | exact subR hm hwf | refine Sub.drop (by simp) ?_)) (by simp [(hwf).z]) ((hwf).subx))
instance : RdK 175 [] (RdP rCue .str) := (rcue_v).k
theorem hdIs_full {ts : List Tok} {t : List UInt8} (h : hdIs 0 t ts = true) : (hd ts).t = t ∧ (hd ts).k ≠ 3 := by
 simp only [hdIs, Bool.and_eq_true, beq_iff_eq] at h
 exact ⟨h.2, by omega⟩
theorem rlevel_v : RdC 112 [] rLevel (fun n => .int .i64 n) := by
 intro st rid ts hG hw hm
 have ht := hw.txt
 refine vc F112_ok rfl (fun hwf => ?_)
 cases hf : hdIs 0 [102, 117, 108, 108] ts with
 | true =>
  have hk3 := (hdIs_full hf).2
  have hR : rLevel ts = rNext (rMust (pctN (hd ts).t).2) (fun _ ts => .ok ((pctN (hd ts).t).1, ts.tail)) ts := by
   simp only [rLevel, hf, if_true]
   show rNext (rMust (pctN (hd ts).t).2) (fun _ ts' => .ok ((pctN (hd ts).t).1, ts'.tail)) ts = _
   cases he : (pctN (hd ts).t).2 == 0
   ·rw [rMust_err he, rMust_err he]
   ·rw [rMust_ok he, rMust_ok he]
  cases he : (pctN (hd ts).t).2 == 0 with
  | false =>
   rw [rMust_err he] at hR
   (repeat' first | (with_reducible intro x1 x2 hE hW <;> (try (obtain ⟨rfl, rfl, hK⟩ := rNumber_inv hE)) <;> (try (obtain ⟨rfl, -⟩ := rMust_inv hE)) <;> (try (obtain ⟨u1, u2, rfl⟩ := rUnit_inv hE; dsimp only)) <;> try simp only [stR_eq, lookR, om, hm, hf, tkV, push_cast, ed, reduceCtorEq, ld]) | (with_reducible intro x1 x2 x3 hE <;> try simp only [stR_eq, lookR, om, hm, hf, tkV, push_cast, ed, reduceCtorEq, ld]) | (with_reducible intro hE2 <;> try simp only [stR_eq, lookR, om, hm, hf, tkV, push_cast, ed, reduceCtorEq, ld]) | ((first | refine go rfl rfl ?_ | refine must_fail he hG hw hm (fun ts' => ?_) | refine Cl.by_ (by (first | refine percent_v _ _ ht)) ?_ | refine RdK.c (by first | assumption | (simp only [stR_eq, lookR, om, hm, hf, tkV, push_cast, ed, reduceCtorEq, ld] <;> exact rfl)) (by assumption) (by assumption) ?_ | refine snap_two (by simp only [stR_eq, lookR, om, hm, hf, tkV, push_cast, ed, reduceCtorEq, ld] <;> exact rfl) ?_ | (refine Fk.by_ ?_ ?_ <;> intro hc <;> try simp only [hc]) | refine storeK_eq rfl ?_ | with_reducible refine an ?_ ?_) <;> try simp only [stR_eq, lookR, om, hm, hf, tkV, push_cast, ed, reduceCtorEq, ld]))
   all_goals first | (first | exact finRo hwf (by first | exact .inl rfl | exact .inr rfl) (by first | rfl | (simp only [push_cast, ed, reduceCtorEq, ld]; exact rfl)) (by first | exact .inl rfl | (right; simp only [push_cast, ed, reduceCtorEq, ld]; try rfl)) (by first | rfl | assumption | exact bd_cmd | (simp [V.bd, V.bdL]; done)) (by simp) (by (repeat first | exact (wfR hwf _).subm | exact subR hm hwf | refine Sub.drop (by simp) ?_)) (by simp [(hwf).z]) ((hwf).subx) (by first | assumption | (simp [*]; done) | (simp only [if_true, if_false, bf, *]; done) | fail) (by first | assumption | (simp [*]; done) | fail) | exact finRe hwf (by first | (simp [*]; done) | (simp only [if_true, if_false, bf, *]; done)) (by simp) (by (repeat first | exact (wfR hwf _).subm | exact subR hm hwf | refine Sub.drop (by simp) ?_)) (by simp [(hwf).z]) ((hwf).subx))
  | true =>
   rw [rMust_ok he] at hR
   (repeat' first | (with_reducible intro x1 x2 hE hW <;> (try (obtain ⟨rfl, rfl, hK⟩ := rNumber_inv hE)) <;> (try (obtain ⟨rfl, -⟩ := rMust_inv hE)) <;> (try (obtain ⟨u1, u2, rfl⟩ := rUnit_inv hE; dsimp only)) <;> try simp only [stR_eq, lookR, om, hm, hf, tkV, push_cast, ed, reduceCtorEq, ld]) | (with_reducible intro x1 x2 x3 hE <;> try simp only [stR_eq, lookR, om, hm, hf, tkV, push_cast, ed, reduceCtorEq, ld]) | (with_reducible intro hE2 <;> try simp only [stR_eq, lookR, om, hm, hf, tkV, push_cast, ed, reduceCtorEq, ld]) | ((first | refine go rfl rfl ?_ | refine Cl.by_ (by (first | refine percent_v _ _ ht | refine must_ok he hG hw hm)) ?_ | refine RdK.c (by first | assumption | (simp only [stR_eq, lookR, om, hm, hf, tkV, push_cast, ed, reduceCtorEq, ld] <;> exact rfl)) (by assumption) (by assumption) ?_ | refine snap_two (by simp only [stR_eq, lookR, om, hm, hf, tkV, push_cast, ed, reduceCtorEq, ld] <;> exact rfl) ?_ | (refine Fk.by_ ?_ ?_ <;> intro hc <;> try simp only [hc]) | refine storeK_eq rfl ?_ | with_reducible refine an ?_ ?_) <;> try simp only [stR_eq, lookR, om, hm, hf, tkV, push_cast, ed, reduceCtorEq, ld]))
   all_goals have hw' := hw.tail hk3
   all_goals first | (first | exact finRo hwf (by first | exact .inl rfl | exact .inr rfl) (by first | rfl | (simp only [push_cast, ed, reduceCtorEq, ld]; exact rfl)) (by first | exact .inl rfl | (right; simp only [push_cast, ed, reduceCtorEq, ld]; try rfl)) (by first | rfl | assumption | exact bd_cmd | (simp [V.bd, V.bdL]; done)) (by simp) (by (repeat first | exact (wfR hwf _).subm | exact subR hm hwf | refine Sub.drop (by simp) ?_)) (by simp [(hwf).z]) ((hwf).subx) (by first | assumption | (simp [*]; done) | (simp only [if_true, if_false, bf, *]; done) | fail) (by first | assumption | (simp [*]; done) | fail) | exact finRe hwf (by first | (simp [*]; done) | (simp only [if_true, if_false, bf, *]; done)) (by simp) (by (repeat first | exact (wfR hwf _).subm | exact subR hm hwf | refine Sub.drop (by simp) ?_)) (by simp [(hwf).z]) ((hwf).subx))
 | false =>
  cases hk : (hd ts).k != 1 with
  | true =>
   have hE : rLevel ts = .error ((hd ts).a, 4) := by simp only [rLevel, hf, bf, if_false]; exact rNum_err hk
   (repeat' first | (with_reducible intro x1 x2 hE hW <;> (try (obtain ⟨rfl, rfl, hK⟩ := rNumber_inv hE)) <;> (try (obtain ⟨rfl, -⟩ := rMust_inv hE)) <;> (try (obtain ⟨u1, u2, rfl⟩ := rUnit_inv hE; dsimp only)) <;> try simp only [stR_eq, lookR, om, hf, push_cast, ed, reduceCtorEq, ld]) | (with_reducible intro x1 x2 x3 hE <;> try simp only [stR_eq, lookR, om, hf, push_cast, ed, reduceCtorEq, ld]) | (with_reducible intro hE2 <;> try simp only [stR_eq, lookR, om, hf, push_cast, ed, reduceCtorEq, ld]) | ((first | refine go rfl rfl ?_ | refine number_fail hk hG hw hm (fun ts' => ?_) | refine RdK.c (by first | assumption | (simp only [stR_eq, lookR, om, hf, push_cast, ed, reduceCtorEq, ld] <;> exact rfl)) (by assumption) (by assumption) ?_ | refine snap_two (by simp only [stR_eq, lookR, om, hf, push_cast, ed, reduceCtorEq, ld] <;> exact rfl) ?_ | (refine Fk.by_ ?_ ?_ <;> intro hc <;> try simp only [hc]) | refine storeK_eq rfl ?_ | with_reducible refine an ?_ ?_) <;> try simp only [stR_eq, lookR, om, hf, push_cast, ed, reduceCtorEq, ld]))
   all_goals first | (first | exact finRo hwf (by first | exact .inl rfl | exact .inr rfl) (by first | rfl | (simp only [push_cast, ed, reduceCtorEq, ld]; exact rfl)) (by first | exact .inl rfl | (right; simp only [push_cast, ed, reduceCtorEq, ld]; try rfl)) (by first | rfl | assumption | exact bd_cmd | (simp [V.bd, V.bdL]; done)) (by simp) (by (repeat first | exact (wfR hwf _).subm | exact subR hm hwf | refine Sub.drop (by simp) ?_)) (by simp [(hwf).z]) ((hwf).subx) (by first | assumption | (simp [*]; done) | (simp only [if_true, if_false, bf, *]; done) | fail) (by first | assumption | (simp [*]; done) | fail) | exact finRe hwf (by first | (simp [*]; done) | (simp only [if_true, if_false, bf, *]; done)) (by simp) (by (repeat first | exact (wfR hwf _).subm | exact subR hm hwf | refine Sub.drop (by simp) ?_)) (by simp [(hwf).z]) ((hwf).subx))
  | false =>
   have hn := number_ok hk hG hw hm
   have hR : rLevel ts = rNext (rMust (pctN (hd ts).t).2) (fun _ ts => .ok ((pctN (hd ts).t).1, ts.tail)) ts := by
    simp only [rLevel, hf, bf, if_false]
    rw [rNum_ok hk]
    cases he : (pctN (hd ts).t).2 == 0
    ·rw [rMust_err he, rMust_err he]
    ·rw [rMust_ok he, rMust_ok he]
   cases he : (pctN (hd ts).t).2 == 0 with
   | false =>
    rw [rMust_err he] at hR
    (repeat' first | (with_reducible intro x1 x2 hE hW <;> (try (obtain ⟨rfl, rfl, hK⟩ := rNumber_inv hE)) <;> (try (obtain ⟨rfl, -⟩ := rMust_inv hE)) <;> (try (obtain ⟨u1, u2, rfl⟩ := rUnit_inv hE; dsimp only)) <;> try simp only [stR_eq, lookR, om, hm, hf, tkV, push_cast, ed, reduceCtorEq, ld]) | (with_reducible intro x1 x2 x3 hE <;> try simp only [stR_eq, lookR, om, hm, hf, tkV, push_cast, ed, reduceCtorEq, ld]) | (with_reducible intro hE2 <;> try simp only [stR_eq, lookR, om, hm, hf, tkV, push_cast, ed, reduceCtorEq, ld]) | ((first | refine go rfl rfl ?_ | refine must_fail he hG hw hm (fun ts' => ?_) | refine Cl.by_ (by (first | refine hn | refine percent_v _ _ ht)) ?_ | refine RdK.c (by first | assumption | (simp only [stR_eq, lookR, om, hm, hf, tkV, push_cast, ed, reduceCtorEq, ld] <;> exact rfl)) (by assumption) (by assumption) ?_ | refine snap_two (by simp only [stR_eq, lookR, om, hm, hf, tkV, push_cast, ed, reduceCtorEq, ld] <;> exact rfl) ?_ | (refine Fk.by_ ?_ ?_ <;> intro hc <;> try simp only [hc]) | refine storeK_eq rfl ?_ | with_reducible refine an ?_ ?_) <;> try simp only [stR_eq, lookR, om, hm, hf, tkV, push_cast, ed, reduceCtorEq, ld]))
    all_goals first | (first | exact finRo hwf (by first | exact .inl rfl | exact .inr rfl) (by first | rfl | (simp only [push_cast, ed, reduceCtorEq, ld]; exact rfl)) (by first | exact .inl rfl | (right; simp only [push_cast, ed, reduceCtorEq, ld]; try rfl)) (by first | rfl | assumption | exact bd_cmd | (simp [V.bd, V.bdL]; done)) (by simp) (by (repeat first | exact (wfR hwf _).subm | exact subR hm hwf | refine Sub.drop (by simp) ?_)) (by simp [(hwf).z]) ((hwf).subx) (by first | assumption | (simp [*]; done) | (simp only [if_true, if_false, bf, *]; done) | fail) (by first | assumption | (simp [*]; done) | fail) | exact finRe hwf (by first | (simp [*]; done) | (simp only [if_true, if_false, bf, *]; done)) (by simp) (by (repeat first | exact (wfR hwf _).subm | exact subR hm hwf | refine Sub.drop (by simp) ?_)) (by simp [(hwf).z]) ((hwf).subx))
   | true =>
    rw [rMust_ok he] at hR
    (repeat' first | (with_reducible intro x1 x2 hE hW <;> (try (obtain ⟨rfl, rfl, hK⟩ := rNumber_inv hE)) <;> (try (obtain ⟨rfl, -⟩ := rMust_inv hE)) <;> (try (obtain ⟨u1, u2, rfl⟩ := rUnit_inv hE; dsimp only)) <;> try simp only [stR_eq, lookR, om, hm, hf, tkV, push_cast, ed, reduceCtorEq, ld]) | (with_reducible intro x1 x2 x3 hE <;> try simp only [stR_eq, lookR, om, hm, hf, tkV, push_cast, ed, reduceCtorEq, ld]) | (with_reducible intro hE2 <;> try simp only [stR_eq, lookR, om, hm, hf, tkV, push_cast, ed, reduceCtorEq, ld]) | ((first | refine go rfl rfl ?_ | refine Cl.by_ (by (first | refine hn | refine percent_v _ _ ht | refine must_ok he hG hw hm)) ?_ | refine RdK.c (by first | assumption | (simp only [stR_eq, lookR, om, hm, hf, tkV, push_cast, ed, reduceCtorEq, ld] <;> exact rfl)) (by assumption) (by assumption) ?_ | refine snap_two (by simp only [stR_eq, lookR, om, hm, hf, tkV, push_cast, ed, reduceCtorEq, ld] <;> exact rfl) ?_ | (refine Fk.by_ ?_ ?_ <;> intro hc <;> try simp only [hc]) | refine storeK_eq rfl ?_ | with_reducible refine an ?_ ?_) <;> try simp only [stR_eq, lookR, om, hm, hf, tkV, push_cast, ed, reduceCtorEq, ld]))
    all_goals have hw' := hw.tail (k1_ne hk)
    all_goals first | (first | exact finRo hwf (by first | exact .inl rfl | exact .inr rfl) (by first | rfl | (simp only [push_cast, ed, reduceCtorEq, ld]; exact rfl)) (by first | exact .inl rfl | (right; simp only [push_cast, ed, reduceCtorEq, ld]; try rfl)) (by first | rfl | assumption | exact bd_cmd | (simp [V.bd, V.bdL]; done)) (by simp) (by (repeat first | exact (wfR hwf _).subm | exact subR hm hwf | refine Sub.drop (by simp) ?_)) (by simp [(hwf).z]) ((hwf).subx) (by first | assumption | (simp [*]; done) | (simp only [if_true, if_false, bf, *]; done) | fail) (by first | assumption | (simp [*]; done) | fail) | exact finRe hwf (by first | (simp [*]; done) | (simp only [if_true, if_false, bf, *]; done)) (by simp) (by (repeat first | exact (wfR hwf _).subm | exact subR hm hwf | refine Sub.drop (by simp) ?_)) (by simp [(hwf).z]) ((hwf).subx))
instance : RdK 112 [] (RdP rLevel (fun n => .int .i64 n)) := (rlevel_v).k
theorem rNumber_inv {ts ts' : List Tok} {a : List UInt8} (h : rNumber ts = .ok (a, ts')) : (hd ts).t = a ∧ ts = ts' ∧ (hd ts).k ≠ 3 := by
 unfold rNumber at h
 split at h
 ·cases h
 ·rename_i hk
  injection h with h; injection h with h1 h2
  exact ⟨h1, h2, by simp at hk; omega⟩
theorem rMust_inv {ts ts' : List Tok} {e : Int} {a : Unit} (h : rMust e ts = .ok (a, ts')) : ts = ts' ∧ e = 0 := by
 unfold rMust at h
 split at h
 ·rename_i hk
  injection h with h; injection h with h1 h2
  exact ⟨h2, by simpa using hk⟩
 ·split at h <;> cases h
theorem rtime_v : RdC 113 [] rTime (fun n => .int .i64 n) := by
 intro st rid ts hG hw hm
 refine vc F113_ok rfl (fun hwf => ?_)
 have hrid := (hwf.mem _ _ hm).1
 (repeat' first | (with_reducible intro x1 x2 hE hW <;> (try (obtain ⟨rfl, rfl, hK⟩ := rNumber_inv hE)) <;> (try (obtain ⟨rfl, -⟩ := rMust_inv hE)) <;> (try (obtain ⟨u1, u2, rfl⟩ := rUnit_inv hE; dsimp only)) <;> try simp only [stR_eq, lookR, om, hm, push_cast, ed, reduceCtorEq, ld]) | (with_reducible intro x1 x2 x3 hE <;> try simp only [stR_eq, lookR, om, hm, push_cast, ed, reduceCtorEq, ld]) | (with_reducible intro hE2 <;> try simp only [stR_eq, lookR, om, hm, push_cast, ed, reduceCtorEq, ld]) | ((first | refine go rfl rfl ?_ | refine Cl.by_ (by (first | refine seconds_v _ _ hG (WfT.txt (by assumption)))) ?_ | refine RdK.c (by first | assumption | (simp only [stR_eq, lookR, om, hm, push_cast, ed, reduceCtorEq, ld] <;> exact rfl)) (by assumption) (by assumption) ?_ | refine snap_two (by simp only [stR_eq, lookR, om, hm, push_cast, ed, reduceCtorEq, ld] <;> exact rfl) ?_ | (refine Fk.by_ ?_ ?_ <;> intro hc <;> try simp only [hc]) | refine storeK_eq rfl ?_ | with_reducible refine an ?_ ?_) <;> try simp only [stR_eq, lookR, om, hm, push_cast, ed, reduceCtorEq, ld]))
 all_goals try have hw' := WfT.tail hW hK
 all_goals first | (first | exact finRo hwf (by first | exact .inl rfl | exact .inr rfl) (by first | rfl | (simp only [rTime, rNext, rOk, push_cast, ed, reduceCtorEq, ld]; exact rfl)) (by first | exact .inl rfl | (right; simp only [push_cast, ed, reduceCtorEq, ld]; try rfl)) (by first | rfl | assumption | exact bd_cmd | (simp [V.bd, V.bdL]; done)) (by simp) (by (repeat first | exact (wfR hwf _).subm | exact subR hm hwf | refine Sub.drop (by simp) ?_)) (by simp [(hwf).z]) ((hwf).subx) (by first | assumption | (simp [rTime, rNext, rOk, *]; done) | (simp only [rTime, rNext, rOk, if_true, if_false, bf, *]; done) | fail) (by first | assumption | (simp [rTime, rNext, rOk, *]; done) | fail) | exact finRe hwf (by first | (simp [rTime, rNext, rOk, *]; done) | (simp only [rTime, rNext, rOk, if_true, if_false, bf, *]; done)) (by simp) (by (repeat first | exact (wfR hwf _).subm | exact subR hm hwf | refine Sub.drop (by simp) ?_)) (by simp [(hwf).z]) ((hwf).subx))
instance : RdK 113 [] (RdP rTime (fun n => .int .i64 n)) := (rtime_v).k
theorem cutW_len {c : UInt8} {s : List UInt8} {n : Nat} (h : s.length < n) : (cutW c s).length < n := by unfold cutW; rw [List.length_take]; omega
theorem cutR_len {c : UInt8} {s : List UInt8} {n : Nat} (h : s.length < n) : (cutR c s).length < n := by unfold cutR; rw [List.length_drop]; omega
theorem dg1 {s : List UInt8} (h : (!digsB s) = false) : s ≠ [] := (digsB_ok (by simpa using h)).1
theorem dg2 {s : List UInt8} (h : (!digsB s) = false) : s.all digB = true := (digsB_ok (by simpa using h)).2
theorem lt62 {n : Nat} (h : n < 140737488355328) : n < 4611686018427387904 := by omega
theorem k0_ne {ts : List Tok} (hk : ((hd ts).k != 0) = false) : (hd ts).k ≠ 3 := by
 simp at hk; omega
set_option maxHeartbeats 1000000 in
theorem runit_v : RdC 172 [] rUnit fixV := by
 intro st rid ts hG hw hm
 refine vc F172_ok rfl (fun hwf => ?_)
 have hrid := (hwf.mem _ _ hm).1
 have e1 : (st.nx = rid) = False := eq_false (by omega)
 have e2 : (st.nx + 1 = rid) = False := eq_false (by omega)
 have e3 : (st.nx + 2 = rid) = False := eq_false (by omega)
 have d49 : digsB [49] = true := rfl
 have c49 : capV (numD [49]) = 1 := rfl
 (repeat' first | (with_reducible intro x1 x2 hE hW <;> (try (obtain ⟨rfl, rfl, hK⟩ := rNumber_inv hE)) <;> (try (obtain ⟨rfl, -⟩ := rMust_inv hE)) <;> (try (obtain ⟨u1, u2, rfl⟩ := rUnit_inv hE; dsimp only)) <;> try simp only [stR_eq, lookR, om, hm, e1, e2, e3, d49, push_cast, ed, reduceCtorEq, ld]) | (with_reducible intro x1 x2 x3 hE <;> try simp only [stR_eq, lookR, om, hm, e1, e2, e3, d49, push_cast, ed, reduceCtorEq, ld]) | (with_reducible intro hE2 <;> try simp only [stR_eq, lookR, om, hm, e1, e2, e3, d49, push_cast, ed, reduceCtorEq, ld]) | ((first | refine go rfl rfl ?_ | refine Cl.by_ (by (first | refine cut_v _ _ _ (lt62 (WfT.txt (by assumption))) | refine digits_v _ _ (lt62 (cutW_len (WfT.txt (by assumption)))) | refine digits_v _ _ (lt62 (cutR_len (WfT.txt (by assumption)))) | refine digits_v [49] _ (by decide) | refine value_v _ _ hG (cutW_len (WfT.txt (by assumption))) (dg1 (by first | assumption | (simp only [Bool.not_eq_false']; assumption))) (dg2 (by first | assumption | (simp only [Bool.not_eq_false']; assumption))) | refine value_v _ _ hG (cutR_len (WfT.txt (by assumption))) (dg1 (by first | assumption | (simp only [Bool.not_eq_false']; assumption))) (dg2 (by first | assumption | (simp only [Bool.not_eq_false']; assumption))) | refine value_v [49] _ hG (by decide) (by decide) (by decide))) ?_ | refine RdK.c (by first | assumption | (simp only [stR_eq, lookR, om, hm, e1, e2, e3, d49, push_cast, ed, reduceCtorEq, ld] <;> exact rfl)) (by assumption) (by assumption) ?_ | refine snap_two (by simp only [stR_eq, lookR, om, hm, e1, e2, e3, d49, push_cast, ed, reduceCtorEq, ld] <;> exact rfl) ?_ | (refine Fk.by_ ?_ ?_ <;> intro hc <;> try simp only [hc]) | refine storeK_eq rfl ?_ | with_reducible refine an ?_ ?_) <;> try simp only [stR_eq, lookR, om, hm, e1, e2, e3, d49, push_cast, ed, reduceCtorEq, ld]))
 all_goals try have hw' := WfT.tail hW hK
 all_goals first | (exfalso; simp [c49] at hc; done) | (first | exact finRo (a := ⟨_, _, _, _, _, _⟩) hwf (by first | exact .inl rfl | exact .inr rfl) (by first | rfl | (simp only [F172, rUnit, rNext, rOk, push_cast, ed, reduceCtorEq, ld]; exact rfl)) (by first | exact .inl rfl | (right; simp only [push_cast, ed, reduceCtorEq, ld]; try rfl)) (by first | rfl | assumption | exact bd_cmd | (simp [V.bd, V.bdL]; done)) (by simp) (by (repeat first | exact (wfR hwf _).subm | exact subR hm hwf | refine Sub.drop (by simp) ?_)) (by simp [(hwf).z]) ((hwf).subx) (by first | assumption | (simp [F172, rUnit, rNext, rOk, *]; done) | (simp only [F172, rUnit, rNext, rOk, if_true, if_false, bf, *]; done) | fail) (by first | assumption | (simp [F172, rUnit, rNext, rOk, *]; done) | fail) | exact finRe hwf (by first | (simp [F172, rUnit, rNext, rOk, *]; done) | (simp only [F172, rUnit, rNext, rOk, if_true, if_false, bf, *]; done)) (by simp) (by (repeat first | exact (wfR hwf _).subm | exact subR hm hwf | refine Sub.drop (by simp) ?_)) (by simp [(hwf).z]) ((hwf).subx))
instance : RdK 172 [] (RdP rUnit fixV) := (runit_v).k
theorem rprofile_v : RdC 173 [] rProfile .str := by
 intro st rid ts hG hw hm
 refine vc F173_ok rfl (fun hwf => ?_)
 have hrid := (hwf.mem _ _ hm).1
 have e1 : (st.nx = rid) = False := eq_false (by omega)
 have e2 : (st.nx + 1 = rid) = False := eq_false (by omega)
 have e3 : (st.nx + 2 = rid) = False := eq_false (by omega)
 (repeat' first | (with_reducible intro x1 x2 hE hW <;> (try (obtain ⟨rfl, rfl, hK⟩ := rNumber_inv hE)) <;> (try (obtain ⟨rfl, -⟩ := rMust_inv hE)) <;> (try (obtain ⟨u1, u2, rfl⟩ := rUnit_inv hE; dsimp only)) <;> try simp only [stR_eq, lookR, om, hm, e1, e2, e3, tkV, push_cast, ed, reduceCtorEq, ld]) | (with_reducible intro x1 x2 x3 hE <;> try simp only [stR_eq, lookR, om, hm, e1, e2, e3, tkV, push_cast, ed, reduceCtorEq, ld]) | (with_reducible intro hE2 <;> try simp only [stR_eq, lookR, om, hm, e1, e2, e3, tkV, push_cast, ed, reduceCtorEq, ld]) | ((first | refine go rfl rfl ?_ | refine Cl.by_ (by (first | refine Word_v _ _ (WfT.txt (by assumption)))) ?_ | refine RdK.c (by first | assumption | (simp only [stR_eq, lookR, om, hm, e1, e2, e3, tkV, push_cast, ed, reduceCtorEq, ld] <;> exact rfl)) (by assumption) (by assumption) ?_ | refine snap_two (by simp only [stR_eq, lookR, om, hm, e1, e2, e3, tkV, push_cast, ed, reduceCtorEq, ld] <;> exact rfl) ?_ | (refine Fk.by_ ?_ ?_ <;> intro hc <;> try simp only [hc]) | refine storeK_eq rfl ?_ | with_reducible refine an ?_ ?_) <;> try simp only [stR_eq, lookR, om, hm, e1, e2, e3, tkV, push_cast, ed, reduceCtorEq, ld]))
 all_goals try have hw' := hw.tail (k0_ne (by assumption))
 all_goals first | (first | exact finRo hwf (by first | exact .inl rfl | exact .inr rfl) (by first | rfl | (simp only [rProfile, rNext, rOk, push_cast, ed, reduceCtorEq, ld]; exact rfl)) (by first | exact .inl rfl | (right; simp only [push_cast, ed, reduceCtorEq, ld]; try rfl)) (by first | rfl | assumption | exact bd_cmd | (simp [V.bd, V.bdL]; done)) (by simp) (by (repeat first | exact (wfR hwf _).subm | exact subR hm hwf | refine Sub.drop (by simp) ?_)) (by simp [(hwf).z]) ((hwf).subx) (by first | assumption | (simp [rProfile, rNext, rOk, *]; done) | (simp only [rProfile, rNext, rOk, if_true, if_false, bf, *]; done) | fail) (by first | assumption | (simp [rProfile, rNext, rOk, *]; done) | fail) | exact finRe hwf (by first | (simp [rProfile, rNext, rOk, *]; done) | (simp only [rProfile, rNext, rOk, if_true, if_false, bf, *]; done)) (by simp) (by (repeat first | exact (wfR hwf _).subm | exact subR hm hwf | refine Sub.drop (by simp) ?_)) (by simp [(hwf).z]) ((hwf).subx))
instance : RdK 173 [] (RdP rProfile .str) := (rprofile_v).k
theorem rkind_v (none : Int) : RdC 108 [.int .i64 none] (rKind none) (fun n => .int .i64 n) := by
 intro st rid ts hG hw hm
 refine vc F108_ok rfl (fun hwf => ?_)
 have hrid := (hwf.mem _ _ hm).1
 have e1 : (st.nx = rid) = False := eq_false (by omega)
 have e2 : (st.nx + 1 = rid) = False := eq_false (by omega)
 have e3 : (st.nx + 2 = rid) = False := eq_false (by omega)
 (repeat' first | (with_reducible intro x1 x2 hE hW <;> (try (obtain ⟨rfl, rfl, hK⟩ := rNumber_inv hE)) <;> (try (obtain ⟨rfl, -⟩ := rMust_inv hE)) <;> (try (obtain ⟨u1, u2, rfl⟩ := rUnit_inv hE; dsimp only)) <;> try simp only [stR_eq, lookR, om, hm, e1, e2, e3, tkV, push_cast, ed, reduceCtorEq, ld]) | (with_reducible intro x1 x2 x3 hE <;> try simp only [stR_eq, lookR, om, hm, e1, e2, e3, tkV, push_cast, ed, reduceCtorEq, ld]) | (with_reducible intro hE2 <;> try simp only [stR_eq, lookR, om, hm, e1, e2, e3, tkV, push_cast, ed, reduceCtorEq, ld]) | ((first | refine go rfl rfl ?_ | refine Cl.by_ (by (first | refine attr_v _ _ hG)) ?_ | refine RdK.c (by first | assumption | (simp only [stR_eq, lookR, om, hm, e1, e2, e3, tkV, push_cast, ed, reduceCtorEq, ld] <;> exact rfl)) (by assumption) (by assumption) ?_ | refine snap_two (by simp only [stR_eq, lookR, om, hm, e1, e2, e3, tkV, push_cast, ed, reduceCtorEq, ld] <;> exact rfl) ?_ | (refine Fk.by_ ?_ ?_ <;> intro hc <;> try simp only [hc]) | refine storeK_eq rfl ?_ | with_reducible refine an ?_ ?_) <;> try simp only [stR_eq, lookR, om, hm, e1, e2, e3, tkV, push_cast, ed, reduceCtorEq, ld]))
 all_goals try have hw' := hw.tail (k0_ne (by assumption))
 all_goals first | (first | exact finRo hwf (by first | exact .inl rfl | exact .inr rfl) (by first | rfl | (simp only [rKind, rNext, rOk, push_cast, ed, reduceCtorEq, ld]; exact rfl)) (by first | exact .inl rfl | (right; simp only [push_cast, ed, reduceCtorEq, ld]; try rfl)) (by first | rfl | assumption | exact bd_cmd | (simp [V.bd, V.bdL]; done)) (by simp) (by (repeat first | exact (wfR hwf _).subm | exact subR hm hwf | refine Sub.drop (by simp) ?_)) (by simp [(hwf).z]) ((hwf).subx) (by first | assumption | (simp [rKind, rNext, rOk, *]; done) | (simp only [rKind, rNext, rOk, if_true, if_false, bf, *]; done) | fail) (by first | assumption | (simp [rKind, rNext, rOk, *]; done) | fail) | exact finRe hwf (by first | (simp [rKind, rNext, rOk, *]; done) | (simp only [rKind, rNext, rOk, if_true, if_false, bf, *]; done)) (by simp) (by (repeat first | exact (wfR hwf _).subm | exact subR hm hwf | refine Sub.drop (by simp) ?_)) (by simp [(hwf).z]) ((hwf).subx))
instance {none : Int} : RdK 108 [.int .i64 none] (RdP (rKind none) (fun n => .int .i64 n)) := (rkind_v none).k
theorem rterm_v (op : Int) : RdC 90 [.int .i64 op] (rTerm op) selV := by
 intro st rid ts hG hw hm
 refine vc F90_ok rfl (fun hwf => ?_)
 have hrid := (hwf.mem _ _ hm).1
 have e1 : (st.nx = rid) = False := eq_false (by omega)
 have e2 : (st.nx + 1 = rid) = False := eq_false (by omega)
 have e3 : (st.nx + 2 = rid) = False := eq_false (by omega)
 (repeat' first | (with_reducible intro x1 x2 hE hW <;> (try (obtain ⟨rfl, rfl, hK⟩ := rNumber_inv hE)) <;> (try (obtain ⟨rfl, -⟩ := rMust_inv hE)) <;> (try (obtain ⟨u1, u2, rfl⟩ := rUnit_inv hE; dsimp only)) <;> try simp only [stR_eq, lookR, om, hm, e1, e2, e3, tkV, push_cast, ed, reduceCtorEq, ld]) | (with_reducible intro x1 x2 x3 hE <;> try simp only [stR_eq, lookR, om, hm, e1, e2, e3, tkV, push_cast, ed, reduceCtorEq, ld]) | (with_reducible intro hE2 <;> try simp only [stR_eq, lookR, om, hm, e1, e2, e3, tkV, push_cast, ed, reduceCtorEq, ld]) | ((first | refine go rfl rfl ?_ | refine RdK.c (by first | assumption | (simp only [stR_eq, lookR, om, hm, e1, e2, e3, tkV, push_cast, ed, reduceCtorEq, ld] <;> exact rfl)) (by assumption) (by assumption) ?_ | refine snap_two (by simp only [stR_eq, lookR, om, hm, e1, e2, e3, tkV, push_cast, ed, reduceCtorEq, ld] <;> exact rfl) ?_ | (refine Fk.by_ ?_ ?_ <;> intro hc <;> try simp only [hc]) | refine storeK_eq rfl ?_ | with_reducible refine an ?_ ?_) <;> try simp only [stR_eq, lookR, om, hm, e1, e2, e3, tkV, push_cast, ed, reduceCtorEq, ld]))
 all_goals first | (first | exact finRo (a := ⟨_, _, _, _⟩) hwf (by first | exact .inl rfl | exact .inr rfl) (by first | rfl | (simp only [F90, rTerm, rNext, rOk, push_cast, ed, reduceCtorEq, ld]; exact rfl)) (by first | exact .inl rfl | (right; simp only [push_cast, ed, reduceCtorEq, ld]; try rfl)) (by first | rfl | assumption | exact bd_cmd | (simp [V.bd, V.bdL]; done)) (by simp) (by (repeat first | exact (wfR hwf _).subm | exact subR hm hwf | refine Sub.drop (by simp) ?_)) (by simp [(hwf).z]) ((hwf).subx) (by first | assumption | (simp [F90, rTerm, rNext, rOk, *]; done) | (simp only [F90, rTerm, rNext, rOk, if_true, if_false, bf, *]; done) | fail) (by first | assumption | (simp [F90, rTerm, rNext, rOk, *]; done) | fail) | exact finRe hwf (by first | (simp [F90, rTerm, rNext, rOk, *]; done) | (simp only [F90, rTerm, rNext, rOk, if_true, if_false, bf, *]; done)) (by simp) (by (repeat first | exact (wfR hwf _).subm | exact subR hm hwf | refine Sub.drop (by simp) ?_)) (by simp [(hwf).z]) ((hwf).subx))
instance {op : Int} : RdK 90 [.int .i64 op] (RdP (rTerm op) selV) := (rterm_v op).k
theorem bdL_sel {n : Nat} {l : List Sel} : V.bdL n (l.map selV) = true := bdL_map fun _ _ => rfl
theorem all_sel {l : List Sel} : (l.map selV).all (fun x => x.cells.length == 4) = true := by simp [selV, V.cells]
theorem cells_selV {x : Sel} : (selV x).cells = [.int .i64 x.op, .int .i64 x.g, .int .i64 x.f, .int .i64 x.t] := @_root_.id (_ = _) rfl
theorem app_sel {l : List Sel} {x : Sel} : l.map selV ++ [selV x] = (l ++ [x]).map selV := by simp
theorem rSign_len {s : List UInt8} {ts ts' : List Tok} (h : rSign s ts = .ok (true, ts')) : ts'.length = ts.length - 1 := by
 unfold rSign at h
 split at h
 ·injection h with h; injection h with _ h; rw [← h]; simp
 ·injection h with h; injection h with h _; cases h
theorem rSign_len2 {s : List UInt8} {ts ts' : List Tok} (h : rSign s ts = .ok (false, ts')) : ts' = ts := by
 unfold rSign at h
 split at h
 ·injection h with h; injection h with h _; cases h
 ·injection h with h; injection h with _ h; exact h.symm
theorem rSign_pos {s : List UInt8} {ts ts' : List Tok} (h : rSign s ts = .ok (true, ts')) : 0 < ts.length := by
 unfold rSign at h
 split at h
 ·rename_i h1
  cases ts with
  | nil => simp [hdIs, hd] at h1
  | cons _ _ => simp
 ·injection h with h; injection h with h _; cases h
theorem snap_sel {st : St} {x : Sel} : snapA st (selV x) = some (selV x) := by rfl
theorem part_sel {st : St} {x : Sel} : partOk st (selV x) = true := by rfl
def Shr {α : Type} (m : Rd α) : Prop := ∀ ts a ts', m ts = .ok (a, ts') → ts'.length ≤ ts.length
theorem Shr.next {α β : Type} {m : Rd α} {f : α → Rd β} (h : Shr m) (k : ∀ a, Shr (f a)) : Shr (rNext m f) := fun ts b ts' e => by
 unfold rNext at e
 split at e
 ·rename_i a t1 h1
  exact Nat.le_trans (k a t1 b ts' e) (h ts a t1 h1)
 ·cases e
theorem Shr.ok {α : Type} {a : α} : Shr (rOk a) := fun ts b ts' e => by
 injection e with e; injection e with _ e; rw [e]; exact Nat.le_refl _
theorem Shr.ite {α : Type} {c : Prop} [Decidable c] {a b : Rd α} (h : Shr a) (k : Shr b) : Shr (if c then a else b) := by
 split
 ·exact h
 ·exact k
theorem Shr.word : ∀ {ws : List (List UInt8)}, Shr (rWord ws)
 | [] => Shr.ok
 | w :: r => fun ts b ts' e => by
  unfold rWord at e
  split at e
  ·injection e with e; injection e with _ e; rw [← e]; simp
  ·exact Shr.word (ws := r) ts b ts' e
theorem Shr.number : Shr rNumber := fun ts b ts' e => by rw [(rNumber_inv e).2.1]; exact Nat.le_refl _
theorem Shr.int {most : Int} : Shr (rInt most) := Shr.next Shr.number fun s ts b ts' e => by
 split at e
 ·cases e
 ·split at e
  ·cases e
  ·injection e with e; injection e with _ e; rw [← e]; simp
theorem Shr.term {op : Int} : Shr (rTerm op) := Shr.next Shr.word fun w => Shr.ite (Shr.next Shr.int fun n => Shr.ok) (Shr.next Shr.int fun a => Shr.next Shr.word fun w ts b ts' e => by
 split at e
 ·refine Shr.next Shr.int (fun b' t c t' e' => ?_) ts b ts' e
  split at e'
  ·cases e'
  ·injection e' with e'; injection e' with _ e'; rw [e']; exact Nat.le_refl _
 ·injection e with e; injection e with _ e; rw [e]; exact Nat.le_refl _)
theorem rselection_v : RdC 45 [] rSelection selsV := by
 intro st rid ts hG hw hm
 refine vc F45_ok rfl (fun hwf => ?_)
 have hrid := (hwf.mem _ _ hm).1
 have e1 : (st.nx = rid) = False := eq_false (by omega)
 have e2 : (st.nx + 1 = rid) = False := eq_false (by omega)
 (repeat' first | (with_reducible intro x1 x2 hE hW <;> (try (obtain ⟨rfl, rfl, hK⟩ := rNumber_inv hE)) <;> (try (obtain ⟨rfl, -⟩ := rMust_inv hE)) <;> (try (obtain ⟨u1, u2, rfl⟩ := rUnit_inv hE; dsimp only)) <;> try simp only [stR_eq, lookR, om, hm, e1, e2, cells_selV, push_cast, ed, reduceCtorEq, ld]) | (with_reducible intro x1 x2 x3 hE <;> try simp only [stR_eq, lookR, om, hm, e1, e2, cells_selV, push_cast, ed, reduceCtorEq, ld]) | (with_reducible intro hE2 <;> try simp only [stR_eq, lookR, om, hm, e1, e2, cells_selV, push_cast, ed, reduceCtorEq, ld]) | ((first | refine go rfl rfl ?_ | refine RdK.c (by first | assumption | (simp only [stR_eq, lookR, om, hm, e1, e2, cells_selV, push_cast, ed, reduceCtorEq, ld] <;> exact rfl)) (by assumption) (by assumption) ?_ | refine snap_two (by simp only [stR_eq, lookR, om, hm, e1, e2, cells_selV, push_cast, ed, reduceCtorEq, ld] <;> exact rfl) ?_ | (refine Fk.by_ ?_ ?_ <;> intro hc <;> try simp only [hc]) | refine storeK_eq rfl ?_ | with_reducible refine an ?_ ?_) <;> try simp only [stR_eq, lookR, om, hm, e1, e2, cells_selV, push_cast, ed, reduceCtorEq, ld]))
 ·refine WT_loop rfl (fun m e z => ∃ (acc : List Sel) (ts' : List Tok), m ≥ 0 ∧ ts'.length ≤ m ∧ WfT ts' ∧ acc.length + ts'.length ≤ 1 + x2.length ∧ rSelection ts = rMore acc m ts' ∧ e = [(3, .osl st.nx acc.length), (2, .nils), (0, .ptr rid 0)] ∧ z = ⟨st.nx + 1, updM st.mem rid [.sl (ts'.map tkV)], (st.nx, ⟨43, 4, acc.map selV, false, false⟩) :: st.arr, st.x⟩) (st.nx + 1) (Nat.le_refl _) (by rintro _ _ _ ⟨_, _, _, _, _, _, _, _, rfl⟩; rfl)
   ⟨_, _, _, ⟨[x1], x2, Nat.zero_le _, Nat.le_refl _, hW, by simp only [List.length_singleton]; omega, by simp [rSelection, rNext, hE], rfl, rfl⟩, (by repeat first | exact .nil | refine .cons (by first | rfl | (simp [V.bd, V.bdL]; try first | omega | assumption)) (by first | rfl | simp only [push_cast, ed, reduceCtorEq, ld]) ?_), .refl ((wfR hwf x2).newA (bdL_sel (l := [x1])))⟩ ?_
  rintro m e z ⟨acc, ts', _, hm1, hw1, hacc, hR, rfl, rfl⟩
  have hl1 := hw1.len
  obtain ⟨m, rfl⟩ : ∃ k, m = k + 1 := ⟨m - 1, by omega⟩
  have hsm := hW.small
  have hrm : roomV (acc.length + 1) 32 = true := by
   have h1 : acc.length + 1 ≤ maxLen := by unfold maxLen; omega
   have h2 : (acc.length + 1) * 32 ≤ 140737488355328 := by omega
   unfold roomV
   rw [decide_eq_true h1, decide_eq_true h2]; rfl
  have step1 : ∀ {b : Bool} {x : Sel} {t1 t2 : List Tok}, rSign [43] ts' = .ok (b, t1) → b = true → rTerm 0 t1 = .ok (x, t2) → rSelection ts = rMore (acc ++ [x]) m t2 ∧ t2.length + 1 ≤ ts'.length := fun h1 hb h2 => by
   subst hb
   refine ⟨by rw [hR]; simp only [rMore, rNext, h1, h2, if_true], ?_⟩
   have := rSign_len h1; have := Shr.term _ _ _ h2; omega
  have step2 : ∀ {b c : Bool} {x : Sel} {t0 t1 t2 : List Tok}, rSign [43] ts' = .ok (b, t0) → b = false → rSign [45] t0 = .ok (c, t1) → c = true → rTerm 1 t1 = .ok (x, t2) → rSelection ts = rMore (acc ++ [x]) m t2 ∧ t2.length + 1 ≤ ts'.length := fun h0 hb h1 hc h2 => by
   subst hb; subst hc
   refine ⟨by rw [hR]; simp only [rMore, rNext, h0, h1, h2, if_true, bf, if_false], ?_⟩
   have := rSign_len h1; have := Shr.term _ _ _ h2
   have := congrArg List.length (rSign_len2 h0); have := rSign_pos h1; omega
  (repeat' first | (with_reducible intro x1 x2 hE hW <;> (try (obtain ⟨rfl, rfl, hK⟩ := rNumber_inv hE)) <;> (try (obtain ⟨rfl, -⟩ := rMust_inv hE)) <;> (try (obtain ⟨u1, u2, rfl⟩ := rUnit_inv hE; dsimp only)) <;> try simp only [stR_eq, lookR, om, hm, e1, e2, cells_selV, app_sel, all_sel, snap_sel, part_sel, hrm, push_cast, ed, reduceCtorEq, ld]) | (with_reducible intro x1 x2 x3 hE <;> try simp only [stR_eq, lookR, om, hm, e1, e2, cells_selV, app_sel, all_sel, snap_sel, part_sel, hrm, push_cast, ed, reduceCtorEq, ld]) | (with_reducible intro hE2 <;> try simp only [stR_eq, lookR, om, hm, e1, e2, cells_selV, app_sel, all_sel, snap_sel, part_sel, hrm, push_cast, ed, reduceCtorEq, ld]) | ((first | refine go rfl rfl ?_ | refine RdK.c (by first | assumption | (simp only [stR_eq, lookR, om, hm, e1, e2, cells_selV, app_sel, all_sel, snap_sel, part_sel, hrm, push_cast, ed, reduceCtorEq, ld] <;> exact rfl)) (by assumption) (by assumption) ?_ | refine snap_two (by simp only [stR_eq, lookR, om, hm, e1, e2, cells_selV, app_sel, all_sel, snap_sel, part_sel, hrm, push_cast, ed, reduceCtorEq, ld] <;> exact rfl) ?_ | (refine Fk.by_ ?_ ?_ <;> intro hc <;> try simp only [hc]) | refine storeK_eq rfl ?_ | with_reducible refine an ?_ ?_) <;> try simp only [stR_eq, lookR, om, hm, e1, e2, cells_selV, app_sel, all_sel, snap_sel, part_sel, hrm, push_cast, ed, reduceCtorEq, ld]))
  ·obtain ⟨q1, q2⟩ := step1 (by assumption) (by assumption) (by assumption)
   exact ⟨_, _, _, Nat.lt_succ_self _, ⟨acc ++ [x1], x2, Nat.zero_le _, by omega, hW, by simp only [List.length_append, List.length_singleton]; omega, q1, rfl, rfl⟩, (by repeat first | exact .nil | refine .cons (by first | rfl | (simp [V.bd, V.bdL]; try first | omega | assumption)) (by first | rfl | simp only [push_cast, ed, reduceCtorEq, ld]) ?_), Weak.wf rfl (by simp) (by (repeat first | exact ((wfR hwf x2).newA (bdL_sel (l := acc ++ [x1]))).subm | exact ((wfR hwf x2).newA (bdL_sel (l := acc ++ [x1]))).suba | refine Sub.drop (by simp) ?_)) (by (repeat first | exact ((wfR hwf x2).newA (bdL_sel (l := acc ++ [x1]))).subm | exact ((wfR hwf x2).newA (bdL_sel (l := acc ++ [x1]))).suba | refine Sub.drop (by simp) ?_)) (by (repeat first | exact ((wfR hwf x2).newA (bdL_sel (l := acc ++ [x1]))).subx | refine ExSub.dropt (by simp) ?_ | refine ExSub.drop (by simp) ?_)) ((wfR hwf x2).newA (bdL_sel (l := acc ++ [x1])))⟩
  ·clear step1 step2
   (first | exact finRo hwf (by first | exact .inl rfl | exact .inr rfl) (by first | rfl | (simp only [F45, rMore, rNext, hR, push_cast, ed, reduceCtorEq, ld]; exact rfl)) (by first | exact .inl rfl | (right; simp only [push_cast, ed, reduceCtorEq, ld]; try rfl)) (by first | rfl | assumption | exact bd_cmd | (simp [V.bd, V.bdL]; done)) (by simp) (by (repeat first | exact (wfR hwf _).subm | exact subR hm hwf | refine Sub.drop (by simp) ?_)) (by simp [(hwf).z]) ((hwf).subx) (by first | assumption | (simp [F45, rMore, rNext, hR, *]; done) | (simp only [F45, rMore, rNext, hR, if_true, if_false, bf, *]; done) | fail) (by first | assumption | (simp [F45, rMore, rNext, hR, *]; done) | fail) | exact finRe hwf (by first | (simp [F45, rMore, rNext, hR, *]; done) | (simp only [F45, rMore, rNext, hR, if_true, if_false, bf, *]; done)) (by simp) (by (repeat first | exact (wfR hwf _).subm | exact subR hm hwf | refine Sub.drop (by simp) ?_)) (by simp [(hwf).z]) ((hwf).subx))
  ·obtain ⟨q1, q2⟩ := step2 (by assumption) (by assumption) (by assumption) (by assumption) (by assumption)
   exact ⟨_, _, _, Nat.lt_succ_self _, ⟨acc ++ [x1], x2, Nat.zero_le _, by omega, hW, by simp only [List.length_append, List.length_singleton]; omega, q1, rfl, rfl⟩, (by repeat first | exact .nil | refine .cons (by first | rfl | (simp [V.bd, V.bdL]; try first | omega | assumption)) (by first | rfl | simp only [push_cast, ed, reduceCtorEq, ld]) ?_), Weak.wf rfl (by simp) (by (repeat first | exact ((wfR hwf x2).newA (bdL_sel (l := acc ++ [x1]))).subm | exact ((wfR hwf x2).newA (bdL_sel (l := acc ++ [x1]))).suba | refine Sub.drop (by simp) ?_)) (by (repeat first | exact ((wfR hwf x2).newA (bdL_sel (l := acc ++ [x1]))).subm | exact ((wfR hwf x2).newA (bdL_sel (l := acc ++ [x1]))).suba | refine Sub.drop (by simp) ?_)) (by (repeat first | exact ((wfR hwf x2).newA (bdL_sel (l := acc ++ [x1]))).subx | refine ExSub.dropt (by simp) ?_ | refine ExSub.drop (by simp) ?_)) ((wfR hwf x2).newA (bdL_sel (l := acc ++ [x1])))⟩
  all_goals clear step1 step2
  all_goals have hbs : (selsV acc).bd st.nx = true := bdL_sel
  all_goals first | (first | exact finRo hwf (by first | exact .inl rfl | exact .inr rfl) (by first | rfl | (simp only [F45, rMore, rNext, rOk, hR, push_cast, ed, reduceCtorEq, ld]; exact rfl)) (by first | exact .inl rfl | (right; simp only [push_cast, ed, reduceCtorEq, ld]; try rfl)) (by first | rfl | assumption | exact bd_cmd | (simp [V.bd, V.bdL]; done)) (by simp) (by (repeat first | exact (wfR hwf _).subm | exact subR hm hwf | refine Sub.drop (by simp) ?_)) (by simp [(hwf).z]) ((hwf).subx) (by first | assumption | (simp [F45, rMore, rNext, rOk, hR, *]; done) | (simp only [F45, rMore, rNext, rOk, hR, if_true, if_false, bf, *]; done) | fail) (by first | assumption | (simp [F45, rMore, rNext, rOk, hR, *]; done) | fail) | exact finRe hwf (by first | (simp [F45, rMore, rNext, rOk, hR, *]; done) | (simp only [F45, rMore, rNext, rOk, hR, if_true, if_false, bf, *]; done)) (by simp) (by (repeat first | exact (wfR hwf _).subm | exact subR hm hwf | refine Sub.drop (by simp) ?_)) (by simp [(hwf).z]) ((hwf).subx)) | (first | exact finRo (a := acc) hwf (by first | exact .inl rfl | exact .inr rfl) (by first | rfl | (simp only [F45, rMore, rNext, rOk, hR, push_cast, ed, reduceCtorEq, ld]; exact rfl)) (by first | exact .inl rfl | (right; simp only [push_cast, ed, reduceCtorEq, ld]; try rfl)) (by first | rfl | assumption | exact bd_cmd | (simp [V.bd, V.bdL]; done)) (by simp) (by (repeat first | exact (wfR hwf _).subm | exact subR hm hwf | refine Sub.drop (by simp) ?_)) (by simp [(hwf).z]) ((hwf).subx) (by first | assumption | (simp [F45, rMore, rNext, rOk, hR, *]; done) | (simp only [F45, rMore, rNext, rOk, hR, if_true, if_false, bf, *]; done) | fail) (by first | assumption | (simp [F45, rMore, rNext, rOk, hR, *]; done) | fail) | exact finRe hwf (by first | (simp [F45, rMore, rNext, rOk, hR, *]; done) | (simp only [F45, rMore, rNext, rOk, hR, if_true, if_false, bf, *]; done)) (by simp) (by (repeat first | exact (wfR hwf _).subm | exact subR hm hwf | refine Sub.drop (by simp) ?_)) (by simp [(hwf).z]) ((hwf).subx))
 all_goals first | (first | exact finRo hwf (by first | exact .inl rfl | exact .inr rfl) (by first | rfl | (simp only [F45, rSelection, rNext, rOk, push_cast, ed, reduceCtorEq, ld]; exact rfl)) (by first | exact .inl rfl | (right; simp only [push_cast, ed, reduceCtorEq, ld]; try rfl)) (by first | rfl | assumption | exact bd_cmd | (simp [V.bd, V.bdL]; done)) (by simp) (by (repeat first | exact (wfR hwf _).subm | exact subR hm hwf | refine Sub.drop (by simp) ?_)) (by simp [(hwf).z]) ((hwf).subx) (by first | assumption | (simp [F45, rSelection, rNext, rOk, *]; done) | (simp only [F45, rSelection, rNext, rOk, if_true, if_false, bf, *]; done) | fail) (by first | assumption | (simp [F45, rSelection, rNext, rOk, *]; done) | fail) | exact finRe hwf (by first | (simp [F45, rSelection, rNext, rOk, *]; done) | (simp only [F45, rSelection, rNext, rOk, if_true, if_false, bf, *]; done)) (by simp) (by (repeat first | exact (wfR hwf _).subm | exact subR hm hwf | refine Sub.drop (by simp) ?_)) (by simp [(hwf).z]) ((hwf).subx))
instance : RdK 45 [] (RdP rSelection selsV) := (rselection_v).k
theorem bd_cmd {n : Nat} {c : Cmd} : (cmdV c).bd n = true := by
 have : (selO c.sel).bd n = true := by
  cases c.sel with
  | none => rfl
  | some l => exact bdL_sel
 simp [cmdV, cmdL, V.bd, V.bdL, this]
theorem updM_comm {i j : Nat} {a b : List V} (h : i ≠ j) : ∀ {l : List (Nat × List V)}, updM (updM l i a) j b = updM (updM l j b) i a
 | [] => rfl
 | (k, c) :: r => by
  simp only [updM_cons]
  by_cases h1 : k = i
  ·have h2 : ¬ k = j := fun e => h (h1.symm.trans e)
   simp only [h1, if_true, updM_cons]
   rw [if_neg (fun e => h e), if_neg (fun e => h e)]
   simp [updM_cons]
  ·by_cases h2 : k = j
   ·simp only [h1, h2, if_true, if_false, updM_cons]
    have h3 : ¬ j = i := fun e => h e.symm
    simp [updM_cons, h3]
   ·simp only [h1, h2, if_false, updM_cons]
    rw [updM_comm h]
def plSt (st : St) (rid cid : Nat) (ts : List Tok) (cs : List V) : St := (stR st rid ts).put cid cs
theorem plSt_eq {st : St} {rid cid : Nat} {ts : List Tok} {cs : List V} : plSt st rid cid ts cs = ⟨st.nx, updM (updM st.mem rid [.sl (ts.map tkV)]) cid cs, st.arr, st.x⟩ := @_root_.id (_ = _) rfl
theorem rplace_v (st : St) (rid cid : Nat) (ts : List Tok) (c0 c1 c2 c3 c4 c5 c6 c7 c8 c9 c10 c11 c12 c13 c14 c15 c16 c17 c18 : V) (hG : GlOk st.x.gl) (hw : WfT ts) (hm : Sha.look st.mem rid = some [.sl (ts.map tkV)])
  (hc : Sha.look st.mem cid = some [c0, c1, c2, c3, c4, c5, c6, c7, c8, c9, c10, c11, c12, c13, c14, c15, c16, c17, c18]) (hne : cid ≠ rid) :
  VCalls Tryz.prog 171 [.ptr rid 0, .ptr cid 0] st fun r s => match rPl ts with
   | .ok (nq, ts') => r = .ret (.tup []) ∧ s = plSt st rid cid ts' [c0, c1, c2, .str nq.2, .int .i64 nq.1, c5, c6, c7, c8, c9, c10, c11, c12, c13, c14, c15, c16, c17, c18] ∧ WfT ts'
   | .error (at', e) => r = .pan (failV at' e) ∧ ∃ ts' cs, s = plSt st rid cid ts' cs := by
 refine vc F171_ok rfl (fun hwf => ?_)
 have hcw := hwf.mem _ _ hc
 have n1 : (cid = rid) = False := eq_false hne
 have n2 : (rid = cid) = False := eq_false hne.symm
 (repeat' first | (with_reducible intro x1 x2 hE hW <;> (try (obtain ⟨rfl, rfl, hK⟩ := rNumber_inv hE)) <;> (try (obtain ⟨rfl, -⟩ := rMust_inv hE)) <;> (try (obtain ⟨u1, u2, rfl⟩ := rUnit_inv hE; dsimp only)) <;> try simp only [stR_eq, lookR, om, hm, hc, n1, n2, look_updM, om, push_cast, ed, reduceCtorEq, ld]) | (with_reducible intro x1 x2 x3 hE <;> try simp only [stR_eq, lookR, om, hm, hc, n1, n2, look_updM, om, push_cast, ed, reduceCtorEq, ld]) | (with_reducible intro hE2 <;> try simp only [stR_eq, lookR, om, hm, hc, n1, n2, look_updM, om, push_cast, ed, reduceCtorEq, ld]) | ((first | refine go rfl rfl ?_ | refine RdK.c (by first | assumption | (simp only [stR_eq, lookR, om, hm, hc, n1, n2, look_updM, om, push_cast, ed, reduceCtorEq, ld] <;> exact rfl)) (by assumption) (by assumption) ?_ | refine snap_two (by simp only [stR_eq, lookR, om, hm, hc, n1, n2, look_updM, om, push_cast, ed, reduceCtorEq, ld] <;> exact rfl) ?_ | (refine Fk.by_ ?_ ?_ <;> intro hc <;> try simp only [hc]) | refine storeK_eq rfl ?_ | with_reducible refine an ?_ ?_) <;> try simp only [stR_eq, lookR, om, hm, hc, n1, n2, look_updM, om, push_cast, ed, reduceCtorEq, ld]))
 all_goals try simp only [updM_comm hne, updM_updM]
 ·refine ⟨[], rfl, .tup [], _, .inl rfl, rfl, Weak.refl ((wfR hwf x2).put (id := cid) (cs := [c0, c1, c2, .str x1, .int .i64 _, c5, c6, c7, c8, c9, c10, c11, c12, c13, c14, c15, c16, c17, c18]) ?_), Nat.le_refl _, ?_⟩
  ·have := hcw.2
   simp only [V.bdL, Bool.and_eq_true] at this
   show V.bdL st.nx _ = true
   simp [V.bdL, V.bd, this]
  ·simp [rPl, rNext, rOk, plSt_eq, *]
 ·refine ⟨_, by rfl, Weak.refl ((wfR hwf hE).put (id := cid) (cs := [c0, c1, c2, c3, .int .i64 _, c5, c6, c7, c8, c9, c10, c11, c12, c13, c14, c15, c16, c17, c18]) ?_), Nat.le_refl _, ?_⟩
  ·have := hcw.2
   simp only [V.bdL, Bool.and_eq_true] at this
   show V.bdL st.nx _ = true
   simp [V.bdL, V.bd, this]
  ·simp only [rPl, rNext, rOk, *]
   exact ⟨trivial, hE, _, rfl⟩
 ·refine ⟨_, by rfl, Weak.refl ((wfR hwf hE).put (id := cid) (cs := [c0, c1, c2, c3, .int .i64 _, c5, c6, c7, c8, c9, c10, c11, c12, c13, c14, c15, c16, c17, c18]) ?_), Nat.le_refl _, ?_⟩
  ·have := hcw.2
   simp only [V.bdL, Bool.and_eq_true] at this
   show V.bdL st.nx _ = true
   simp [V.bdL, V.bd, this]
  ·simp only [rPl, rNext, rOk, *]
   exact ⟨trivial, hE, _, rfl⟩
 ·refine ⟨_, by rfl, Weak.refl (wfR hwf hE), Nat.le_refl _, ?_⟩
  simp only [rPl, rNext, rOk, *]
  have hcc : updM (updM st.mem rid [.sl (hE.map tkV)]) cid [c0, c1, c2, c3, c4, c5, c6, c7, c8, c9, c10, c11, c12, c13, c14, c15, c16, c17, c18] = updM st.mem rid [.sl (hE.map tkV)] := updM_self (by rw [look_updM, if_neg hne]; exact hc)
  exact ⟨trivial, hE, [c0, c1, c2, c3, c4, c5, c6, c7, c8, c9, c10, c11, c12, c13, c14, c15, c16, c17, c18], by rw [plSt_eq, hcc]⟩
theorem place_call {st : St} {rid cid : Nat} {ts : List Tok} {c0 c1 c2 c3 c4 c5 c6 c7 c8 c9 c10 c11 c12 c13 c14 c15 c16 c17 c18 : V} {K : VRes → St → Prop} (hG : GlOk st.x.gl) (hw : WfT ts) (hm : Sha.look st.mem rid = some [.sl (ts.map tkV)])
  (hc : Sha.look st.mem cid = some [c0, c1, c2, c3, c4, c5, c6, c7, c8, c9, c10, c11, c12, c13, c14, c15, c16, c17, c18]) (hne : cid ≠ rid)
  (hok : ∀ nq ts', rPl ts = .ok (nq, ts') → WfT ts' → K (.ret (.tup [])) (plSt st rid cid ts' [c0, c1, c2, .str nq.2, .int .i64 nq.1, c5, c6, c7, c8, c9, c10, c11, c12, c13, c14, c15, c16, c17, c18]))
  (herr : ∀ at' e ts' cs, rPl ts = .error (at', e) → K (.pan (failV at' e)) (plSt st rid cid ts' cs)) : VCalls Tryz.prog 171 [.ptr rid 0, .ptr cid 0] st K := by
 refine VCalls.mono (rplace_v st rid cid ts c0 c1 c2 c3 c4 c5 c6 c7 c8 c9 c10 c11 c12 c13 c14 c15 c16 c17 c18 hG hw hm hc hne) (fun r s hr => ?_)
 split at hr
 ·rename_i nq ts' he
  obtain ⟨rfl, rfl, hw'⟩ := hr
  exact hok nq ts' he hw'
 ·rename_i at' e he
  obtain ⟨rfl, ts', cs, rfl⟩ := hr
  exact herr at' e ts' cs he
theorem rUnit_inv {ts ts' : List Tok} {f : Fix} (h : rUnit ts = .ok (f, ts')) : ∃ a b, (⟨a, b, [], 0, 0, 0⟩ : Fix) = f := by
 unfold rUnit rNext at h
 split at h
 ·dsimp only at h
  split at h
  ·split at h
   ·cases h
   ·split at h
    ·cases h
    ·injection h with h; injection h with h _
     exact ⟨_, _, h⟩
  ·split at h
   ·cases h
   ·split at h
    ·cases h
    ·injection h with h; injection h with h _
     exact ⟨_, _, h⟩
 ·cases h
set_option maxHeartbeats 40000000 in
theorem rcmds : RdC 64 [] rSet cmdV ∧ (∀ w, RdC 114 [.str w] rClear cmdV) ∧ (∀ w, RdC 116 [.str w] rUpdate cmdV) ∧ (∀ w, RdC 115 [.str w] rRecord cmdV) ∧ (∀ w, RdC 117 [.str w] rRemove cmdV) ∧ (∀ w, RdC 118 [.str w] rPatch cmdV) ∧ (∀ w, RdC 121 [.str w] (rPlay w) cmdV) ∧ (∀ w, RdC 122 [.str w] (rFader w) cmdV) ∧ (∀ w, RdC 119 [.str w] (rBlackout w) cmdV) ∧ (∀ w, RdC 123 [.str w] (rEffect w) cmdV) ∧ (∀ w, RdC 124 [.str w] (rUndo w) cmdV) := by
 refine ⟨?_, fun w => ?_, fun w => ?_, fun w => ?_, fun w => ?_, fun w => ?_, fun w => ?_, fun w => ?_, fun w => ?_, fun w => ?_, fun w => ?_⟩
 all_goals (
  intro st rid ts hG hw hm
  first | refine vc F64_ok rfl (fun hwf => ?_) | refine vc F114_ok rfl (fun hwf => ?_) | refine vc F116_ok rfl (fun hwf => ?_) | refine vc F115_ok rfl (fun hwf => ?_) | refine vc F117_ok rfl (fun hwf => ?_) | refine vc F118_ok rfl (fun hwf => ?_) | refine vc F121_ok rfl (fun hwf => ?_) | refine vc F122_ok rfl (fun hwf => ?_) | refine vc F119_ok rfl (fun hwf => ?_) | refine vc F123_ok rfl (fun hwf => ?_) | refine vc F124_ok rfl (fun hwf => ?_)
  have hrid := (hwf.mem _ _ hm).1
  have e1 : (st.nx = rid) = False := eq_false (by omega)
  have e2 : (st.nx + 1 = rid) = False := eq_false (by omega)
  have e3 : (st.nx + 2 = rid) = False := eq_false (by omega)
  (repeat' first | (with_reducible intro x1 x2 hE hW <;> (try (obtain ⟨rfl, rfl, hK⟩ := rNumber_inv hE)) <;> (try (obtain ⟨rfl, -⟩ := rMust_inv hE)) <;> (try (obtain ⟨u1, u2, rfl⟩ := rUnit_inv hE; dsimp only)) <;> try simp only [stR_eq, lookR, om, hm, e1, e2, e3, selsV, plSt_eq, tkV, fixV, push_cast, ed, reduceCtorEq, ld]) | (with_reducible intro x1 x2 x3 hE <;> try simp only [stR_eq, lookR, om, hm, e1, e2, e3, selsV, plSt_eq, tkV, fixV, push_cast, ed, reduceCtorEq, ld]) | (with_reducible intro hE2 <;> try simp only [stR_eq, lookR, om, hm, e1, e2, e3, selsV, plSt_eq, tkV, fixV, push_cast, ed, reduceCtorEq, ld]) | ((first | refine go rfl rfl ?_ | refine place_call hG (by assumption) (by first | (simp only [lookR, hm, e1, e2, e3, if_false, Sha.look, updM]; done) | (simp only [lookR, hm, e1, e2, e3, if_false, Sha.look, updM]; exact rfl)) (by first | (simp only [lookR, hm, e1, e2, e3, if_false, if_true, Sha.look, updM]; done) | (simp only [lookR, hm, e1, e2, e3, if_false, if_true, Sha.look, updM]; exact rfl)) (by omega) ?_ ?_ | refine RdK.c (by first | assumption | (simp only [stR_eq, lookR, om, hm, e1, e2, e3, selsV, plSt_eq, tkV, fixV, push_cast, ed, reduceCtorEq, ld] <;> exact rfl)) (by assumption) (by assumption) ?_ | refine snap_two (by simp only [stR_eq, lookR, om, hm, e1, e2, e3, selsV, plSt_eq, tkV, fixV, push_cast, ed, reduceCtorEq, ld] <;> exact rfl) ?_ | (refine Fk.by_ ?_ ?_ <;> intro hc <;> try simp only [hc]) | refine storeK_eq rfl ?_ | with_reducible refine an ?_ ?_) <;> try simp only [stR_eq, lookR, om, hm, e1, e2, e3, selsV, plSt_eq, tkV, fixV, push_cast, ed, reduceCtorEq, ld]))
  all_goals first | (first | exact finRo (a := ⟨_, _, _, _, _, none, _, _, _, _, _, ⟨_, _, _, _, _, _⟩⟩) hwf (by first | exact .inl rfl | exact .inr rfl) (by first | rfl | (simp only [F64, F114, F116, F115, F117, F118, F121, F122, F119, F123, F124, rSet, rClear, rUpdate, rRecord, rRemove, rPatch, rPlay, rFader, rBlackout, rEffect, rUndo, rNext, rOk, cmd0, fix0, rPlace, push_cast, ed, reduceCtorEq, ld]; exact rfl)) (by first | exact .inl rfl | (right; simp only [push_cast, ed, reduceCtorEq, ld]; try rfl)) (by first | rfl | assumption | exact bd_cmd | (simp [V.bd, V.bdL]; done)) (by simp) (by (repeat first | exact (wfR hwf _).subm | exact subR hm hwf | refine Sub.drop (by simp) ?_)) (by simp [(hwf).z]) ((hwf).subx) (by first | assumption | (simp [F64, F114, F116, F115, F117, F118, F121, F122, F119, F123, F124, rSet, rClear, rUpdate, rRecord, rRemove, rPatch, rPlay, rFader, rBlackout, rEffect, rUndo, rNext, rOk, cmd0, fix0, rPlace, *]; done) | (simp only [F64, F114, F116, F115, F117, F118, F121, F122, F119, F123, F124, rSet, rClear, rUpdate, rRecord, rRemove, rPatch, rPlay, rFader, rBlackout, rEffect, rUndo, rNext, rOk, cmd0, fix0, rPlace, if_true, if_false, bf, *]; done) | fail) (by first | assumption | (simp [F64, F114, F116, F115, F117, F118, F121, F122, F119, F123, F124, rSet, rClear, rUpdate, rRecord, rRemove, rPatch, rPlay, rFader, rBlackout, rEffect, rUndo, rNext, rOk, cmd0, fix0, rPlace, *]; done) | fail) | exact finRe hwf (by first | (simp [F64, F114, F116, F115, F117, F118, F121, F122, F119, F123, F124, rSet, rClear, rUpdate, rRecord, rRemove, rPatch, rPlay, rFader, rBlackout, rEffect, rUndo, rNext, rOk, cmd0, fix0, rPlace, *]; done) | (simp only [F64, F114, F116, F115, F117, F118, F121, F122, F119, F123, F124, rSet, rClear, rUpdate, rRecord, rRemove, rPatch, rPlay, rFader, rBlackout, rEffect, rUndo, rNext, rOk, cmd0, fix0, rPlace, if_true, if_false, bf, *]; done)) (by simp) (by (repeat first | exact (wfR hwf _).subm | exact subR hm hwf | refine Sub.drop (by simp) ?_)) (by simp [(hwf).z]) ((hwf).subx)) | (first | exact finRo (a := ⟨_, _, _, _, _, some _, _, _, _, _, _, ⟨_, _, _, _, _, _⟩⟩) hwf (by first | exact .inl rfl | exact .inr rfl) (by first | rfl | (simp only [F64, F114, F116, F115, F117, F118, F121, F122, F119, F123, F124, rSet, rClear, rUpdate, rRecord, rRemove, rPatch, rPlay, rFader, rBlackout, rEffect, rUndo, rNext, rOk, cmd0, fix0, rPlace, push_cast, ed, reduceCtorEq, ld]; exact rfl)) (by first | exact .inl rfl | (right; simp only [push_cast, ed, reduceCtorEq, ld]; try rfl)) (by first | rfl | assumption | exact bd_cmd | (simp [V.bd, V.bdL]; done)) (by simp) (by (repeat first | exact (wfR hwf _).subm | exact subR hm hwf | refine Sub.drop (by simp) ?_)) (by simp [(hwf).z]) ((hwf).subx) (by first | assumption | (simp [F64, F114, F116, F115, F117, F118, F121, F122, F119, F123, F124, rSet, rClear, rUpdate, rRecord, rRemove, rPatch, rPlay, rFader, rBlackout, rEffect, rUndo, rNext, rOk, cmd0, fix0, rPlace, *]; done) | (simp only [F64, F114, F116, F115, F117, F118, F121, F122, F119, F123, F124, rSet, rClear, rUpdate, rRecord, rRemove, rPatch, rPlay, rFader, rBlackout, rEffect, rUndo, rNext, rOk, cmd0, fix0, rPlace, if_true, if_false, bf, *]; done) | fail) (by first | assumption | (simp [F64, F114, F116, F115, F117, F118, F121, F122, F119, F123, F124, rSet, rClear, rUpdate, rRecord, rRemove, rPatch, rPlay, rFader, rBlackout, rEffect, rUndo, rNext, rOk, cmd0, fix0, rPlace, *]; done) | fail) | exact finRe hwf (by first | (simp [F64, F114, F116, F115, F117, F118, F121, F122, F119, F123, F124, rSet, rClear, rUpdate, rRecord, rRemove, rPatch, rPlay, rFader, rBlackout, rEffect, rUndo, rNext, rOk, cmd0, fix0, rPlace, *]; done) | (simp only [F64, F114, F116, F115, F117, F118, F121, F122, F119, F123, F124, rSet, rClear, rUpdate, rRecord, rRemove, rPatch, rPlay, rFader, rBlackout, rEffect, rUndo, rNext, rOk, cmd0, fix0, rPlace, if_true, if_false, bf, *]; done)) (by simp) (by (repeat first | exact (wfR hwf _).subm | exact subR hm hwf | refine Sub.drop (by simp) ?_)) (by simp [(hwf).z]) ((hwf).subx)))
theorem rset_v : RdC 64 [] rSet cmdV := rcmds.1
theorem rclear_v (w : List UInt8) : RdC 114 [.str w] rClear cmdV := rcmds.2.1 w
theorem rupdate_v (w : List UInt8) : RdC 116 [.str w] rUpdate cmdV := rcmds.2.2.1 w
theorem rrecord_v (w : List UInt8) : RdC 115 [.str w] rRecord cmdV := rcmds.2.2.2.1 w
theorem rremove_v (w : List UInt8) : RdC 117 [.str w] rRemove cmdV := rcmds.2.2.2.2.1 w
theorem rpatch_v (w : List UInt8) : RdC 118 [.str w] rPatch cmdV := rcmds.2.2.2.2.2.1 w
theorem rplay_v (w : List UInt8) : RdC 121 [.str w] (rPlay w) cmdV := rcmds.2.2.2.2.2.2.1 w
theorem rfader_v (w : List UInt8) : RdC 122 [.str w] (rFader w) cmdV := rcmds.2.2.2.2.2.2.2.1 w
theorem rblackout_v (w : List UInt8) : RdC 119 [.str w] (rBlackout w) cmdV := rcmds.2.2.2.2.2.2.2.2.1 w
theorem reffect_v (w : List UInt8) : RdC 123 [.str w] (rEffect w) cmdV := rcmds.2.2.2.2.2.2.2.2.2.1 w
theorem rundo_v (w : List UInt8) : RdC 124 [.str w] (rUndo w) cmdV := rcmds.2.2.2.2.2.2.2.2.2.2 w
instance : RdK 64 [] (RdP rSet cmdV) := (rset_v).k
instance {w : List UInt8} : RdK 114 [.str w] (RdP rClear cmdV) := (rclear_v w).k
instance {w : List UInt8} : RdK 116 [.str w] (RdP rUpdate cmdV) := (rupdate_v w).k
instance {w : List UInt8} : RdK 115 [.str w] (RdP rRecord cmdV) := (rrecord_v w).k
instance {w : List UInt8} : RdK 117 [.str w] (RdP rRemove cmdV) := (rremove_v w).k
instance {w : List UInt8} : RdK 118 [.str w] (RdP rPatch cmdV) := (rpatch_v w).k
instance {w : List UInt8} : RdK 121 [.str w] (RdP (rPlay w) cmdV) := (rplay_v w).k
instance {w : List UInt8} : RdK 122 [.str w] (RdP (rFader w) cmdV) := (rfader_v w).k
instance {w : List UInt8} : RdK 119 [.str w] (RdP (rBlackout w) cmdV) := (rblackout_v w).k
instance {w : List UInt8} : RdK 123 [.str w] (RdP (rEffect w) cmdV) := (reffect_v w).k
instance {w : List UInt8} : RdK 124 [.str w] (RdP (rUndo w) cmdV) := (rundo_v w).k
def F12 : FT := ⟨113, 2, [.tmp 4],
 [.seq 1 2,
 .reg [.s 2 (.box 28 (.t 0)),
 .s 3 (.box 28 (.t 1)),
 .s 4 (.mv (.c (.bool false)))],
 .seq 3 10,
 .seq 4 5,
 .reg [.s 6 (.a 18 2),
 .s 7 (.l 6),
 .s 8 (.len (.t 7)),
 .s 9 (.a 18 3),
 .s 10 (.l 9),
 .s 11 (.len (.t 10)),
 .s 12 (.bin .neq (.t 8) (.t 11))],
 .cond (.t 12) 6 9,
 .seq 7 8,
 .reg [.s 4 (.mv (.c (.bool false)))],
 .ret,
 .skip,
 .seq 11 31,
 .seq 12 13,
 .reg [.s 5 (.mv (.i 0))],
 .block 0 14,
 .loop 15,
 .seq 16 21,
 .seq 17 18,
 .reg [.s 13 (.m 5),
 .s 14 (.a 18 2),
 .s 15 (.l 14),
 .s 16 (.len (.t 15)),
 .s 17 (.bin .lss (.t 13) (.t 16))],
 .cond (.t 17) 19 20,
 .skip,
 .exit 0,
 .seq 22 30,
 .block 1 23,
 .seq 24 25,
 .dreg 11 [.s 20 (.a 18 2),
 .s 21 (.l 20),
 .s 22 (.m 5),
 .s 23 (.iadr 6 (.t 21) (.t 22)),
 .s 24 (.load (some 6) (.t 23)),
 .s 25 (.a 18 3),
 .s 26 (.l 25),
 .s 27 (.m 5),
 .s 28 (.iadr 6 (.t 26) (.t 27)),
 .s 29 (.load (some 6) (.t 28)),
 .s 30 (.eqs true [.i, .i, .i, .i, .i, .i] (.t 24) (.t 29))],
 .cond (.t 30) 26 29,
 .seq 27 28,
 .reg [.s 4 (.mv (.c (.bool false)))],
 .ret,
 .skip,
 .reg [.s 18 (.m 5),
 .s 19 (.bin .add (.t 18) (.i 1)),
 .s 5 (.m 19)],
 .seq 32 33,
 .reg [.s 31 (.a 0 2),
 .s 32 (.l 31),
 .s 33 (.a 0 3),
 .s 34 (.l 33),
 .s 35 (.bin .eql (.t 32) (.t 34)),
 .s 36 (.m 35),
 .y 37 (.a 1 2) 36,
 .y 38 (.l 37) 36,
 .y 39 (.a 1 3) 36,
 .y 40 (.l 39) 36,
 .y 41 (.bin .eql (.t 38) (.t 40)) 36,
 .s 42 (.pick (.t 36) (.t 41) (.c (.bool false))),
 .s 43 (.m 42),
 .y 44 (.a 2 2) 43,
 .y 45 (.l 44) 43,
 .y 46 (.a 2 3) 43,
 .y 47 (.l 46) 43,
 .y 48 (.bin .eql (.t 45) (.t 47)) 43,
 .s 49 (.pick (.t 43) (.t 48) (.c (.bool false))),
 .s 50 (.m 49),
 .y 51 (.a 3 2) 50,
 .y 52 (.l 51) 50,
 .y 53 (.a 3 3) 50,
 .y 54 (.l 53) 50,
 .y 55 (.bin .eql (.t 52) (.t 54)) 50,
 .s 56 (.pick (.t 50) (.t 55) (.c (.bool false))),
 .s 57 (.m 56),
 .y 58 (.a 4 2) 57,
 .y 59 (.l 58) 57,
 .y 60 (.a 4 3) 57,
 .y 61 (.l 60) 57,
 .y 62 (.bin .eql (.t 59) (.t 61)) 57,
 .s 63 (.pick (.t 57) (.t 62) (.c (.bool false))),
 .s 64 (.m 63),
 .y 65 (.a 5 2) 64,
 .y 66 (.l 65) 64,
 .y 67 (.a 5 3) 64,
 .y 68 (.l 67) 64,
 .y 69 (.f 20 [(.t 66), (.t 68)]) 64,
 .s 70 (.pick (.t 64) (.t 69) (.c (.bool false))),
 .s 71 (.m 70),
 .y 72 (.a 6 2) 71,
 .y 73 (.l 72) 71,
 .y 74 (.a 6 3) 71,
 .y 75 (.l 74) 71,
 .y 76 (.bin .eql (.t 73) (.t 75)) 71,
 .s 77 (.pick (.t 71) (.t 76) (.c (.bool false))),
 .s 78 (.m 77),
 .y 79 (.a 7 2) 78,
 .y 80 (.l 79) 78,
 .y 81 (.a 7 3) 78,
 .y 82 (.l 81) 78,
 .y 83 (.bin .eql (.t 80) (.t 82)) 78,
 .s 84 (.pick (.t 78) (.t 83) (.c (.bool false))),
 .s 85 (.m 84),
 .y 86 (.a 8 2) 85,
 .y 87 (.l 86) 85,
 .y 88 (.a 8 3) 85,
 .y 89 (.l 88) 85,
 .y 90 (.bin .eql (.t 87) (.t 89)) 85,
 .s 91 (.pick (.t 85) (.t 90) (.c (.bool false))),
 .s 92 (.m 91),
 .y 93 (.a 9 2) 92,
 .y 94 (.l 93) 92,
 .y 95 (.a 9 3) 92,
 .y 96 (.l 95) 92,
 .y 97 (.bin .eql (.t 94) (.t 96)) 92,
 .s 98 (.pick (.t 92) (.t 97) (.c (.bool false))),
 .s 99 (.m 98),
 .y 100 (.a 10 2) 99,
 .y 101 (.l 100) 99,
 .y 102 (.a 10 3) 99,
 .y 103 (.l 102) 99,
 .y 104 (.bin .eql (.t 101) (.t 103)) 99,
 .s 105 (.pick (.t 99) (.t 104) (.c (.bool false))),
 .s 106 (.m 105),
 .y 107 (.a 11 2) 106,
 .y 108 (.load (some 7) (.t 107)) 106,
 .y 109 (.a 11 3) 106,
 .y 110 (.load (some 7) (.t 109)) 106,
 .y 111 (.eqs false [.i, .i, .s, .i, .i, .i, .s] (.t 108) (.t 110)) 106,
 .s 112 (.pick (.t 106) (.t 111) (.c (.bool false))),
 .s 4 (.m 112)],
 .ret]⟩
def F20 : FT := ⟨26, 2, [.tmp 4],
 [.seq 1 2,
 .reg [.s 4 (.mv (.c (.bool false)))],
 .seq 3 10,
 .seq 4 5,
 .reg [.s 6 (.m 0),
 .s 7 (.len (.t 6)),
 .s 8 (.m 1),
 .s 9 (.len (.t 8)),
 .s 10 (.bin .neq (.t 7) (.t 9))],
 .cond (.t 10) 6 9,
 .seq 7 8,
 .reg [.s 4 (.mv (.c (.bool false)))],
 .ret,
 .skip,
 .seq 11 31,
 .seq 12 13,
 .reg [.s 5 (.mv (.i 0))],
 .block 0 14,
 .loop 15,
 .seq 16 21,
 .seq 17 18,
 .reg [.s 11 (.m 5),
 .s 12 (.m 0),
 .s 13 (.len (.t 12)),
 .s 14 (.bin .lss (.t 11) (.t 13))],
 .cond (.t 14) 19 20,
 .skip,
 .exit 0,
 .seq 22 30,
 .block 1 23,
 .seq 24 25,
 .dreg 9 [.s 17 (.m 0),
 .s 18 (.m 5),
 .s 19 (.iadr 4 (.t 17) (.t 18)),
 .s 20 (.load (some 4) (.t 19)),
 .s 21 (.m 1),
 .s 22 (.m 5),
 .s 23 (.iadr 4 (.t 21) (.t 22)),
 .s 24 (.load (some 4) (.t 23)),
 .s 25 (.eqs true [.i, .i, .i, .i] (.t 20) (.t 24))],
 .cond (.t 25) 26 29,
 .seq 27 28,
 .reg [.s 4 (.mv (.c (.bool false)))],
 .ret,
 .skip,
 .reg [.s 15 (.m 5),
 .s 16 (.bin .add (.t 15) (.i 1)),
 .s 5 (.m 16)],
 .seq 32 33,
 .reg [.s 4 (.mv (.c (.bool true)))],
 .ret]⟩
theorem F12_ok : compFn Tryz.prog 12 = some F12 := by kernel_rfl
theorem F20_ok : compFn Tryz.prog 20 = some F20 := by kernel_rfl
theorem cells_selO {o : Option (List Sel)} : (selO o).cells = [selO o] := by cases o <;> rfl
theorem part_selO {st : St} {o : Option (List Sel)} : partOk st (selO o) = true := by cases o <;> rfl
theorem sameSl_b (x y : List Sel) (st : St) (hx : x.length ≤ maxLen) : VRet Tryz.prog 20 [selsV x, selsV y] st (.bool (decide (x = y))) st := by
 have hbx : V.bdL st.nx (x.map selV) = true := bdL_sel
 have hby : V.bdL st.nx (y.map selV) = true := bdL_sel
 refine vc F20_ok rfl (fun hwf => ?_)
 by_cases hl : x.length = y.length
 ·have h0 : ((x.length : Int) != (y.length : Int)) = false := by simp [hl]
  (repeat' first | ((first | refine go rfl rfl ?_ | (refine Fk.by_ ?_ ?_ <;> intro hc <;> try simp only [hc]) | refine storeK_eq rfl ?_ | with_reducible refine an ?_ ?_) <;> try simp only [h0, selsV, push_cast, ed, reduceCtorEq, ld]))
  refine WT_loop rfl (fun n e z => ∃ j : Nat, n = x.length - j ∧ j ≤ x.length ∧ x.take j = y.take j ∧ e = [(5, .int .i64 (j : Int)), (4, .bool false), (0, .sl (x.map selV)), (1, .sl (y.map selV))] ∧ z = st) st.nx (Nat.le_refl _) (by rintro _ _ _ ⟨j, _, _, _, _, rfl⟩; rfl)
   ⟨_, _, _, ⟨0, rfl, Nat.zero_le _, rfl, rfl, rfl⟩, (by repeat first | exact .nil | refine .cons (by first | rfl | (simp [V.bd, V.bdL]; try first | omega | assumption)) (by first | rfl | simp only [push_cast, ed, reduceCtorEq, ld]) ?_), .refl hwf⟩ ?_
  rintro n e z ⟨j, rfl, hj, he, rfl, rfl⟩
  rcases Nat.lt_or_ge j x.length with hlt | hge
  ·obtain ⟨a, ha⟩ : ∃ a, x[j]? = some a := ⟨_, List.getElem?_eq_getElem hlt⟩
   obtain ⟨b, hb⟩ : ∃ b, y[j]? = some b := ⟨_, List.getElem?_eq_getElem (hl ▸ hlt)⟩
   have h1 : decide ((j : Int) < (x.length : Int)) = true := decide_eq_true (by omega)
   have hmx : maxLen = 9223372036854775807 := rfl
   have hw : IntKind.i64.wrap ((j : Int) + 1) = (j : Int) + 1 := wrap64 (by omega) (by omega)
   have hly : j < y.length := by omega
   have h2 : (!(a.op == b.op && (a.g == b.g && (a.f == b.f && a.t == b.t)))) = !decide (a = b) := by
    obtain ⟨a1, a2, a3, a4⟩ := a
    obtain ⟨b1, b2, b3, b4⟩ := b
    rw [Bool.eq_iff_iff]; simp
   (repeat' first | ((first | refine go rfl rfl ?_ | (refine Fk.by_ ?_ ?_ <;> intro hc <;> try simp only [hc]) | refine storeK_eq rfl ?_ | with_reducible refine an ?_ ?_) <;> try simp only [h1, hw, ha, hb, cells_selV, h2, hlt, hly, push_cast, ed, reduceCtorEq, ld]))
   all_goals first
    | exact ⟨_, _, _, by omega, ⟨j + 1, rfl, by omega, (take_succ_eq ha hb he).2 (of_decide_eq_true hc), rfl, rfl⟩, (by repeat first | exact .nil | refine .cons (by first | rfl | (simp [V.bd, V.bdL]; try first | omega | assumption)) (by first | rfl | simp only [push_cast, ed, reduceCtorEq, ld]) ?_), .refl hwf⟩
    | (rw [decide_eq_false (fun e => of_decide_eq_false hc (by subst e; rw [ha] at hb; exact Option.some.inj hb))]; refine finC (hwf) (by simp only [F20, push_cast, ed, reduceCtorEq, ld]; exact rfl) (by first | exact .inl rfl | (right; simp only [F20, push_cast, ed, reduceCtorEq, ld]; try rfl)) (by first | rfl | assumption) (by simp [(hwf).z]))
  ·have h1 : decide ((j : Int) < (x.length : Int)) = false := decide_eq_false (by omega)
   have exy : x = y := by rwa [List.take_of_length_le (by omega), List.take_of_length_le (by omega)] at he
   (repeat' first | ((first | refine go rfl rfl ?_ | (refine Fk.by_ ?_ ?_ <;> intro hc <;> try simp only [hc]) | refine storeK_eq rfl ?_ | with_reducible refine an ?_ ?_) <;> try simp only [h1, push_cast, ed, reduceCtorEq, ld]))
   rw [decide_eq_true exy]
   refine finC (hwf) (by simp only [F20, push_cast, ed, reduceCtorEq, ld]; exact rfl) (by first | exact .inl rfl | (right; simp only [F20, push_cast, ed, reduceCtorEq, ld]; try rfl)) (by first | rfl | assumption) (by simp [(hwf).z])
 ·have h0 : ((x.length : Int) != (y.length : Int)) = true := by simp; omega
  (repeat' first | ((first | refine go rfl rfl ?_ | (refine Fk.by_ ?_ ?_ <;> intro hc <;> try simp only [hc]) | refine storeK_eq rfl ?_ | with_reducible refine an ?_ ?_) <;> try simp only [h0, selsV, push_cast, ed, reduceCtorEq, ld]))
  rw [decide_eq_false (fun e => hl (by rw [e]))]
  refine finC (hwf) (by simp only [F20, push_cast, ed, reduceCtorEq, ld]; exact rfl) (by first | exact .inl rfl | (right; simp only [F20, push_cast, ed, reduceCtorEq, ld]; try rfl)) (by first | rfl | assumption) (by simp [(hwf).z])
theorem callable20 : Callable Tryz.prog 20 := ⟨_, Tryz.func20, by kernel_rfl, by kernel_rfl⟩
theorem sl_len {w : World} {A : Abs} {v : Value} {xs : List V} (h : Rep w A v (.sl xs)) : xs.length ≤ maxLen := by
 cases h with
 | sl _ _ _ _ _ _ hes hcap hm hC hr => omega
 | slnil _ => exact Nat.zero_le _
theorem sameSl_v (x y : List Sel) (st : St) : VRet Tryz.prog 20 [selsV x, selsV y] st (.bool (decide (x = y))) st := by
 rcases Nat.lt_or_ge maxLen x.length with h | h
 ·refine .inl ⟨callable20, fun w A vs hs ha => ?_⟩
  exfalso
  obtain ⟨u, v, rfl, h1, h2⟩ := ha.two
  have := sl_len h1
  rw [List.length_map] at this
  omega
 ·exact sameSl_b x y st h
theorem sameNN_v (st : St) : VRet Tryz.prog 20 [.nils, .nils] st (.bool true) st := by
 refine vc F20_ok rfl (fun hwf => ?_)
 have z0 : ((0 : Int) != 0) = false := rfl
 ·(repeat' first | ((first | refine go rfl rfl ?_ | (refine Fk.by_ ?_ ?_ <;> intro hc <;> try simp only [hc]) | refine storeK_eq rfl ?_ | with_reducible refine an ?_ ?_) <;> try simp only [z0, push_cast, ed, reduceCtorEq, ld]))
  have z1 : decide ((0 : Int) < 0) = false := rfl
  refine WT_loop rfl (fun n e z => e = [(5, .int .i64 0), (4, .bool false), (0, .nils), (1, .nils)] ∧ z = st) st.nx (Nat.le_refl _) (by rintro _ _ _ ⟨_, rfl⟩; rfl)
   ⟨0, _, _, ⟨rfl, rfl⟩, (by repeat first | exact .nil | refine .cons (by first | rfl | (simp [V.bd, V.bdL]; try first | omega | assumption)) (by first | rfl | simp only [push_cast, ed, reduceCtorEq, ld]) ?_), .refl hwf⟩ ?_
  rintro n e z ⟨rfl, rfl⟩
  (repeat' first | ((first | refine go rfl rfl ?_ | (refine Fk.by_ ?_ ?_ <;> intro hc <;> try simp only [hc]) | refine storeK_eq rfl ?_ | with_reducible refine an ?_ ?_) <;> try simp only [z1, push_cast, ed, reduceCtorEq, ld]))
  all_goals exact finRet0 hwf rfl rfl rfl
theorem sameNS_v (y : List Sel) (st : St) : VRet Tryz.prog 20 [.nils, selsV y] st (.bool (decide ([] = y))) st := by
 have hby : V.bdL st.nx (y.map selV) = true := bdL_sel
 refine vc F20_ok rfl (fun hwf => ?_)
 rcases y with _ | ⟨b, y⟩
 ·have z0 : ((0 : Int) != 0) = false := rfl
  (repeat' first | ((first | refine go rfl rfl ?_ | (refine Fk.by_ ?_ ?_ <;> intro hc <;> try simp only [hc]) | refine storeK_eq rfl ?_ | with_reducible refine an ?_ ?_) <;> try simp only [z0, selsV, push_cast, ed, reduceCtorEq, ld]))
  have z1 : decide ((0 : Int) < 0) = false := rfl
  refine WT_loop rfl (fun n e z => e = [(5, .int .i64 0), (4, .bool false), (0, .nils), (1, .sl [])] ∧ z = st) st.nx (Nat.le_refl _) (by rintro _ _ _ ⟨_, rfl⟩; rfl)
   ⟨0, _, _, ⟨rfl, rfl⟩, (by repeat first | exact .nil | refine .cons (by first | rfl | (simp [V.bd, V.bdL]; try first | omega | assumption)) (by first | rfl | simp only [push_cast, ed, reduceCtorEq, ld]) ?_), .refl hwf⟩ ?_
  rintro n e z ⟨rfl, rfl⟩
  (repeat' first | ((first | refine go rfl rfl ?_ | (refine Fk.by_ ?_ ?_ <;> intro hc <;> try simp only [hc]) | refine storeK_eq rfl ?_ | with_reducible refine an ?_ ?_) <;> try simp only [z1, push_cast, ed, reduceCtorEq, ld]))
  all_goals exact finRet0 hwf rfl rfl rfl
 ·have z0 : ((0 : Int) != (y.length : Int) + 1) = true := by simp; omega
  (repeat' first | ((first | refine go rfl rfl ?_ | (refine Fk.by_ ?_ ?_ <;> intro hc <;> try simp only [hc]) | refine storeK_eq rfl ?_ | with_reducible refine an ?_ ?_) <;> try simp only [z0, selsV, push_cast, ed, reduceCtorEq, ld]))
  all_goals exact finRet0 hwf rfl rfl rfl
theorem sameSN_v (x : List Sel) (st : St) : VRet Tryz.prog 20 [selsV x, .nils] st (.bool (decide (x = []))) st := by
 have hbx : V.bdL st.nx (x.map selV) = true := bdL_sel
 refine vc F20_ok rfl (fun hwf => ?_)
 rcases x with _ | ⟨a, x⟩
 ·have z0 : ((0 : Int) != 0) = false := rfl
  (repeat' first | ((first | refine go rfl rfl ?_ | (refine Fk.by_ ?_ ?_ <;> intro hc <;> try simp only [hc]) | refine storeK_eq rfl ?_ | with_reducible refine an ?_ ?_) <;> try simp only [z0, selsV, push_cast, ed, reduceCtorEq, ld]))
  have z1 : decide ((0 : Int) < 0) = false := rfl
  refine WT_loop rfl (fun n e z => e = [(5, .int .i64 0), (4, .bool false), (0, .sl []), (1, .nils)] ∧ z = st) st.nx (Nat.le_refl _) (by rintro _ _ _ ⟨_, rfl⟩; rfl)
   ⟨0, _, _, ⟨rfl, rfl⟩, (by repeat first | exact .nil | refine .cons (by first | rfl | (simp [V.bd, V.bdL]; try first | omega | assumption)) (by first | rfl | simp only [push_cast, ed, reduceCtorEq, ld]) ?_), .refl hwf⟩ ?_
  rintro n e z ⟨rfl, rfl⟩
  (repeat' first | ((first | refine go rfl rfl ?_ | (refine Fk.by_ ?_ ?_ <;> intro hc <;> try simp only [hc]) | refine storeK_eq rfl ?_ | with_reducible refine an ?_ ?_) <;> try simp only [z1, push_cast, ed, reduceCtorEq, ld]))
  all_goals exact finRet0 hwf rfl rfl rfl
 ·have z0 : ((x.length : Int) + 1 != 0) = true := by simp; omega
  (repeat' first | ((first | refine go rfl rfl ?_ | (refine Fk.by_ ?_ ?_ <;> intro hc <;> try simp only [hc]) | refine storeK_eq rfl ?_ | with_reducible refine an ?_ ?_) <;> try simp only [z0, selsV, push_cast, ed, reduceCtorEq, ld]))
  all_goals exact finRet0 hwf rfl rfl rfl
theorem sameSel_v (a b : Option (List Sel)) (st : St) : VRet Tryz.prog 20 [selO a, selO b] st (.bool (decide (a.getD [] = b.getD []))) st := by
 rcases a with _ | x <;> rcases b with _ | y
 ·exact sameNN_v st
 ·exact sameNS_v y st
 ·exact sameSN_v x st
 ·exact sameSl_v x y st
def cmdW (c : Cmd) (m : V) : V := .agg [.int .i64 c.kind, .str c.verb, .str c.obj, .str c.num, .int .i64 c.list, selO c.sel, .int .i64 c.attr, .int .i64 c.lev, .int .i64 c.pal, .int .i64 c.time, .int .i64 c.fl, .int .i64 c.pl.ch, .int .i64 c.pl.pt, .str c.pl.pf, .int .i64 c.pl.un, .int .i64 c.pl.ad, .int .i64 c.pl.ph, .str [], m]
def sameC (a b : Cmd) : Bool := a.kind == b.kind && a.verb == b.verb && a.obj == b.obj && a.num == b.num && a.list == b.list && decide (a.sel.getD [] = b.sel.getD []) && a.attr == b.attr && a.lev == b.lev && a.pal == b.pal && a.time == b.time && a.fl == b.fl && decide (a.pl = b.pl)
theorem sameC_self (a : Cmd) : sameC a a = true := by simp [sameC]
theorem fix_eq {a b : Fix} : (a.ch == b.ch && (a.pt == b.pt && (a.pf == b.pf && (a.un == b.un && (a.ad == b.ad && (a.ph == b.ph && ([] : List UInt8) == [])))))) = decide (a = b) := by
 obtain ⟨a1, a2, a3, a4, a5, a6⟩ := a
 obtain ⟨b1, b2, b3, b4, b5, b6⟩ := b
 rw [Bool.eq_iff_iff]; simp
set_option maxHeartbeats 2000000 in
theorem qsame_v (a b : Cmd) {m m' : V} (hm : m = .nils ∨ m = .sl []) (hm' : m' = .nils ∨ m' = .sl []) (st : St) : VRet Tryz.prog 12 [cmdW a m, cmdW b m'] st (.bool (sameC a b)) st := by
 have hs := fun st' => sameSel_v a.sel b.sel st'
 have hbx : ∀ n, (selO a.sel).bd n = true := fun n => by cases a.sel with | none => rfl | some l => exact bdL_sel
 have hby : ∀ n, (selO b.sel).bd n = true := fun n => by cases b.sel with | none => rfl | some l => exact bdL_sel
 have hfx := fix_eq (a := a.pl) (b := b.pl)
 have z0 : ((0 : Int) != 0) = false := rfl
 have z1 : decide ((0 : Int) < 0) = false := rfl
 refine vc F12_ok rfl (fun hwf => ?_)
 have key : WT Tryz.prog F12.N F12.T 31 [(4, .bool false), (3, .ptr (st.nx + 1) 0), (2, .ptr st.nx 0)] ⟨st.nx + 2, (st.nx + 1, [.int .i64 b.kind, .str b.verb, .str b.obj, .str b.num, .int .i64 b.list, selO b.sel, .int .i64 b.attr, .int .i64 b.lev, .int .i64 b.pal, .int .i64 b.time, .int .i64 b.fl, .int .i64 b.pl.ch, .int .i64 b.pl.pt, .str b.pl.pf, .int .i64 b.pl.un, .int .i64 b.pl.ad, .int .i64 b.pl.ph, .str [], m']) :: (st.nx, [.int .i64 a.kind, .str a.verb, .str a.obj, .str a.num, .int .i64 a.list, selO a.sel, .int .i64 a.attr, .int .i64 a.lev, .int .i64 a.pal, .int .i64 a.time, .int .i64 a.fl, .int .i64 a.pl.ch, .int .i64 a.pl.pt, .str a.pl.pf, .int .i64 a.pl.un, .int .i64 a.pl.ad, .int .i64 a.pl.ph, .str [], m]) :: st.mem, st.arr, st.x⟩ (finQ F12.res st.nx fun x s => x = .ret (.bool (sameC a b)) ∧ s = st) := by
  (repeat' first | ((first | refine go rfl rfl ?_ | refine Cl.by_ (by (first | refine hs _)) ?_ | (refine Fk.by_ ?_ ?_ <;> intro hc <;> try simp only [hc]) | refine storeK_eq rfl ?_ | with_reducible refine an ?_ ?_) <;> try simp only [cells_selO, part_selO, hfx, push_cast, ed, reduceCtorEq, ld]))
  all_goals first | exact finB hwf (by simp only [F12, push_cast, ed, reduceCtorEq, ld]; exact rfl) (.inl (by simp [resOne, sameC, *])) rfl (by simp) (by simp) (by first | exact hwf.subm | (repeat first | exact hwf.subm | refine Sub.drop (by simp) ?_)) hwf.suba hwf.subx
 rcases hm with rfl | rfl <;> rcases hm' with rfl | rfl
 ·(repeat' first | ((first | refine go rfl rfl ?_ | (refine Fk.by_ ?_ ?_ <;> intro hc <;> try simp only [hc]) | refine storeK_eq rfl ?_ | with_reducible refine an ?_ ?_) <;> try simp only [cmdW, cells_selO, part_selO, z0, push_cast, ed, reduceCtorEq, ld]))
  refine WT_loop rfl (fun n e z => e = [(5, .int .i64 0), (4, .bool false), (3, .ptr (st.nx + 1) 0), (2, .ptr st.nx 0)] ∧ z = ⟨st.nx + 2, (st.nx + 1, [.int .i64 b.kind, .str b.verb, .str b.obj, .str b.num, .int .i64 b.list, selO b.sel, .int .i64 b.attr, .int .i64 b.lev, .int .i64 b.pal, .int .i64 b.time, .int .i64 b.fl, .int .i64 b.pl.ch, .int .i64 b.pl.pt, .str b.pl.pf, .int .i64 b.pl.un, .int .i64 b.pl.ad, .int .i64 b.pl.ph, .str [], .nils]) :: (st.nx, [.int .i64 a.kind, .str a.verb, .str a.obj, .str a.num, .int .i64 a.list, selO a.sel, .int .i64 a.attr, .int .i64 a.lev, .int .i64 a.pal, .int .i64 a.time, .int .i64 a.fl, .int .i64 a.pl.ch, .int .i64 a.pl.pt, .str a.pl.pf, .int .i64 a.pl.un, .int .i64 a.pl.ad, .int .i64 a.pl.ph, .str [], .nils]) :: st.mem, st.arr, st.x⟩) (st.nx + 2) (Nat.le_refl _) (by rintro _ _ _ ⟨_, rfl⟩; rfl)
   ⟨0, _, _, ⟨rfl, rfl⟩, (by repeat first | exact .nil | refine .cons (by first | rfl | (simp [V.bd, V.bdL]; try first | omega | assumption)) (by first | rfl | simp only [push_cast, ed, reduceCtorEq, ld]) ?_), .refl ((hwf.new (by simp [V.bdL, V.bd, hbx])).new (by simp [V.bdL, V.bd, hby]))⟩ ?_
  rintro n e z ⟨rfl, rfl⟩
  (repeat' first | exact WT_env (by repeat first | exact .nil | refine .cons (by first | rfl | simp only [push_cast, ed, reduceCtorEq, ld]) ?_) key | ((first | refine go rfl rfl ?_ | (refine Fk.by_ ?_ ?_ <;> intro hc <;> try simp only [hc]) | refine storeK_eq rfl ?_ | with_reducible refine an ?_ ?_) <;> try simp only [z1, push_cast, ed, reduceCtorEq, ld]))
 ·(repeat' first | ((first | refine go rfl rfl ?_ | (refine Fk.by_ ?_ ?_ <;> intro hc <;> try simp only [hc]) | refine storeK_eq rfl ?_ | with_reducible refine an ?_ ?_) <;> try simp only [cmdW, cells_selO, part_selO, z0, push_cast, ed, reduceCtorEq, ld]))
  refine WT_loop rfl (fun n e z => e = [(5, .int .i64 0), (4, .bool false), (3, .ptr (st.nx + 1) 0), (2, .ptr st.nx 0)] ∧ z = ⟨st.nx + 2, (st.nx + 1, [.int .i64 b.kind, .str b.verb, .str b.obj, .str b.num, .int .i64 b.list, selO b.sel, .int .i64 b.attr, .int .i64 b.lev, .int .i64 b.pal, .int .i64 b.time, .int .i64 b.fl, .int .i64 b.pl.ch, .int .i64 b.pl.pt, .str b.pl.pf, .int .i64 b.pl.un, .int .i64 b.pl.ad, .int .i64 b.pl.ph, .str [], .sl []]) :: (st.nx, [.int .i64 a.kind, .str a.verb, .str a.obj, .str a.num, .int .i64 a.list, selO a.sel, .int .i64 a.attr, .int .i64 a.lev, .int .i64 a.pal, .int .i64 a.time, .int .i64 a.fl, .int .i64 a.pl.ch, .int .i64 a.pl.pt, .str a.pl.pf, .int .i64 a.pl.un, .int .i64 a.pl.ad, .int .i64 a.pl.ph, .str [], .nils]) :: st.mem, st.arr, st.x⟩) (st.nx + 2) (Nat.le_refl _) (by rintro _ _ _ ⟨_, rfl⟩; rfl)
   ⟨0, _, _, ⟨rfl, rfl⟩, (by repeat first | exact .nil | refine .cons (by first | rfl | (simp [V.bd, V.bdL]; try first | omega | assumption)) (by first | rfl | simp only [push_cast, ed, reduceCtorEq, ld]) ?_), .refl ((hwf.new (by simp [V.bdL, V.bd, hbx])).new (by simp [V.bdL, V.bd, hby]))⟩ ?_
  rintro n e z ⟨rfl, rfl⟩
  (repeat' first | exact WT_env (by repeat first | exact .nil | refine .cons (by first | rfl | simp only [push_cast, ed, reduceCtorEq, ld]) ?_) key | ((first | refine go rfl rfl ?_ | (refine Fk.by_ ?_ ?_ <;> intro hc <;> try simp only [hc]) | refine storeK_eq rfl ?_ | with_reducible refine an ?_ ?_) <;> try simp only [z1, push_cast, ed, reduceCtorEq, ld]))
 ·(repeat' first | ((first | refine go rfl rfl ?_ | (refine Fk.by_ ?_ ?_ <;> intro hc <;> try simp only [hc]) | refine storeK_eq rfl ?_ | with_reducible refine an ?_ ?_) <;> try simp only [cmdW, cells_selO, part_selO, z0, push_cast, ed, reduceCtorEq, ld]))
  refine WT_loop rfl (fun n e z => e = [(5, .int .i64 0), (4, .bool false), (3, .ptr (st.nx + 1) 0), (2, .ptr st.nx 0)] ∧ z = ⟨st.nx + 2, (st.nx + 1, [.int .i64 b.kind, .str b.verb, .str b.obj, .str b.num, .int .i64 b.list, selO b.sel, .int .i64 b.attr, .int .i64 b.lev, .int .i64 b.pal, .int .i64 b.time, .int .i64 b.fl, .int .i64 b.pl.ch, .int .i64 b.pl.pt, .str b.pl.pf, .int .i64 b.pl.un, .int .i64 b.pl.ad, .int .i64 b.pl.ph, .str [], .nils]) :: (st.nx, [.int .i64 a.kind, .str a.verb, .str a.obj, .str a.num, .int .i64 a.list, selO a.sel, .int .i64 a.attr, .int .i64 a.lev, .int .i64 a.pal, .int .i64 a.time, .int .i64 a.fl, .int .i64 a.pl.ch, .int .i64 a.pl.pt, .str a.pl.pf, .int .i64 a.pl.un, .int .i64 a.pl.ad, .int .i64 a.pl.ph, .str [], .sl []]) :: st.mem, st.arr, st.x⟩) (st.nx + 2) (Nat.le_refl _) (by rintro _ _ _ ⟨_, rfl⟩; rfl)
   ⟨0, _, _, ⟨rfl, rfl⟩, (by repeat first | exact .nil | refine .cons (by first | rfl | (simp [V.bd, V.bdL]; try first | omega | assumption)) (by first | rfl | simp only [push_cast, ed, reduceCtorEq, ld]) ?_), .refl ((hwf.new (by simp [V.bdL, V.bd, hbx])).new (by simp [V.bdL, V.bd, hby]))⟩ ?_
  rintro n e z ⟨rfl, rfl⟩
  (repeat' first | exact WT_env (by repeat first | exact .nil | refine .cons (by first | rfl | simp only [push_cast, ed, reduceCtorEq, ld]) ?_) key | ((first | refine go rfl rfl ?_ | (refine Fk.by_ ?_ ?_ <;> intro hc <;> try simp only [hc]) | refine storeK_eq rfl ?_ | with_reducible refine an ?_ ?_) <;> try simp only [z1, push_cast, ed, reduceCtorEq, ld]))
 ·(repeat' first | ((first | refine go rfl rfl ?_ | (refine Fk.by_ ?_ ?_ <;> intro hc <;> try simp only [hc]) | refine storeK_eq rfl ?_ | with_reducible refine an ?_ ?_) <;> try simp only [cmdW, cells_selO, part_selO, z0, push_cast, ed, reduceCtorEq, ld]))
  refine WT_loop rfl (fun n e z => e = [(5, .int .i64 0), (4, .bool false), (3, .ptr (st.nx + 1) 0), (2, .ptr st.nx 0)] ∧ z = ⟨st.nx + 2, (st.nx + 1, [.int .i64 b.kind, .str b.verb, .str b.obj, .str b.num, .int .i64 b.list, selO b.sel, .int .i64 b.attr, .int .i64 b.lev, .int .i64 b.pal, .int .i64 b.time, .int .i64 b.fl, .int .i64 b.pl.ch, .int .i64 b.pl.pt, .str b.pl.pf, .int .i64 b.pl.un, .int .i64 b.pl.ad, .int .i64 b.pl.ph, .str [], .sl []]) :: (st.nx, [.int .i64 a.kind, .str a.verb, .str a.obj, .str a.num, .int .i64 a.list, selO a.sel, .int .i64 a.attr, .int .i64 a.lev, .int .i64 a.pal, .int .i64 a.time, .int .i64 a.fl, .int .i64 a.pl.ch, .int .i64 a.pl.pt, .str a.pl.pf, .int .i64 a.pl.un, .int .i64 a.pl.ad, .int .i64 a.pl.ph, .str [], .sl []]) :: st.mem, st.arr, st.x⟩) (st.nx + 2) (Nat.le_refl _) (by rintro _ _ _ ⟨_, rfl⟩; rfl)
   ⟨0, _, _, ⟨rfl, rfl⟩, (by repeat first | exact .nil | refine .cons (by first | rfl | (simp [V.bd, V.bdL]; try first | omega | assumption)) (by first | rfl | simp only [push_cast, ed, reduceCtorEq, ld]) ?_), .refl ((hwf.new (by simp [V.bdL, V.bd, hbx])).new (by simp [V.bdL, V.bd, hby]))⟩ ?_
  rintro n e z ⟨rfl, rfl⟩
  (repeat' first | exact WT_env (by repeat first | exact .nil | refine .cons (by first | rfl | simp only [push_cast, ed, reduceCtorEq, ld]) ?_) key | ((first | refine go rfl rfl ?_ | (refine Fk.by_ ?_ ?_ <;> intro hc <;> try simp only [hc]) | refine storeK_eq rfl ?_ | with_reducible refine an ?_ ?_) <;> try simp only [z1, push_cast, ed, reduceCtorEq, ld]))
abbrev Tb := List (List UInt8 × V)
def encT (T : Tb) : List (V × V) := T.map fun p => (V.str p.1, p.2)
def putL (T : Tb) (w : List UInt8) (f : V) : Tb := match luk w T 0 with
 | none => T ++ [(w, f)]
 | some (i, _) => T.set i (w, f)
def addT (T : Tb) (f : V) : List (List UInt8) → Tb
 | [] => T
 | w :: r => addT (putL T w f) f r
theorem addT_snoc {f : V} {w : List UInt8} : ∀ {l : List (List UInt8)} {T : Tb}, addT T f (l ++ [w]) = putL (addT T f l) w f
 | [], T => rfl
 | x :: r, T => by
  show addT (putL T x f) f (r ++ [w]) = _
  rw [addT_snoc]; rfl
theorem putM_enc {T : Tb} {w : List UInt8} {f : V} : putM (encT T) (.str w) f (luk w T 0) = encT (putL T w f) := by
 unfold putL
 cases luk w T 0 with
 | none => simp [putM, encT]
 | some p => simp [putM, encT, List.map_set]
def bdT (n : Nat) (T : Tb) : Prop := ∀ p ∈ T, p.2.bd n = true
theorem bdT_put {n : Nat} {T : Tb} {w : List UInt8} {f : V} (h : bdT n T) (hf : f.bd n = true) : bdT n (putL T w f) := fun p hp => by
 unfold putL at hp
 split at hp
 ·rcases List.mem_append.1 hp with hp | hp
  ·exact h p hp
  ·simp at hp; rw [hp]; exact hf
 ·rcases List.mem_or_eq_of_mem_set hp with hp | hp
  ·exact h p hp
  ·rw [hp]; exact hf
theorem bdT_add {n : Nat} {f : V} (hf : f.bd n = true) : ∀ {l : List (List UInt8)} {T : Tb}, bdT n T → bdT n (addT T f l)
 | [], _, h => h
 | w :: l, T, h => bdT_add (l := l) (T := putL T w f) hf (bdT_put h hf)
theorem bdT_ob {n : Nat} {T : Tb} (h : bdT n T) : (Ob.map (encT T)).bd n = true := by
 simp only [Ob.bd, encT, List.all_map, List.all_eq_true]
 intro p hp
 simp [V.bd, h p hp]
theorem ob_bdT {n : Nat} {T : Tb} (h : (Ob.map (encT T)).bd n = true) : bdT n T := fun p hp => by
 simp only [Ob.bd, encT, List.all_map, List.all_eq_true] at h
 have := h p hp
 simp only [Function.comp, Bool.and_eq_true] at this
 exact this.2
variable {nx mid oid : Nat} {mem : List (Nat × List V)} {arr : List (Nat × Arr)} {obj : List (Nat × Ob)} {gl : List (Nat × Obj)} {ty : List (Nat × TypeId)} {T T' : Tb}
theorem wf_ob (h : St.Wf ⟨nx, mem, arr, ⟨(mid, .map (encT T)) :: obj, gl, ty⟩⟩) (hb : bdT nx T') : St.Wf ⟨nx, mem, arr, ⟨(mid, .map (encT T')) :: obj, gl, ty⟩⟩ where
 x i o hi := by
  simp only [Sha.look] at hi
  split at hi
  ·rename_i e; subst e
   injection hi with hi
   subst hi
   have := h.x mid (.map (encT T)) (by simp [Sha.look])
   exact ⟨this.1, bdT_ob hb⟩
  ·rename_i hne
   exact h.x i o (by simp only [Sha.look]; rw [if_neg hne]; exact hi)
 t := h.t
 mem := h.mem
 arr := h.arr
 disj := h.disj
theorem same_v (k : Nat) (rid : Nat) (ws : List (List UInt8)) (ho : Sha.look mem oid = some [.mp mid]) (hf : rid < nx) (hl : ws.length < 1000) :
  VRet Tryz.prog 120 [.fn (.func k) [.ptr rid 0] [], .sl (ws.map .str), .ptr oid 0] ⟨nx, mem, arr, ⟨(mid, .map (encT T)) :: obj, gl, ty⟩⟩ (.tup []) ⟨nx, mem, arr, ⟨(mid, .map (encT (addT T (.fn (.func k) [.ptr rid 0] []) ws))) :: obj, gl, ty⟩⟩ := by
 refine vc F120_ok rfl (fun hwf => ?_)
 have hoid : oid < nx := (hwf.mem _ _ ho).1
 have hbT : bdT nx T := ob_bdT (hwf.x mid _ (by simp [Sha.look])).2
 have hbf : (V.fn (.func k) [.ptr rid 0] []).bd nx = true := by simp [V.bd, V.bdL, hf]
 have hbw : V.bdL nx (ws.map V.str) = true := bdL_map fun _ _ => rfl
 (repeat' first | ((first | refine go rfl rfl ?_ | (refine Fk.by_ ?_ ?_ <;> intro hc <;> try simp only [hc]) | refine storeK_eq rfl ?_ | with_reducible refine an ?_ ?_) <;> try simp only [push_cast, ed, reduceCtorEq, ld]))
 refine WT_loop rfl (fun n e z => ∃ j : Nat, n = ws.length - j ∧ j ≤ ws.length ∧ e = [(9, .int .i64 (j : Int)), (8, .int .i64 (ws.length : Int)), (7, .sl (ws.map .str)), (0, .fn (.func k) [.ptr rid 0] []), (1, .sl (ws.map .str)), (2, .ptr oid 0)] ∧ z = ⟨nx, mem, arr, ⟨(mid, .map (encT (addT T (.fn (.func k) [.ptr rid 0] []) (ws.take j)))) :: obj, gl, ty⟩⟩) nx (Nat.le_refl _) (by rintro _ _ _ ⟨j, _, _, _, rfl⟩; rfl)
  ⟨_, _, _, ⟨0, rfl, Nat.zero_le _, rfl, rfl⟩, (by repeat first | exact .nil | refine .cons (by first | rfl | (simp [V.bd, V.bdL]; try first | omega | assumption)) (by first | rfl | simp only [push_cast, ed, reduceCtorEq, ld]) ?_), .refl hwf⟩ ?_
 rintro n e z ⟨j, rfl, hj, rfl, rfl⟩
 rcases Nat.lt_or_ge j ws.length with hlt | hge
 ·obtain ⟨w, hx⟩ : ∃ w, ws[j]? = some w := ⟨_, List.getElem?_eq_getElem hlt⟩
  have h2 : decide ((j : Int) < (ws.length : Int)) = true := decide_eq_true (by omega)
  have hwr : IntKind.i64.wrap ((j : Int) + 1) = (j : Int) + 1 := wrap64 (by omega) (by omega)
  have hT : addT T (.fn (.func k) [.ptr rid 0] []) (ws.take (j + 1)) = putL (addT T (.fn (.func k) [.ptr rid 0] []) (ws.take j)) w (.fn (.func k) [.ptr rid 0] []) := by
   rw [List.take_add_one, hx]; exact addT_snoc
  have hfv : findV (.str w) (encT (addT T (.fn (.func k) [.ptr rid 0] []) (ws.take j))) 0 = some (luk w (addT T (.fn (.func k) [.ptr rid 0] []) (ws.take j)) 0) := findV_strs w _ 0
  (repeat' first | ((first | refine go rfl rfl ?_ | (refine Fk.by_ ?_ ?_ <;> intro hc <;> try simp only [hc]) | refine storeK_eq rfl ?_ | with_reducible refine an ?_ ?_) <;> try simp only [h2, hwr, hx, V.cells, ho, hfv, putM_enc, ← hT, push_cast, ed, reduceCtorEq, ld]))
  all_goals first | exact ⟨_, _, _, by omega, ⟨j + 1, rfl, by omega, rfl, rfl⟩, (by repeat first | exact .nil | refine .cons (by first | rfl | (simp [V.bd, V.bdL]; try first | omega | assumption)) (by first | rfl | simp only [push_cast, ed, reduceCtorEq, ld]) ?_), .refl (wf_ob hwf (bdT_add hbf hbT))⟩
 ·have h2 : decide ((j : Int) < (ws.length : Int)) = false := decide_eq_false (by omega)
  have ej : j = ws.length := by omega
  subst ej
  rw [List.take_length]
  have hwf2 := wf_ob hwf (bdT_add (l := ws) hbf hbT)
  (repeat' first | ((first | refine go rfl rfl ?_ | (refine Fk.by_ ?_ ?_ <;> intro hc <;> try simp only [hc]) | refine storeK_eq rfl ?_ | with_reducible refine an ?_ ?_) <;> try simp only [h2, push_cast, ed, reduceCtorEq, ld]))
  all_goals exact finRet0 hwf2 rfl rfl rfl
theorem same_call {k rid : Nat} {x : V} {ws : List (List UInt8)} {K : VRes → St → Prop} (hs : mapO (snapA ⟨nx, mem, arr, ⟨(mid, .map (encT T)) :: obj, gl, ty⟩⟩) [.fn (.func k) [.ptr rid 0] [], x, .ptr oid 0] = some [.fn (.func k) [.ptr rid 0] [], .sl (ws.map .str), .ptr oid 0]) (ho : Sha.look mem oid = some [.mp mid]) (hf : rid < nx) (hl : ws.length < 1000)
  (h : K (.ret (.tup [])) ⟨nx, mem, arr, ⟨(mid, .map (encT (addT T (.fn (.func k) [.ptr rid 0] []) ws))) :: obj, gl, ty⟩⟩) : VCalls Tryz.prog 120 [.fn (.func k) [.ptr rid 0] [], x, .ptr oid 0] ⟨nx, mem, arr, ⟨(mid, .map (encT T)) :: obj, gl, ty⟩⟩ K :=
 VCalls_snap (VCalls.mono (same_v k rid ws ho hf hl) (fun r s ⟨h1, h2⟩ => by subst h1; subst h2; exact h)) hs
abbrev vF (rid k : Nat) : V := .fn (.func k) [.ptr rid 0] []
def T0 (rid : Nat) : Tb := [([99, 108, 101, 97, 114], vF rid 114), ([114, 101, 99, 111, 114, 100], vF rid 115), ([117, 112, 100, 97, 116, 101], vF rid 116), ([100, 101, 108, 101, 116, 101], vF rid 117), ([112, 97, 116, 99, 104], vF rid 118), ([98, 108, 97, 99, 107, 111, 117, 116], vF rid 119)]
abbrev wsP : List (List UInt8) := [[103, 111], [98, 97, 99, 107], [112, 97, 117, 115, 101], [114, 101, 115, 117, 109, 101], [114, 101, 118, 101, 114, 115, 101], [103, 111, 116, 111], [114, 97, 116, 101], [114, 101, 108, 101, 97, 115, 101]]
abbrev wsF : List (List UInt8) := [[108, 105, 115, 116], [115, 117, 98], [109, 97, 115, 116, 101, 114]]
abbrev wsE : List (List UInt8) := [[101, 102, 102, 101, 99, 116], [115, 116, 111, 112]]
abbrev wsU : List (List UInt8) := [[117, 110, 100, 111], [114, 101, 100, 111]]
def Tv (rid : Nat) : Tb := addT (addT (addT (addT (T0 rid) (vF rid 121) wsP) (vF rid 122) wsF) (vF rid 123) wsE) (vF rid 124) wsU
theorem vF_bd {rid k n : Nat} (h : rid < n) : (vF rid k).bd n = true := by simp [V.bd, V.bdL, h]
theorem bdT_Tv {rid n : Nat} (h : rid < n) : bdT n (Tv rid) := by
 refine bdT_add (vF_bd h) (bdT_add (vF_bd h) (bdT_add (vF_bd h) (bdT_add (vF_bd h) ?_)))
 intro p hp
 simp only [T0, List.mem_cons, List.not_mem_nil, or_false] at hp
 rcases hp with rfl | rfl | rfl | rfl | rfl | rfl <;> exact vF_bd h
theorem wf_newob {st : St} (h : st.Wf) {T : Tb} (hb : bdT (st.nx + 1) T) : St.Wf ⟨st.nx + 1, st.mem, st.arr, ⟨(st.nx, .map (encT T)) :: st.x.obj, st.x.gl, st.x.ty⟩⟩ where
 x i o hi := by
  simp only [Sha.look] at hi
  split at hi
  ·rename_i e; subst e
   injection hi with hi
   subst hi
   exact ⟨Nat.lt_succ_self _, bdT_ob hb⟩
  ·exact h.x1 i o hi
 t i T hi := Nat.lt_succ_of_lt (h.t i T hi)
 mem i c hi := ⟨Nat.lt_succ_of_lt (h.mem i c hi).1, bdL_mono (Nat.le_succ _) (h.mem i c hi).2⟩
 arr i c hi := ⟨Nat.lt_succ_of_lt (h.arr i c hi).1, bdL_mono (Nat.le_succ _) (h.arr i c hi).2⟩
 disj := h.disj
set_option maxHeartbeats 2000000 in
theorem verbs_v (st : St) (rid : Nat) (hrid : rid < st.nx) : VRet Tryz.prog 65 [.ptr rid 0] st (.mp st.nx) ⟨st.nx + 1, st.mem, st.arr, ⟨(st.nx, .map (encT (Tv rid))) :: st.x.obj, st.x.gl, st.x.ty⟩⟩ := by
 refine vc F65_ok rfl (fun hwf => ?_)
 have f1 : findV (.str [114, 101, 99, 111, 114, 100]) [(.str [99, 108, 101, 97, 114], vF rid 114)] 0 = some none := by kernel_rfl
 have f2 : findV (.str [117, 112, 100, 97, 116, 101]) [(.str [99, 108, 101, 97, 114], vF rid 114), (.str [114, 101, 99, 111, 114, 100], vF rid 115)] 0 = some none := by kernel_rfl
 have f3 : findV (.str [100, 101, 108, 101, 116, 101]) [(.str [99, 108, 101, 97, 114], vF rid 114), (.str [114, 101, 99, 111, 114, 100], vF rid 115), (.str [117, 112, 100, 97, 116, 101], vF rid 116)] 0 = some none := by kernel_rfl
 have f4 : findV (.str [112, 97, 116, 99, 104]) [(.str [99, 108, 101, 97, 114], vF rid 114), (.str [114, 101, 99, 111, 114, 100], vF rid 115), (.str [117, 112, 100, 97, 116, 101], vF rid 116), (.str [100, 101, 108, 101, 116, 101], vF rid 117)] 0 = some none := by kernel_rfl
 have f5 : findV (.str [98, 108, 97, 99, 107, 111, 117, 116]) [(.str [99, 108, 101, 97, 114], vF rid 114), (.str [114, 101, 99, 111, 114, 100], vF rid 115), (.str [117, 112, 100, 97, 116, 101], vF rid 116), (.str [100, 101, 108, 101, 116, 101], vF rid 117), (.str [112, 97, 116, 99, 104], vF rid 118)] 0 = some none := by kernel_rfl
 have hW := wf_newob hwf (bdT_Tv (rid := rid) (n := st.nx + 1) (by omega))
 (repeat' first | ((first | refine go rfl rfl ?_ | (refine Fk.by_ ?_ ?_ <;> intro hc <;> try simp only [hc]) | refine storeK_eq rfl ?_ | with_reducible refine an ?_ ?_) <;> try simp only [f1, f2, f3, f4, f5, push_cast, ed, reduceCtorEq, ld]))
 refine same_call (T := T0 rid) (k := 121) (rid := rid) (ws := wsP) (by first | rfl | (simp only [push_cast, ed, reduceCtorEq, ld]; exact rfl)) (by first | (simp only [push_cast, ed, reduceCtorEq, ld]; done) | (simp only [push_cast, ed, reduceCtorEq, ld]; exact rfl)) (by omega) (by decide) ?_
 (repeat' first | ((first | refine go rfl rfl ?_ | (refine Fk.by_ ?_ ?_ <;> intro hc <;> try simp only [hc]) | refine storeK_eq rfl ?_ | with_reducible refine an ?_ ?_) <;> try simp only [push_cast, ed, reduceCtorEq, ld]))
 refine same_call (T := addT (T0 rid) (vF rid 121) wsP) (k := 122) (rid := rid) (ws := wsF) (by first | rfl | (simp only [push_cast, ed, reduceCtorEq, ld]; exact rfl)) (by first | (simp only [push_cast, ed, reduceCtorEq, ld]; done) | (simp only [push_cast, ed, reduceCtorEq, ld]; exact rfl)) (by omega) (by decide) ?_
 (repeat' first | ((first | refine go rfl rfl ?_ | (refine Fk.by_ ?_ ?_ <;> intro hc <;> try simp only [hc]) | refine storeK_eq rfl ?_ | with_reducible refine an ?_ ?_) <;> try simp only [push_cast, ed, reduceCtorEq, ld]))
 refine same_call (T := addT (addT (T0 rid) (vF rid 121) wsP) (vF rid 122) wsF) (k := 123) (rid := rid) (ws := wsE) (by first | rfl | (simp only [push_cast, ed, reduceCtorEq, ld]; exact rfl)) (by first | (simp only [push_cast, ed, reduceCtorEq, ld]; done) | (simp only [push_cast, ed, reduceCtorEq, ld]; exact rfl)) (by omega) (by decide) ?_
 (repeat' first | ((first | refine go rfl rfl ?_ | (refine Fk.by_ ?_ ?_ <;> intro hc <;> try simp only [hc]) | refine storeK_eq rfl ?_ | with_reducible refine an ?_ ?_) <;> try simp only [push_cast, ed, reduceCtorEq, ld]))
 refine same_call (T := addT (addT (addT (T0 rid) (vF rid 121) wsP) (vF rid 122) wsF) (vF rid 123) wsE) (k := 124) (rid := rid) (ws := wsU) (by first | rfl | (simp only [push_cast, ed, reduceCtorEq, ld]; exact rfl)) (by first | (simp only [push_cast, ed, reduceCtorEq, ld]; done) | (simp only [push_cast, ed, reduceCtorEq, ld]; exact rfl)) (by omega) (by decide) ?_
 (repeat' first | ((first | refine go rfl rfl ?_ | (refine Fk.by_ ?_ ?_ <;> intro hc <;> try simp only [hc]) | refine storeK_eq rfl ?_ | with_reducible refine an ?_ ?_) <;> try simp only [push_cast, ed, reduceCtorEq, ld]))
 exact ⟨_, rfl, .mp st.nx, _, .inl rfl, by simp [V.bd], Weak.wf rfl (by simp) (by refine Sub.drop (by simp) ?_; exact hW.subm) (by repeat first | exact hW.suba | refine Sub.drop (by simp) ?_) hW.subx hW, Nat.le_succ _, rfl, rfl⟩
abbrev verbK (rid : Nat) : V := .mpc ((encT (Tv rid)).map Prod.fst) ((encT (Tv rid)).map Prod.snd)
theorem verbsM_v (st : St) (rid : Nat) (hrid : rid < st.nx) : VRet Tryz.prog 65 [.ptr rid 0] st (verbK rid) st :=
 VRet_freeze (bdT_ob (bdT_Tv hrid)) (verbs_v st rid hrid)
theorem Tv_tab (rid : Nat) : Tv rid = tabV.map fun p => (p.1, vF rid p.2.1) := by kernel_rfl
theorem tab_ok : ∀ p ∈ tabV, ∀ w, RdC p.2.1 [.str w] (p.2.2 w) cmdV := by
 intro p hp w
 simp only [tabV, List.mem_cons, List.not_mem_nil, or_false] at hp
 rcases hp with rfl | rfl | rfl | rfl | rfl | rfl | rfl | rfl | rfl | rfl | rfl | rfl | rfl | rfl | rfl | rfl | rfl | rfl | rfl | rfl | rfl
 ·exact rclear_v w
 ·exact rrecord_v w
 ·exact rupdate_v w
 ·exact rremove_v w
 ·exact rpatch_v w
 ·exact rblackout_v w
 ·exact rplay_v w
 ·exact rplay_v w
 ·exact rplay_v w
 ·exact rplay_v w
 ·exact rplay_v w
 ·exact rplay_v w
 ·exact rplay_v w
 ·exact rplay_v w
 ·exact rfader_v w
 ·exact rfader_v w
 ·exact rfader_v w
 ·exact reffect_v w
 ·exact reffect_v w
 ·exact rundo_v w
 ·exact rundo_v w
theorem luk_tab {t : List UInt8} {rid : Nat} : ∀ {L : List (List UInt8 × Nat × (List UInt8 → Rd Cmd))} {i : Nat},
  (lukT t L = none → luk t (L.map fun p => (p.1, vF rid p.2.1)) i = none) ∧ ∀ q, lukT t L = some q → (∃ j, luk t (L.map fun p => (p.1, vF rid p.2.1)) i = some (j, vF rid q.1)) ∧ ∃ p ∈ L, p.2 = q
 | [], i => ⟨fun _ => rfl, fun q h => by cases h⟩
 | p :: r, i => by
  obtain ⟨h1, h2⟩ := luk_tab (t := t) (rid := rid) (L := r) (i := i + 1)
  simp only [lukT, List.map_cons, luk]
  by_cases h : t = p.1
  ·simp only [if_pos h]
   exact ⟨fun e => (by cases e), fun q e => by cases e; exact ⟨⟨i, rfl⟩, p, List.mem_cons_self, rfl⟩⟩
  ·simp only [if_neg h]
   exact ⟨h1, fun q e => ⟨(h2 q e).1, (h2 q e).2.elim fun p hp => ⟨p, List.mem_cons_of_mem _ hp.1, hp.2⟩⟩⟩
set_option maxHeartbeats 2000000 in
theorem rcommand_v : RdC 27 [] rCommand cmdV := by
 intro st rid ts hG hw hm
 refine vc F27_ok rfl (fun hwf => ?_)
 have hrid := (hwf.mem _ _ hm).1
 have e1 : (st.nx = rid) = False := eq_false (by omega)
 have e2 : (st.nx + 1 = rid) = False := eq_false (by omega)
 have e3 : (st.nx + 2 = rid) = False := eq_false (by omega)
 cases hc0 : ((hd ts).k != 0 || (hd ts).t == [103, 114, 111, 117, 112]) with
 | true =>
  have hR : rCommand ts = rSet ts := if_pos hc0
  (repeat' first | (with_reducible intro x1 x2 hE hW <;> (try (obtain ⟨rfl, rfl, hK⟩ := rNumber_inv hE)) <;> (try (obtain ⟨rfl, -⟩ := rMust_inv hE)) <;> (try (obtain ⟨u1, u2, rfl⟩ := rUnit_inv hE; dsimp only)) <;> try simp only [stR_eq, lookR, om, hm, e1, e2, e3, tkV, V.cells, cmdV, cmdL, push_cast, ed, reduceCtorEq, ld]) | (with_reducible intro x1 x2 x3 hE <;> try simp only [stR_eq, lookR, om, hm, e1, e2, e3, tkV, V.cells, cmdV, cmdL, push_cast, ed, reduceCtorEq, ld]) | (with_reducible intro hE2 <;> try simp only [stR_eq, lookR, om, hm, e1, e2, e3, tkV, V.cells, cmdV, cmdL, push_cast, ed, reduceCtorEq, ld]) | ((first | refine go rfl rfl ?_ | refine RdK.c (by first | assumption | (simp only [stR_eq, lookR, om, hm, e1, e2, e3, tkV, V.cells, cmdV, cmdL, push_cast, ed, reduceCtorEq, ld] <;> exact rfl)) (by assumption) (by assumption) ?_ | refine snap_two (by simp only [stR_eq, lookR, om, hm, e1, e2, e3, tkV, V.cells, cmdV, cmdL, push_cast, ed, reduceCtorEq, ld] <;> exact rfl) ?_ | (refine Fk.by_ ?_ ?_ <;> intro hc <;> try simp only [hc]) | refine storeK_eq rfl ?_ | with_reducible refine an ?_ ?_) <;> try simp only [stR_eq, lookR, om, hm, e1, e2, e3, tkV, V.cells, cmdV, cmdL, push_cast, ed, reduceCtorEq, ld]))
  all_goals first | (exfalso; simp_all; done) | (first | exact finRo (a := x1) hwf (by first | exact .inl rfl | exact .inr rfl) (by first | rfl | (simp only [F27, hR, push_cast, ed, reduceCtorEq, ld]; exact rfl)) (by first | exact .inl rfl | (right; simp only [push_cast, ed, reduceCtorEq, ld]; try rfl)) (by first | rfl | assumption | exact bd_cmd | (simp [V.bd, V.bdL]; done)) (by simp) (by (repeat first | exact (wfR hwf _).subm | exact subR hm hwf | refine Sub.drop (by simp) ?_)) (by simp [(hwf).z]) ((hwf).subx) (by first | assumption | (simp [F27, hR, *]; done) | (simp only [F27, hR, if_true, if_false, bf, *]; done) | fail) (by first | assumption | (simp [F27, hR, *]; done) | fail) | exact finRe hwf (by first | (simp [F27, hR, *]; done) | (simp only [F27, hR, if_true, if_false, bf, *]; done)) (by simp) (by (repeat first | exact (wfR hwf _).subm | exact subR hm hwf | refine Sub.drop (by simp) ?_)) (by simp [(hwf).z]) ((hwf).subx)) | (first | exact finRo hwf (by first | exact .inl rfl | exact .inr rfl) (by first | rfl | (simp only [F27, hR, push_cast, ed, reduceCtorEq, ld]; exact rfl)) (by first | exact .inl rfl | (right; simp only [push_cast, ed, reduceCtorEq, ld]; try rfl)) (by first | rfl | assumption | exact bd_cmd | (simp [V.bd, V.bdL]; done)) (by simp) (by (repeat first | exact (wfR hwf _).subm | exact subR hm hwf | refine Sub.drop (by simp) ?_)) (by simp [(hwf).z]) ((hwf).subx) (by first | assumption | (simp [F27, hR, *]; done) | (simp only [F27, hR, if_true, if_false, bf, *]; done) | fail) (by first | assumption | (simp [F27, hR, *]; done) | fail) | exact finRe hwf (by first | (simp [F27, hR, *]; done) | (simp only [F27, hR, if_true, if_false, bf, *]; done)) (by simp) (by (repeat first | exact (wfR hwf _).subm | exact subR hm hwf | refine Sub.drop (by simp) ?_)) (by simp [(hwf).z]) ((hwf).subx))
 | false =>
  obtain ⟨k1, k2⟩ := Bool.or_eq_false_iff.1 hc0
  obtain ⟨K, E, hvb, hmo, hEE⟩ : ∃ (K : V) (E : List (V × V)), (∀ st' : St, rid < st'.nx → VRet Tryz.prog 65 [.ptr rid 0] st' K st') ∧ (∀ st', mapOf st' K = some E) ∧ E = encT (Tv rid) := ⟨verbK rid, _, fun st' h => verbsM_v st' rid h, fun _ => mapOf_mpc, rfl⟩
  cases hL : lukT (hd ts).t tabV with
  | none =>
   have hR : rCommand ts = .error ((hd ts).a, 4) := by unfold rCommand; rw [if_neg (by rw [hc0]; decide), hL]
   have hf : findV (.str (hd ts).t) E 0 = some none := by
    rw [hEE, ← (luk_tab (rid := rid) (i := 0)).1 hL, ← Tv_tab]; exact findV_strs _ _ 0
   (repeat' first | (with_reducible intro x1 x2 hE hW <;> (try (obtain ⟨rfl, rfl, hK⟩ := rNumber_inv hE)) <;> (try (obtain ⟨rfl, -⟩ := rMust_inv hE)) <;> (try (obtain ⟨u1, u2, rfl⟩ := rUnit_inv hE; dsimp only)) <;> try simp only [stR_eq, lookR, om, hm, e1, e2, e3, tkV, V.cells, k1, k2, hf, hmo, push_cast, ed, reduceCtorEq, ld]) | (with_reducible intro x1 x2 x3 hE <;> try simp only [stR_eq, lookR, om, hm, e1, e2, e3, tkV, V.cells, k1, k2, hf, hmo, push_cast, ed, reduceCtorEq, ld]) | (with_reducible intro hE2 <;> try simp only [stR_eq, lookR, om, hm, e1, e2, e3, tkV, V.cells, k1, k2, hf, hmo, push_cast, ed, reduceCtorEq, ld]) | ((first | refine go rfl rfl ?_ | refine Cl.by_ (by (first | refine hvb _ (Nat.lt_of_lt_of_le hrid (Nat.le_add_right _ _)))) ?_ | refine RdK.c (by first | assumption | (simp only [stR_eq, lookR, om, hm, e1, e2, e3, tkV, V.cells, k1, k2, hf, hmo, push_cast, ed, reduceCtorEq, ld] <;> exact rfl)) (by assumption) (by assumption) ?_ | refine snap_two (by simp only [stR_eq, lookR, om, hm, e1, e2, e3, tkV, V.cells, k1, k2, hf, hmo, push_cast, ed, reduceCtorEq, ld] <;> exact rfl) ?_ | (refine Fk.by_ ?_ ?_ <;> intro hc <;> try simp only [hc]) | refine storeK_eq rfl ?_ | with_reducible refine an ?_ ?_) <;> try simp only [stR_eq, lookR, om, hm, e1, e2, e3, tkV, V.cells, k1, k2, hf, hmo, push_cast, ed, reduceCtorEq, ld]))
   all_goals first | (first | exact finRo hwf (by first | exact .inl rfl | exact .inr rfl) (by first | rfl | (simp only [F27, hR, push_cast, ed, reduceCtorEq, ld]; exact rfl)) (by first | exact .inl rfl | (right; simp only [push_cast, ed, reduceCtorEq, ld]; try rfl)) (by first | rfl | assumption | exact bd_cmd | (simp [V.bd, V.bdL]; done)) (by simp) (by (repeat first | exact (wfR hwf _).subm | exact subR hm hwf | refine Sub.drop (by simp) ?_)) (by simp [(hwf).z]) ((hwf).subx) (by first | assumption | (simp [F27, hR, *]; done) | (simp only [F27, hR, if_true, if_false, bf, *]; done) | fail) (by first | assumption | (simp [F27, hR, *]; done) | fail) | exact finRe hwf (by first | (simp [F27, hR, *]; done) | (simp only [F27, hR, if_true, if_false, bf, *]; done)) (by simp) (by (repeat first | exact (wfR hwf _).subm | exact subR hm hwf | refine Sub.drop (by simp) ?_)) (by simp [(hwf).z]) ((hwf).subx))
  | some q =>
   obtain ⟨⟨j, hj⟩, p, hp, hpq⟩ := (luk_tab (rid := rid) (i := 0)).2 q hL
   have hf : findV (.str (hd ts).t) E 0 = some (some (j, vF rid q.1)) := by
    rw [hEE, ← hj, ← Tv_tab]; exact findV_strs _ _ 0
   have hq : RdC q.1 [.str (hd ts).t] (q.2 (hd ts).t) cmdV := by rw [← hpq]; exact tab_ok p hp _
   have hR : rCommand ts = q.2 (hd ts).t ts.tail := by unfold rCommand; rw [if_neg (by rw [hc0]; decide), hL]
   have hwt := hw.tail (k0_ne k1)
   (repeat' first | (with_reducible intro x1 x2 hE hW <;> (try (obtain ⟨rfl, rfl, hK⟩ := rNumber_inv hE)) <;> (try (obtain ⟨rfl, -⟩ := rMust_inv hE)) <;> (try (obtain ⟨u1, u2, rfl⟩ := rUnit_inv hE; dsimp only)) <;> try simp only [stR_eq, lookR, om, hm, e1, e2, e3, tkV, V.cells, k1, k2, hf, hmo, cmdV, cmdL, push_cast, ed, reduceCtorEq, ld]) | (with_reducible intro x1 x2 x3 hE <;> try simp only [stR_eq, lookR, om, hm, e1, e2, e3, tkV, V.cells, k1, k2, hf, hmo, cmdV, cmdL, push_cast, ed, reduceCtorEq, ld]) | (with_reducible intro hE2 <;> try simp only [stR_eq, lookR, om, hm, e1, e2, e3, tkV, V.cells, k1, k2, hf, hmo, cmdV, cmdL, push_cast, ed, reduceCtorEq, ld]) | ((first | refine go rfl rfl ?_ | refine Cl.by_ (by (first | refine hvb _ (Nat.lt_of_lt_of_le hrid (Nat.le_add_right _ _)))) ?_ | refine rd_call (hq) (by first | rfl | (simp only [stR_eq, lookR, om, hm, e1, e2, e3, tkV, V.cells, k1, k2, hf, hmo, cmdV, cmdL, push_cast, ed, reduceCtorEq, ld]; exact rfl)) (by assumption) (by assumption) (by first | assumption | (simp only [stR_eq, lookR, om, hm, e1, e2, e3, tkV, V.cells, k1, k2, hf, hmo, cmdV, cmdL, push_cast, ed, reduceCtorEq, ld] <;> exact rfl)) ?_ ?_ | refine RdK.c (by first | assumption | (simp only [stR_eq, lookR, om, hm, e1, e2, e3, tkV, V.cells, k1, k2, hf, hmo, cmdV, cmdL, push_cast, ed, reduceCtorEq, ld] <;> exact rfl)) (by assumption) (by assumption) ?_ | refine snap_two (by simp only [stR_eq, lookR, om, hm, e1, e2, e3, tkV, V.cells, k1, k2, hf, hmo, cmdV, cmdL, push_cast, ed, reduceCtorEq, ld] <;> exact rfl) ?_ | (refine Fk.by_ ?_ ?_ <;> intro hc <;> try simp only [hc]) | refine storeK_eq rfl ?_ | with_reducible refine an ?_ ?_) <;> try simp only [stR_eq, lookR, om, hm, e1, e2, e3, tkV, V.cells, k1, k2, hf, hmo, cmdV, cmdL, push_cast, ed, reduceCtorEq, ld]))
   all_goals first | (first | exact finRo (a := x1) hwf (by first | exact .inl rfl | exact .inr rfl) (by first | rfl | (simp only [F27, hR, push_cast, ed, reduceCtorEq, ld]; exact rfl)) (by first | exact .inl rfl | (right; simp only [push_cast, ed, reduceCtorEq, ld]; try rfl)) (by first | rfl | assumption | exact bd_cmd | (simp [V.bd, V.bdL]; done)) (by simp) (by (repeat first | exact (wfR hwf _).subm | exact subR hm hwf | refine Sub.drop (by simp) ?_)) (by simp [(hwf).z]) ((hwf).subx) (by first | assumption | (simp [F27, hR, *]; done) | (simp only [F27, hR, if_true, if_false, bf, *]; done) | fail) (by first | assumption | (simp [F27, hR, *]; done) | fail) | exact finRe hwf (by first | (simp [F27, hR, *]; done) | (simp only [F27, hR, if_true, if_false, bf, *]; done)) (by simp) (by (repeat first | exact (wfR hwf _).subm | exact subR hm hwf | refine Sub.drop (by simp) ?_)) (by simp [(hwf).z]) ((hwf).subx)) | (first | exact finRo hwf (by first | exact .inl rfl | exact .inr rfl) (by first | rfl | (simp only [F27, hR, push_cast, ed, reduceCtorEq, ld]; exact rfl)) (by first | exact .inl rfl | (right; simp only [push_cast, ed, reduceCtorEq, ld]; try rfl)) (by first | rfl | assumption | exact bd_cmd | (simp [V.bd, V.bdL]; done)) (by simp) (by (repeat first | exact (wfR hwf _).subm | exact subR hm hwf | refine Sub.drop (by simp) ?_)) (by simp [(hwf).z]) ((hwf).subx) (by first | assumption | (simp [F27, hR, *]; done) | (simp only [F27, hR, if_true, if_false, bf, *]; done) | fail) (by first | assumption | (simp [F27, hR, *]; done) | fail) | exact finRe hwf (by first | (simp [F27, hR, *]; done) | (simp only [F27, hR, if_true, if_false, bf, *]; done)) (by simp) (by (repeat first | exact (wfR hwf _).subm | exact subR hm hwf | refine Sub.drop (by simp) ?_)) (by simp [(hwf).z]) ((hwf).subx))
instance : RdK 27 [] (RdP rCommand cmdV) := (rcommand_v).k
def cL : Code → Code
 | .seq a _ => a
 | c => c
def cR : Code → Code
 | .seq _ b => b
 | c => c
def bodyC (fn : Func) : Code := fn.body.getD .skip
def X26l : FT := ⟨35, 0, [],
 [.reg [⟨(some 4), .alloc 28 [(.int .i64 0), (.str []), (.str []), (.str []), (.int .i64 0), .nils, (.int .i64 0), (.int .i64 0), (.int .i64 0), (.int .i64 0), (.int .i64 0), (.int .i64 0), (.int .i64 0), (.str []), (.int .i64 0), (.int .i64 0), (.int .i64 0), (.str []), .nils], none⟩,
   ⟨(some 5), .alloc 3 [(.int .i64 0)], none⟩,
   ⟨(some 6), .alloc 29 [(.int .i64 0)], none⟩]]⟩
def X26rl : FT := ⟨35, 0, [],
 [.reg [⟨(some 11), .mv (.t 0), none⟩,
   ⟨(some 12), .call (.c (.fn (.func 60) [] [])) [(.t 11)], none⟩,
   ⟨(some 10), .mv (.t 12), none⟩,
   ⟨(some 13), .ext 0 (.t 10), none⟩,
   ⟨(some 14), .ext 1 (.t 10), none⟩,
   ⟨(some 15), .ext 2 (.t 10), none⟩,
   ⟨(some 7), .mv (.t 13), none⟩,
   ⟨none, .store 1 (.t 5) (.t 14), none⟩,
   ⟨(some 8), .mv (.t 15), none⟩]]⟩
def X26rrl : FT := ⟨35, 0, [],
  [.seq 1 2,
   .reg [⟨(some 16), .mv (.t 8), none⟩,
      ⟨(some 17), .bin .neq (.t 16) (.c (.int .i64 0)), none⟩],
   .cond (.t 17) 3 6,
   .seq 4 5,
   .greg [[], [], [], [true, true, false], [false, true, false, false], [false, false, false, false, false]] [⟨(some 18), .load (some 19) (.t 4), none⟩,
      ⟨(some 19), .load none (.t 5), none⟩,
      ⟨(some 20), .mv (.t 8), none⟩,
      ⟨none, .store 19 (.t 4) (.t 18), none⟩,
      ⟨none, .store 1 (.t 5) (.t 19), none⟩,
      ⟨none, .store 1 (.t 6) (.t 20), none⟩],
   .ret,
   .skip]⟩
def X26rrrr : FT := ⟨35, 0, [],
  [.seq 1 2,
   .reg [⟨(some 22), .mv (.t 7), none⟩,
      ⟨(some 23), .build [.nils] [(0, 1, (.t 22))], none⟩,
      ⟨(some 24), .box 109 (.t 23), none⟩,
      ⟨(some 9), .mv (.t 24), none⟩],
   .seq 3 4,
   .reg [⟨(some 25), .mv (.t 1), none⟩,
      ⟨(some 26), .mv (.t 9), none⟩,
      ⟨(some 27), .call (.t 25) [(.t 26)], none⟩,
      ⟨none, .store 19 (.t 4) (.t 27), none⟩],
   .seq 5 10,
   .seq 6 7,
   .reg [⟨(some 28), .mv (.t 9), none⟩,
      ⟨(some 29), .call (.c (.fn (.func 62) [] [])) [(.t 28)], none⟩,
      ⟨(some 30), .fld none 0 (.t 29), none⟩,
      ⟨(some 31), .bin .neq (.t 30) (.c (.int .i64 3)), none⟩],
   .cond (.t 31) 8 9,
   .reg [⟨(some 32), .mv (.t 9), none⟩,
      ⟨(some 33), .call (.c (.fn (.func 63) [] [])) [(.t 32), (.c (.int .i64 4))], none⟩],
   .skip,
   .seq 11 12,
   .reg [⟨(some 34), .load (some 19) (.t 4), none⟩,
      ⟨none, .store 19 (.t 4) (.t 34), none⟩,
      ⟨none, .store 1 (.t 5) (.c (.int .i64 0)), none⟩,
      ⟨none, .store 1 (.t 6) (.c (.int .i64 0)), none⟩],
   .ret]⟩
def X61r : FT := ⟨23, 0, [],
  [.seq 1 2,
   .reg [⟨(some 8), .mv (.t 3), none⟩,
      ⟨(some 9), .gen (.eqi true) [(.t 8)], none⟩],
   .cond (.t 9) 3 14,
   .seq 4 5,
   .reg [⟨(some 11), .mv (.t 3), none⟩,
      ⟨(some 12), .gen (.asrt 106 (.agg [(.int .i64 0), (.int .i64 0)])) [(.t 11)], none⟩,
      ⟨(some 10), .mv (.t 12), none⟩,
      ⟨(some 13), .ext 0 (.t 10), none⟩,
      ⟨(some 14), .ext 1 (.t 10), none⟩,
      ⟨(some 4), .alloc 106 [(.int .i64 0), (.int .i64 0)], none⟩,
      ⟨none, .store 2 (.t 4) (.t 13), none⟩,
      ⟨(some 5), .mv (.t 14), none⟩],
   .seq 6 11,
   .seq 7 8,
   .reg [⟨(some 15), .mv (.t 5), none⟩,
      ⟨(some 16), .un .not (.t 15), none⟩],
   .cond (.t 16) 9 10,
   .reg [⟨(some 17), .mv (.t 3), none⟩,
      ⟨none, .panic (.t 17), none⟩],
   .skip,
   .seq 12 13,
   .reg [⟨(some 6), .alloc 28 [(.int .i64 0), (.str []), (.str []), (.str []), (.int .i64 0), .nils, (.int .i64 0), (.int .i64 0), (.int .i64 0), (.int .i64 0), (.int .i64 0), (.int .i64 0), (.int .i64 0), (.str []), (.int .i64 0), (.int .i64 0), (.int .i64 0), (.str []), .nils], none⟩],
   .greg [[], [], [], [], [], [true, true, true, true, false], [false, true, true, false, false, false], [false, false, false, false, false, false, false]] [⟨(some 18), .load (some 19) (.t 6), none⟩,
      ⟨(some 19), .fadr 0 (.t 4), none⟩,
      ⟨(some 20), .load none (.t 19), none⟩,
      ⟨(some 21), .fadr 1 (.t 4), none⟩,
      ⟨(some 22), .load none (.t 21), none⟩,
      ⟨none, .store 19 (.t 0) (.t 18), none⟩,
      ⟨none, .store 1 (.t 1) (.t 20), none⟩,
      ⟨none, .store 1 (.t 2) (.t 22), none⟩],
   .skip]⟩
theorem X26l_ok : cpl Tryz.prog 35 (cL (bodyC Tryz.f26)) 0 = some X26l.T := by kernel_rfl
theorem X26rl_ok : cpl Tryz.prog 35 (cL (cR (bodyC Tryz.f26))) 0 = some X26rl.T := by kernel_rfl
theorem X26rrl_ok : cpl Tryz.prog 35 (cL (cR (cR (bodyC Tryz.f26)))) 0 = some X26rrl.T := by kernel_rfl
theorem X26rrrr_ok : cpl Tryz.prog 35 (cR (cR (cR (cR (bodyC Tryz.f26))))) 0 = some X26rrrr.T := by kernel_rfl
theorem X61r_ok : cpl Tryz.prog 23 (cR (bodyC Tryz.f61)) 0 = some X61r.T := by kernel_rfl
theorem W_tab {N : Fr} {c : Code} {T : List Nd} {env : Env} {st : St} {Q : Post} (hT : cpl Tryz.prog N.n c 0 = some T) (h : WT Tryz.prog N T 0 env st Q) : W Tryz.prog N c env st Q :=
 h mixed c ⟨T, hT, fun k nd hk => by simpa using hk⟩
theorem catch61_r0 (c₀ : Frame) (cs : List Frame) (v : Value) (w : World) (a : Act) (Q : Exit → Act → List Frame → World → Prop) (hu : c₀.mode = .panicking [{ v, recovered := false }]) (hn : a.tmps.size = 23)
  (hQ : Q .normal ((a.put (some 7) v).put (some 3) v) ({ c₀ with mode := .panicking [{ v, recovered := true }] } :: cs) w) : (cL (bodyC Tryz.f61)).wpS Tryz.prog Q a (c₀ :: cs) w := by
 show Code.wpS Tryz.prog (Code.region 0 _ false) Q a (c₀ :: cs) w
 apply wpS_region
 simp [wpOpsS, go_sem, recoverD, hu, Act.put, hn] at hQ ⊢
 exact hQ
theorem idle61_r0 (c₀ : Frame) (cs : List Frame) (w : World) (a : Act) (Q : Exit → Act → List Frame → World → Prop) (hu : c₀.mode = .returning) (hn : a.tmps.size = 23)
  (hQ : Q .normal ((a.put (some 7) .nilIface).put (some 3) .nilIface) (c₀ :: cs) w) : (cL (bodyC Tryz.f61)).wpS Tryz.prog Q a (c₀ :: cs) w := by
 show Code.wpS Tryz.prog (Code.region 0 _ false) Q a (c₀ :: cs) w
 apply wpS_region
 simp [wpOpsS, go_sem, recoverD, hu, Act.put, hn] at hQ ⊢
 exact hQ
theorem idle61 {caps : List V} (hn : caps.length ≤ 23) (s : St) : DIdle Tryz.prog 61 caps s := by
 refine idle_of (fn := Tryz.f61) (r0 := cL (bodyC Tryz.f61)) (rest := cR (bodyC Tryz.f61)) (tr := 7) (tm := 3) Tryz.func61 rfl rfl (by decide) (by decide) idle61_r0 hn (fun hwf => W_tab X61r_ok ?_)
 (repeat' first | ((first | refine go rfl rfl ?_ | (refine Fk.by_ ?_ ?_ <;> intro hc <;> try simp only [hc]) | refine storeK_eq rfl ?_ | with_reducible refine an ?_ ?_) <;> try simp only [push_cast, ed, reduceCtorEq, ld]))
 all_goals exact ⟨[], rfl, .tup [], s, .inl rfl, rfl, Weak.refl hwf, Nat.le_refl _, rfl, rfl⟩
theorem catch61 {s : St} {o p q : Nat} {at' e : Int} {c0 c1 c2 c3 c4 c5 c6 c7 c8 c9 c10 c11 c12 c13 c14 c15 c16 c17 c18 x y : V} (ho : Sha.look s.mem o = some [c0, c1, c2, c3, c4, c5, c6, c7, c8, c9, c10, c11, c12, c13, c14, c15, c16, c17, c18])
  (hp : Sha.look s.mem p = some [x]) (hq : Sha.look s.mem q = some [y]) (h1 : o ≠ p) (h2 : o ≠ q) (h3 : p ≠ q) :
  DCatch Tryz.prog 61 [.ptr o 0, .ptr p 0, .ptr q 0] (failV at' e) s ⟨s.nx, updM (updM (updM s.mem o (cmdL cmd0)) p [.int .i64 at']) q [.int .i64 e], s.arr, s.x⟩ := by
 refine catch_of (fn := Tryz.f61) (r0 := cL (bodyC Tryz.f61)) (rest := cR (bodyC Tryz.f61)) (tr := 7) (tm := 3) Tryz.func61 rfl rfl (by decide) (by decide) catch61_r0 (by exact (by decide : 3 ≤ 23)) (fun hwf => W_tab X61r_ok ?_)
 have b1 := (hwf.mem _ _ ho).1
 have b2 := (hwf.mem _ _ hp).1
 have b3 := (hwf.mem _ _ hq).1
 have f1 : (s.nx = o) = False := eq_false (by omega)
 have f2 : (s.nx = p) = False := eq_false (by omega)
 have f3 : (s.nx = q) = False := eq_false (by omega)
 have f4 : (s.nx + 1 = o) = False := eq_false (by omega)
 have f5 : (s.nx + 1 = p) = False := eq_false (by omega)
 have f6 : (s.nx + 1 = q) = False := eq_false (by omega)
 have g1 : (o = p) = False := eq_false h1
 have g2 : (o = q) = False := eq_false h2
 have g3 : (p = q) = False := eq_false h3
 have g4 : (p = o) = False := eq_false h1.symm
 have g5 : (q = o) = False := eq_false h2.symm
 have g6 : (q = p) = False := eq_false h3.symm
 (repeat' first | ((first | refine go rfl rfl ?_ | (refine Fk.by_ ?_ ?_ <;> intro hc <;> try simp only [hc]) | refine storeK_eq rfl ?_ | with_reducible refine an ?_ ?_) <;> try simp only [failV, ho, hp, hq, f1, f2, f3, f4, f5, f6, g1, g2, g3, g4, g5, g6, look_updM, om, push_cast, ed, reduceCtorEq, ld]))
 have hW : St.Wf ⟨s.nx, updM (updM (updM s.mem o (cmdL cmd0)) p [.int .i64 at']) q [.int .i64 e], s.arr, s.x⟩ := ((hwf.put (id := o) (cs := cmdL cmd0) rfl).put (id := p) (cs := [.int .i64 at']) rfl).put (id := q) (cs := [.int .i64 e]) rfl
 exact ⟨[], rfl, .tup [], _, .inl rfl, rfl, Weak.wf rfl (by simp) (by refine Sub.drop (by simp) (Sub.drop (by simp) ?_); exact hW.subm) hW.suba hW.subx hW, Nat.le_refl _, rfl, rfl⟩
theorem lexAt_txt {s : List UInt8} {a : Nat} {k : Int} {t : List UInt8} {e : Nat} (h : lexAt s a = some (k, t, e)) : t.length ≤ s.length := by
 have hs : ∀ n m, ((s.take n).drop m).length ≤ s.length := fun n m => by rw [List.length_drop, List.length_take]; omega
 unfold lexAt at h
 split at h
 ·cases h; simp
 ·split at h
  ·cases h; rw [List.length_map]; exact hs _ _
  ·split at h
   ·split at h
    ·cases h; exact hs _ _
    ·cases h
   ·split at h
    ·split at h
     ·cases h; exact hs _ _
     ·cases h; exact hs _ _
    ·split at h
     ·cases h; exact hs _ _
     ·cases h
theorem WfT_snoc : ∀ {acc : List Tok} {x : Tok}, (∀ y ∈ acc, y.k ≠ 3 ∧ y.t.length < 140737488355328) → x.k = 3 → x.t.length < 140737488355328 → acc.length < 500000 → WfT (acc ++ [x])
 | [], x, _, h2, h3, _ => ⟨⟨fun _ => rfl, fun _ => h2⟩, fun h => absurd rfl h, h3, by decide⟩
 | y :: acc, x, h1, h2, h3, h4 => by
  have hy := h1 y List.mem_cons_self
  simp only [List.length_cons] at h4
  refine ⟨⟨fun e => absurd e hy.1, fun e => by simp at e⟩, fun _ => WfT_snoc (fun z hz => h1 z (List.mem_cons_of_mem _ hz)) h2 h3 (by omega), hy.2, ?_⟩
  show (acc ++ [x]).length < 500000
  rw [List.length_append, List.length_singleton]; omega
theorem scanG_wf : ∀ (f : Nat) (s : List UInt8) (i : Nat) (acc : List Tok), s.length ≤ 4096 → acc.length ≤ 256 → (∀ y ∈ acc, y.k ≠ 3 ∧ y.t.length < 140737488355328) → (scanG f s i acc).2.2 = 0 → WfT (scanG f s i acc).1
 | 0, _, _, _, _, _, _, h => by simp [scanG] at h
 | f + 1, s, i, acc, hs, hl, ha, h => by
  rw [scanG] at h ⊢
  cases hx : lexAt s (runTo (isB 32) s i) with
  | none => rw [hx] at h; simp at h
  | some y =>
   obtain ⟨k, t, e⟩ := y
   have ht := lexAt_txt hx
   rw [hx] at h
   simp only at h ⊢
   by_cases hl2 : acc.length = 256
   ·rw [if_pos hl2] at h; simp at h
   ·rw [if_neg hl2] at h ⊢
    by_cases hk : k = 3
    ·rw [if_pos hk]
     exact WfT_snoc ha hk (by show t.length < _; omega) (by omega)
    ·rw [if_neg hk] at h ⊢
     refine scanG_wf f s e _ hs (by rw [List.length_append, List.length_singleton]; omega) (fun y hy => ?_) h
     rcases List.mem_append.1 hy with hy | hy
     ·exact ha y hy
     ·simp at hy; subst hy; exact ⟨hk, by show t.length < _; omega⟩
theorem scanR_wf {s : List UInt8} (h : (scanR s).2.2 = 0) : WfT (scanR s).1 := by
 unfold scanR at h ⊢
 split at h
 ·simp at h
 ·rename_i hl
  rw [if_neg hl]
  exact scanG_wf _ s 0 [] (by omega) (Nat.zero_le _) (fun y hy => by simp at hy) h
def pE {α : Type} : Except (Int × Int) (α × List Tok) → Except (Int × Int) α
 | .ok (a, ts) => if ((hd ts).k != 3) = true then .error ((hd ts).a, 4) else .ok a
 | .error e => .error e
def pR {α : Type} (m : Rd α) (s : List UInt8) : Except (Int × Int) α :=
 if ((scanR s).2.2 != 0) = true then .error (((scanR s).2.1 : Int), (scanR s).2.2) else pE (m (scanR s).1)
def resP {α : Type} (enc : α → V) (z : V) : Except (Int × Int) α → V
 | .ok a => .tup [enc a, .int .i64 0, .int .i64 0]
 | .error e => .tup [z, .int .i64 e.1, .int .i64 e.2]
theorem bd_resC {n : Nat} {x : Except (Int × Int) Cmd} : (resP cmdV (cmdV cmd0) x).bd n = true := by
 cases x <;> simp [resP, V.bd, V.bdL, bd_cmd]
set_option maxHeartbeats 2000000 in
theorem readC_v (s : List UInt8) (st : St) (hG : GlOk st.x.gl) : VRet Tryz.prog 26 [.str s, .fn (.func 27) [] []] st (resP cmdV (cmdV cmd0) (pR rCommand s)) st := by
 refine VCalls_defer (fn := Tryz.f26) (r0 := cL (bodyC Tryz.f26)) (r1 := cL (cR (bodyC Tryz.f26))) (cnd := cL (cR (cR (bodyC Tryz.f26)))) (dreg := cL (cR (cR (cR (bodyC Tryz.f26))))) (rest := cR (cR (cR (cR (bodyC Tryz.f26)))))
  (res := [.cell 4 (some 19), .cell 5 none, .cell 6 none]) (g := 61) (t := 21) (tcaps := [4, 5, 6]) Tryz.func26 rfl rfl (by kernel_rfl) (by decide) ?_ ?_ (by exact (by decide : 2 ≤ 35)) (fun hwf => ?_)
 ·intro a w Q hn hQ
  have hmf : ∀ (fn : Fn) (first cap : Array Value) (w : World), (Instr.makeFunc fn first cap).run Tryz.prog w = .ok (.func fn first cap) w := fun _ _ _ _ => rfl
  show Code.wp Tryz.prog (Code.region 4 _ false) Q a w
  apply wp_region
  have hn' : a.tmps.size = 35 := hn
  simp [wpOps, hmf, go_sem, Act.put, hn'] at hQ ⊢
  exact .inl (.inl hQ)
 ·intro cap w
  simp [go_sem]
 ·have e1 : ∀ k : Nat, (st.nx + k + 1 = st.nx) = False := fun k => eq_false (by omega)
  obtain ⟨l, a, e, hS⟩ : ∃ l a e, scanR s = (l, a, e) := ⟨_, _, _, rfl⟩
  have hWf : e = 0 → WfT l := fun he => by have := scanR_wf (s := s) (by rw [hS]; exact he); rwa [hS] at this
  have hP : pR rCommand s = if (e != 0) = true then .error ((a : Int), e) else pE (rCommand l) := by unfold pR; rw [hS]
  have hsc := scan_v s
  rw [hS] at hsc
  unfold scanV at hsc
  refine W_tab X26l_ok ?_
  (repeat' first | ((first | refine go rfl rfl ?_ | (refine Fk.by_ ?_ ?_ <;> intro hc <;> try simp only [hc]) | refine storeK_eq rfl ?_ | with_reducible refine an ?_ ?_) <;> try simp only [push_cast, ed, reduceCtorEq, ld]))
  refine W_tab X26rl_ok ?_
  (repeat' first | ((first | refine go rfl rfl ?_ | refine Cl.by_ (by (first | refine hsc _)) ?_ | (refine Fk.by_ ?_ ?_ <;> intro hc <;> try simp only [hc]) | refine storeK_eq rfl ?_ | with_reducible refine an ?_ ?_) <;> try simp only [push_cast, ed, reduceCtorEq, ld]))
  refine W_tab X26rrl_ok ?_
  (repeat' first | ((first | refine go rfl rfl ?_ | (refine Fk.by_ ?_ ?_ <;> intro hc <;> try simp only [hc]) | refine storeK_eq rfl ?_ | with_reducible refine an ?_ ?_) <;> try simp only [push_cast, ed, reduceCtorEq, ld]))
  ·rw [hP, if_pos hc]
   all_goals refine finC (hwf) (by simp only [resP, cmdV, cmdL, cmd0, fix0, selO, push_cast, ed, reduceCtorEq, ld]; exact rfl) (by first | exact .inl rfl | (right; simp only [resP, cmdV, cmdL, cmd0, fix0, selO, push_cast, ed, reduceCtorEq, ld]; try rfl)) (by first | rfl | assumption) (by simp [(hwf).z])
  ·rw [hP, if_neg (by rw [hc]; decide)]
   have hwl := hWf (by simpa using hc)
   refine ⟨[.ptr st.nx 0, .ptr (st.nx + 1) 0, .ptr (st.nx + 2) 0], by simp [DK.mapOL, Sha.look], fun D => W_tab X26rrrr_ok ?_⟩
   (repeat' first | (with_reducible intro x1 x2 hE hW <;> (try (obtain ⟨rfl, rfl, hK⟩ := rNumber_inv hE)) <;> (try (obtain ⟨rfl, -⟩ := rMust_inv hE)) <;> (try (obtain ⟨u1, u2, rfl⟩ := rUnit_inv hE; dsimp only)) <;> try simp only [stR_eq, lookR, om, tkV, cmdV, cmdL, push_cast, ed, reduceCtorEq, ld]) | (with_reducible intro x1 x2 x3 hE <;> try simp only [stR_eq, lookR, om, tkV, cmdV, cmdL, push_cast, ed, reduceCtorEq, ld]) | (with_reducible intro hE2 <;> try simp only [stR_eq, lookR, om, tkV, cmdV, cmdL, push_cast, ed, reduceCtorEq, ld]) | ((first | refine go rfl rfl ?_ | refine RdK.c (by first | assumption | (simp only [stR_eq, lookR, om, tkV, cmdV, cmdL, push_cast, ed, reduceCtorEq, ld] <;> exact rfl)) (by assumption) (by assumption) ?_ | refine snap_two (by simp only [stR_eq, lookR, om, tkV, cmdV, cmdL, push_cast, ed, reduceCtorEq, ld] <;> exact rfl) ?_ | (refine Fk.by_ ?_ ?_ <;> intro hc <;> try simp only [hc]) | refine storeK_eq rfl ?_ | with_reducible refine an ?_ ?_) <;> try simp only [stR_eq, lookR, om, tkV, cmdV, cmdL, push_cast, ed, reduceCtorEq, ld]))
   ·have hpe : pE (rCommand l) = .error ((hd x2).a, 4) := by simp [pE, hE, hc]
    rw [hpe]
    refine ⟨_, catch61 (o := st.nx) (p := st.nx + 1) (q := st.nx + 2) (by first | (simp only [push_cast, ed, reduceCtorEq, ld]; done) | (simp only [push_cast, ed, reduceCtorEq, ld]; exact rfl)) (by first | (simp only [push_cast, ed, reduceCtorEq, ld]; done) | (simp only [push_cast, ed, reduceCtorEq, ld]; exact rfl)) (by first | (simp only [push_cast, ed, reduceCtorEq, ld]; done) | (simp only [push_cast, ed, reduceCtorEq, ld]; exact rfl)) (by omega) (by omega) (by omega), ?_⟩
    simp only [push_cast, ed, reduceCtorEq, ld]
    exact ⟨_, (by first | rfl | (simp only [push_cast, ed, reduceCtorEq, ld]; exact rfl)), resP cmdV (cmdV cmd0) (.error ((hd x2).a, 4)), st, .inl rfl, bd_resC, Weak.wf rfl (by simp) (by repeat first | exact hwf.subm | refine Sub.drop (by simp) ?_) hwf.suba hwf.subx hwf, Nat.le_refl _, rfl, rfl⟩
   ·have hpe : pE (rCommand l) = .ok x1 := by simp [pE, hE, hc]
    rw [hpe]
    refine ⟨idle61 (by exact (by decide : 3 ≤ 23)) _, ?_⟩
    exact ⟨_, (by first | rfl | (simp only [push_cast, ed, reduceCtorEq, ld]; exact rfl)), resP cmdV (cmdV cmd0) (.ok x1), st, .inl rfl, bd_resC, Weak.wf rfl (by simp) (by repeat first | exact hwf.subm | refine Sub.drop (by simp) ?_) hwf.suba hwf.subx hwf, Nat.le_refl _, rfl, rfl⟩
   ·have hpe : pE (rCommand l) = .error (x1, x2) := by simp [pE, *]
    rw [hpe]
    refine ⟨_, catch61 (o := st.nx) (p := st.nx + 1) (q := st.nx + 2) (by first | (simp only [push_cast, ed, reduceCtorEq, ld]; done) | (simp only [push_cast, ed, reduceCtorEq, ld]; exact rfl)) (by first | (simp only [push_cast, ed, reduceCtorEq, ld]; done) | (simp only [push_cast, ed, reduceCtorEq, ld]; exact rfl)) (by first | (simp only [push_cast, ed, reduceCtorEq, ld]; done) | (simp only [push_cast, ed, reduceCtorEq, ld]; exact rfl)) (by omega) (by omega) (by omega), ?_⟩
    simp only [push_cast, ed, reduceCtorEq, ld]
    exact ⟨_, (by first | rfl | (simp only [push_cast, ed, reduceCtorEq, ld]; exact rfl)), resP cmdV (cmdV cmd0) (.error (x1, x2)), st, .inl rfl, bd_resC, Weak.wf rfl (by simp) (by repeat first | exact hwf.subm | refine Sub.drop (by simp) ?_) hwf.suba hwf.subx hwf, Nat.le_refl _, rfl, rfl⟩
def F10 : FT := ⟨10, 1, [.cell 2 (some 19), .tmp 3, .tmp 4],
 [.seq 1 2,
 .reg [.s 2 (.alloc 28 Z0),
 .s 3 (.mv (.i 0)),
 .s 4 (.mv (.i 0))],
 .seq 3 4,
 .reg [.s 5 (.m 0),
 .s 6 (.f 26 [(.t 5), (.c (.fn (.func 27) [] []))]),
 .s 7 (.ext 0 (.t 6)),
 .s 8 (.ext 1 (.t 6)),
 .s 9 (.ext 2 (.t 6)),
 .n (.store 19 (.t 2) (.t 7)),
 .s 3 (.m 8),
 .s 4 (.m 9)],
 .ret]⟩
def F18 : FT := ⟨10, 1, [.tmp 2, .tmp 3, .tmp 4],
 [.seq 1 2,
 .reg [.s 2 (.mv (.c .nils)),
 .s 3 (.mv (.i 0)),
 .s 4 (.mv (.i 0))],
 .seq 3 4,
 .reg [.s 5 (.m 0),
 .s 6 (.f 44 [(.t 5), (.c (.fn (.func 45) [] []))]),
 .s 7 (.ext 0 (.t 6)),
 .s 8 (.ext 1 (.t 6)),
 .s 9 (.ext 2 (.t 6)),
 .s 2 (.m 7),
 .s 3 (.m 8),
 .s 4 (.m 9)],
 .ret]⟩
theorem F10_ok : compFn Tryz.prog 10 = some F10 := by kernel_rfl
theorem F18_ok : compFn Tryz.prog 18 = some F18 := by kernel_rfl
def X44l : FT := ⟨35, 0, [],
 [.reg [⟨(some 4), .alloc 23 [.nils], none⟩,
   ⟨(some 5), .alloc 3 [(.int .i64 0)], none⟩,
   ⟨(some 6), .alloc 29 [(.int .i64 0)], none⟩]]⟩
def X44rl : FT := ⟨35, 0, [],
 [.reg [⟨(some 11), .mv (.t 0), none⟩,
   ⟨(some 12), .call (.c (.fn (.func 60) [] [])) [(.t 11)], none⟩,
   ⟨(some 10), .mv (.t 12), none⟩,
   ⟨(some 13), .ext 0 (.t 10), none⟩,
   ⟨(some 14), .ext 1 (.t 10), none⟩,
   ⟨(some 15), .ext 2 (.t 10), none⟩,
   ⟨(some 7), .mv (.t 13), none⟩,
   ⟨none, .store 1 (.t 5) (.t 14), none⟩,
   ⟨(some 8), .mv (.t 15), none⟩]]⟩
def X44rrl : FT := ⟨35, 0, [],
  [.seq 1 2,
   .reg [⟨(some 16), .mv (.t 8), none⟩,
      ⟨(some 17), .bin .neq (.t 16) (.c (.int .i64 0)), none⟩],
   .cond (.t 17) 3 6,
   .seq 4 5,
   .greg [[], [], [], [true, true, false], [false, true, false, false], [false, false, false, false, false]] [⟨(some 18), .load none (.t 4), none⟩,
      ⟨(some 19), .load none (.t 5), none⟩,
      ⟨(some 20), .mv (.t 8), none⟩,
      ⟨none, .store 1 (.t 4) (.t 18), none⟩,
      ⟨none, .store 1 (.t 5) (.t 19), none⟩,
      ⟨none, .store 1 (.t 6) (.t 20), none⟩],
   .ret,
   .skip]⟩
def X44rrrr : FT := ⟨35, 0, [],
  [.seq 1 2,
   .reg [⟨(some 22), .mv (.t 7), none⟩,
      ⟨(some 23), .build [.nils] [(0, 1, (.t 22))], none⟩,
      ⟨(some 24), .box 109 (.t 23), none⟩,
      ⟨(some 9), .mv (.t 24), none⟩],
   .seq 3 4,
   .reg [⟨(some 25), .mv (.t 1), none⟩,
      ⟨(some 26), .mv (.t 9), none⟩,
      ⟨(some 27), .call (.t 25) [(.t 26)], none⟩,
      ⟨none, .store 1 (.t 4) (.t 27), none⟩],
   .seq 5 10,
   .seq 6 7,
   .reg [⟨(some 28), .mv (.t 9), none⟩,
      ⟨(some 29), .call (.c (.fn (.func 62) [] [])) [(.t 28)], none⟩,
      ⟨(some 30), .fld none 0 (.t 29), none⟩,
      ⟨(some 31), .bin .neq (.t 30) (.c (.int .i64 3)), none⟩],
   .cond (.t 31) 8 9,
   .reg [⟨(some 32), .mv (.t 9), none⟩,
      ⟨(some 33), .call (.c (.fn (.func 63) [] [])) [(.t 32), (.c (.int .i64 4))], none⟩],
   .skip,
   .seq 11 12,
   .reg [⟨(some 34), .load none (.t 4), none⟩,
      ⟨none, .store 1 (.t 4) (.t 34), none⟩,
      ⟨none, .store 1 (.t 5) (.c (.int .i64 0)), none⟩,
      ⟨none, .store 1 (.t 6) (.c (.int .i64 0)), none⟩],
   .ret]⟩
def X89r : FT := ⟨23, 0, [],
  [.seq 1 2,
   .reg [⟨(some 8), .mv (.t 3), none⟩,
      ⟨(some 9), .gen (.eqi true) [(.t 8)], none⟩],
   .cond (.t 9) 3 14,
   .seq 4 5,
   .reg [⟨(some 11), .mv (.t 3), none⟩,
      ⟨(some 12), .gen (.asrt 106 (.agg [(.int .i64 0), (.int .i64 0)])) [(.t 11)], none⟩,
      ⟨(some 10), .mv (.t 12), none⟩,
      ⟨(some 13), .ext 0 (.t 10), none⟩,
      ⟨(some 14), .ext 1 (.t 10), none⟩,
      ⟨(some 4), .alloc 106 [(.int .i64 0), (.int .i64 0)], none⟩,
      ⟨none, .store 2 (.t 4) (.t 13), none⟩,
      ⟨(some 5), .mv (.t 14), none⟩],
   .seq 6 11,
   .seq 7 8,
   .reg [⟨(some 15), .mv (.t 5), none⟩,
      ⟨(some 16), .un .not (.t 15), none⟩],
   .cond (.t 16) 9 10,
   .reg [⟨(some 17), .mv (.t 3), none⟩,
      ⟨none, .panic (.t 17), none⟩],
   .skip,
   .seq 12 13,
   .reg [⟨(some 6), .mv (.c .nils), none⟩],
   .greg [[], [], [], [], [], [true, true, true, true, false], [false, true, true, false, false, false], [false, false, false, false, false, false, false]] [⟨(some 18), .mv (.t 6), none⟩,
      ⟨(some 19), .fadr 0 (.t 4), none⟩,
      ⟨(some 20), .load none (.t 19), none⟩,
      ⟨(some 21), .fadr 1 (.t 4), none⟩,
      ⟨(some 22), .load none (.t 21), none⟩,
      ⟨none, .store 1 (.t 0) (.t 18), none⟩,
      ⟨none, .store 1 (.t 1) (.t 20), none⟩,
      ⟨none, .store 1 (.t 2) (.t 22), none⟩],
   .skip]⟩
theorem X44l_ok : cpl Tryz.prog 35 (cL (bodyC Tryz.f44)) 0 = some X44l.T := by kernel_rfl
theorem X44rl_ok : cpl Tryz.prog 35 (cL (cR (bodyC Tryz.f44))) 0 = some X44rl.T := by kernel_rfl
theorem X44rrl_ok : cpl Tryz.prog 35 (cL (cR (cR (bodyC Tryz.f44)))) 0 = some X44rrl.T := by kernel_rfl
theorem X44rrrr_ok : cpl Tryz.prog 35 (cR (cR (cR (cR (bodyC Tryz.f44))))) 0 = some X44rrrr.T := by kernel_rfl
theorem X89r_ok : cpl Tryz.prog 23 (cR (bodyC Tryz.f89)) 0 = some X89r.T := by kernel_rfl
theorem catch89_r0 (c₀ : Frame) (cs : List Frame) (v : Value) (w : World) (a : Act) (Q : Exit → Act → List Frame → World → Prop) (hu : c₀.mode = .panicking [{ v, recovered := false }]) (hn : a.tmps.size = 23)
  (hQ : Q .normal ((a.put (some 7) v).put (some 3) v) ({ c₀ with mode := .panicking [{ v, recovered := true }] } :: cs) w) : (cL (bodyC Tryz.f89)).wpS Tryz.prog Q a (c₀ :: cs) w := by
 show Code.wpS Tryz.prog (Code.region 0 _ false) Q a (c₀ :: cs) w
 apply wpS_region
 simp [wpOpsS, go_sem, recoverD, hu, Act.put, hn] at hQ ⊢
 exact hQ
theorem idle89_r0 (c₀ : Frame) (cs : List Frame) (w : World) (a : Act) (Q : Exit → Act → List Frame → World → Prop) (hu : c₀.mode = .returning) (hn : a.tmps.size = 23)
  (hQ : Q .normal ((a.put (some 7) .nilIface).put (some 3) .nilIface) (c₀ :: cs) w) : (cL (bodyC Tryz.f89)).wpS Tryz.prog Q a (c₀ :: cs) w := by
 show Code.wpS Tryz.prog (Code.region 0 _ false) Q a (c₀ :: cs) w
 apply wpS_region
 simp [wpOpsS, go_sem, recoverD, hu, Act.put, hn] at hQ ⊢
 exact hQ
theorem idle89 {caps : List V} (hn : caps.length ≤ 23) (s : St) : DIdle Tryz.prog 89 caps s := by
 refine idle_of (fn := Tryz.f89) (r0 := cL (bodyC Tryz.f89)) (rest := cR (bodyC Tryz.f89)) (tr := 7) (tm := 3) Tryz.func89 rfl rfl (by decide) (by decide) idle89_r0 hn (fun hwf => W_tab X89r_ok ?_)
 (repeat' first | ((first | refine go rfl rfl ?_ | (refine Fk.by_ ?_ ?_ <;> intro hc <;> try simp only [hc]) | refine storeK_eq rfl ?_ | with_reducible refine an ?_ ?_) <;> try simp only [push_cast, ed, reduceCtorEq, ld]))
 all_goals exact ⟨[], rfl, .tup [], s, .inl rfl, rfl, Weak.refl hwf, Nat.le_refl _, rfl, rfl⟩
theorem catch89 {s : St} {o p q : Nat} {at' e : Int} {c0 x y : V} (ho : Sha.look s.mem o = some [c0])
  (hp : Sha.look s.mem p = some [x]) (hq : Sha.look s.mem q = some [y]) (h1 : o ≠ p) (h2 : o ≠ q) (h3 : p ≠ q) :
  DCatch Tryz.prog 89 [.ptr o 0, .ptr p 0, .ptr q 0] (failV at' e) s ⟨s.nx, updM (updM (updM s.mem o [.nils]) p [.int .i64 at']) q [.int .i64 e], s.arr, s.x⟩ := by
 refine catch_of (fn := Tryz.f89) (r0 := cL (bodyC Tryz.f89)) (rest := cR (bodyC Tryz.f89)) (tr := 7) (tm := 3) Tryz.func89 rfl rfl (by decide) (by decide) catch89_r0 (by exact (by decide : 3 ≤ 23)) (fun hwf => W_tab X89r_ok ?_)
 have b1 := (hwf.mem _ _ ho).1
 have b2 := (hwf.mem _ _ hp).1
 have b3 := (hwf.mem _ _ hq).1
 have f1 : (s.nx = o) = False := eq_false (by omega)
 have f2 : (s.nx = p) = False := eq_false (by omega)
 have f3 : (s.nx = q) = False := eq_false (by omega)
 have f4 : (s.nx + 1 = o) = False := eq_false (by omega)
 have f5 : (s.nx + 1 = p) = False := eq_false (by omega)
 have f6 : (s.nx + 1 = q) = False := eq_false (by omega)
 have g1 : (o = p) = False := eq_false h1
 have g2 : (o = q) = False := eq_false h2
 have g3 : (p = q) = False := eq_false h3
 have g4 : (p = o) = False := eq_false h1.symm
 have g5 : (q = o) = False := eq_false h2.symm
 have g6 : (q = p) = False := eq_false h3.symm
 (repeat' first | ((first | refine go rfl rfl ?_ | (refine Fk.by_ ?_ ?_ <;> intro hc <;> try simp only [hc]) | refine storeK_eq rfl ?_ | with_reducible refine an ?_ ?_) <;> try simp only [failV, ho, hp, hq, f1, f2, f3, f4, f5, f6, g1, g2, g3, g4, g5, g6, look_updM, om, push_cast, ed, reduceCtorEq, ld]))
 have hW : St.Wf ⟨s.nx, updM (updM (updM s.mem o [.nils]) p [.int .i64 at']) q [.int .i64 e], s.arr, s.x⟩ := ((hwf.put (id := o) (cs := [.nils]) rfl).put (id := p) (cs := [.int .i64 at']) rfl).put (id := q) (cs := [.int .i64 e]) rfl
 exact ⟨[], rfl, .tup [], _, .inl rfl, rfl, Weak.wf rfl (by simp) (by repeat first | exact hW.subm | refine Sub.drop (by simp) ?_) hW.suba hW.subx hW, Nat.le_refl _, rfl, rfl⟩
theorem bd_resS {n : Nat} {x : Except (Int × Int) (List Sel)} : (resP selsV .nils x).bd n = true := by
 cases x <;> simp [resP, V.bd, V.bdL, selsV, bdL_sel]
set_option maxHeartbeats 2000000 in
theorem readS_v (s : List UInt8) (st : St) (hG : GlOk st.x.gl) : VRet Tryz.prog 44 [.str s, .fn (.func 45) [] []] st (resP selsV .nils (pR rSelection s)) st := by
 refine VCalls_defer (fn := Tryz.f44) (r0 := cL (bodyC Tryz.f44)) (r1 := cL (cR (bodyC Tryz.f44))) (cnd := cL (cR (cR (bodyC Tryz.f44)))) (dreg := cL (cR (cR (cR (bodyC Tryz.f44))))) (rest := cR (cR (cR (cR (bodyC Tryz.f44)))))
  (res := [.cell 4 none, .cell 5 none, .cell 6 none]) (g := 89) (t := 21) (tcaps := [4, 5, 6]) Tryz.func44 rfl rfl (by kernel_rfl) (by decide) ?_ ?_ (by exact (by decide : 2 ≤ 35)) (fun hwf => ?_)
 ·intro a w Q hn hQ
  have hmf : ∀ (fn : Fn) (first cap : Array Value) (w : World), (Instr.makeFunc fn first cap).run Tryz.prog w = .ok (.func fn first cap) w := fun _ _ _ _ => rfl
  show Code.wp Tryz.prog (Code.region 4 _ false) Q a w
  apply wp_region
  have hn' : a.tmps.size = 35 := hn
  simp [wpOps, hmf, go_sem, Act.put, hn'] at hQ ⊢
  exact .inl (.inl hQ)
 ·intro cap w
  simp [go_sem]
 ·have e1 : ∀ k : Nat, (st.nx + k + 1 = st.nx) = False := fun k => eq_false (by omega)
  obtain ⟨l, a, e, hS⟩ : ∃ l a e, scanR s = (l, a, e) := ⟨_, _, _, rfl⟩
  have hWf : e = 0 → WfT l := fun he => by have := scanR_wf (s := s) (by rw [hS]; exact he); rwa [hS] at this
  have hP : pR rSelection s = if (e != 0) = true then .error ((a : Int), e) else pE (rSelection l) := by unfold pR; rw [hS]
  have hsc := scan_v s
  rw [hS] at hsc
  unfold scanV at hsc
  refine W_tab X44l_ok ?_
  (repeat' first | ((first | refine go rfl rfl ?_ | (refine Fk.by_ ?_ ?_ <;> intro hc <;> try simp only [hc]) | refine storeK_eq rfl ?_ | with_reducible refine an ?_ ?_) <;> try simp only [push_cast, ed, reduceCtorEq, ld]))
  refine W_tab X44rl_ok ?_
  (repeat' first | ((first | refine go rfl rfl ?_ | refine Cl.by_ (by (first | refine hsc _)) ?_ | (refine Fk.by_ ?_ ?_ <;> intro hc <;> try simp only [hc]) | refine storeK_eq rfl ?_ | with_reducible refine an ?_ ?_) <;> try simp only [push_cast, ed, reduceCtorEq, ld]))
  refine W_tab X44rrl_ok ?_
  (repeat' first | ((first | refine go rfl rfl ?_ | (refine Fk.by_ ?_ ?_ <;> intro hc <;> try simp only [hc]) | refine storeK_eq rfl ?_ | with_reducible refine an ?_ ?_) <;> try simp only [push_cast, ed, reduceCtorEq, ld]))
  ·rw [hP, if_pos hc]
   exact ⟨_, (by first | rfl | (simp only [push_cast, ed, reduceCtorEq, ld]; exact rfl)), resP selsV .nils (.error ((a : Int), e)), st, .inl rfl, bd_resS, Weak.wf rfl (by simp) (by repeat first | exact hwf.subm | refine Sub.drop (by simp) ?_) hwf.suba hwf.subx hwf, Nat.le_refl _, rfl, rfl⟩
  ·rw [hP, if_neg (by rw [hc]; decide)]
   have hwl := hWf (by simpa using hc)
   refine ⟨[.ptr st.nx 0, .ptr (st.nx + 1) 0, .ptr (st.nx + 2) 0], by simp [DK.mapOL, Sha.look], fun D => W_tab X44rrrr_ok ?_⟩
   (repeat' first | (with_reducible intro x1 x2 hE hW <;> (try (obtain ⟨rfl, rfl, hK⟩ := rNumber_inv hE)) <;> (try (obtain ⟨rfl, -⟩ := rMust_inv hE)) <;> (try (obtain ⟨u1, u2, rfl⟩ := rUnit_inv hE; dsimp only)) <;> try simp only [stR_eq, lookR, om, tkV, selsV, push_cast, ed, reduceCtorEq, ld]) | (with_reducible intro x1 x2 x3 hE <;> try simp only [stR_eq, lookR, om, tkV, selsV, push_cast, ed, reduceCtorEq, ld]) | (with_reducible intro hE2 <;> try simp only [stR_eq, lookR, om, tkV, selsV, push_cast, ed, reduceCtorEq, ld]) | ((first | refine go rfl rfl ?_ | refine RdK.c (by first | assumption | (simp only [stR_eq, lookR, om, tkV, selsV, push_cast, ed, reduceCtorEq, ld] <;> exact rfl)) (by assumption) (by assumption) ?_ | refine snap_two (by simp only [stR_eq, lookR, om, tkV, selsV, push_cast, ed, reduceCtorEq, ld] <;> exact rfl) ?_ | (refine Fk.by_ ?_ ?_ <;> intro hc <;> try simp only [hc]) | refine storeK_eq rfl ?_ | with_reducible refine an ?_ ?_) <;> try simp only [stR_eq, lookR, om, tkV, selsV, push_cast, ed, reduceCtorEq, ld]))
   ·have hpe : pE (rSelection l) = .error ((hd x2).a, 4) := by simp [pE, hE, hc]
    rw [hpe]
    refine ⟨_, catch89 (o := st.nx) (p := st.nx + 1) (q := st.nx + 2) (by first | (simp only [push_cast, ed, reduceCtorEq, ld]; done) | (simp only [push_cast, ed, reduceCtorEq, ld]; exact rfl)) (by first | (simp only [push_cast, ed, reduceCtorEq, ld]; done) | (simp only [push_cast, ed, reduceCtorEq, ld]; exact rfl)) (by first | (simp only [push_cast, ed, reduceCtorEq, ld]; done) | (simp only [push_cast, ed, reduceCtorEq, ld]; exact rfl)) (by omega) (by omega) (by omega), ?_⟩
    simp only [push_cast, ed, reduceCtorEq, ld]
    exact ⟨_, (by first | rfl | (simp only [push_cast, ed, reduceCtorEq, ld]; exact rfl)), resP selsV .nils (.error ((hd x2).a, 4)), st, .inl rfl, bd_resS, Weak.wf rfl (by simp) (by repeat first | exact hwf.subm | refine Sub.drop (by simp) ?_) hwf.suba hwf.subx hwf, Nat.le_refl _, rfl, rfl⟩
   ·have hpe : pE (rSelection l) = .ok x1 := by simp [pE, hE, hc]
    rw [hpe]
    refine ⟨idle89 (by exact (by decide : 3 ≤ 23)) _, ?_⟩
    exact ⟨_, (by first | rfl | (simp only [push_cast, ed, reduceCtorEq, ld]; exact rfl)), resP selsV .nils (.ok x1), st, .inl rfl, bd_resS, Weak.wf rfl (by simp) (by repeat first | exact hwf.subm | refine Sub.drop (by simp) ?_) hwf.suba hwf.subx hwf, Nat.le_refl _, rfl, rfl⟩
   ·have hpe : pE (rSelection l) = .error (x1, x2) := by simp [pE, *]
    rw [hpe]
    refine ⟨_, catch89 (o := st.nx) (p := st.nx + 1) (q := st.nx + 2) (by first | (simp only [push_cast, ed, reduceCtorEq, ld]; done) | (simp only [push_cast, ed, reduceCtorEq, ld]; exact rfl)) (by first | (simp only [push_cast, ed, reduceCtorEq, ld]; done) | (simp only [push_cast, ed, reduceCtorEq, ld]; exact rfl)) (by first | (simp only [push_cast, ed, reduceCtorEq, ld]; done) | (simp only [push_cast, ed, reduceCtorEq, ld]; exact rfl)) (by omega) (by omega) (by omega), ?_⟩
    simp only [push_cast, ed, reduceCtorEq, ld]
    exact ⟨_, (by first | rfl | (simp only [push_cast, ed, reduceCtorEq, ld]; exact rfl)), resP selsV .nils (.error (x1, x2)), st, .inl rfl, bd_resS, Weak.wf rfl (by simp) (by repeat first | exact hwf.subm | refine Sub.drop (by simp) ?_) hwf.suba hwf.subx hwf, Nat.le_refl _, rfl, rfl⟩
theorem parse_v (s : List UInt8) (st : St) (hG : GlOk st.x.gl) : VRet Tryz.prog 10 [.str s] st (resP cmdV (cmdV cmd0) (pR rCommand s)) st := by
 have hr := fun st' (h : GlOk st'.x.gl) => readC_v s st' h
 refine vc F10_ok rfl (fun hwf => ?_)
 cases hP : pR rCommand s with
 | ok c =>
  rw [hP] at hr
  (repeat' first | ((first | refine go rfl rfl ?_ | refine Cl.by_ (by (first | refine hr _ hG)) ?_ | (refine Fk.by_ ?_ ?_ <;> intro hc <;> try simp only [hc]) | refine storeK_eq rfl ?_ | with_reducible refine an ?_ ?_) <;> try simp only [resP, cmdV, cmdL, push_cast, ed, reduceCtorEq, ld]))
  exact ⟨_, (by first | rfl | (simp only [F10, push_cast, ed, reduceCtorEq, ld]; exact rfl)), resP cmdV (cmdV cmd0) (.ok c), st, .inl rfl, bd_resC, Weak.wf rfl (by simp) (by repeat first | exact hwf.subm | refine Sub.drop (by simp) ?_) hwf.suba hwf.subx hwf, Nat.le_refl _, rfl, rfl⟩
 | error e =>
  rw [hP] at hr
  (repeat' first | ((first | refine go rfl rfl ?_ | refine Cl.by_ (by (first | refine hr _ hG)) ?_ | (refine Fk.by_ ?_ ?_ <;> intro hc <;> try simp only [hc]) | refine storeK_eq rfl ?_ | with_reducible refine an ?_ ?_) <;> try simp only [resP, cmdV, cmdL, push_cast, ed, reduceCtorEq, ld]))
  exact ⟨_, (by first | rfl | (simp only [F10, push_cast, ed, reduceCtorEq, ld]; exact rfl)), resP cmdV (cmdV cmd0) (.error e), st, .inl rfl, bd_resC, Weak.wf rfl (by simp) (by repeat first | exact hwf.subm | refine Sub.drop (by simp) ?_) hwf.suba hwf.subx hwf, Nat.le_refl _, rfl, rfl⟩
theorem selection_v (s : List UInt8) (st : St) (hG : GlOk st.x.gl) : VRet Tryz.prog 18 [.str s] st (resP selsV .nils (pR rSelection s)) st := by
 have hr := fun st' (h : GlOk st'.x.gl) => readS_v s st' h
 refine vc F18_ok rfl (fun hwf => ?_)
 cases hP : pR rSelection s with
 | ok c =>
  rw [hP] at hr
  (repeat' first | ((first | refine go rfl rfl ?_ | refine Cl.by_ (by (first | refine hr _ hG)) ?_ | (refine Fk.by_ ?_ ?_ <;> intro hc <;> try simp only [hc]) | refine storeK_eq rfl ?_ | with_reducible refine an ?_ ?_) <;> try simp only [resP, selsV, push_cast, ed, reduceCtorEq, ld]))
  exact ⟨_, (by first | rfl | (simp only [F18, push_cast, ed, reduceCtorEq, ld]; exact rfl)), resP selsV .nils (.ok c), st, .inl rfl, bd_resS, Weak.wf rfl (by simp) (by repeat first | exact hwf.subm | refine Sub.drop (by simp) ?_) hwf.suba hwf.subx hwf, Nat.le_refl _, rfl, rfl⟩
 | error e =>
  rw [hP] at hr
  (repeat' first | ((first | refine go rfl rfl ?_ | refine Cl.by_ (by (first | refine hr _ hG)) ?_ | (refine Fk.by_ ?_ ?_ <;> intro hc <;> try simp only [hc]) | refine storeK_eq rfl ?_ | with_reducible refine an ?_ ?_) <;> try simp only [resP, selsV, push_cast, ed, reduceCtorEq, ld]))
  exact ⟨_, (by first | rfl | (simp only [F18, push_cast, ed, reduceCtorEq, ld]; exact rfl)), resP selsV .nils (.error e), st, .inl rfl, bd_resS, Weak.wf rfl (by simp) (by repeat first | exact hwf.subm | refine Sub.drop (by simp) ?_) hwf.suba hwf.subx hwf, Nat.le_refl _, rfl, rfl⟩
def F9 : FT := ⟨98, 0, [.tmp 0],
 [.seq 1 2,
 .reg [.s 0 (.mv (.c (.bool false)))],
 .seq 3 4,
 .reg [.s 20 (.f 10 [(.w [49, 32, 116, 104, 114, 117, 32, 53, 32, 43, 32, 57, 32, 45, 32, 103, 114, 111, 117, 112, 32, 51, 32, 97, 116, 32, 53, 48, 32, 116, 105, 109, 101, 32, 50])]),
 .s 19 (.m 20),
 .s 21 (.ext 0 (.t 19)),
 .s 22 (.ext 1 (.t 19)),
 .s 23 (.ext 2 (.t 19)),
 .s 1 (.alloc 28 Z0),
 .n (.store 19 (.t 1) (.t 21)),
 .s 2 (.m 22),
 .s 3 (.m 23)],
 .seq 5 6,
 .reg [.s 25 (.f 10 [(.w [114, 101, 99, 111, 114, 100, 32, 99, 117, 101, 32, 50, 32, 47, 32, 53, 46, 53, 32, 111, 110, 108, 121, 32, 112, 97, 114, 116, 32, 49, 32, 116, 105, 109, 101, 32, 51])]),
 .s 24 (.m 25),
 .s 26 (.ext 0 (.t 24)),
 .s 27 (.ext 1 (.t 24)),
 .s 28 (.ext 2 (.t 24)),
 .s 4 (.alloc 28 Z0),
 .n (.store 19 (.t 4) (.t 26)),
 .s 5 (.m 27),
 .s 6 (.m 28)],
 .seq 7 8,
 .reg [.s 30 (.f 10 [(.w [112, 97, 116, 99, 104, 32, 53, 46, 50, 32, 119, 97, 115, 104, 32, 97, 116, 32, 49, 32, 47, 32, 49, 48, 49])]),
 .s 29 (.m 30),
 .s 31 (.ext 0 (.t 29)),
 .s 32 (.ext 1 (.t 29)),
 .s 33 (.ext 2 (.t 29)),
 .s 7 (.alloc 28 Z0),
 .n (.store 19 (.t 7) (.t 31)),
 .s 8 (.m 32),
 .s 9 (.m 33)],
 .seq 9 16,
 .seq 10 11,
 .reg [.s 34 (.m 3),
 .s 35 (.m 6),
 .s 36 (.bin .add (.t 34) (.t 35)),
 .s 37 (.m 9),
 .s 38 (.bin .add (.t 36) (.t 37)),
 .s 39 (.bin .neq (.t 38) (.i 0)),
 .s 40 (.m 39),
 .x 41 (.load (some 19) (.t 1)) 40,
 .x 42 (.build [(.i 0), (.i 0), (.i 0), (.i 0)] [(2, 1, (.i 1)), (3, 1, (.i 5))]) 40,
 .x 43 (.build [(.i 0), (.i 0), (.i 0), (.i 0)] [(2, 1, (.i 9)), (3, 1, (.i 9))]) 40,
 .x 44 (.build [(.i 0), (.i 0), (.i 0), (.i 0)] [(0, 1, (.i 1)), (1, 1, (.i 3))]) 40,
 .x 45 (.bslice 43 4 [(.t 42), (.t 43), (.t 44)]) 40,
 .x 46 (.build Z0 [(0, 1, (.i 0)), (1, 1, (.w [97, 116])), (5, 1, (.t 45)), (7, 1, (.i 32768)), (9, 1, (.i 2000))]) 40,
 .x 47 (.f 12 [(.t 41), (.t 46)]) 40,
 .x 48 (.un .not (.t 47)) 40,
 .s 49 (.pick (.t 40) (.c (.bool true)) (.t 48))],
 .cond (.t 49) 12 15,
 .seq 13 14,
 .reg [.s 0 (.mv (.c (.bool false)))],
 .ret,
 .skip,
 .seq 17 24,
 .seq 18 19,
 .reg [.s 50 (.load (some 19) (.t 4)),
 .s 51 (.build Z0 [(0, 1, (.i 2)), (1, 1, (.w [114, 101, 99, 111, 114, 100])), (2, 1, (.w [99, 117, 101])), (4, 1, (.i 2)), (3, 1, (.w [53, 46, 53])), (10, 1, (.i 1)), (7, 1, (.i 1)), (9, 1, (.i 3000))]),
 .s 52 (.f 12 [(.t 50), (.t 51)]),
 .s 53 (.un .not (.t 52)),
 .s 54 (.m 53),
 .x 55 (.load (some 19) (.t 7)) 54,
 .x 56 (.build Z1 [(0, 1, (.i 5)), (1, 1, (.i 2)), (2, 1, (.w [119, 97, 115, 104])), (3, 1, (.i 1)), (4, 1, (.i 101)), (5, 1, (.i 1))]) 54,
 .x 57 (.build Z0 [(0, 1, (.i 5)), (1, 1, (.w [112, 97, 116, 99, 104])), (11, 7, (.t 56))]) 54,
 .x 58 (.f 12 [(.t 55), (.t 57)]) 54,
 .x 59 (.un .not (.t 58)) 54,
 .s 60 (.pick (.t 54) (.c (.bool true)) (.t 59))],
 .cond (.t 60) 20 23,
 .seq 21 22,
 .reg [.s 0 (.mv (.c (.bool false)))],
 .ret,
 .skip,
 .seq 25 26,
 .reg [.s 62 (.f 10 [(.w [103, 111, 32, 48])]),
 .s 61 (.m 62),
 .s 63 (.ext 0 (.t 61)),
 .s 64 (.ext 1 (.t 61)),
 .s 65 (.ext 2 (.t 61)),
 .s 10 (.alloc 28 Z0),
 .n (.store 19 (.t 10) (.t 63)),
 .s 11 (.m 64),
 .s 12 (.m 65)],
 .seq 27 28,
 .reg [.s 67 (.f 10 [(.w [53, 32, 116, 104, 114, 117, 32, 51, 32, 97, 116, 32, 49, 48])]),
 .s 66 (.m 67),
 .s 68 (.ext 0 (.t 66)),
 .s 69 (.ext 1 (.t 66)),
 .s 70 (.ext 2 (.t 66)),
 .s 13 (.alloc 28 Z0),
 .n (.store 19 (.t 13) (.t 68)),
 .s 14 (.m 69),
 .s 15 (.m 70)],
 .seq 29 30,
 .reg [.s 72 (.f 10 [(.w [103, 111])]),
 .s 71 (.m 72),
 .s 73 (.ext 0 (.t 71)),
 .s 74 (.ext 1 (.t 71)),
 .s 75 (.ext 2 (.t 71)),
 .s 16 (.alloc 28 Z0),
 .n (.store 19 (.t 16) (.t 73)),
 .s 17 (.m 74),
 .s 18 (.m 75)],
 .seq 31 32,
 .reg [.s 76 (.m 11),
 .s 77 (.bin .eql (.t 76) (.i 3)),
 .s 78 (.m 77),
 .y 79 (.m 12) 78,
 .y 80 (.bin .eql (.t 79) (.i 2)) 78,
 .s 81 (.pick (.t 78) (.t 80) (.c (.bool false))),
 .s 82 (.m 81),
 .y 83 (.m 14) 82,
 .y 84 (.bin .eql (.t 83) (.i 7)) 82,
 .s 85 (.pick (.t 82) (.t 84) (.c (.bool false))),
 .s 86 (.m 85),
 .y 87 (.m 15) 86,
 .y 88 (.bin .eql (.t 87) (.i 9)) 86,
 .s 89 (.pick (.t 86) (.t 88) (.c (.bool false))),
 .s 90 (.m 89),
 .y 91 (.m 17) 90,
 .y 92 (.bin .eql (.t 91) (.i 2)) 90,
 .s 93 (.pick (.t 90) (.t 92) (.c (.bool false))),
 .s 94 (.m 93),
 .y 95 (.m 18) 94,
 .y 96 (.bin .eql (.t 95) (.i 4)) 94,
 .s 97 (.pick (.t 94) (.t 96) (.c (.bool false))),
 .s 0 (.m 97)],
 .ret]⟩
theorem F9_ok : compFn Tryz.prog 9 = some F9 := by kernel_rfl
def a1 : List UInt8 := [49, 32, 116, 104, 114, 117, 32, 53, 32, 43, 32, 57, 32, 45, 32, 103, 114, 111, 117, 112, 32, 51, 32, 97, 116, 32, 53, 48, 32, 116, 105, 109, 101, 32, 50]
def a2 : List UInt8 := [114, 101, 99, 111, 114, 100, 32, 99, 117, 101, 32, 50, 32, 47, 32, 53, 46, 53, 32, 111, 110, 108, 121, 32, 112, 97, 114, 116, 32, 49, 32, 116, 105, 109, 101, 32, 51]
def a3 : List UInt8 := [112, 97, 116, 99, 104, 32, 53, 46, 50, 32, 119, 97, 115, 104, 32, 97, 116, 32, 49, 32, 47, 32, 49, 48, 49]
def a4 : List UInt8 := [103, 111, 32, 48]
def a5 : List UInt8 := [53, 32, 116, 104, 114, 117, 32, 51, 32, 97, 116, 32, 49, 48]
def a6 : List UInt8 := [103, 111]
def b1 : Cmd := { cmd0 with verb := [97, 116], sel := some [⟨0, 0, 1, 5⟩, ⟨0, 0, 9, 9⟩, ⟨1, 3, 0, 0⟩], lev := 32768, time := 2000 }
def b2 : Cmd := { cmd0 with kind := 2, verb := [114, 101, 99, 111, 114, 100], obj := [99, 117, 101], num := [53, 46, 53], list := 2, lev := 1, time := 3000, fl := 1 }
def b3 : Cmd := { cmd0 with kind := 5, verb := [112, 97, 116, 99, 104], pl := ⟨5, 2, [119, 97, 115, 104], 1, 101, 1⟩ }
theorem gx1 : pR rCommand a1 = .ok b1 := by kernel_rfl
theorem gx2 : pR rCommand a2 = .ok b2 := by kernel_rfl
theorem rNext_ok {α β : Type} {m : Rd α} {f : α → Rd β} {ts ts' : List Tok} {a : α} (h : m ts = .ok (a, ts')) : rNext m f ts = f a ts' := by
 unfold rNext; rw [h]
theorem wash : wordN [119, 97, 115, 104] = 0 := by
 unfold wordN
 rw [if_pos ⟨by kernel_rfl, by kernel_rfl, by kernel_rfl⟩, if_neg (by decide)]
theorem gx3 : pR rCommand a3 = .ok b3 := by
 obtain ⟨l, hl⟩ : ∃ l, l = (scanR a3).1 := ⟨_, rfl⟩
 have h0 : ((scanR a3).2.2 != 0) = false := by kernel_rfl
 unfold pR
 rw [h0, if_neg (by decide)]
 have h1 : rCommand (scanR a3).1 = rPatch (scanR a3).1.tail := by kernel_rfl
 have h2 : rUnit (scanR a3).1.tail = .ok (⟨5, 2, [], 0, 0, 0⟩, (scanR a3).1.tail.tail) := by kernel_rfl
 have h3 : rProfile (scanR a3).1.tail.tail = .ok ([119, 97, 115, 104], (scanR a3).1.tail.tail.tail) := by
  have e1 : (hd (scanR a3).1.tail.tail).t = [119, 97, 115, 104] := by kernel_rfl
  have e2 : ((hd (scanR a3).1.tail.tail).k != 0) = false := by kernel_rfl
  unfold rProfile
  rw [e2, e1, wash, if_neg (by decide), if_neg (by decide), if_neg (by decide)]
 rw [h1]
 unfold rPatch
 rw [rNext_ok h2, rNext_ok h3]
 refine Eq.trans ?_ rfl
 kernel_rfl
theorem gx4 : pR rCommand a4 = .error (3, 2) := by kernel_rfl
theorem gx5 : pR rCommand a5 = .error (7, 9) := by kernel_rfl
theorem gx6 : pR rCommand a6 = .error (2, 4) := by kernel_rfl
set_option maxHeartbeats 4000000 in
theorem awake_v (st : St) (hG : GlOk st.x.gl) : VRet Tryz.prog 9 [] st (.bool true) st := by
 have p1 := fun st' (h : GlOk st'.x.gl) => parse_v a1 st' h
 have p2 := fun st' (h : GlOk st'.x.gl) => parse_v a2 st' h
 have p3 := fun st' (h : GlOk st'.x.gl) => parse_v a3 st' h
 have p4 := fun st' (h : GlOk st'.x.gl) => parse_v a4 st' h
 have p5 := fun st' (h : GlOk st'.x.gl) => parse_v a5 st' h
 have p6 := fun st' (h : GlOk st'.x.gl) => parse_v a6 st' h
 rw [gx1] at p1; rw [gx2] at p2; rw [gx3] at p3; rw [gx4] at p4; rw [gx5] at p5; rw [gx6] at p6
 have s1 : ∀ st', VRet Tryz.prog 12 [cmdW b1 (.sl []), cmdW b1 (.sl [])] st' (.bool true) st' := fun st' => by have := qsame_v b1 b1 (.inr rfl : V.sl [] = .nils ∨ V.sl [] = .sl []) (.inr rfl : V.sl [] = .nils ∨ V.sl [] = .sl []) st'; rwa [sameC_self] at this
 have s2 : ∀ st', VRet Tryz.prog 12 [cmdW b2 .nils, cmdW b2 .nils] st' (.bool true) st' := fun st' => by have := qsame_v b2 b2 (.inl rfl : V.nils = .nils ∨ V.nils = .sl []) (.inl rfl : V.nils = .nils ∨ V.nils = .sl []) st'; rwa [sameC_self] at this
 have s3 : ∀ st', VRet Tryz.prog 12 [cmdW b3 .nils, cmdW b3 .nils] st' (.bool true) st' := fun st' => by have := qsame_v b3 b3 (.inl rfl : V.nils = .nils ∨ V.nils = .sl []) (.inl rfl : V.nils = .nils ∨ V.nils = .sl []) st'; rwa [sameC_self] at this
 have w0 : IntKind.i64.wrap (0 + 0) = 0 := by decide
 have n0 : ((0 : Int) != 0) = false := rfl
 have n2 : ((2 : Int) == 2) = true := rfl
 have n3 : ((3 : Int) == 3) = true := rfl
 have n4 : ((4 : Int) == 4) = true := rfl
 have n7 : ((7 : Int) == 7) = true := rfl
 have n9 : ((9 : Int) == 9) = true := rfl
 refine vc F9_ok rfl (fun hwf => ?_)
 (repeat' first | ((first | refine go rfl rfl ?_ | refine Cl.by_ (by (first | refine p1 _ hG | refine p2 _ hG | refine p3 _ hG | refine p4 _ hG | refine p5 _ hG | refine p6 _ hG | refine s2 _ | refine s3 _ | apply VRet.snap (s1 _)) <;> first | omega | (simp only [w0, n0, n2, n3, n4, n7, n9, resP, cmdV, cmdL, cmd0, fix0, b1, b2, b3, selO, selsV, List.map_cons, List.map_nil, selV, push_cast, ed, reduceCtorEq, ld]; done) | (simp only [w0, n0, n2, n3, n4, n7, n9, resP, cmdV, cmdL, cmd0, fix0, b1, b2, b3, selO, selsV, List.map_cons, List.map_nil, selV, push_cast, ed, reduceCtorEq, ld]; exact rfl) | fail) ?_ | (refine Fk.by_ ?_ ?_ <;> intro hc <;> try simp only [hc]) | refine storeK_eq rfl ?_ | with_reducible refine an ?_ ?_) <;> try simp only [w0, n0, n2, n3, n4, n7, n9, resP, cmdV, cmdL, cmd0, fix0, b1, b2, b3, selO, selsV, List.map_cons, List.map_nil, selV, push_cast, ed, reduceCtorEq, ld]))
 all_goals first | refine finC (hwf) (by simp only [F9, push_cast, ed, reduceCtorEq, ld]; exact rfl) (by first | exact .inl rfl | (right; simp only [F9, push_cast, ed, reduceCtorEq, ld]; try rfl)) (by first | rfl | assumption) (by simp [(hwf).z])
def F14 : FT := ⟨37, 1, [.tmp 2, .tmp 3],
 [.seq 1 2,
 .reg [.s 2 (.mv (.i 0)),
 .s 3 (.mv (.i 0))],
 .seq 3 4,
 .reg [.s 8 (.f 33 []),
 .s 4 (.m 8)],
 .seq 5 25,
 .seq 6 7,
 .reg [.s 5 (.mv (.i 0))],
 .block 0 8,
 .loop 9,
 .seq 10 15,
 .seq 11 12,
 .reg [.s 9 (.m 5),
 .s 10 (.m 4),
 .s 11 (.len (.t 10)),
 .s 12 (.bin .lss (.t 9) (.t 11))],
 .cond (.t 12) 13 14,
 .skip,
 .exit 0,
 .seq 16 24,
 .block 1 17,
 .seq 18 19,
 .reg [.s 15 (.m 4),
 .s 16 (.m 5),
 .s 17 (.iadr 1 (.t 15) (.t 16)),
 .s 18 (.l 17),
 .s 19 (.m 0),
 .s 20 (.bin .eql (.t 18) (.t 19))],
 .cond (.t 20) 20 23,
 .seq 21 22,
 .reg [.s 21 (.m 5),
 .s 2 (.m 21),
 .s 3 (.mv (.i 0))],
 .ret,
 .skip,
 .reg [.s 13 (.m 5),
 .s 14 (.bin .add (.t 13) (.i 1)),
 .s 5 (.m 14)],
 .seq 26 27,
 .reg [.s 22 (.f 34 []),
 .s 6 (.m 22)],
 .seq 28 48,
 .seq 29 30,
 .reg [.s 7 (.mv (.i 1))],
 .block 2 31,
 .loop 32,
 .seq 33 38,
 .seq 34 35,
 .reg [.s 23 (.m 7),
 .s 24 (.m 6),
 .s 25 (.len (.t 24)),
 .s 26 (.bin .lss (.t 23) (.t 25))],
 .cond (.t 26) 36 37,
 .skip,
 .exit 2,
 .seq 39 47,
 .block 3 40,
 .seq 41 42,
 .reg [.s 29 (.m 6),
 .s 30 (.m 7),
 .s 31 (.iadr 1 (.t 29) (.t 30)),
 .s 32 (.l 31),
 .s 33 (.m 0),
 .s 34 (.bin .eql (.t 32) (.t 33))],
 .cond (.t 34) 43 46,
 .seq 44 45,
 .reg [.s 35 (.m 7),
 .s 36 (.bin .add (.i 15) (.t 35)),
 .s 2 (.m 36),
 .s 3 (.mv (.i 0))],
 .ret,
 .skip,
 .reg [.s 27 (.m 7),
 .s 28 (.bin .add (.t 27) (.i 1)),
 .s 7 (.m 28)],
 .seq 49 50,
 .reg [.s 2 (.mv (.i 0)),
 .s 3 (.mv (.i 8))],
 .ret]⟩
def F16 : FT := ⟨51, 1, [.tmp 2, .tmp 3],
 [.seq 1 2,
 .reg [.s 2 (.mv (.i 0)),
 .s 3 (.mv (.i 0))],
 .seq 3 4,
 .reg [.s 11 (.m 0),
 .s 12 (.f 39 [(.t 11)]),
 .s 10 (.m 12),
 .s 13 (.ext 0 (.t 10)),
 .s 14 (.ext 1 (.t 10)),
 .s 15 (.ext 2 (.t 10)),
 .s 4 (.m 13),
 .s 5 (.m 14),
 .s 6 (.m 15)],
 .seq 5 12,
 .seq 6 7,
 .reg [.s 16 (.m 4),
 .s 17 (.f 40 [(.t 16)]),
 .s 18 (.un .not (.t 17)),
 .s 19 (.m 18),
 .x 20 (.m 6) 19,
 .x 21 (.m 20) 19,
 .y 22 (.m 5) 21,
 .y 23 (.f 41 [(.t 22)]) 21,
 .y 24 (.un .not (.t 23)) 21,
 .x 25 (.pick (.t 21) (.t 24) (.c (.bool false))) 19,
 .s 26 (.pick (.t 19) (.c (.bool true)) (.t 25))],
 .cond (.t 26) 8 11,
 .seq 9 10,
 .reg [.s 2 (.mv (.i 0)),
 .s 3 (.mv (.i 3))],
 .ret,
 .skip,
 .seq 13 14,
 .reg [.s 27 (.m 4),
 .s 28 (.f 42 [(.t 27)]),
 .s 29 (.gen .mn [(.t 28), (.i 1000000)]),
 .s 30 (.bin .mul (.t 29) (.i 1000)),
 .s 7 (.m 30)],
 .seq 15 16,
 .reg [.s 8 (.mv (.i 100))],
 .seq 17 33,
 .seq 18 19,
 .reg [.s 9 (.mv (.i 0))],
 .block 0 20,
 .loop 21,
 .seq 22 27,
 .seq 23 24,
 .reg [.s 31 (.m 9),
 .s 32 (.m 5),
 .s 33 (.lens (.t 32)),
 .s 34 (.bin .lss (.t 31) (.t 33))],
 .cond (.t 34) 25 26,
 .skip,
 .exit 0,
 .seq 28 32,
 .block 1 29,
 .seq 30 31,
 .reg [.s 37 (.m 7),
 .s 38 (.m 8),
 .s 39 (.m 5),
 .s 40 (.m 9),
 .s 41 (.ichr (.t 39) (.t 40)),
 .s 42 (.bin .sub (.t 41) (.c (.int .u8 48))),
 .s 43 (.cvi .i64 (.t 42)),
 .s 44 (.bin .mul (.t 38) (.t 43)),
 .s 45 (.bin .add (.t 37) (.t 44)),
 .s 7 (.m 45)],
 .reg [.s 46 (.m 8),
 .s 47 (.bin .quo (.t 46) (.i 10)),
 .s 8 (.m 47)],
 .reg [.s 35 (.m 9),
 .s 36 (.bin .add (.t 35) (.i 1)),
 .s 9 (.m 36)],
 .seq 34 41,
 .seq 35 36,
 .reg [.s 48 (.m 7),
 .s 49 (.bin .gtr (.t 48) (.i 10000000))],
 .cond (.t 49) 37 40,
 .seq 38 39,
 .reg [.s 2 (.mv (.i 0)),
 .s 3 (.mv (.i 2))],
 .ret,
 .skip,
 .seq 42 43,
 .reg [.s 50 (.m 7),
 .s 2 (.m 50),
 .s 3 (.mv (.i 0))],
 .ret]⟩
def F33 : FT := ⟨2, 0, [.tmp 0],
 [.seq 1 2,
 .reg [.s 0 (.mv (.c .nils))],
 .seq 3 4,
 .reg [.s 1 (.bslice 9 1 [(.w [105, 110, 116, 101, 110, 115, 105, 116, 121]), (.w [112, 97, 110]), (.w [116, 105, 108, 116]), (.w [114, 101, 100]), (.w [103, 114, 101, 101, 110]), (.w [98, 108, 117, 101]), (.w [119, 104, 105, 116, 101]), (.w [97, 109, 98, 101, 114]), (.w [99, 121, 97, 110]), (.w [109, 97, 103, 101, 110, 116, 97]), (.w [121, 101, 108, 108, 111, 119]), (.w [103, 111, 98, 111]), (.w [115, 104, 117, 116, 116, 101, 114]), (.w [122, 111, 111, 109]), (.w [102, 111, 99, 117, 115])]),
 .s 0 (.m 1)],
 .ret]⟩
def F34 : FT := ⟨2, 0, [.tmp 0],
 [.seq 1 2,
 .reg [.s 0 (.mv (.c .nils))],
 .seq 3 4,
 .reg [.s 1 (.bslice 9 1 [(.w []), (.w [112, 111, 115, 105, 116, 105, 111, 110]), (.w [99, 111, 108, 111, 117, 114]), (.w [98, 101, 97, 109])]),
 .s 0 (.m 1)],
 .ret]⟩
def F39 : FT := ⟨24, 1, [.tmp 2, .tmp 3, .tmp 4],
 [.seq 1 2,
 .reg [.s 2 (.mv (.w [])),
 .s 3 (.mv (.w [])),
 .s 4 (.mv (.c (.bool false)))],
 .seq 3 23,
 .seq 4 5,
 .reg [.s 5 (.mv (.i 0))],
 .block 0 6,
 .loop 7,
 .seq 8 13,
 .seq 9 10,
 .reg [.s 6 (.m 5),
 .s 7 (.m 0),
 .s 8 (.lens (.t 7)),
 .s 9 (.bin .lss (.t 6) (.t 8))],
 .cond (.t 9) 11 12,
 .skip,
 .exit 0,
 .seq 14 22,
 .block 1 15,
 .seq 16 17,
 .reg [.s 12 (.m 0),
 .s 13 (.m 5),
 .s 14 (.ichr (.t 12) (.t 13)),
 .s 15 (.bin .eql (.t 14) (.c (.int .u8 46)))],
 .cond (.t 15) 18 21,
 .seq 19 20,
 .dreg 10 [.s 16 (.m 0),
 .s 17 (.m 5),
 .s 18 (.slices (.t 16) none (some (.t 17))),
 .s 19 (.m 0),
 .s 20 (.m 5),
 .s 21 (.bin .add (.t 20) (.i 1)),
 .s 22 (.slices (.t 19) (some (.t 21)) none),
 .s 2 (.m 18),
 .s 3 (.m 22),
 .s 4 (.mv (.c (.bool true)))],
 .ret,
 .skip,
 .reg [.s 10 (.m 5),
 .s 11 (.bin .add (.t 10) (.i 1)),
 .s 5 (.m 11)],
 .seq 24 25,
 .reg [.s 23 (.m 0),
 .s 2 (.m 23),
 .s 3 (.mv (.w [])),
 .s 4 (.mv (.c (.bool false)))],
 .ret]⟩
def F40 : FT := ⟨33, 1, [.tmp 2],
 [.seq 1 2,
 .reg [.s 2 (.mv (.c (.bool false)))],
 .seq 3 23,
 .seq 4 5,
 .reg [.s 3 (.mv (.i 0))],
 .block 0 6,
 .loop 7,
 .seq 8 13,
 .seq 9 10,
 .reg [.s 4 (.m 3),
 .s 5 (.m 0),
 .s 6 (.lens (.t 5)),
 .s 7 (.bin .lss (.t 4) (.t 6))],
 .cond (.t 7) 11 12,
 .skip,
 .exit 0,
 .seq 14 22,
 .block 1 15,
 .seq 16 17,
 .reg [.s 10 (.m 0),
 .s 11 (.m 3),
 .s 12 (.ichr (.t 10) (.t 11)),
 .s 13 (.bin .lss (.t 12) (.c (.int .u8 48))),
 .s 14 (.m 13),
 .x 15 (.m 0) 14,
 .x 16 (.m 3) 14,
 .x 17 (.ichr (.t 15) (.t 16)) 14,
 .x 18 (.bin .gtr (.t 17) (.c (.int .u8 57))) 14,
 .s 19 (.pick (.t 14) (.c (.bool true)) (.t 18))],
 .cond (.t 19) 18 21,
 .seq 19 20,
 .reg [.s 2 (.mv (.c (.bool false)))],
 .ret,
 .skip,
 .reg [.s 8 (.m 3),
 .s 9 (.bin .add (.t 8) (.i 1)),
 .s 3 (.m 9)],
 .seq 24 25,
 .reg [.s 20 (.m 0),
 .s 21 (.lens (.t 20)),
 .s 22 (.bin .eql (.t 21) (.i 1)),
 .s 23 (.m 22),
 .x 24 (.m 0) 23,
 .x 25 (.lens (.t 24)) 23,
 .x 26 (.bin .gtr (.t 25) (.i 1)) 23,
 .x 27 (.m 26) 23,
 .y 28 (.m 0) 27,
 .y 29 (.ichr (.t 28) (.i 0)) 27,
 .y 30 (.bin .neq (.t 29) (.c (.int .u8 48))) 27,
 .x 31 (.pick (.t 27) (.t 30) (.c (.bool false))) 23,
 .s 32 (.pick (.t 23) (.c (.bool true)) (.t 31)),
 .s 2 (.m 32)],
 .ret]⟩
def F41 : FT := ⟨28, 1, [.tmp 2],
 [.seq 1 2,
 .reg [.s 2 (.mv (.c (.bool false)))],
 .seq 3 23,
 .seq 4 5,
 .reg [.s 3 (.mv (.i 0))],
 .block 0 6,
 .loop 7,
 .seq 8 13,
 .seq 9 10,
 .reg [.s 4 (.m 3),
 .s 5 (.m 0),
 .s 6 (.lens (.t 5)),
 .s 7 (.bin .lss (.t 4) (.t 6))],
 .cond (.t 7) 11 12,
 .skip,
 .exit 0,
 .seq 14 22,
 .block 1 15,
 .seq 16 17,
 .reg [.s 10 (.m 0),
 .s 11 (.m 3),
 .s 12 (.ichr (.t 10) (.t 11)),
 .s 13 (.bin .lss (.t 12) (.c (.int .u8 48))),
 .s 14 (.m 13),
 .x 15 (.m 0) 14,
 .x 16 (.m 3) 14,
 .x 17 (.ichr (.t 15) (.t 16)) 14,
 .x 18 (.bin .gtr (.t 17) (.c (.int .u8 57))) 14,
 .s 19 (.pick (.t 14) (.c (.bool true)) (.t 18))],
 .cond (.t 19) 18 21,
 .seq 19 20,
 .reg [.s 2 (.mv (.c (.bool false)))],
 .ret,
 .skip,
 .reg [.s 8 (.m 3),
 .s 9 (.bin .add (.t 8) (.i 1)),
 .s 3 (.m 9)],
 .seq 24 25,
 .reg [.s 20 (.m 0),
 .s 21 (.lens (.t 20)),
 .s 22 (.bin .geq (.t 21) (.i 1)),
 .s 23 (.m 22),
 .y 24 (.m 0) 23,
 .y 25 (.lens (.t 24)) 23,
 .y 26 (.bin .leq (.t 25) (.i 3)) 23,
 .s 27 (.pick (.t 23) (.t 26) (.c (.bool false))),
 .s 2 (.m 27)],
 .ret]⟩
def F42 : FT := ⟨21, 1, [.tmp 2],
 [.seq 1 2,
 .reg [.s 2 (.mv (.i 0))],
 .seq 3 4,
 .reg [.s 3 (.mv (.i 0))],
 .seq 5 19,
 .seq 6 7,
 .reg [.s 4 (.mv (.i 0))],
 .block 0 8,
 .loop 9,
 .seq 10 15,
 .seq 11 12,
 .reg [.s 5 (.m 4),
 .s 6 (.m 0),
 .s 7 (.lens (.t 6)),
 .s 8 (.bin .lss (.t 5) (.t 7))],
 .cond (.t 8) 13 14,
 .skip,
 .exit 0,
 .seq 16 18,
 .block 1 17,
 .reg [.s 11 (.m 3),
 .s 12 (.bin .mul (.i 10) (.t 11)),
 .s 13 (.m 0),
 .s 14 (.m 4),
 .s 15 (.ichr (.t 13) (.t 14)),
 .s 16 (.bin .sub (.t 15) (.c (.int .u8 48))),
 .s 17 (.cvi .i64 (.t 16)),
 .s 18 (.bin .add (.t 12) (.t 17)),
 .s 19 (.gen .mn [(.t 18), (.i 1000000000)]),
 .s 3 (.m 19)],
 .reg [.s 9 (.m 4),
 .s 10 (.bin .add (.t 9) (.i 1)),
 .s 4 (.m 10)],
 .seq 20 21,
 .reg [.s 20 (.m 3),
 .s 2 (.m 20)],
 .ret]⟩
def F183 : FT := ⟨61, 1, [.tmp 2, .tmp 3],
 [.seq 1 2,
 .reg [.s 2 (.mv (.i 0)),
 .s 3 (.mv (.i 0))],
 .seq 3 10,
 .seq 4 5,
 .reg [.s 8 (.m 0),
 .s 9 (.bin .eql (.t 8) (.w [102, 117, 108, 108]))],
 .cond (.t 9) 6 9,
 .seq 7 8,
 .reg [.s 2 (.mv (.i 65535)),
 .s 3 (.mv (.i 0))],
 .ret,
 .skip,
 .seq 11 12,
 .reg [.s 10 (.m 0),
 .s 4 (.m 10),
 .s 5 (.mv (.w [48, 48, 48]))],
 .seq 13 33,
 .seq 14 15,
 .reg [.s 6 (.mv (.i 0))],
 .block 0 16,
 .loop 17,
 .seq 18 23,
 .seq 19 20,
 .reg [.s 11 (.m 6),
 .s 12 (.m 0),
 .s 13 (.lens (.t 12)),
 .s 14 (.bin .lss (.t 11) (.t 13))],
 .cond (.t 14) 21 22,
 .skip,
 .exit 0,
 .seq 24 32,
 .block 1 25,
 .seq 26 27,
 .reg [.s 17 (.m 0),
 .s 18 (.m 6),
 .s 19 (.ichr (.t 17) (.t 18)),
 .s 20 (.bin .eql (.t 19) (.c (.int .u8 46)))],
 .cond (.t 20) 28 31,
 .seq 29 30,
 .dreg 9 [.s 21 (.m 0),
 .s 22 (.m 6),
 .s 23 (.slices (.t 21) none (some (.t 22))),
 .s 24 (.m 0),
 .s 25 (.m 6),
 .s 26 (.bin .add (.t 25) (.i 1)),
 .s 27 (.slices (.t 24) (some (.t 26)) none),
 .s 4 (.m 23),
 .s 5 (.m 27)],
 .exit 0,
 .skip,
 .reg [.s 15 (.m 6),
 .s 16 (.bin .add (.t 15) (.i 1)),
 .s 6 (.m 16)],
 .seq 34 41,
 .seq 35 36,
 .reg [.s 28 (.m 4),
 .s 29 (.f 210 [(.t 28)]),
 .s 30 (.un .not (.t 29)),
 .s 31 (.m 30),
 .x 32 (.m 5) 31,
 .x 33 (.f 210 [(.t 32)]) 31,
 .x 34 (.un .not (.t 33)) 31,
 .s 35 (.pick (.t 31) (.c (.bool true)) (.t 34)),
 .s 36 (.m 35),
 .x 37 (.m 4) 36,
 .x 38 (.lens (.t 37)) 36,
 .x 39 (.bin .gtr (.t 38) (.i 1)) 36,
 .x 40 (.m 39) 36,
 .y 41 (.m 4) 40,
 .y 42 (.ichr (.t 41) (.i 0)) 40,
 .y 43 (.bin .eql (.t 42) (.c (.int .u8 48))) 40,
 .x 44 (.pick (.t 40) (.t 43) (.c (.bool false))) 36,
 .s 45 (.pick (.t 36) (.c (.bool true)) (.t 44))],
 .cond (.t 45) 37 40,
 .seq 38 39,
 .reg [.s 2 (.mv (.i 0)),
 .s 3 (.mv (.i 3))],
 .ret,
 .skip,
 .seq 42 52,
 .block 2 43,
 .loop 44,
 .seq 45 50,
 .seq 46 47,
 .reg [.s 46 (.m 5),
 .s 47 (.lens (.t 46)),
 .s 48 (.bin .lss (.t 47) (.i 3))],
 .cond (.t 48) 48 49,
 .skip,
 .exit 2,
 .block 3 51,
 .reg [.s 49 (.m 5),
 .s 50 (.bin .add (.t 49) (.w [48])),
 .s 5 (.m 50)],
 .seq 53 54,
 .reg [.s 51 (.m 4),
 .s 52 (.f 211 [(.t 51)]),
 .s 53 (.bin .mul (.i 1000) (.t 52)),
 .s 54 (.m 5),
 .s 55 (.f 211 [(.t 54)]),
 .s 56 (.bin .add (.t 53) (.t 55)),
 .s 7 (.m 56)],
 .seq 55 62,
 .seq 56 57,
 .reg [.s 57 (.m 7),
 .s 58 (.bin .gtr (.t 57) (.i 100000))],
 .cond (.t 58) 58 61,
 .seq 59 60,
 .reg [.s 2 (.mv (.i 0)),
 .s 3 (.mv (.i 2))],
 .ret,
 .skip,
 .seq 63 64,
 .reg [.s 59 (.m 7),
 .s 60 (.f 212 [(.t 59)]),
 .s 2 (.m 60),
 .s 3 (.mv (.i 0))],
 .ret]⟩
def F184 : FT := ⟨54, 1, [.tmp 2],
 [.seq 1 2,
 .reg [.s 2 (.mv (.i 0))],
 .seq 3 4,
 .reg [.s 7 (.m 0),
 .s 8 (.f 39 [(.t 7)]),
 .s 6 (.m 8),
 .s 9 (.ext 0 (.t 6)),
 .s 10 (.ext 1 (.t 6)),
 .s 11 (.ext 2 (.t 6)),
 .s 3 (.m 9),
 .s 4 (.m 10),
 .s 5 (.m 11)],
 .seq 5 12,
 .seq 6 7,
 .reg [.s 12 (.m 3),
 .s 13 (.f 213 [(.t 12)]),
 .s 14 (.un .not (.t 13)),
 .s 15 (.m 14),
 .x 16 (.m 5) 15,
 .x 17 (.m 16) 15,
 .y 18 (.m 4) 17,
 .y 19 (.f 213 [(.t 18)]) 17,
 .y 20 (.un .not (.t 19)) 17,
 .x 21 (.pick (.t 17) (.t 20) (.c (.bool false))) 15,
 .s 22 (.pick (.t 15) (.c (.bool true)) (.t 21))],
 .cond (.t 22) 8 11,
 .seq 9 10,
 .reg [.s 2 (.mv (.i 3))],
 .ret,
 .skip,
 .seq 13 20,
 .seq 14 15,
 .reg [.s 23 (.m 3),
 .s 24 (.lens (.t 23)),
 .s 25 (.bin .gtr (.t 24) (.i 1)),
 .s 26 (.m 25),
 .y 27 (.m 3) 26,
 .y 28 (.ichr (.t 27) (.i 0)) 26,
 .y 29 (.bin .eql (.t 28) (.c (.int .u8 48))) 26,
 .s 30 (.pick (.t 26) (.t 29) (.c (.bool false))),
 .s 31 (.m 30),
 .x 32 (.m 5) 31,
 .x 33 (.m 32) 31,
 .y 34 (.m 4) 33,
 .y 35 (.m 4) 33,
 .y 36 (.lens (.t 35)) 33,
 .y 37 (.bin .sub (.t 36) (.i 1)) 33,
 .y 38 (.ichr (.t 34) (.t 37)) 33,
 .y 39 (.bin .eql (.t 38) (.c (.int .u8 48))) 33,
 .x 40 (.pick (.t 33) (.t 39) (.c (.bool false))) 31,
 .s 41 (.pick (.t 31) (.c (.bool true)) (.t 40))],
 .cond (.t 41) 16 19,
 .seq 17 18,
 .reg [.s 2 (.mv (.i 3))],
 .ret,
 .skip,
 .seq 21 28,
 .seq 22 23,
 .reg [.s 42 (.m 0),
 .s 43 (.bin .eql (.t 42) (.w [48])),
 .s 44 (.m 43),
 .x 45 (.m 3) 44,
 .x 46 (.lens (.t 45)) 44,
 .x 47 (.bin .gtr (.t 46) (.i 4)) 44,
 .s 48 (.pick (.t 44) (.c (.bool true)) (.t 47)),
 .s 49 (.m 48),
 .x 50 (.m 4) 49,
 .x 51 (.lens (.t 50)) 49,
 .x 52 (.bin .gtr (.t 51) (.i 3)) 49,
 .s 53 (.pick (.t 49) (.c (.bool true)) (.t 52))],
 .cond (.t 53) 24 27,
 .seq 25 26,
 .reg [.s 2 (.mv (.i 2))],
 .ret,
 .skip,
 .seq 29 30,
 .reg [.s 2 (.mv (.i 0))],
 .ret]⟩
def F210 : FT := ⟨28, 1, [.tmp 2],
 [.seq 1 2,
 .reg [.s 2 (.mv (.c (.bool false)))],
 .seq 3 23,
 .seq 4 5,
 .reg [.s 3 (.mv (.i 0))],
 .block 0 6,
 .loop 7,
 .seq 8 13,
 .seq 9 10,
 .reg [.s 4 (.m 3),
 .s 5 (.m 0),
 .s 6 (.lens (.t 5)),
 .s 7 (.bin .lss (.t 4) (.t 6))],
 .cond (.t 7) 11 12,
 .skip,
 .exit 0,
 .seq 14 22,
 .block 1 15,
 .seq 16 17,
 .reg [.s 10 (.m 0),
 .s 11 (.m 3),
 .s 12 (.ichr (.t 10) (.t 11)),
 .s 13 (.bin .lss (.t 12) (.c (.int .u8 48))),
 .s 14 (.m 13),
 .x 15 (.m 0) 14,
 .x 16 (.m 3) 14,
 .x 17 (.ichr (.t 15) (.t 16)) 14,
 .x 18 (.bin .gtr (.t 17) (.c (.int .u8 57))) 14,
 .s 19 (.pick (.t 14) (.c (.bool true)) (.t 18))],
 .cond (.t 19) 18 21,
 .seq 19 20,
 .reg [.s 2 (.mv (.c (.bool false)))],
 .ret,
 .skip,
 .reg [.s 8 (.m 3),
 .s 9 (.bin .add (.t 8) (.i 1)),
 .s 3 (.m 9)],
 .seq 24 25,
 .reg [.s 20 (.m 0),
 .s 21 (.lens (.t 20)),
 .s 22 (.bin .geq (.t 21) (.i 1)),
 .s 23 (.m 22),
 .y 24 (.m 0) 23,
 .y 25 (.lens (.t 24)) 23,
 .y 26 (.bin .leq (.t 25) (.i 3)) 23,
 .s 27 (.pick (.t 23) (.t 26) (.c (.bool false))),
 .s 2 (.m 27)],
 .ret]⟩
def F211 : FT := ⟨20, 1, [.tmp 2],
 [.seq 1 2,
 .reg [.s 2 (.mv (.i 0))],
 .seq 3 4,
 .reg [.s 3 (.mv (.i 0))],
 .seq 5 19,
 .seq 6 7,
 .reg [.s 4 (.mv (.i 0))],
 .block 0 8,
 .loop 9,
 .seq 10 15,
 .seq 11 12,
 .reg [.s 5 (.m 4),
 .s 6 (.m 0),
 .s 7 (.lens (.t 6)),
 .s 8 (.bin .lss (.t 5) (.t 7))],
 .cond (.t 8) 13 14,
 .skip,
 .exit 0,
 .seq 16 18,
 .block 1 17,
 .reg [.s 11 (.m 3),
 .s 12 (.bin .mul (.i 10) (.t 11)),
 .s 13 (.m 0),
 .s 14 (.m 4),
 .s 15 (.ichr (.t 13) (.t 14)),
 .s 16 (.bin .sub (.t 15) (.c (.int .u8 48))),
 .s 17 (.cvi .i64 (.t 16)),
 .s 18 (.bin .add (.t 12) (.t 17)),
 .s 3 (.m 18)],
 .reg [.s 9 (.m 4),
 .s 10 (.bin .add (.t 9) (.i 1)),
 .s 4 (.m 10)],
 .seq 20 21,
 .reg [.s 19 (.m 3),
 .s 2 (.m 19)],
 .ret]⟩
def F212 : FT := ⟨7, 1, [.tmp 2],
 [.seq 1 2,
 .reg [.s 2 (.mv (.i 0))],
 .seq 3 4,
 .reg [.s 3 (.m 0),
 .s 4 (.bin .mul (.i 65535) (.t 3)),
 .s 5 (.bin .add (.t 4) (.i 50000)),
 .s 6 (.bin .quo (.t 5) (.i 100000)),
 .s 2 (.m 6)],
 .ret]⟩
def F213 : FT := ⟨23, 1, [.tmp 2],
 [.seq 1 2,
 .reg [.s 2 (.mv (.c (.bool false)))],
 .seq 3 23,
 .seq 4 5,
 .reg [.s 3 (.mv (.i 0))],
 .block 0 6,
 .loop 7,
 .seq 8 13,
 .seq 9 10,
 .reg [.s 4 (.m 3),
 .s 5 (.m 0),
 .s 6 (.lens (.t 5)),
 .s 7 (.bin .lss (.t 4) (.t 6))],
 .cond (.t 7) 11 12,
 .skip,
 .exit 0,
 .seq 14 22,
 .block 1 15,
 .seq 16 17,
 .reg [.s 10 (.m 0),
 .s 11 (.m 3),
 .s 12 (.ichr (.t 10) (.t 11)),
 .s 13 (.bin .lss (.t 12) (.c (.int .u8 48))),
 .s 14 (.m 13),
 .x 15 (.m 0) 14,
 .x 16 (.m 3) 14,
 .x 17 (.ichr (.t 15) (.t 16)) 14,
 .x 18 (.bin .gtr (.t 17) (.c (.int .u8 57))) 14,
 .s 19 (.pick (.t 14) (.c (.bool true)) (.t 18))],
 .cond (.t 19) 18 21,
 .seq 19 20,
 .reg [.s 2 (.mv (.c (.bool false)))],
 .ret,
 .skip,
 .reg [.s 8 (.m 3),
 .s 9 (.bin .add (.t 8) (.i 1)),
 .s 3 (.m 9)],
 .seq 24 25,
 .reg [.s 20 (.m 0),
 .s 21 (.lens (.t 20)),
 .s 22 (.bin .gtr (.t 21) (.i 0)),
 .s 2 (.m 22)],
 .ret]⟩
theorem F14_ok : compFn Tryz.prog 14 = some F14 := by kernel_rfl
theorem F16_ok : compFn Tryz.prog 16 = some F16 := by kernel_rfl
theorem F33_ok : compFn Tryz.prog 33 = some F33 := by kernel_rfl
theorem F34_ok : compFn Tryz.prog 34 = some F34 := by kernel_rfl
theorem F39_ok : compFn Tryz.prog 39 = some F39 := by kernel_rfl
theorem F40_ok : compFn Tryz.prog 40 = some F40 := by kernel_rfl
theorem F41_ok : compFn Tryz.prog 41 = some F41 := by kernel_rfl
theorem F42_ok : compFn Tryz.prog 42 = some F42 := by kernel_rfl
theorem F183_ok : compFn Tryz.prog 183 = some F183 := by kernel_rfl
theorem F184_ok : compFn Tryz.prog 184 = some F184 := by kernel_rfl
theorem F210_ok : compFn Tryz.prog 210 = some F210 := by kernel_rfl
theorem F211_ok : compFn Tryz.prog 211 = some F211 := by kernel_rfl
theorem F212_ok : compFn Tryz.prog 212 = some F212 := by kernel_rfl
theorem F213_ok : compFn Tryz.prog 213 = some F213 := by kernel_rfl
theorem all_no {s : List UInt8} {j : Nat} {b : UInt8} (h : s[j]? = some b) (hd : digB b = false) : s.all digB = false := by
 rw [List.all_eq_false]; exact ⟨b, List.mem_of_getElem? h, by rw [hd]; decide⟩
theorem digB_lo {b : UInt8} (h : decide ((b.toNat : Int) < 48) = true) : digB b = false := by
 simp only [decide_eq_true_eq] at h
 simp only [digB, isDig, Bool.and_eq_false_iff, decide_eq_false_iff_not]; omega
theorem digB_hi {b : UInt8} (h : decide (57 < (b.toNat : Int)) = true) : digB b = false := by
 simp only [decide_eq_true_eq] at h
 simp only [digB, isDig, Bool.and_eq_false_iff, decide_eq_false_iff_not]; omega
theorem digB_mid {b : UInt8} (h : decide ((b.toNat : Int) < 48) = false) (h' : decide (57 < (b.toNat : Int)) = false) : digB b = true := by
 simp only [decide_eq_false_iff_not] at h h'
 simp only [digB, isDig, Bool.and_eq_true, decide_eq_true_eq]; omega
theorem qdigits_v (s : List UInt8) (st : St) (hs : s.length < 140737488355328) : VRet Tryz.prog 40 [.str s] st (.bool (digsB s)) st := by
 refine vc F40_ok rfl (fun hwf => ?_)
 (repeat' first | ((first | refine go rfl rfl ?_ | (refine Fk.by_ ?_ ?_ <;> intro hc <;> try simp only [hc]) | refine storeK_eq rfl ?_ | with_reducible refine an ?_ ?_) <;> try simp only [push_cast, ed, reduceCtorEq, ld]))
 refine WT_loop rfl (fun n e z => ∃ j : Nat, n = s.length - j ∧ j ≤ s.length ∧ (s.take j).all digB = true ∧ e = [(3, .int .i64 (j : Int)), (2, .bool false), (0, .str s)] ∧ st = z) st.nx (Nat.le_refl _) (by rintro _ _ _ ⟨j, _, _, _, _, rfl⟩; rfl)
  ⟨_, _, _, ⟨0, rfl, Nat.zero_le _, rfl, rfl, rfl⟩, (by repeat first | exact .nil | refine .cons (by first | rfl | (simp [V.bd, V.bdL]; try first | omega | assumption)) (by first | rfl | simp only [push_cast, ed, reduceCtorEq, ld]) ?_), .refl hwf⟩ ?_
 rintro n e z ⟨j, rfl, hj, hr, rfl, rfl⟩
 rcases Nat.lt_or_ge j s.length with hlt | hge
 ·obtain ⟨b, hb⟩ : ∃ b, s[j]? = some b := ⟨_, List.getElem?_eq_getElem hlt⟩
  have h2 : decide ((j : Int) < (s.length : Int)) = true := decide_eq_true (by omega)
  have hwr : IntKind.i64.wrap ((j : Int) + 1) = (j : Int) + 1 := wrap64 (by omega) (by omega)
  have hno : digB b = false → digsB s = false := fun h => by
   have : s.all digB = false := all_no hb h
   simp [digsB, this]
  (repeat' first | ((first | refine go rfl rfl ?_ | (refine Fk.by_ ?_ ?_ <;> intro hc <;> try simp only [hc]) | refine storeK_eq rfl ?_ | with_reducible refine an ?_ ?_) <;> try simp only [h2, hwr, hb, push_cast, ed, reduceCtorEq, ld]))
  ·rw [hno (digB_lo hc)]
   exact finRet0 hwf rfl rfl rfl
  ·rw [hno (digB_hi hc)]
   exact finRet0 hwf rfl rfl rfl
  ·exact ⟨_, _, _, by omega, ⟨j + 1, rfl, by omega, by rw [List.take_add_one, hb, List.all_append, hr]; simp [digB_mid (by assumption) hc], rfl, rfl⟩, (by repeat first | exact .nil | refine .cons (by first | rfl | (simp [V.bd, V.bdL]; try first | omega | assumption)) (by first | rfl | simp only [push_cast, ed, reduceCtorEq, ld]) ?_), .refl hwf⟩
 ·have h2 : decide ((j : Int) < (s.length : Int)) = false := decide_eq_false (by omega)
  have ej : j = s.length := by omega
  subst ej
  rw [List.take_length] at hr
  cases s with
  | nil =>
   (repeat' first | ((first | refine go rfl rfl ?_ | (refine Fk.by_ ?_ ?_ <;> intro hc <;> try simp only [hc]) | refine storeK_eq rfl ?_ | with_reducible refine an ?_ ?_) <;> try simp only [h2, push_cast, ed, reduceCtorEq, ld]))
   all_goals exact finRet0 hwf rfl rfl rfl
  | cons b t =>
   have hh : (((b.toNat : Int)) != 48) = ((b :: t)[0]? != some 48) := by
    rw [Bool.eq_iff_iff]; simp only [bne_iff_ne, ne_eq, List.getElem?_cons_zero, Option.some.injEq]
    constructor
    ·rintro h rfl; exact h rfl
    ·intro h e; exact h (UInt8.toNat_inj.1 (by have : (48 : UInt8).toNat = 48 := rfl; omega))
   have hl : ((t.length : Int) + 1 == 1) = ((b :: t).length == 1) := by
    rw [Bool.eq_iff_iff]; simp only [beq_iff_eq, List.length_cons]; omega
   have hg : decide (1 < (t.length : Int) + 1) = !((b :: t).length == 1) := by
    rw [Bool.eq_iff_iff]; simp only [decide_eq_true_eq, Bool.not_eq_true', beq_eq_false_iff_ne, List.length_cons]; omega
   have hR : digsB (b :: t) = (((b :: t).length == 1) || ((b :: t)[0]? != some 48)) := by simp [digsB, hr]
   have h2' : decide ((t.length : Int) + 1 < (t.length : Int) + 1) = false := decide_eq_false (by omega)
   (repeat' first | ((first | refine go rfl rfl ?_ | (refine Fk.by_ ?_ ?_ <;> intro hc <;> try simp only [hc]) | refine storeK_eq rfl ?_ | with_reducible refine an ?_ ?_) <;> try simp only [h2', hl, hg, hh, push_cast, ed, reduceCtorEq, ld]))
   all_goals first | exact finRet0 hwf rfl (by rw [hR]; simp_all [resOne]) rfl
theorem qdecimals_v (s : List UInt8) (st : St) (hs : s.length < 140737488355328) : VRet Tryz.prog 41 [.str s] st (.bool (dig3 s)) st := by
 refine vc F41_ok rfl (fun hwf => ?_)
 (repeat' first | ((first | refine go rfl rfl ?_ | (refine Fk.by_ ?_ ?_ <;> intro hc <;> try simp only [hc]) | refine storeK_eq rfl ?_ | with_reducible refine an ?_ ?_) <;> try simp only [push_cast, ed, reduceCtorEq, ld]))
 refine WT_loop rfl (fun n e z => ∃ j : Nat, n = s.length - j ∧ j ≤ s.length ∧ (s.take j).all digB = true ∧ e = [(3, .int .i64 (j : Int)), (2, .bool false), (0, .str s)] ∧ st = z) st.nx (Nat.le_refl _) (by rintro _ _ _ ⟨j, _, _, _, _, rfl⟩; rfl)
  ⟨_, _, _, ⟨0, rfl, Nat.zero_le _, rfl, rfl, rfl⟩, (by repeat first | exact .nil | refine .cons (by first | rfl | (simp [V.bd, V.bdL]; try first | omega | assumption)) (by first | rfl | simp only [push_cast, ed, reduceCtorEq, ld]) ?_), .refl hwf⟩ ?_
 rintro n e z ⟨j, rfl, hj, hr, rfl, rfl⟩
 rcases Nat.lt_or_ge j s.length with hlt | hge
 ·obtain ⟨b, hb⟩ : ∃ b, s[j]? = some b := ⟨_, List.getElem?_eq_getElem hlt⟩
  have h2 : decide ((j : Int) < (s.length : Int)) = true := decide_eq_true (by omega)
  have hwr : IntKind.i64.wrap ((j : Int) + 1) = (j : Int) + 1 := wrap64 (by omega) (by omega)
  have hno : digB b = false → dig3 s = false := fun h => by
   have : s.all digB = false := all_no hb h
   simp [dig3, this]
  (repeat' first | ((first | refine go rfl rfl ?_ | (refine Fk.by_ ?_ ?_ <;> intro hc <;> try simp only [hc]) | refine storeK_eq rfl ?_ | with_reducible refine an ?_ ?_) <;> try simp only [h2, hwr, hb, push_cast, ed, reduceCtorEq, ld]))
  ·rw [hno (digB_lo hc)]
   exact finRet0 hwf rfl rfl rfl
  ·rw [hno (digB_hi hc)]
   exact finRet0 hwf rfl rfl rfl
  ·exact ⟨_, _, _, by omega, ⟨j + 1, rfl, by omega, by rw [List.take_add_one, hb, List.all_append, hr]; simp [digB_mid (by assumption) hc], rfl, rfl⟩, (by repeat first | exact .nil | refine .cons (by first | rfl | (simp [V.bd, V.bdL]; try first | omega | assumption)) (by first | rfl | simp only [push_cast, ed, reduceCtorEq, ld]) ?_), .refl hwf⟩
 ·have h2 : decide ((j : Int) < (s.length : Int)) = false := decide_eq_false (by omega)
  have ej : j = s.length := by omega
  subst ej
  rw [List.take_length] at hr
  cases s with
  | nil =>
   (repeat' first | ((first | refine go rfl rfl ?_ | (refine Fk.by_ ?_ ?_ <;> intro hc <;> try simp only [hc]) | refine storeK_eq rfl ?_ | with_reducible refine an ?_ ?_) <;> try simp only [h2, push_cast, ed, reduceCtorEq, ld]))
   all_goals exact finRet0 hwf rfl rfl rfl
  | cons b t =>
   have hl : decide (1 ≤ (t.length : Int) + 1) = decide (1 ≤ (b :: t).length) := by rw [decide_eq_decide]; simp only [List.length_cons]; omega
   have hg : decide ((t.length : Int) + 1 ≤ 3) = decide ((b :: t).length ≤ 3) := by rw [decide_eq_decide]; simp only [List.length_cons]; omega
   have hR : dig3 (b :: t) = (decide (1 ≤ (b :: t).length) && decide ((b :: t).length ≤ 3)) := by unfold dig3; rw [hr, Bool.and_true]
   have h2' : decide ((t.length : Int) + 1 < (t.length : Int) + 1) = false := decide_eq_false (by omega)
   (repeat' first | ((first | refine go rfl rfl ?_ | (refine Fk.by_ ?_ ?_ <;> intro hc <;> try simp only [hc]) | refine storeK_eq rfl ?_ | with_reducible refine an ?_ ?_) <;> try simp only [h2', hl, hg, push_cast, ed, reduceCtorEq, ld]))
   all_goals first | exact finRet0 hwf rfl (by rw [hR]; simp_all [resOne]) rfl
theorem q4digits_v (s : List UInt8) (st : St) (hs : s.length < 140737488355328) : VRet Tryz.prog 210 [.str s] st (.bool (dig3 s)) st := by
 refine vc F210_ok rfl (fun hwf => ?_)
 (repeat' first | ((first | refine go rfl rfl ?_ | (refine Fk.by_ ?_ ?_ <;> intro hc <;> try simp only [hc]) | refine storeK_eq rfl ?_ | with_reducible refine an ?_ ?_) <;> try simp only [push_cast, ed, reduceCtorEq, ld]))
 refine WT_loop rfl (fun n e z => ∃ j : Nat, n = s.length - j ∧ j ≤ s.length ∧ (s.take j).all digB = true ∧ e = [(3, .int .i64 (j : Int)), (2, .bool false), (0, .str s)] ∧ st = z) st.nx (Nat.le_refl _) (by rintro _ _ _ ⟨j, _, _, _, _, rfl⟩; rfl)
  ⟨_, _, _, ⟨0, rfl, Nat.zero_le _, rfl, rfl, rfl⟩, (by repeat first | exact .nil | refine .cons (by first | rfl | (simp [V.bd, V.bdL]; try first | omega | assumption)) (by first | rfl | simp only [push_cast, ed, reduceCtorEq, ld]) ?_), .refl hwf⟩ ?_
 rintro n e z ⟨j, rfl, hj, hr, rfl, rfl⟩
 rcases Nat.lt_or_ge j s.length with hlt | hge
 ·obtain ⟨b, hb⟩ : ∃ b, s[j]? = some b := ⟨_, List.getElem?_eq_getElem hlt⟩
  have h2 : decide ((j : Int) < (s.length : Int)) = true := decide_eq_true (by omega)
  have hwr : IntKind.i64.wrap ((j : Int) + 1) = (j : Int) + 1 := wrap64 (by omega) (by omega)
  have hno : digB b = false → dig3 s = false := fun h => by
   have : s.all digB = false := all_no hb h
   simp [dig3, this]
  (repeat' first | ((first | refine go rfl rfl ?_ | (refine Fk.by_ ?_ ?_ <;> intro hc <;> try simp only [hc]) | refine storeK_eq rfl ?_ | with_reducible refine an ?_ ?_) <;> try simp only [h2, hwr, hb, push_cast, ed, reduceCtorEq, ld]))
  ·rw [hno (digB_lo hc)]
   exact finRet0 hwf rfl rfl rfl
  ·rw [hno (digB_hi hc)]
   exact finRet0 hwf rfl rfl rfl
  ·exact ⟨_, _, _, by omega, ⟨j + 1, rfl, by omega, by rw [List.take_add_one, hb, List.all_append, hr]; simp [digB_mid (by assumption) hc], rfl, rfl⟩, (by repeat first | exact .nil | refine .cons (by first | rfl | (simp [V.bd, V.bdL]; try first | omega | assumption)) (by first | rfl | simp only [push_cast, ed, reduceCtorEq, ld]) ?_), .refl hwf⟩
 ·have h2 : decide ((j : Int) < (s.length : Int)) = false := decide_eq_false (by omega)
  have ej : j = s.length := by omega
  subst ej
  rw [List.take_length] at hr
  cases s with
  | nil =>
   (repeat' first | ((first | refine go rfl rfl ?_ | (refine Fk.by_ ?_ ?_ <;> intro hc <;> try simp only [hc]) | refine storeK_eq rfl ?_ | with_reducible refine an ?_ ?_) <;> try simp only [h2, push_cast, ed, reduceCtorEq, ld]))
   all_goals exact finRet0 hwf rfl rfl rfl
  | cons b t =>
   have hl : decide (1 ≤ (t.length : Int) + 1) = decide (1 ≤ (b :: t).length) := by rw [decide_eq_decide]; simp only [List.length_cons]; omega
   have hg : decide ((t.length : Int) + 1 ≤ 3) = decide ((b :: t).length ≤ 3) := by rw [decide_eq_decide]; simp only [List.length_cons]; omega
   have hR : dig3 (b :: t) = (decide (1 ≤ (b :: t).length) && decide ((b :: t).length ≤ 3)) := by unfold dig3; rw [hr, Bool.and_true]
   have h2' : decide ((t.length : Int) + 1 < (t.length : Int) + 1) = false := decide_eq_false (by omega)
   (repeat' first | ((first | refine go rfl rfl ?_ | (refine Fk.by_ ?_ ?_ <;> intro hc <;> try simp only [hc]) | refine storeK_eq rfl ?_ | with_reducible refine an ?_ ?_) <;> try simp only [h2', hl, hg, push_cast, ed, reduceCtorEq, ld]))
   all_goals first | exact finRet0 hwf rfl (by rw [hR]; simp_all [resOne]) rfl
theorem q5digits_v (s : List UInt8) (st : St) (hs : s.length < 140737488355328) : VRet Tryz.prog 213 [.str s] st (.bool (digs1 s)) st := by
 refine vc F213_ok rfl (fun hwf => ?_)
 (repeat' first | ((first | refine go rfl rfl ?_ | (refine Fk.by_ ?_ ?_ <;> intro hc <;> try simp only [hc]) | refine storeK_eq rfl ?_ | with_reducible refine an ?_ ?_) <;> try simp only [push_cast, ed, reduceCtorEq, ld]))
 refine WT_loop rfl (fun n e z => ∃ j : Nat, n = s.length - j ∧ j ≤ s.length ∧ (s.take j).all digB = true ∧ e = [(3, .int .i64 (j : Int)), (2, .bool false), (0, .str s)] ∧ st = z) st.nx (Nat.le_refl _) (by rintro _ _ _ ⟨j, _, _, _, _, rfl⟩; rfl)
  ⟨_, _, _, ⟨0, rfl, Nat.zero_le _, rfl, rfl, rfl⟩, (by repeat first | exact .nil | refine .cons (by first | rfl | (simp [V.bd, V.bdL]; try first | omega | assumption)) (by first | rfl | simp only [push_cast, ed, reduceCtorEq, ld]) ?_), .refl hwf⟩ ?_
 rintro n e z ⟨j, rfl, hj, hr, rfl, rfl⟩
 rcases Nat.lt_or_ge j s.length with hlt | hge
 ·obtain ⟨b, hb⟩ : ∃ b, s[j]? = some b := ⟨_, List.getElem?_eq_getElem hlt⟩
  have h2 : decide ((j : Int) < (s.length : Int)) = true := decide_eq_true (by omega)
  have hwr : IntKind.i64.wrap ((j : Int) + 1) = (j : Int) + 1 := wrap64 (by omega) (by omega)
  have hno : digB b = false → digs1 s = false := fun h => by
   have : s.all digB = false := all_no hb h
   simp [digs1, this]
  (repeat' first | ((first | refine go rfl rfl ?_ | (refine Fk.by_ ?_ ?_ <;> intro hc <;> try simp only [hc]) | refine storeK_eq rfl ?_ | with_reducible refine an ?_ ?_) <;> try simp only [h2, hwr, hb, push_cast, ed, reduceCtorEq, ld]))
  ·rw [hno (digB_lo hc)]
   exact finRet0 hwf rfl rfl rfl
  ·rw [hno (digB_hi hc)]
   exact finRet0 hwf rfl rfl rfl
  ·exact ⟨_, _, _, by omega, ⟨j + 1, rfl, by omega, by rw [List.take_add_one, hb, List.all_append, hr]; simp [digB_mid (by assumption) hc], rfl, rfl⟩, (by repeat first | exact .nil | refine .cons (by first | rfl | (simp [V.bd, V.bdL]; try first | omega | assumption)) (by first | rfl | simp only [push_cast, ed, reduceCtorEq, ld]) ?_), .refl hwf⟩
 ·have h2 : decide ((j : Int) < (s.length : Int)) = false := decide_eq_false (by omega)
  have ej : j = s.length := by omega
  subst ej
  rw [List.take_length] at hr
  cases s with
  | nil =>
   (repeat' first | ((first | refine go rfl rfl ?_ | (refine Fk.by_ ?_ ?_ <;> intro hc <;> try simp only [hc]) | refine storeK_eq rfl ?_ | with_reducible refine an ?_ ?_) <;> try simp only [h2, push_cast, ed, reduceCtorEq, ld]))
   all_goals exact finRet0 hwf rfl rfl rfl
  | cons b t =>
   have hR : digs1 (b :: t) = true := by simp [digs1, hr]
   have hg : decide (0 < (t.length : Int) + 1) = true := decide_eq_true (by omega)
   have h2' : decide ((t.length : Int) + 1 < (t.length : Int) + 1) = false := decide_eq_false (by omega)
   rw [hR]
   (repeat' first | ((first | refine go rfl rfl ?_ | (refine Fk.by_ ?_ ?_ <;> intro hc <;> try simp only [hc]) | refine storeK_eq rfl ?_ | with_reducible refine an ?_ ?_) <;> try simp only [h2', hg, push_cast, ed, reduceCtorEq, ld]))
   all_goals first | exact finRet0 hwf rfl rfl rfl
theorem posB_at {c : UInt8} : ∀ {s : List UInt8} {j : Nat}, (∀ i < j, s[i]? ≠ some c) → s[j]? = some c → posB c s = j
 | [], j, _, h => by simp at h
 | b :: s, 0, _, h => by
  simp at h; subst h
  rw [posB_cons, if_pos (by simp)]
 | b :: s, j + 1, h, h' => by
  have hb : ¬ (b == c) = true := fun e => h 0 (by omega) (by simpa using e)
  rw [posB_cons, if_neg hb, posB_at (s := s) (j := j) (fun i hi e => h (i + 1) (by omega) (by simpa using e)) (by simpa using h')]
theorem posB_none {c : UInt8} : ∀ {s : List UInt8}, (∀ i < s.length, s[i]? ≠ some c) → posB c s = s.length
 | [], _ => rfl
 | b :: s, h => by
  have hb : ¬ (b == c) = true := fun e => h 0 (by simp) (by simpa using e)
  rw [posB_cons, if_neg hb, posB_none (s := s) (fun i hi e => h (i + 1) (by simpa using hi) (by simpa using e))]; rfl
theorem qsplit_v (s : List UInt8) (st : St) (hs : s.length < 140737488355328) : VRet Tryz.prog 39 [.str s] st (.tup [.str (cutW 46 s), .str (cutR 46 s), .bool (cutP 46 s)]) st := by
 refine vc F39_ok rfl (fun hwf => ?_)
 (repeat' first | ((first | refine go rfl rfl ?_ | (refine Fk.by_ ?_ ?_ <;> intro hc <;> try simp only [hc]) | refine storeK_eq rfl ?_ | with_reducible refine an ?_ ?_) <;> try simp only [push_cast, ed, reduceCtorEq, ld]))
 refine WT_loop rfl (fun n e z => ∃ j : Nat, n = s.length - j ∧ j ≤ s.length ∧ (∀ i < j, s[i]? ≠ some 46) ∧ e = [(5, .int .i64 (j : Int)), (4, .bool false), (3, .str []), (2, .str []), (0, .str s)] ∧ st = z) st.nx (Nat.le_refl _) (by rintro _ _ _ ⟨j, _, _, _, _, rfl⟩; rfl)
  ⟨_, _, _, ⟨0, rfl, Nat.zero_le _, fun i hi => absurd hi (Nat.not_lt_zero _), rfl, rfl⟩, (by repeat first | exact .nil | refine .cons (by first | rfl | (simp [V.bd, V.bdL]; try first | omega | assumption)) (by first | rfl | simp only [push_cast, ed, reduceCtorEq, ld]) ?_), .refl hwf⟩ ?_
 rintro n e z ⟨j, rfl, hj, hr, rfl, rfl⟩
 rcases Nat.lt_or_ge j s.length with hlt | hge
 ·obtain ⟨b, hb⟩ : ∃ b, s[j]? = some b := ⟨_, List.getElem?_eq_getElem hlt⟩
  have h2 : decide ((j : Int) < (s.length : Int)) = true := decide_eq_true (by omega)
  have hwr : IntKind.i64.wrap ((j : Int) + 1) = (j : Int) + 1 := wrap64 (by omega) (by omega)
  have hle : j ≤ s.length := hj
  have hlt1 : j + 1 ≤ s.length := hlt
  (repeat' first | ((first | refine go rfl rfl ?_ | (refine Fk.by_ ?_ ?_ <;> intro hc <;> try simp only [hc]) | refine storeK_eq rfl ?_ | with_reducible refine an ?_ ?_) <;> try simp only [h2, hwr, hb, hle, hlt1, Nat.zero_le, Nat.le_refl, List.take_length, List.drop_zero, push_cast, ed, reduceCtorEq, ld]))
  ·have hb' : b = 46 := UInt8.toNat_inj.1 (by have : (46 : UInt8).toNat = 46 := rfl; simp at hc; omega)
   subst hb'
   have hp := posB_at hr hb
   have e1 : cutW 46 s = s.take j := by unfold cutW; rw [hp]
   have e2 : cutR 46 s = s.drop (j + 1) := by unfold cutR; rw [hp]
   have e3 : cutP 46 s = true := decide_eq_true (by rw [hp]; exact hlt)
   rw [e1, e2, e3]
   exact finRet0 hwf rfl rfl rfl
  ·refine ⟨_, _, _, by omega, ⟨j + 1, rfl, by omega, fun i hi => ?_, rfl, rfl⟩, (by repeat first | exact .nil | refine .cons (by first | rfl | (simp [V.bd, V.bdL]; try first | omega | assumption)) (by first | rfl | simp only [push_cast, ed, reduceCtorEq, ld]) ?_), .refl hwf⟩
   rcases Nat.lt_or_ge i j with h | h
   ·exact hr i h
   ·have : i = j := by omega
    subst this
    rw [hb]
    intro e
    cases e
    simp at hc
 ·have h2 : decide ((j : Int) < (s.length : Int)) = false := decide_eq_false (by omega)
  have ej : j = s.length := by omega
  subst ej
  have hp := posB_none hr
  have e1 : cutW 46 s = s := by unfold cutW; rw [hp, List.take_length]
  have e2 : cutR 46 s = [] := by unfold cutR; exact List.drop_eq_nil_of_le (by omega)
  have e3 : cutP 46 s = false := decide_eq_false (by omega)
  rw [e1, e2, e3]
  (repeat' first | ((first | refine go rfl rfl ?_ | (refine Fk.by_ ?_ ?_ <;> intro hc <;> try simp only [hc]) | refine storeK_eq rfl ?_ | with_reducible refine an ?_ ?_) <;> try simp only [h2, push_cast, ed, reduceCtorEq, ld]))
  all_goals exact finRet0 hwf rfl rfl rfl
def numR (s : List UInt8) : Nat := min (numD s) 1000000000
theorem numD_snoc {s : List UInt8} {b : UInt8} : numD (s ++ [b]) = 10 * numD s + (b.toNat - 48) := by simp [numD]
theorem numR_snoc {s : List UInt8} {b : UInt8} : numR (s ++ [b]) = min (10 * numR s + (b.toNat - 48)) 1000000000 := by
 unfold numR; rw [numD_snoc]; omega
theorem u8sub {b : UInt8} (h : digB b = true) : IntKind.u8.wrap ((b.toNat : Int) - 48) = ((b.toNat - 48 : Nat) : Int) ∧ b.toNat - 48 ≤ 9 := by
 simp only [digB, isDig, Bool.and_eq_true, decide_eq_true_eq] at h
 refine ⟨?_, by omega⟩
 show ((b.toNat : Int) - 48) % 256 = _
 omega
theorem qnumber_v (s : List UInt8) (st : St) (hs : s.length < 140737488355328) (hd : s.all digB = true) : VRet Tryz.prog 42 [.str s] st (.int .i64 (numR s)) st := by
 refine vc F42_ok rfl (fun hwf => ?_)
 (repeat' first | ((first | refine go rfl rfl ?_ | (refine Fk.by_ ?_ ?_ <;> intro hc <;> try simp only [hc]) | refine storeK_eq rfl ?_ | with_reducible refine an ?_ ?_) <;> try simp only [push_cast, ed, reduceCtorEq, ld]))
 refine WT_loop rfl (fun n e z => ∃ j : Nat, n = s.length - j ∧ j ≤ s.length ∧ e = [(4, .int .i64 (j : Int)), (3, .int .i64 (numR (s.take j) : Int)), (2, .int .i64 0), (0, .str s)] ∧ st = z) st.nx (Nat.le_refl _) (by rintro _ _ _ ⟨j, _, _, _, rfl⟩; rfl)
  ⟨_, _, _, ⟨0, rfl, Nat.zero_le _, rfl, rfl⟩, (by repeat first | exact .nil | refine .cons (by first | rfl | (simp [V.bd, V.bdL]; try first | omega | assumption)) (by first | rfl | simp only [push_cast, ed, reduceCtorEq, ld]) ?_), .refl hwf⟩ ?_
 rintro n e z ⟨j, rfl, hj, rfl, rfl⟩
 rcases Nat.lt_or_ge j s.length with hlt | hge
 ·obtain ⟨b, hb⟩ : ∃ b, s[j]? = some b := ⟨_, List.getElem?_eq_getElem hlt⟩
  have h2 : decide ((j : Int) < (s.length : Int)) = true := decide_eq_true (by omega)
  have hwr : IntKind.i64.wrap ((j : Int) + 1) = (j : Int) + 1 := wrap64 (by omega) (by omega)
  obtain ⟨w1, hb9⟩ := u8sub (List.all_eq_true.1 hd b (List.mem_of_getElem? hb))
  have hle : numR (s.take j) ≤ 1000000000 := Nat.min_le_right _ _
  have hT : numR (s.take (j + 1)) = min (10 * numR (s.take j) + (b.toNat - 48)) 1000000000 := by rw [List.take_add_one, hb]; exact numR_snoc
  have w2 : IntKind.i64.wrap ((b.toNat - 48 : Nat) : Int) = ((b.toNat - 48 : Nat) : Int) := wrap64 (by omega) (by omega)
  have w3 : IntKind.i64.wrap (10 * (numR (s.take j) : Int)) = 10 * (numR (s.take j) : Int) := wrap64 (by omega) (by omega)
  have w4 : IntKind.i64.wrap (10 * (numR (s.take j) : Int) + ((b.toNat - 48 : Nat) : Int)) = 10 * (numR (s.take j) : Int) + ((b.toNat - 48 : Nat) : Int) := wrap64 (by omega) (by omega)
  have w5 : (if (1000000000 : Int) < 10 * (numR (s.take j) : Int) + ((b.toNat - 48 : Nat) : Int) then (1000000000 : Int) else 10 * (numR (s.take j) : Int) + ((b.toNat - 48 : Nat) : Int)) = (numR (s.take (j + 1)) : Int) := by
   rw [hT]; split <;> omega
  generalize hgen : b.toNat - 48 = d at *
  (repeat' first | ((first | refine go rfl rfl ?_ | (refine Fk.by_ ?_ ?_ <;> intro hc <;> try simp only [hc]) | refine storeK_eq rfl ?_ | with_reducible refine an ?_ ?_) <;> try simp only [h2, hwr, hb, w1, w2, w3, w4, w5, push_cast, ed, reduceCtorEq, ld]))
  all_goals first | exact ⟨_, _, _, by omega, ⟨j + 1, rfl, by omega, rfl, rfl⟩, (by repeat first | exact .nil | refine .cons (by first | rfl | (simp [V.bd, V.bdL]; try first | omega | assumption)) (by first | rfl | simp only [push_cast, ed, reduceCtorEq, ld]) ?_), .refl hwf⟩
 ·have h2 : decide ((j : Int) < (s.length : Int)) = false := decide_eq_false (by omega)
  have ej : j = s.length := by omega
  subst ej
  rw [List.take_length]
  (repeat' first | ((first | refine go rfl rfl ?_ | (refine Fk.by_ ?_ ?_ <;> intro hc <;> try simp only [hc]) | refine storeK_eq rfl ?_ | with_reducible refine an ?_ ?_) <;> try simp only [h2, push_cast, ed, reduceCtorEq, ld]))
  all_goals exact finRet0 hwf rfl rfl rfl
def frN (u : Nat) : List UInt8 → Nat
 | [] => 0
 | b :: r => u * (b.toNat - 48) + frN (u / 10) r
theorem frN_le : ∀ (l : List UInt8) (u : Nat), l.all digB = true → frN u l ≤ 10 * u
 | [], u, _ => Nat.zero_le _
 | b :: l, u, h => by
  simp only [List.all_cons, Bool.and_eq_true] at h
  have h1 := (u8sub h.1).2
  have h2 := frN_le l (u / 10) h.2
  simp only [frN]
  have : u * (b.toNat - 48) ≤ u * 9 := Nat.mul_le_mul_left _ h1
  omega
def secQ (s : List UInt8) : Nat := min (numR (cutW 46 s)) 1000000 * 1000 + frN 100 (cutR 46 s)
theorem numD_cons {b : UInt8} {s : List UInt8} (acc : Nat) : s.foldl (fun n b => 10 * n + (b.toNat - 48)) acc = acc * 10 ^ s.length + numD s := by
 induction s generalizing acc with
 | nil => simp [numD]
 | cons c s ih =>
  simp only [numD, List.foldl_cons, List.length_cons]
  rw [ih, ih (10 * 0 + (c.toNat - 48)), Nat.pow_succ]
  have e : (10 * acc + (c.toNat - 48)) * 10 ^ s.length = acc * (10 ^ s.length * 10) + (c.toNat - 48) * 10 ^ s.length := by
   rw [Nat.add_mul]; congr 1
   rw [Nat.mul_comm 10 acc, Nat.mul_assoc, Nat.mul_comm 10]
  rw [e, Nat.mul_zero, Nat.zero_add]; omega
theorem frac_eq {s : List UInt8} (h : s.length ≤ 3) : numD (49 :: (s ++ [48, 48, 48]).take 3) = 1000 + frN 100 s := by
 match s, h with
 | [], _ => rfl
 | [a], _ => simp [numD, frN]; omega
 | [a, b], _ => simp [numD, frN]; omega
 | [a, b, c], _ => simp [numD, frN]; omega
theorem sec_same {s : List UInt8} (hb : secBad s = false) : (if decide (10000000 < (secQ s : Int)) = true then ((0 : Int), (2 : Int)) else ((secQ s : Int), 0)) = (secN s) := by
 have hl : (cutR 46 s).length ≤ 3 := by
  cases hp : cutP 46 s with
  | false => rw [cutR_none hp]; simp
  | true =>
   simp only [secBad, hp, Bool.true_and, Bool.or_eq_false_iff, decide_eq_false_iff_not] at hb
   have := hb.2.1.2; omega
 have hd : (cutR 46 s).all digB = true := by
  cases hp : cutP 46 s with
  | false => rw [cutR_none hp]; rfl
  | true => exact (sec_ok hb).2 hp
 have hf := frN_le _ 100 hd
 have he := frac_eq hl
 have hS : secN s = if decide (10000000 < msS s) = true then (0, 2) else (msS s, 0) := by unfold secN; rw [if_neg (by rw [hb]; decide)]
 rw [hS]
 have hcap : capV (numD (49 :: (cutR 46 s ++ [48, 48, 48]).take 3)) = 1000 + frN 100 (cutR 46 s) := by rw [he]; unfold capV; omega
 unfold msS secQ
 rw [hcap]
 unfold capV numR
 by_cases hn : numD (cutW 46 s) ≤ 1000000
 ·have e1 : min (min (numD (cutW 46 s)) 1000000000) 1000000 = numD (cutW 46 s) := by omega
  have e2 : min (numD (cutW 46 s)) 1099511627776 = numD (cutW 46 s) := by omega
  rw [e1, e2]
  have e3 : ((numD (cutW 46 s) * 1000 + frN 100 (cutR 46 s) : Nat) : Int) = 1000 * (numD (cutW 46 s) : Int) + ((1000 + frN 100 (cutR 46 s) : Nat) : Int) - 1000 := by omega
  rw [e3]
 ·rw [if_pos (decide_eq_true (by omega)), if_pos (decide_eq_true (by omega))]
theorem secBad_eq (s : List UInt8) : secBad s = (!(digsB (cutW 46 s)) || (cutP 46 s && !(dig3 (cutR 46 s)))) := by
 have : (cutR 46 s == [] || decide (3 < ((cutR 46 s).length : Int)) || !(cutR 46 s).all digB) = !(dig3 (cutR 46 s)) := by
  unfold dig3
  cases hx : cutR 46 s with
  | nil => rfl
  | cons b t =>
   have h1 : decide (1 ≤ (b :: t).length) = true := decide_eq_true (by simp)
   have h2 : decide (3 < ((b :: t).length : Int)) = !decide ((b :: t).length ≤ 3) := by
    rw [Bool.eq_iff_iff]; simp only [decide_eq_true_eq, Bool.not_eq_true', decide_eq_false_iff_not]; omega
   have h3 : (b :: t == ([] : List UInt8)) = false := rfl
   rw [h1, h2, h3]
   cases decide ((b :: t).length ≤ 3) <;> cases (b :: t).all digB <;> rfl
 unfold secBad
 rw [this]
theorem qseconds_v (s : List UInt8) (st : St) (hs : s.length < 140737488355328) : VRet Tryz.prog 16 [.str s] st (.tup [.int .i64 (secN s).1, .int .i64 (secN s).2]) st := by
 have h1 : (cutW 46 s).length < 140737488355328 := by unfold cutW; rw [List.length_take]; omega
 have h2 : (cutR 46 s).length < 140737488355328 := by unfold cutR; rw [List.length_drop]; omega
 have hB := secBad_eq s
 refine vc F16_ok rfl (fun hwf => ?_)
 cases hb : secBad s with
 | true =>
  rw [hb] at hB
  have hS : secN s = (0, 3) := by unfold secN; rw [if_pos hb]
  rw [hS]
  (repeat' first | ((first | refine go rfl rfl ?_ | refine Cl.by_ (by (first | refine qsplit_v _ _ hs | refine qdigits_v _ _ h1 | refine qdecimals_v _ _ h2)) ?_ | (refine Fk.by_ ?_ ?_ <;> intro hc <;> try simp only [hc]) | refine storeK_eq rfl ?_ | with_reducible refine an ?_ ?_) <;> try simp only [push_cast, ed, reduceCtorEq, ld]))
  all_goals first | exact finRet0 hwf rfl rfl rfl | (exfalso; simp [*] at hB; done)
 | false =>
  have hd1 := (digsB_ok (sec_ok hb).1).2
  have hn := qnumber_v (cutW 46 s) st h1 hd1
  have hS := sec_same hb
  rw [← hS]
  rw [hb] at hB
  have hd2 : (cutR 46 s).all digB = true := by
   cases hp : cutP 46 s with
   | false => rw [cutR_none hp]; rfl
   | true => exact (sec_ok hb).2 hp
  have hle : numR (cutW 46 s) ≤ 1000000000 := Nat.min_le_right _ _
  have w0 : (if (1000000 : Int) < (numR (cutW 46 s) : Int) then (1000000 : Int) else (numR (cutW 46 s) : Int)) = ((min (numR (cutW 46 s)) 1000000 : Nat) : Int) := by split <;> omega
  generalize hM : min (numR (cutW 46 s)) 1000000 = M at *
  have hM1 : M ≤ 1000000 := by omega
  have hfr := frN_le (cutR 46 s) 100 hd2
  obtain ⟨B, hBd⟩ : ∃ B : Nat, B = M * 1000 := ⟨_, rfl⟩
  have w1 : IntKind.i64.wrap ((M : Int) * 1000) = (B : Int) := by rw [wrap64 (by omega) (by omega)]; omega
  obtain ⟨F, hF⟩ : ∃ F : Nat, F = B + frN 100 (cutR 46 s) := ⟨_, rfl⟩
  have hQ : secQ s = F := by unfold secQ; rw [hM, hF, hBd]
  rw [hQ] at hS ⊢
  have key : WT Tryz.prog F16.N F16.T 20 [(9, .int .i64 0), (8, .int .i64 100), (7, .int .i64 (B : Int)), (5, .str (cutR 46 s)), (3, .int .i64 0), (2, .int .i64 0), (0, .str s)] st (blockPost 0 (seqT Tryz.prog F16.N F16.T 33 (finQ F16.res st.nx fun x s_1 => x = .ret (.tup [.int .i64 (if decide (10000000 < (F : Int)) = true then ((0 : Int), (2 : Int)) else ((F : Int), 0)).1, .int .i64 (if decide (10000000 < (F : Int)) = true then ((0 : Int), (2 : Int)) else ((F : Int), 0)).2]) ∧ s_1 = st))) := by
   refine WT_loop rfl (fun n e z => ∃ (j u v : Nat), n = (cutR 46 s).length - j ∧ j ≤ (cutR 46 s).length ∧ u ≤ 100 ∧ v + frN u ((cutR 46 s).drop j) = F ∧ e = [(9, .int .i64 (j : Int)), (8, .int .i64 (u : Int)), (7, .int .i64 (v : Int)), (5, .str (cutR 46 s)), (3, .int .i64 0), (2, .int .i64 0), (0, .str s)] ∧ st = z) st.nx (Nat.le_refl _) (by rintro _ _ _ ⟨_, _, _, _, _, _, _, _, rfl⟩; rfl)
    ⟨_, _, _, ⟨0, 100, B, rfl, Nat.zero_le _, Nat.le_refl _, by rw [List.drop_zero]; exact hF.symm, rfl, rfl⟩, (by repeat first | exact .nil | refine .cons (by first | rfl | (simp [V.bd, V.bdL]; try first | omega | assumption)) (by first | rfl | simp only [push_cast, ed, reduceCtorEq, ld]) ?_), .refl hwf⟩ ?_
   rintro n e z ⟨j, u, v, rfl, hj, hu, hv, rfl, rfl⟩
   rcases Nat.lt_or_ge j (cutR 46 s).length with hlt | hge
   ·obtain ⟨b, hb'⟩ : ∃ b, (cutR 46 s)[j]? = some b := ⟨_, List.getElem?_eq_getElem hlt⟩
    obtain ⟨q1, q2⟩ := List.getElem?_eq_some_iff.1 hb'
    have k2 : decide ((j : Int) < ((cutR 46 s).length : Int)) = true := decide_eq_true (by omega)
    have hwr : IntKind.i64.wrap ((j : Int) + 1) = (j : Int) + 1 := wrap64 (by omega) (by omega)
    obtain ⟨x1, hb9⟩ := u8sub (List.all_eq_true.1 hd2 b (List.mem_of_getElem? hb'))
    rw [List.drop_eq_getElem_cons q1, q2] at hv
    simp only [frN] at hv
    generalize hgen : b.toNat - 48 = d at *
    have hmul : u * d ≤ 900 := Nat.le_trans (Nat.mul_le_mul hu hb9) (by decide)
    obtain ⟨m, hm⟩ : ∃ m : Nat, m = u * d := ⟨_, rfl⟩
    rw [← hm] at hv hmul
    have x2 : IntKind.i64.wrap ((d : Nat) : Int) = (d : Int) := wrap64 (by omega) (by omega)
    have x3 : IntKind.i64.wrap ((u : Int) * (d : Int)) = (m : Int) := by
     have : (u : Int) * (d : Int) = (m : Int) := by rw [hm]; push_cast; rfl
     rw [this]; exact wrap64 (by omega) (by omega)
    have x4 : IntKind.i64.wrap ((v : Int) + (m : Int)) = ((v + m : Nat) : Int) := by rw [wrap64 (by omega) (by omega)]; omega
    have x5 : IntKind.i64.wrap ((u : Int).tdiv 10) = ((u / 10 : Nat) : Int) := by
     have : (u : Int).tdiv 10 = ((u / 10 : Nat) : Int) := by rw [Int.tdiv_eq_ediv_of_nonneg (by omega)]; omega
     rw [this]; exact wrap64 (by omega) (by omega)
    obtain ⟨v', hv'⟩ : ∃ v' : Nat, v' = v + m := ⟨_, rfl⟩
    obtain ⟨u', hu'⟩ : ∃ u' : Nat, u' = u / 10 := ⟨_, rfl⟩
    rw [← hv'] at x4
    rw [← hu'] at x5 hv
    (repeat' first | ((first | refine go rfl rfl ?_ | (refine Fk.by_ ?_ ?_ <;> intro hc <;> try simp only [hc]) | refine storeK_eq rfl ?_ | with_reducible refine an ?_ ?_) <;> try simp only [k2, hwr, hb', x1, x2, x3, x4, x5, push_cast, ed, reduceCtorEq, ld]))
    all_goals first | exact ⟨_, _, _, by omega, ⟨j + 1, u', v', rfl, by omega, by omega, by omega, rfl, rfl⟩, (by repeat first | exact .nil | refine .cons (by first | rfl | (simp [V.bd, V.bdL]; try first | omega | assumption)) (by first | rfl | simp only [push_cast, ed, reduceCtorEq, ld]) ?_), .refl hwf⟩
   ·have k2 : decide ((j : Int) < ((cutR 46 s).length : Int)) = false := decide_eq_false (by omega)
    rw [List.drop_eq_nil_of_le hge] at hv
    have hvF : v = F := by simpa [frN] using hv
    subst hvF
    (repeat' first | ((first | refine go rfl rfl ?_ | (refine Fk.by_ ?_ ?_ <;> intro hc <;> try simp only [hc]) | refine storeK_eq rfl ?_ | with_reducible refine an ?_ ?_) <;> try simp only [k2, push_cast, ed, reduceCtorEq, ld]))
    all_goals exact finRet0 hwf rfl rfl rfl
  (repeat' first | exact WT_env (by repeat first | exact .nil | refine .cons (by first | rfl | simp only [push_cast, ed, reduceCtorEq, ld]) ?_) key | ((first | refine go rfl rfl ?_ | refine Cl.by_ (by (first | refine qsplit_v _ _ hs | refine qdigits_v _ _ h1 | refine qdecimals_v _ _ h2 | refine hn)) ?_ | (refine Fk.by_ ?_ ?_ <;> intro hc <;> try simp only [hc]) | refine storeK_eq rfl ?_ | with_reducible refine an ?_ ?_) <;> try simp only [w0, w1, push_cast, ed, reduceCtorEq, ld]))
  all_goals first | (exfalso; simp [*] at hB; done)
end Go.Proofs.YtnondemehfkalaaGreatDoor
