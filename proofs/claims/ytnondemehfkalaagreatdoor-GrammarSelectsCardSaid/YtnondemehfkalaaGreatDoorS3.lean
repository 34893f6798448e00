/- Functions of the reference over texts: attributes, numbers of cues, percentages. Functions of the reference over texts: numbers of cues, percentages. Functions of the reference over texts: percentages .. -/
import Derived.Test.YtnondemehfkalaaGreatDoorS2
set_option linter.unusedSimpArgs false
set_option linter.unusedVariables false
set_option maxRecDepth 10000
set_option maxRecDepth 10000
namespace Go.Proofs.YtnondemehfkalaaGreatDoor
open Go.Sha
open Nat renaming reduceEqDiff → ed, reduceLeDiff → ld
open Option renaming map_some → om
open Bool renaming false_eq_true → bf
abbrev kB : List (List UInt8) := [[112, 111, 115, 105, 116, 105, 111, 110], [99, 111, 108, 111, 117, 114], [98, 101, 97, 109]]
theorem names_v (st : St) : VRet Tryz.prog 33 [] st (.sl (namesB.map .str)) st := by
 refine vc F33_ok rfl (fun hwf => ?_)
 (repeat' first | ((first | refine go rfl rfl ?_ | (refine Fk.by_ ?_ ?_ <;> intro hc <;> try simp only [hc]) | refine storeK_eq rfl ?_ | with_reducible refine an ?_ ?_) <;> try simp only [push_cast, ed, reduceCtorEq, ld]))
 all_goals refine finC (hwf) (by simp only [F33, push_cast, ed, reduceCtorEq, ld]; exact rfl) (by first | exact .inl rfl | (right; simp only [F33, push_cast, ed, reduceCtorEq, ld]; try rfl)) (by first | rfl | assumption) (by simp [(hwf).z])
theorem kinds_v (st : St) : VRet Tryz.prog 34 [] st (.sl (([] :: kB).map .str)) st := by
 refine vc F34_ok rfl (fun hwf => ?_)
 (repeat' first | ((first | refine go rfl rfl ?_ | (refine Fk.by_ ?_ ?_ <;> intro hc <;> try simp only [hc]) | refine storeK_eq rfl ?_ | with_reducible refine an ?_ ?_) <;> try simp only [push_cast, ed, reduceCtorEq, ld]))
 all_goals refine finC (hwf) (by simp only [F34, push_cast, ed, reduceCtorEq, ld]; exact rfl) (by first | exact .inl rfl | (right; simp only [F34, push_cast, ed, reduceCtorEq, ld]; try rfl)) (by first | rfl | assumption) (by simp [(hwf).z])
theorem attrN_eq (w : List UInt8) : attrN w = if idxB w namesB < 15 then ((idxB w namesB : Int), 0) else if idxB w kB < 3 then (16 + (idxB w kB : Int), 0) else (0, 8) := by
 unfold attrN
 split
 ·rfl
 ·simp only [idxB, beq_iff_eq, eq_comm (b := w)]
  by_cases h1 : w = [112, 111, 115, 105, 116, 105, 111, 110]
  ·rw [if_pos h1, if_pos h1, if_pos (by decide)]; rfl
  rw [if_neg h1, if_neg h1]
  by_cases h2 : w = [99, 111, 108, 111, 117, 114]
  ·rw [if_pos h2, if_pos h2, if_pos (by decide)]; rfl
  rw [if_neg h2, if_neg h2]
  by_cases h3 : w = [98, 101, 97, 109]
  ·rw [if_pos h3, if_pos h3, if_pos (by decide)]; rfl
  rw [if_neg h3, if_neg h3, if_neg (by decide)]
theorem qattr_v (w : List UInt8) (st : St) : VRet Tryz.prog 14 [.str w] st (.tup [.int .i64 (attrN w).1, .int .i64 (attrN w).2]) st := by
 refine vc F14_ok rfl (fun hwf => ?_)
 have hA := attrN_eq w
 obtain ⟨L, hL⟩ : ∃ L, L = namesB := ⟨_, rfl⟩
 obtain ⟨K, hK⟩ : ∃ K : List (List UInt8), K = [] :: kB := ⟨_, rfl⟩
 have hLl : L.length = 15 := by rw [hL]; rfl
 have hKl : K.length = 4 := by rw [hK]; rfl
 have hbL : V.bdL st.nx (L.map V.str) = true := bdL_map fun _ _ => rfl
 have hbK : V.bdL st.nx (K.map V.str) = true := bdL_map fun _ _ => rfl
 have hnm := names_v st
 have hkd := kinds_v st
 rw [← hL] at hnm hA
 rw [← hK] at hkd
 (repeat' first | ((first | refine go rfl rfl ?_ | refine Cl.by_ (by (first | refine hnm)) ?_ | (refine Fk.by_ ?_ ?_ <;> intro hc <;> try simp only [hc]) | refine storeK_eq rfl ?_ | with_reducible refine an ?_ ?_) <;> try simp only [push_cast, ed, reduceCtorEq, ld]))
 refine WT_loop rfl (fun n e z => ∃ j : Nat, n = 15 - j ∧ j ≤ 15 ∧ j ≤ idxB w L ∧ e = [(5, .int .i64 (j : Int)), (4, .sl (L.map .str)), (3, .int .i64 0), (2, .int .i64 0), (0, .str w)] ∧ st = z) st.nx (Nat.le_refl _) (by rintro _ _ _ ⟨j, _, _, _, _, rfl⟩; rfl)
  ⟨_, _, _, ⟨0, rfl, Nat.zero_le _, Nat.zero_le _, rfl, rfl⟩, (by repeat first | exact .nil | refine .cons (by first | rfl | (simp [V.bd, V.bdL]; try first | omega | assumption)) (by first | rfl | simp only [push_cast, ed, reduceCtorEq, ld]) ?_), .refl hwf⟩ ?_
 rintro n e z ⟨j, rfl, hj, hr, rfl, rfl⟩
 rcases Nat.lt_or_ge j 15 with hlt | hge
 ·obtain ⟨x, hx⟩ : ∃ x, L[j]? = some x := ⟨_, List.getElem?_eq_getElem (by omega)⟩
  have h2 : decide ((j : Int) < (L.length : Int)) = true := decide_eq_true (by omega)
  have hwr : IntKind.i64.wrap ((j : Int) + 1) = (j : Int) + 1 := wrap64 (by omega) (by omega)
  have hd1 := idxB_drop hr
  have hd2 := idxB_get (w := w) hx
  have hlj : j < L.length := by omega
  rw [Bool.beq_comm] at hd2
  (repeat' first | ((first | refine go rfl rfl ?_ | (refine Fk.by_ ?_ ?_ <;> intro hc <;> try simp only [hc]) | refine storeK_eq rfl ?_ | with_reducible refine an ?_ ?_) <;> try simp only [h2, hwr, hx, V.cells, hlj, push_cast, ed, reduceCtorEq, ld]))
  ·rw [hc, if_pos rfl] at hd2
   have : idxB w L = j := by omega
   rw [this, if_pos hlt] at hA
   rw [hA]
   exact finRet0 hwf rfl rfl rfl
  ·rw [hc, if_neg Bool.false_ne_true] at hd2
   exact ⟨_, _, _, by omega, ⟨j + 1, rfl, by omega, by omega, rfl, rfl⟩, (by repeat first | exact .nil | refine .cons (by first | rfl | (simp [V.bd, V.bdL]; try first | omega | assumption)) (by first | rfl | simp only [push_cast, ed, reduceCtorEq, ld]) ?_), .refl hwf⟩
 ·have h2 : decide ((j : Int) < (L.length : Int)) = false := decide_eq_false (by omega)
  rw [if_neg (by omega)] at hA
  (repeat' first | ((first | refine go rfl rfl ?_ | refine Cl.by_ (by (first | refine hkd)) ?_ | (refine Fk.by_ ?_ ?_ <;> intro hc <;> try simp only [hc]) | refine storeK_eq rfl ?_ | with_reducible refine an ?_ ?_) <;> try simp only [h2, push_cast, ed, reduceCtorEq, ld]))
  refine WT_loop rfl (fun n e z => ∃ j : Nat, n = 4 - j ∧ 1 ≤ j ∧ j ≤ 4 ∧ j - 1 ≤ idxB w kB ∧ e = [(7, .int .i64 (j : Int)), (6, .sl (K.map .str)), (3, .int .i64 0), (2, .int .i64 0), (0, .str w)] ∧ st = z) st.nx (Nat.le_refl _) (by rintro _ _ _ ⟨j, _, _, _, _, _, rfl⟩; rfl)
   ⟨_, _, _, ⟨1, rfl, Nat.le_refl _, by omega, Nat.zero_le _, rfl, rfl⟩, (by repeat first | exact .nil | refine .cons (by first | rfl | (simp [V.bd, V.bdL]; try first | omega | assumption)) (by first | rfl | simp only [push_cast, ed, reduceCtorEq, ld]) ?_), .refl hwf⟩ ?_
  clear h2 hr
  rintro n e z ⟨i, rfl, hi1, hi, hr, rfl, rfl⟩
  rcases Nat.lt_or_ge i 4 with hlt | hge
  ·obtain ⟨x, hx⟩ : ∃ x, K[i]? = some x := ⟨_, List.getElem?_eq_getElem (by omega)⟩
   have hx' : kB[i - 1]? = some x := by
    rw [hK] at hx
    obtain ⟨k, rfl⟩ : ∃ k, i = k + 1 := ⟨i - 1, by omega⟩
    simpa using hx
   have h2 : decide ((i : Int) < (K.length : Int)) = true := decide_eq_true (by omega)
   have hwr : IntKind.i64.wrap ((i : Int) + 1) = (i : Int) + 1 := wrap64 (by omega) (by omega)
   have hw5 : IntKind.i64.wrap (15 + (i : Int)) = 15 + (i : Int) := wrap64 (by omega) (by omega)
   have hd1 := idxB_drop hr
   have hd2 := idxB_get (w := w) hx'
   have hlj : i < K.length := by omega
   rw [Bool.beq_comm, show i - 1 + 1 = i by omega] at hd2
   (repeat' first | ((first | refine go rfl rfl ?_ | (refine Fk.by_ ?_ ?_ <;> intro hc <;> try simp only [hc]) | refine storeK_eq rfl ?_ | with_reducible refine an ?_ ?_) <;> try simp only [h2, hwr, hx, V.cells, hlj, hw5, push_cast, ed, reduceCtorEq, ld]))
   ·rw [hc, if_pos rfl] at hd2
    have e1 : idxB w kB = i - 1 := by omega
    rw [e1, if_pos (by omega)] at hA
    rw [hA]
    have e2 : (16 : Int) + ((i - 1 : Nat) : Int) = 15 + (i : Int) := by omega
    rw [e2]
    exact finRet0 hwf rfl rfl rfl
   ·rw [hc, if_neg Bool.false_ne_true] at hd2
    exact ⟨_, _, _, by omega, ⟨i + 1, rfl, by omega, by omega, by omega, rfl, rfl⟩, (by repeat first | exact .nil | refine .cons (by first | rfl | (simp [V.bd, V.bdL]; try first | omega | assumption)) (by first | rfl | simp only [push_cast, ed, reduceCtorEq, ld]) ?_), .refl hwf⟩
  ·have h2 : decide ((i : Int) < (K.length : Int)) = false := decide_eq_false (by omega)
   have hle := idxB_le (w := w) (l := kB)
   have hle3 : idxB w kB ≤ 3 := hle
   rw [if_neg (by omega)] at hA
   rw [hA]
   (repeat' first | ((first | refine go rfl rfl ?_ | (refine Fk.by_ ?_ ?_ <;> intro hc <;> try simp only [hc]) | refine storeK_eq rfl ?_ | with_reducible refine an ?_ ?_) <;> try simp only [h2, push_cast, ed, reduceCtorEq, ld]))
   all_goals exact finRet0 hwf rfl rfl rfl
theorem chk_eq (s : List UInt8) : chkBad s = ((!(digs1 (cutW 46 s)) || (cutP 46 s && !(digs1 (cutR 46 s)))) || ((decide (1 < ((cutW 46 s).length : Int)) && (cutW 46 s)[0]? == some 48) || (cutP 46 s && (cutR 46 s).getLast? == some 48))) := by
 unfold chkBad
 cases h : digs1 (cutW 46 s) with
 | false => simp
 | true =>
  have hne : cutW 46 s ≠ [] := fun e => by rw [e] at h; cases h
  have : decide (1 < ((cutW 46 s).length : Int)) = ((cutW 46 s).length != 1) := by
   have := List.length_pos_iff.2 hne
   rw [Bool.eq_iff_iff]; simp only [decide_eq_true_eq, bne_iff_ne]; omega
  rw [this]
  cases cutP 46 s <;> cases digs1 (cutR 46 s) <;> cases (cutR 46 s).getLast? == some 48 <;> cases (cutW 46 s).length != 1 <;> cases (cutW 46 s)[0]? == some 48 <;> rfl
theorem digs1_ne {s : List UInt8} (h : digs1 s = true) : s ≠ [] := by
 rintro rfl; cases h
theorem h48 (b : UInt8) : (((b.toNat : Int)) == 48) = (some b == some 48) := by
 rw [Bool.eq_iff_iff]; simp only [beq_iff_eq, Option.some.injEq]
 constructor
 ·intro h; exact UInt8.toNat_inj.1 (by have : (48 : UInt8).toNat = 48 := rfl; omega)
 ·rintro rfl; rfl
theorem qcheck_v (s : List UInt8) (st : St) (hs : s.length < 140737488355328) : VRet Tryz.prog 184 [.str s] st (.int .i64 (chkN s)) st := by
 have h1 : (cutW 46 s).length < 140737488355328 := by unfold cutW; rw [List.length_take]; omega
 have h2 : (cutR 46 s).length < 140737488355328 := by unfold cutR; rw [List.length_drop]; omega
 have hB := chk_eq s
 have hsp := qsplit_v s st hs
 have c1 : decide (4 < (cutW 46 s).length) = decide (4 < ((cutW 46 s).length : Int)) := by rw [decide_eq_decide]; omega
 have c2 : decide (3 < (cutR 46 s).length) = decide (3 < ((cutR 46 s).length : Int)) := by rw [decide_eq_decide]; omega
 have hC : chkN s = if chkBad s = true then 3 else if (s == [48] || decide (4 < ((cutW 46 s).length : Int)) || decide (3 < ((cutR 46 s).length : Int))) = true then 2 else 0 := by unfold chkN; rw [c1, c2]
 clear c1 c2
 refine vc F184_ok rfl (fun hwf => ?_)
 generalize cutW 46 s = W at *
 generalize cutR 46 s = R at *
 generalize cutP 46 s = P at *
 rw [hC]
 clear hC
 cases hW : digs1 W with
 | false =>
  have : chkBad s = true := by rw [hB, hW]; simp
  rw [this, if_pos rfl]
  (repeat' first | ((first | refine go rfl rfl ?_ | refine Cl.by_ (by (first | refine hsp | refine q5digits_v _ _ h1 | refine q5digits_v _ _ h2)) ?_ | (refine Fk.by_ ?_ ?_ <;> intro hc <;> try simp only [hc]) | refine storeK_eq rfl ?_ | with_reducible refine an ?_ ?_) <;> try simp only [hW, push_cast, ed, reduceCtorEq, ld]))
  all_goals exact finRet0 hwf rfl rfl rfl
 | true =>
  rcases W with _ | ⟨b, t⟩
  ·exact absurd rfl (digs1_ne hW)
  have h0 := h48 b
  cases hR : (P && !(digs1 R)) with
  | true =>
   have : chkBad s = true := by rw [hB, hW, hR]; simp
   rw [this, if_pos rfl]
   simp only [Bool.and_eq_true, Bool.not_eq_true'] at hR
   obtain ⟨hP, hR⟩ := hR
   subst hP
   (repeat' first | ((first | refine go rfl rfl ?_ | refine Cl.by_ (by (first | refine hsp | refine q5digits_v _ _ h1 | refine q5digits_v _ _ h2)) ?_ | (refine Fk.by_ ?_ ?_ <;> intro hc <;> try simp only [hc]) | refine storeK_eq rfl ?_ | with_reducible refine an ?_ ?_) <;> try simp only [hW, hR, push_cast, ed, reduceCtorEq, ld]))
   all_goals exact finRet0 hwf rfl rfl rfl
  | false =>
   have hB' : chkBad s = ((decide (1 < (t.length : Int) + 1) && some b == some 48) || (P && R.getLast? == some 48)) := by
    rw [hB, hW, hR]; simp
   rw [hB']
   clear hB hB'
   cases P with
   | false =>
    (repeat' first | ((first | refine go rfl rfl ?_ | refine Cl.by_ (by (first | refine hsp | refine q5digits_v _ _ h1 | refine q5digits_v _ _ h2)) ?_ | (refine Fk.by_ ?_ ?_ <;> intro hc <;> try simp only [hc]) | refine storeK_eq rfl ?_ | with_reducible refine an ?_ ?_) <;> try simp only [hW, h0, push_cast, ed, reduceCtorEq, ld]))
    all_goals first | exact finRet0 hwf rfl (by simp [resOne, *]) rfl
   | true =>
    have hR' : digs1 R = true := by simpa using hR
    rcases List.eq_nil_or_concat R with rfl | ⟨r, c, rfl⟩
    ·exact absurd rfl (digs1_ne hR')
    have hg : (r.concat c)[r.length]? = some c := by simp
    have hlen : ((r.concat c).length : Int) = (r.length : Int) + 1 := by simp
    have hw : IntKind.i64.wrap ((r.length : Int) + 1 - 1) = (r.length : Int) := by rw [wrap64 (by omega) (by simp at h2; omega)]; omega
    have hc0 := h48 c
    have hgl : (r.concat c).getLast? = some c := by simp
    rw [hgl]
    (repeat' first | ((first | refine go rfl rfl ?_ | refine Cl.by_ (by (first | refine hsp | refine q5digits_v _ _ h1 | refine q5digits_v _ _ h2)) ?_ | (refine Fk.by_ ?_ ?_ <;> intro hc <;> try simp only [hc]) | refine storeK_eq rfl ?_ | with_reducible refine an ?_ ?_) <;> try simp only [hW, hR', h0, hg, hlen, hw, hc0, push_cast, ed, reduceCtorEq, ld]))
    all_goals first | exact finRet0 hwf rfl (by simp [resOne, *]) rfl
theorem numD_three {s : List UInt8} (hl : s.length ≤ 3) (hd : s.all digB = true) : numD s ≤ 999 := by
 have := foldN_le s 0 0 hd (Nat.le_refl _)
 have hp := Nat.pow_le_pow_right (n := 10) (by omega) hl
 have e : numD s = foldN 0 s := rfl
 omega
theorem qnum4_v (s : List UInt8) (st : St) (hl : s.length ≤ 3) (hd : s.all digB = true) : VRet Tryz.prog 211 [.str s] st (.int .i64 (numD s)) st := by
 refine vc F211_ok rfl (fun hwf => ?_)
 (repeat' first | ((first | refine go rfl rfl ?_ | (refine Fk.by_ ?_ ?_ <;> intro hc <;> try simp only [hc]) | refine storeK_eq rfl ?_ | with_reducible refine an ?_ ?_) <;> try simp only [push_cast, ed, reduceCtorEq, ld]))
 refine WT_loop rfl (fun n e z => ∃ j : Nat, n = s.length - j ∧ j ≤ s.length ∧ e = [(4, .int .i64 (j : Int)), (3, .int .i64 (numD (s.take j) : Int)), (2, .int .i64 0), (0, .str s)] ∧ st = z) st.nx (Nat.le_refl _) (by rintro _ _ _ ⟨j, _, _, _, rfl⟩; rfl)
  ⟨_, _, _, ⟨0, rfl, Nat.zero_le _, rfl, rfl⟩, (by repeat first | exact .nil | refine .cons (by first | rfl | (simp [V.bd, V.bdL]; try first | omega | assumption)) (by first | rfl | simp only [push_cast, ed, reduceCtorEq, ld]) ?_), .refl hwf⟩ ?_
 rintro n e z ⟨j, rfl, hj, rfl, rfl⟩
 rcases Nat.lt_or_ge j s.length with hlt | hge
 ·obtain ⟨b, hb⟩ : ∃ b, s[j]? = some b := ⟨_, List.getElem?_eq_getElem hlt⟩
  have h2 : decide ((j : Int) < (s.length : Int)) = true := decide_eq_true (by omega)
  have hwr : IntKind.i64.wrap ((j : Int) + 1) = (j : Int) + 1 := wrap64 (by omega) (by omega)
  obtain ⟨w1, hb9⟩ := u8sub (List.all_eq_true.1 hd b (List.mem_of_getElem? hb))
  have hle : numD (s.take j) ≤ 999 := numD_three (by rw [List.length_take]; omega) (take_all hd)
  have hT : numD (s.take (j + 1)) = 10 * numD (s.take j) + (b.toNat - 48) := by rw [List.take_add_one, hb]; exact numD_snoc
  have w2 : IntKind.i64.wrap ((b.toNat - 48 : Nat) : Int) = ((b.toNat - 48 : Nat) : Int) := wrap64 (by omega) (by omega)
  have w3 : IntKind.i64.wrap (10 * (numD (s.take j) : Int)) = 10 * (numD (s.take j) : Int) := wrap64 (by omega) (by omega)
  have w4 : IntKind.i64.wrap (10 * (numD (s.take j) : Int) + ((b.toNat - 48 : Nat) : Int)) = (numD (s.take (j + 1)) : Int) := by rw [wrap64 (by omega) (by omega), hT]; omega
  generalize hgen : b.toNat - 48 = d at *
  (repeat' first | ((first | refine go rfl rfl ?_ | (refine Fk.by_ ?_ ?_ <;> intro hc <;> try simp only [hc]) | refine storeK_eq rfl ?_ | with_reducible refine an ?_ ?_) <;> try simp only [h2, hwr, hb, w1, w2, w3, w4, push_cast, ed, reduceCtorEq, ld]))
  all_goals first | exact ⟨_, _, _, by omega, ⟨j + 1, rfl, by omega, rfl, rfl⟩, (by repeat first | exact .nil | refine .cons (by first | rfl | (simp [V.bd, V.bdL]; try first | omega | assumption)) (by first | rfl | simp only [push_cast, ed, reduceCtorEq, ld]) ?_), .refl hwf⟩
 ·have h2 : decide ((j : Int) < (s.length : Int)) = false := decide_eq_false (by omega)
  have ej : j = s.length := by omega
  subst ej
  rw [List.take_length]
  (repeat' first | ((first | refine go rfl rfl ?_ | (refine Fk.by_ ?_ ?_ <;> intro hc <;> try simp only [hc]) | refine storeK_eq rfl ?_ | with_reducible refine an ?_ ?_) <;> try simp only [h2, push_cast, ed, reduceCtorEq, ld]))
  all_goals exact finRet0 hwf rfl rfl rfl
theorem qof_v (n : Nat) (st : St) (hn : n < 1000000) : VRet Tryz.prog 212 [.int .i64 n] st (.int .i64 (ofN n)) st := by
 have w1 : IntKind.i64.wrap (65535 * (n : Int)) = 65535 * (n : Int) := wrap64 (by omega) (by omega)
 have w2 : IntKind.i64.wrap (65535 * (n : Int) + 50000) = 65535 * (n : Int) + 50000 := wrap64 (by omega) (by omega)
 have w3 : IntKind.i64.wrap ((65535 * (n : Int) + 50000).tdiv 100000) = ofN n := by
  have : (65535 * (n : Int) + 50000).tdiv 100000 = ((ofN n : Nat) : Int) := by
   rw [Int.tdiv_eq_ediv_of_nonneg (by omega)]; unfold ofN; omega
  rw [this]
  exact wrap64 (by unfold ofN; omega) (by unfold ofN; omega)
 refine vc F212_ok rfl (fun hwf => ?_)
 (repeat' first | ((first | refine go rfl rfl ?_ | (refine Fk.by_ ?_ ?_ <;> intro hc <;> try simp only [hc]) | refine storeK_eq rfl ?_ | with_reducible refine an ?_ ?_) <;> try simp only [w1, w2, w3, push_cast, ed, reduceCtorEq, ld]))
 all_goals first | refine finC (hwf) (by simp only [F212, push_cast, ed, reduceCtorEq, ld]; exact rfl) (by first | exact .inl rfl | (right; simp only [F212, push_cast, ed, reduceCtorEq, ld]; try rfl)) (by first | rfl | assumption) (by simp [(hwf).z])
def resQ (s : List UInt8) : List UInt8 := if cutP 46 s = true then cutR 46 s else [48, 48, 48]
theorem thBad_eq (s : List UInt8) : thBad s = ((!(dig3 (cutW 46 s)) || !(dig3 (resQ s))) || (decide (1 < ((cutW 46 s).length : Int)) && (cutW 46 s)[0]? == some 48)) := by
 unfold thBad resQ
 cases cutP 46 s with
 | false =>
  have : dig3 [48, 48, 48] = true := rfl
  simp [this]
 | true => simp only [Bool.true_and, if_true]; rw [Bool.or_right_comm]
theorem padQ {s : List UInt8} : (resQ s ++ [48, 48, 48]).take 3 = (cutR 46 s ++ [48, 48, 48]).take 3 := by
 unfold resQ
 cases hp : cutP 46 s with
 | false => rw [cutR_none hp]; rfl
 | true => rfl
theorem pad_step {q : List UInt8} (h : q.length < 3) : (q ++ [48] ++ [48, 48, 48]).take 3 = (q ++ [48, 48, 48]).take 3 := by
 match q, h with
 | [], _ => rfl
 | [a], _ => rfl
 | [a, b], _ => rfl
theorem pad_end {q : List UInt8} (h : q.length = 3) : (q ++ [48, 48, 48]).take 3 = q := by rw [← h, List.take_left]
theorem numD_split {W p : List UInt8} (hp : p.length = 3) : numD (W ++ p) = 1000 * numD W + numD p := by
 have : numD (W ++ p) = p.foldl (fun n b => 10 * n + (b.toNat - 48)) (numD W) := by simp [numD]
 rw [this, numD_cons, hp, Nat.mul_comm]
 exact 0
theorem pct_same {s : List UInt8} (hb : thBad s = false) : pctN s = if (s == [102, 117, 108, 108]) = true then (65535, 0) else if decide (100000 < ((1000 * numD (cutW 46 s) + numD ((resQ s ++ [48, 48, 48]).take 3) : Nat) : Int)) = true then (0, 2) else ((ofN (1000 * numD (cutW 46 s) + numD ((resQ s ++ [48, 48, 48]).take 3)) : Int), 0) := by
 have hl : ((cutR 46 s ++ [48, 48, 48]).take 3).length = 3 := by rw [List.length_take, List.length_append]; simp
 have hT : thouN s = some (1000 * numD (cutW 46 s) + numD ((cutR 46 s ++ [48, 48, 48]).take 3)) := by rw [thouN_eq, if_neg (by rw [hb]; decide), numD_split hl]
 unfold pctN
 rw [hT, padQ]
theorem dig3_ok3 {s : List UInt8} (h : dig3 s = true) : 1 ≤ s.length ∧ s.length ≤ 3 ∧ s.all digB = true := by
 simp only [dig3, Bool.and_eq_true, decide_eq_true_eq] at h
 exact ⟨h.1.1, h.1.2, h.2⟩
set_option maxHeartbeats 1000000 in
theorem qpercent_v (s : List UInt8) (st : St) (hs : s.length < 140737488355328) : VRet Tryz.prog 183 [.str s] st (.tup [.int .i64 (pctN s).1, .int .i64 (pctN s).2]) st := by
  have h1 : (cutW 46 s).length < 140737488355328 := by unfold cutW; rw [List.length_take]; omega
  have h2 : (resQ s).length < 140737488355328 := by
    unfold resQ; split
    · unfold cutR; rw [List.length_drop]; omega
    · decide
  refine vc F183_ok rfl (fun hwf => ?_)
  cases hf : s == [102, 117, 108, 108] with
  | true =>
    have : pctN s = (65535, 0) := by unfold pctN; rw [if_pos hf]
    rw [this]
    (repeat' first | ((first | refine go rfl rfl ?_ | (refine Fk.by_ ?_ ?_ <;> intro hc <;> try simp only [hc]) | refine storeK_eq rfl ?_ | with_reducible refine an ?_ ?_) <;> try simp only [hf, push_cast, ed, reduceCtorEq, ld]))
    all_goals exact finRet0 hwf rfl rfl rfl
  | false =>
    have key : WT Tryz.prog F183.N F183.T 33 [(5, .str (resQ s)), (4, .str (cutW 46 s)), (3, .int .i64 0), (2, .int .i64 0), (0, .str s)] st (finQ F183.res st.nx fun x s_1 => x = .ret (.tup [.int .i64 (pctN s).1, .int .i64 (pctN s).2]) ∧ s_1 = st) := by
      have hB := thBad_eq s
      cases hb : thBad s with
      | true =>
        have hS : pctN s = (0, 3) := by unfold pctN; rw [if_neg (by rw [hf]; decide), thouN_eq, if_pos hb]
        rw [hS]
        rw [hb] at hB
        clear hS hb
        generalize cutW 46 s = W at *
        generalize resQ s = Q at *
        cases hW : dig3 W with
        | false =>
          (repeat' first | ((first | refine go rfl rfl ?_ | refine Cl.by_ (by (first | refine q4digits_v _ _ h1 | refine q4digits_v _ _ h2)) ?_ | (refine Fk.by_ ?_ ?_ <;> intro hc <;> try simp only [hc]) | refine storeK_eq rfl ?_ | with_reducible refine an ?_ ?_) <;> try simp only [hW, push_cast, ed, reduceCtorEq, ld]))
          all_goals first | exact finRet0 hwf rfl rfl rfl
        | true =>
          obtain ⟨k1, k2, k3⟩ := dig3_ok3 hW
          rcases W with _ | ⟨b, t⟩
          · simp at k1
          have h0 := h48 b
          cases hQ : dig3 Q with
          | false =>
            (repeat' first | ((first | refine go rfl rfl ?_ | refine Cl.by_ (by (first | refine q4digits_v _ _ h1 | refine q4digits_v _ _ h2)) ?_ | (refine Fk.by_ ?_ ?_ <;> intro hc <;> try simp only [hc]) | refine storeK_eq rfl ?_ | with_reducible refine an ?_ ?_) <;> try simp only [hW, hQ, push_cast, ed, reduceCtorEq, ld]))
            all_goals first | exact finRet0 hwf rfl rfl rfl
          | true =>
            rw [hW, hQ] at hB
            (repeat' first | ((first | refine go rfl rfl ?_ | refine Cl.by_ (by (first | refine q4digits_v _ _ h1 | refine q4digits_v _ _ h2)) ?_ | (refine Fk.by_ ?_ ?_ <;> intro hc <;> try simp only [hc]) | refine storeK_eq rfl ?_ | with_reducible refine an ?_ ?_) <;> try simp only [hW, hQ, h0, push_cast, ed, reduceCtorEq, ld]))
            all_goals first | exact finRet0 hwf rfl rfl rfl | (exfalso; simp at hB; simp_all; done)
      | false =>
        have hS := pct_same hb
        rw [hf] at hS
        simp only [bf, if_false] at hS
        rw [hb] at hB
        clear hb
        generalize cutW 46 s = W at *
        generalize resQ s = Q at *
        obtain ⟨hB1, hB2⟩ := Bool.or_eq_false_iff.1 hB.symm
        obtain ⟨hB3, hB4⟩ := Bool.or_eq_false_iff.1 hB1
        have hW : dig3 W = true := by simpa using hB3
        have hQ : dig3 Q = true := by simpa using hB4
        obtain ⟨k1, k2, k3⟩ := dig3_ok3 hW
        obtain ⟨q1, q2, q3⟩ := dig3_ok3 hQ
        rcases W with _ | ⟨b, t⟩
        · simp at k1
        have h0 := h48 b
        have hlp : ∀ p : List UInt8, p = (Q ++ [48, 48, 48]).take 3 → p.length = 3 ∧ p.all digB = true := fun p hp => by
          rw [hp]
          refine ⟨by rw [List.length_take, List.length_append]; simp, List.all_eq_true.2 fun c hc => ?_⟩
          have hc := List.mem_of_mem_take hc
          rcases List.mem_append.1 hc with hc | hc
          · exact List.all_eq_true.1 q3 c hc
          · simp at hc; subst hc; rfl
        obtain ⟨p, hp⟩ : ∃ p, p = (Q ++ [48, 48, 48]).take 3 := ⟨_, rfl⟩
        obtain ⟨p1, p2⟩ := hlp p hp
        rw [← hp] at hS
        have hn1 : numD (b :: t) ≤ 999 := numD_three k2 k3
        have hn2 : numD p ≤ 999 := numD_three (by omega) p2
        have lp : WT Tryz.prog F183.N F183.T 42 [(5, .str Q), (4, .str (b :: t)), (3, .int .i64 0), (2, .int .i64 0), (0, .str s)] st (seqT Tryz.prog F183.N F183.T 52 (finQ F183.res st.nx fun x s_1 => x = .ret (.tup [.int .i64 (pctN s).1, .int .i64 (pctN s).2]) ∧ s_1 = st)) := by
          (repeat' first | ((first | refine go rfl rfl ?_ | (refine Fk.by_ ?_ ?_ <;> intro hc <;> try simp only [hc]) | refine storeK_eq rfl ?_ | with_reducible refine an ?_ ?_) <;> try simp only [push_cast, ed, reduceCtorEq, ld]))
          refine WT_loop rfl (fun n e z => ∃ q : List UInt8, n = 3 - q.length ∧ 1 ≤ q.length ∧ q.length ≤ 3 ∧ (q ++ [48, 48, 48]).take 3 = p ∧ e = [(5, .str q), (4, .str (b :: t)), (3, .int .i64 0), (2, .int .i64 0), (0, .str s)] ∧ st = z) st.nx (Nat.le_refl _) (by rintro _ _ _ ⟨q, _, _, _, _, _, rfl⟩; rfl)
            ⟨_, _, _, ⟨Q, rfl, q1, q2, hp.symm, rfl, rfl⟩, (by repeat first | exact .nil | refine .cons (by first | rfl | (simp [V.bd, V.bdL]; try first | omega | assumption)) (by first | rfl | simp only [push_cast, ed, reduceCtorEq, ld]) ?_), .refl hwf⟩ ?_
          rintro n e z ⟨q, rfl, g1, g2, g3, rfl, rfl⟩
          rcases Nat.lt_or_ge q.length 3 with hlt | hge
          · have l1 : decide ((q.length : Int) < 3) = true := decide_eq_true (by omega)
            have l2 : q.length + 1 ≤ 9223372036854775807 := by omega
            have hps := pad_step hlt
            (repeat' first | ((first | refine go rfl rfl ?_ | (refine Fk.by_ ?_ ?_ <;> intro hc <;> try simp only [hc]) | refine storeK_eq rfl ?_ | with_reducible refine an ?_ ?_) <;> try simp only [l1, l2, push_cast, ed, reduceCtorEq, ld]))
            all_goals first | exact ⟨_, _, _, by simp only [List.length_append, List.length_singleton]; omega, ⟨q ++ [48], rfl, by simp, by simp only [List.length_append, List.length_singleton]; omega, by rw [hps, g3], rfl, rfl⟩, (by repeat first | exact .nil | refine .cons (by first | rfl | (simp [V.bd, V.bdL]; try first | omega | assumption)) (by first | rfl | simp only [push_cast, ed, reduceCtorEq, ld]) ?_), .refl hwf⟩
          · have l1 : decide ((q.length : Int) < 3) = false := decide_eq_false (by omega)
            have hqp : q = p := by rw [← g3, pad_end (by omega)]
            subst hqp
            have w1 : IntKind.i64.wrap (1000 * (numD (b :: t) : Int)) = 1000 * (numD (b :: t) : Int) := wrap64 (by omega) (by omega)
            have w2 : IntKind.i64.wrap (1000 * (numD (b :: t) : Int) + (numD q : Int)) = ((1000 * numD (b :: t) + numD q : Nat) : Int) := by rw [wrap64 (by omega) (by omega)]; omega
            obtain ⟨F, hF⟩ : ∃ F, F = 1000 * numD (b :: t) + numD q := ⟨_, rfl⟩
            rw [← hF] at w2 hS
            rw [hS]
            (repeat' first | ((first | refine go rfl rfl ?_ | refine Cl.by_ (by (first | refine qnum4_v _ _ k2 k3 | refine qnum4_v _ _ (by omega) p2 | refine qof_v _ _ (by omega))) ?_ | (refine Fk.by_ ?_ ?_ <;> intro hc <;> try simp only [hc]) | refine storeK_eq rfl ?_ | with_reducible refine an ?_ ?_) <;> try simp only [l1, w1, w2, push_cast, ed, reduceCtorEq, ld]))
            all_goals exact finRet0 hwf rfl rfl rfl
        (repeat' first | exact WT_env (by repeat first | exact .nil | refine .cons (by first | rfl | simp only [push_cast, ed, reduceCtorEq, ld]) ?_) lp | ((first | refine go rfl rfl ?_ | refine Cl.by_ (by (first | refine q4digits_v _ _ h1 | refine q4digits_v _ _ h2)) ?_ | (refine Fk.by_ ?_ ?_ <;> intro hc <;> try simp only [hc]) | refine storeK_eq rfl ?_ | with_reducible refine an ?_ ?_) <;> try simp only [hW, hQ, h0, push_cast, ed, reduceCtorEq, ld]))
        all_goals (exfalso; have e1 : ((b :: t)[0]? == some 48) = true := by assumption
                   have e2 : decide (1 < ((b :: t).length : Int)) = true := by simp only [List.length_cons, Int.natCast_add, Int.cast_ofNat_Int]; assumption
                   rw [e1, e2] at hB2; cases hB2)
    (repeat' first | ((first | refine go rfl rfl ?_ | (refine Fk.by_ ?_ ?_ <;> intro hc <;> try simp only [hc]) | refine storeK_eq rfl ?_ | with_reducible refine an ?_ ?_) <;> try simp only [hf, push_cast, ed, reduceCtorEq, ld]))
    refine WT_loop rfl (fun n e z => ∃ j : Nat, n = s.length - j ∧ j ≤ s.length ∧ (∀ i < j, s[i]? ≠ some 46) ∧ e = [(6, .int .i64 (j : Int)), (5, .str [48, 48, 48]), (4, .str s), (3, .int .i64 0), (2, .int .i64 0), (0, .str s)] ∧ st = z) st.nx (Nat.le_refl _) (by rintro _ _ _ ⟨j, _, _, _, _, rfl⟩; rfl)
      ⟨_, _, _, ⟨0, rfl, Nat.zero_le _, fun i hi => absurd hi (Nat.not_lt_zero _), rfl, rfl⟩, (by repeat first | exact .nil | refine .cons (by first | rfl | (simp [V.bd, V.bdL]; try first | omega | assumption)) (by first | rfl | simp only [push_cast, ed, reduceCtorEq, ld]) ?_), .refl hwf⟩ ?_
    rintro n e z ⟨j, rfl, hj, hr, rfl, rfl⟩
    rcases Nat.lt_or_ge j s.length with hlt | hge
    · obtain ⟨b, hb⟩ : ∃ b, s[j]? = some b := ⟨_, List.getElem?_eq_getElem hlt⟩
      have l2 : decide ((j : Int) < (s.length : Int)) = true := decide_eq_true (by omega)
      have hwr : IntKind.i64.wrap ((j : Int) + 1) = (j : Int) + 1 := wrap64 (by omega) (by omega)
      have hle : j ≤ s.length := hj
      have hlt1 : j + 1 ≤ s.length := hlt
      cases h46 : ((b.toNat : Int) == 46) with
      | true =>
        have hb' : b = 46 := UInt8.toNat_inj.1 (by have : (46 : UInt8).toNat = 46 := rfl; simp at h46; omega)
        subst hb'
        have hp := posB_at hr hb
        have e1 : cutW 46 s = s.take j := by unfold cutW; rw [hp]
        have e3 : cutP 46 s = true := decide_eq_true (by rw [hp]; exact hlt)
        have e2 : resQ s = s.drop (j + 1) := by unfold resQ cutR; rw [if_pos e3, hp]
        rw [e1, e2] at key
        (repeat' first | exact WT_env (by repeat first | exact .nil | refine .cons (by first | rfl | simp only [push_cast, ed, reduceCtorEq, ld]) ?_) key | ((first | refine go rfl rfl ?_ | (refine Fk.by_ ?_ ?_ <;> intro hc <;> try simp only [hc]) | refine storeK_eq rfl ?_ | with_reducible refine an ?_ ?_) <;> try simp only [l2, hwr, hb, hle, hlt1, h46, Nat.zero_le, Nat.le_refl, List.take_length, List.drop_zero, push_cast, ed, reduceCtorEq, ld]))
      | false =>
        (repeat' first | ((first | refine go rfl rfl ?_ | (refine Fk.by_ ?_ ?_ <;> intro hc <;> try simp only [hc]) | refine storeK_eq rfl ?_ | with_reducible refine an ?_ ?_) <;> try simp only [l2, hwr, hb, h46, push_cast, ed, reduceCtorEq, ld]))
        refine ⟨_, _, _, by omega, ⟨j + 1, rfl, by omega, fun i hi => ?_, rfl, rfl⟩, (by repeat first | exact .nil | refine .cons (by first | rfl | (simp [V.bd, V.bdL]; try first | omega | assumption)) (by first | rfl | simp only [push_cast, ed, reduceCtorEq, ld]) ?_), .refl hwf⟩
        rcases Nat.lt_or_ge i j with h | h
        · exact hr i h
        · have : i = j := by omega
          subst this
          rw [hb]
          intro e
          cases e
          simp at h46
    · have l2 : decide ((j : Int) < (s.length : Int)) = false := decide_eq_false (by omega)
      have ej : j = s.length := by omega
      subst ej
      have hp := posB_none hr
      have e1 : cutW 46 s = s := by unfold cutW; rw [hp, List.take_length]
      have e3 : cutP 46 s = false := decide_eq_false (by omega)
      have e2 : resQ s = [48, 48, 48] := by unfold resQ; rw [if_neg (by rw [e3]; decide)]
      rw [e1, e2] at key
      (repeat' first | exact WT_env (by repeat first | exact .nil | refine .cons (by first | rfl | simp only [push_cast, ed, reduceCtorEq, ld]) ?_) key | ((first | refine go rfl rfl ?_ | (refine Fk.by_ ?_ ?_ <;> intro hc <;> try simp only [hc]) | refine storeK_eq rfl ?_ | with_reducible refine an ?_ ?_) <;> try simp only [l2, push_cast, ed, reduceCtorEq, ld]))
def F11 : FT := ⟨39, 1, [.cell 2 (some 19), .tmp 3, .tmp 4],
 [.seq 1 2,
 .reg [.s 2 (.alloc 28 Z0),
 .s 3 (.mv (.i 0)),
 .s 4 (.mv (.i 0))],
 .seq 3 4,
 .reg [.s 10 (.m 0),
 .s 11 (.f 28 [(.t 10)]),
 .s 9 (.m 11),
 .s 12 (.ext 0 (.t 9)),
 .s 13 (.ext 1 (.t 9)),
 .s 14 (.ext 2 (.t 9)),
 .s 5 (.m 12),
 .s 6 (.m 13),
 .s 7 (.m 14)],
 .seq 5 12,
 .seq 6 7,
 .reg [.s 15 (.m 7),
 .s 16 (.bin .neq (.t 15) (.i 0))],
 .cond (.t 16) 8 11,
 .seq 9 10,
 .reg [.s 17 (.build Z0 []),
 .s 18 (.m 6),
 .s 19 (.m 7),
 .n (.store 19 (.t 2) (.t 17)),
 .s 3 (.m 18),
 .s 4 (.m 19)],
 .ret,
 .skip,
 .seq 13 14,
 .reg [.s 20 (.m 5),
 .s 21 (.f 29 [(.t 20)]),
 .s 8 (.alloc 28 Z0),
 .n (.store 19 (.t 8) (.t 21))],
 .seq 15 16,
 .reg [.s 22 (.m 5),
 .s 23 (.f 30 [(.t 22)])],
 .seq 17 24,
 .seq 18 19,
 .reg [.s 24 (.m 5),
 .s 25 (.k 24),
 .s 26 (.a 2 25),
 .s 27 (.l 26),
 .s 28 (.bin .neq (.t 27) (.i 0))],
 .cond (.t 28) 20 23,
 .seq 21 22,
 .greg [[], [], [], [], [], [], [], [], [], [true, true, true, true, true, true, true, true, false], [], []] [.s 29 (.build Z0 []),
 .s 30 (.m 5),
 .s 31 (.k 30),
 .s 32 (.a 3 31),
 .s 33 (.l 32),
 .s 34 (.m 5),
 .s 35 (.k 34),
 .s 36 (.a 2 35),
 .s 37 (.l 36),
 .n (.store 19 (.t 2) (.t 29)),
 .s 3 (.m 33),
 .s 4 (.m 37)],
 .ret,
 .skip,
 .seq 25 26,
 .reg [.s 38 (.load (some 19) (.t 8)),
 .n (.store 19 (.t 2) (.t 38)),
 .s 3 (.mv (.i 0)),
 .s 4 (.mv (.i 0))],
 .ret]⟩
def F19 : FT := ⟨37, 1, [.tmp 2, .tmp 3, .tmp 4],
 [.seq 1 2,
 .reg [.s 2 (.mv (.c .nils)),
 .s 3 (.mv (.i 0)),
 .s 4 (.mv (.i 0))],
 .seq 3 4,
 .reg [.s 10 (.m 0),
 .s 11 (.f 28 [(.t 10)]),
 .s 9 (.m 11),
 .s 12 (.ext 0 (.t 9)),
 .s 13 (.ext 1 (.t 9)),
 .s 14 (.ext 2 (.t 9)),
 .s 5 (.m 12),
 .s 6 (.m 13),
 .s 7 (.m 14)],
 .seq 5 12,
 .seq 6 7,
 .reg [.s 15 (.m 7),
 .s 16 (.bin .neq (.t 15) (.i 0))],
 .cond (.t 16) 8 11,
 .seq 9 10,
 .reg [.s 17 (.m 6),
 .s 18 (.m 7),
 .s 2 (.mv (.c .nils)),
 .s 3 (.m 17),
 .s 4 (.m 18)],
 .ret,
 .skip,
 .seq 13 14,
 .reg [.s 19 (.m 5),
 .s 20 (.f 46 [(.t 19)]),
 .s 8 (.m 20)],
 .seq 15 16,
 .reg [.s 21 (.m 5),
 .s 22 (.f 30 [(.t 21)])],
 .seq 17 24,
 .seq 18 19,
 .reg [.s 23 (.m 5),
 .s 24 (.k 23),
 .s 25 (.a 2 24),
 .s 26 (.l 25),
 .s 27 (.bin .neq (.t 26) (.i 0))],
 .cond (.t 27) 20 23,
 .seq 21 22,
 .dreg 11 [.s 28 (.m 5),
 .s 29 (.k 28),
 .s 30 (.a 3 29),
 .s 31 (.l 30),
 .s 32 (.m 5),
 .s 33 (.k 32),
 .s 34 (.a 2 33),
 .s 35 (.l 34),
 .s 2 (.mv (.c .nils)),
 .s 3 (.m 31),
 .s 4 (.m 35)],
 .ret,
 .skip,
 .seq 25 26,
 .reg [.s 36 (.m 8),
 .s 2 (.m 36),
 .s 3 (.mv (.i 0)),
 .s 4 (.mv (.i 0))],
 .ret]⟩
def F28 : FT := ⟨21, 1, [.tmp 2, .tmp 3, .tmp 4],
 [.seq 1 2,
 .reg [.s 2 (.mv (.c .nilp)),
 .s 3 (.mv (.i 0)),
 .s 4 (.mv (.i 0))],
 .seq 3 4,
 .reg [.s 9 (.m 0),
 .s 10 (.f 67 [(.t 9)]),
 .s 8 (.m 10),
 .s 11 (.ext 0 (.t 8)),
 .s 12 (.ext 1 (.t 8)),
 .s 13 (.ext 2 (.t 8)),
 .s 5 (.m 11),
 .s 6 (.m 12),
 .s 7 (.m 13)],
 .seq 5 12,
 .seq 6 7,
 .reg [.s 14 (.m 7),
 .s 15 (.bin .neq (.t 14) (.i 0))],
 .cond (.t 15) 8 11,
 .seq 9 10,
 .reg [.s 16 (.m 6),
 .s 17 (.m 7),
 .s 2 (.mv (.c .nilp)),
 .s 3 (.m 16),
 .s 4 (.m 17)],
 .ret,
 .skip,
 .seq 13 14,
 .reg [.s 18 (.m 5),
 .s 19 (.build [.nils, (.i 0), (.i 0), (.i 0)] [(0, 1, (.t 18))]),
 .s 20 (.box 65 (.t 19)),
 .s 2 (.m 20),
 .s 3 (.mv (.i 0)),
 .s 4 (.mv (.i 0))],
 .ret]⟩
def F29 : FT := ⟨95, 1, [.cell 2 (some 19)],
 [.seq 1 2,
 .reg [.s 2 (.alloc 28 Z0)],
 .seq 3 4,
 .reg [.s 4 (.m 0),
 .s 5 (.f 68 [(.t 4)]),
 .s 3 (.alloc 111 [(.i 0), (.str []), (.i 0)]),
 .n (.store 3 (.t 3) (.t 5))],
 .seq 5 12,
 .seq 6 7,
 .reg [.s 6 (.a 0 3),
 .s 7 (.l 6),
 .s 8 (.bin .neq (.t 7) (.i 0)),
 .s 9 (.m 8),
 .x 10 (.a 1 3) 9,
 .x 11 (.l 10) 9,
 .x 12 (.bin .eql (.t 11) (.w [103, 114, 111, 117, 112])) 9,
 .s 13 (.pick (.t 9) (.c (.bool true)) (.t 12))],
 .cond (.t 13) 8 11,
 .seq 9 10,
 .reg [.s 14 (.m 0),
 .s 15 (.f 69 [(.t 14)]),
 .n (.store 19 (.t 2) (.t 15))],
 .ret,
 .skip,
 .seq 13 14,
 .reg [.s 16 (.m 0),
 .s 17 (.k 16),
 .s 18 (.a 1 17),
 .s 19 (.l 18),
 .s 20 (.bin .add (.t 19) (.i 1)),
 .s 21 (.k 16),
 .s 22 (.a 1 21),
 .n (.store 1 (.t 22) (.t 20))],
 .seq 15 125,
 .seq 16 17,
 .reg [.s 23 (.a 1 3),
 .s 24 (.l 23)],
 .block 0 18,
 .seq 19 20,
 .reg [.s 26 (.bin .eql (.t 24) (.w [99, 108, 101, 97, 114])),
 .s 25 (.m 26)],
 .cond (.t 25) 21 24,
 .seq 22 23,
 .reg [.s 27 (.m 0),
 .s 28 (.f 70 [(.t 27)]),
 .n (.store 19 (.t 2) (.t 28))],
 .ret,
 .seq 25 26,
 .reg [.s 30 (.bin .eql (.t 24) (.w [114, 101, 99, 111, 114, 100])),
 .s 29 (.m 30)],
 .cond (.t 29) 27 30,
 .seq 28 29,
 .reg [.s 31 (.m 0),
 .s 32 (.f 71 [(.t 31)]),
 .n (.store 19 (.t 2) (.t 32))],
 .ret,
 .seq 31 32,
 .reg [.s 34 (.bin .eql (.t 24) (.w [117, 112, 100, 97, 116, 101])),
 .s 33 (.m 34)],
 .cond (.t 33) 33 38,
 .seq 34 35,
 .reg [.s 35 (.m 0),
 .s 36 (.f 72 [(.t 35), (.w [99, 117, 101])])],
 .seq 36 37,
 .reg [.s 37 (.m 0),
 .s 38 (.build Z0 [(0, 1, (.i 3)), (1, 1, (.w [117, 112, 100, 97, 116, 101])), (2, 1, (.w [99, 117, 101]))]),
 .s 39 (.f 73 [(.t 37), (.t 38)]),
 .n (.store 19 (.t 2) (.t 39))],
 .ret,
 .seq 39 40,
 .reg [.s 41 (.bin .eql (.t 24) (.w [100, 101, 108, 101, 116, 101])),
 .s 40 (.m 41)],
 .cond (.t 40) 41 44,
 .seq 42 43,
 .reg [.s 42 (.m 0),
 .s 43 (.f 74 [(.t 42)]),
 .n (.store 19 (.t 2) (.t 43))],
 .ret,
 .seq 45 46,
 .reg [.s 45 (.bin .eql (.t 24) (.w [112, 97, 116, 99, 104])),
 .s 44 (.m 45)],
 .cond (.t 44) 47 50,
 .seq 48 49,
 .reg [.s 46 (.m 0),
 .s 47 (.f 75 [(.t 46)]),
 .n (.store 19 (.t 2) (.t 47))],
 .ret,
 .seq 51 80,
 .seq 52 53,
 .reg [.s 49 (.bin .eql (.t 24) (.w [103, 111])),
 .s 48 (.m 49)],
 .cond (.t 48) 54 55,
 .skip,
 .seq 56 57,
 .reg [.s 50 (.bin .eql (.t 24) (.w [98, 97, 99, 107])),
 .s 48 (.m 50)],
 .cond (.t 48) 58 59,
 .skip,
 .seq 60 61,
 .reg [.s 51 (.bin .eql (.t 24) (.w [112, 97, 117, 115, 101])),
 .s 48 (.m 51)],
 .cond (.t 48) 62 63,
 .skip,
 .seq 64 65,
 .reg [.s 52 (.bin .eql (.t 24) (.w [114, 101, 115, 117, 109, 101])),
 .s 48 (.m 52)],
 .cond (.t 48) 66 67,
 .skip,
 .seq 68 69,
 .reg [.s 53 (.bin .eql (.t 24) (.w [114, 101, 118, 101, 114, 115, 101])),
 .s 48 (.m 53)],
 .cond (.t 48) 70 71,
 .skip,
 .seq 72 73,
 .reg [.s 54 (.bin .eql (.t 24) (.w [103, 111, 116, 111])),
 .s 48 (.m 54)],
 .cond (.t 48) 74 75,
 .skip,
 .seq 76 77,
 .reg [.s 55 (.bin .eql (.t 24) (.w [114, 97, 116, 101])),
 .s 48 (.m 55)],
 .cond (.t 48) 78 79,
 .skip,
 .reg [.s 56 (.bin .eql (.t 24) (.w [114, 101, 108, 101, 97, 115, 101])),
 .s 48 (.m 56)],
 .cond (.t 48) 81 84,
 .seq 82 83,
 .reg [.s 57 (.m 0),
 .s 58 (.a 1 3),
 .s 59 (.l 58),
 .s 60 (.f 76 [(.t 57), (.t 59)]),
 .n (.store 19 (.t 2) (.t 60))],
 .ret,
 .seq 85 98,
 .seq 86 87,
 .reg [.s 62 (.bin .eql (.t 24) (.w [108, 105, 115, 116])),
 .s 61 (.m 62)],
 .cond (.t 61) 88 89,
 .skip,
 .seq 90 91,
 .reg [.s 63 (.bin .eql (.t 24) (.w [115, 117, 98])),
 .s 61 (.m 63)],
 .cond (.t 61) 92 93,
 .skip,
 .seq 94 95,
 .reg [.s 64 (.bin .eql (.t 24) (.w [109, 97, 115, 116, 101, 114])),
 .s 61 (.m 64)],
 .cond (.t 61) 96 97,
 .skip,
 .reg [.s 65 (.bin .eql (.t 24) (.w [98, 108, 97, 99, 107, 111, 117, 116])),
 .s 61 (.m 65)],
 .cond (.t 61) 99 102,
 .seq 100 101,
 .reg [.s 66 (.m 0),
 .s 67 (.a 1 3),
 .s 68 (.l 67),
 .s 69 (.f 77 [(.t 66), (.t 68)]),
 .n (.store 19 (.t 2) (.t 69))],
 .ret,
 .seq 103 104,
 .reg [.s 71 (.bin .eql (.t 24) (.w [101, 102, 102, 101, 99, 116])),
 .s 70 (.m 71)],
 .cond (.t 70) 105 108,
 .seq 106 107,
 .reg [.s 72 (.m 0),
 .s 73 (.f 78 [(.t 72)]),
 .n (.store 19 (.t 2) (.t 73))],
 .ret,
 .seq 109 110,
 .reg [.s 75 (.bin .eql (.t 24) (.w [115, 116, 111, 112])),
 .s 74 (.m 75)],
 .cond (.t 74) 111 114,
 .seq 112 113,
 .reg [.s 76 (.m 0),
 .s 77 (.f 79 [(.t 76), (.i 1048576)]),
 .s 78 (.build Z0 [(0, 1, (.i 8)), (1, 1, (.w [115, 116, 111, 112])), (4, 1, (.t 77))]),
 .n (.store 19 (.t 2) (.t 78))],
 .ret,
 .seq 115 120,
 .seq 116 117,
 .reg [.s 80 (.bin .eql (.t 24) (.w [117, 110, 100, 111])),
 .s 79 (.m 80)],
 .cond (.t 79) 118 119,
 .skip,
 .reg [.s 81 (.bin .eql (.t 24) (.w [114, 101, 100, 111])),
 .s 79 (.m 81)],
 .cond (.t 79) 121 124,
 .seq 122 123,
 .reg [.s 82 (.a 1 3),
 .s 83 (.l 82),
 .s 84 (.build Z0 [(0, 1, (.i 9)), (1, 1, (.t 83))]),
 .n (.store 19 (.t 2) (.t 84))],
 .ret,
 .skip,
 .seq 126 127,
 .reg [.s 85 (.m 0),
 .s 86 (.k 85),
 .s 87 (.a 1 86),
 .s 88 (.l 87),
 .s 89 (.bin .sub (.t 88) (.i 1)),
 .s 90 (.k 85),
 .s 91 (.a 1 90),
 .n (.store 1 (.t 91) (.t 89))],
 .seq 128 129,
 .reg [.s 92 (.m 0),
 .s 93 (.f 80 [(.t 92), (.i 4)])],
 .seq 130 131,
 .reg [.s 94 (.build Z0 []),
 .n (.store 19 (.t 2) (.t 94))],
 .ret]⟩
def F30 : FT := ⟨8, 1, [],
 [.seq 1 2,
 .reg [.s 2 (.m 0),
 .s 3 (.f 68 [(.t 2)]),
 .s 4 (.fld none 0 (.t 3)),
 .s 5 (.bin .neq (.t 4) (.i 3))],
 .cond (.t 5) 3 4,
 .reg [.s 6 (.m 0),
 .s 7 (.f 80 [(.t 6), (.i 4)])],
 .skip]⟩
def F46 : FT := ⟨27, 1, [.tmp 2],
 [.seq 1 2,
 .reg [.s 2 (.mv (.c .nils))],
 .seq 3 4,
 .reg [.s 4 (.m 0),
 .s 5 (.f 92 [(.t 4), (.i 0)]),
 .s 6 (.bslice 43 4 [(.t 5)]),
 .s 3 (.m 6)],
 .seq 5 25,
 .block 0 6,
 .loop 7,
 .seq 8 13,
 .seq 9 10,
 .reg [.s 7 (.m 0),
 .s 8 (.k 7),
 .s 9 (.a 2 8),
 .s 10 (.l 9),
 .s 11 (.bin .eql (.t 10) (.i 0))],
 .cond (.t 11) 11 12,
 .skip,
 .exit 0,
 .block 1 14,
 .seq 15 16,
 .reg [.s 12 (.m 0),
 .s 13 (.f 93 [(.t 12), (.w [43])])],
 .cond (.t 13) 17 18,
 .reg [.s 14 (.m 3),
 .s 15 (.m 0),
 .s 16 (.f 92 [(.t 15), (.i 0)]),
 .s 17 (.bslice 43 4 [(.t 16)]),
 .s 18 (.append 43 4 32 (.t 14) (.t 17)),
 .s 3 (.m 18)],
 .seq 19 20,
 .reg [.s 19 (.m 0),
 .s 20 (.f 93 [(.t 19), (.w [45])])],
 .cond (.t 20) 21 22,
 .reg [.s 21 (.m 3),
 .s 22 (.m 0),
 .s 23 (.f 92 [(.t 22), (.i 1)]),
 .s 24 (.bslice 43 4 [(.t 23)]),
 .s 25 (.append 43 4 32 (.t 21) (.t 24)),
 .s 3 (.m 25)],
 .seq 23 24,
 .reg [.s 26 (.m 3),
 .s 2 (.m 26)],
 .ret,
 .seq 26 27,
 .reg [.s 2 (.mv (.c .nils))],
 .ret]⟩
def F68 : FT := ⟨20, 1, [.cell 2 (some 3)],
 [.seq 1 2,
 .reg [.s 2 (.alloc 111 [(.i 0), (.str []), (.i 0)])],
 .seq 3 4,
 .dreg 17 [.s 3 (.m 0),
 .s 4 (.k 3),
 .s 5 (.a 0 4),
 .s 6 (.l 5),
 .s 7 (.m 0),
 .s 8 (.k 7),
 .s 9 (.a 1 8),
 .s 10 (.l 9),
 .s 11 (.m 0),
 .s 12 (.k 11),
 .s 13 (.a 0 12),
 .s 14 (.l 13),
 .s 15 (.len (.t 14)),
 .s 16 (.bin .sub (.t 15) (.i 1)),
 .s 17 (.gen .mn [(.t 10), (.t 16)]),
 .s 18 (.iadr 3 (.t 6) (.t 17)),
 .s 19 (.load (some 3) (.t 18)),
 .n (.store 3 (.t 2) (.t 19))],
 .ret]⟩
def F69 : FT := ⟨31, 1, [.cell 2 (some 19)],
 [.seq 1 2,
 .reg [.s 2 (.alloc 28 Z0)],
 .seq 3 4,
 .reg [.s 4 (.m 0),
 .s 5 (.f 46 [(.t 4)]),
 .s 6 (.m 0),
 .s 7 (.f 126 [(.t 6), (.i 0)]),
 .s 8 (.build Z0 [(0, 1, (.i 0)), (1, 1, (.w [97, 116])), (5, 1, (.t 5)), (6, 1, (.t 7))]),
 .s 3 (.alloc 28 Z0),
 .n (.store 19 (.t 3) (.t 8))],
 .seq 5 6,
 .reg [.s 9 (.m 0),
 .s 10 (.f 72 [(.t 9), (.w [97, 116])])],
 .seq 7 20,
 .seq 8 9,
 .reg [.s 11 (.m 0),
 .s 12 (.f 127 [(.t 11), (.w [112, 97, 108, 101, 116, 116, 101])])],
 .cond (.t 12) 10 11,
 .reg [.s 13 (.m 0),
 .s 14 (.f 79 [(.t 13), (.i 1048576)]),
 .s 15 (.a 8 3),
 .n (.store 1 (.t 15) (.t 14))],
 .seq 12 13,
 .reg [.s 16 (.m 0),
 .s 17 (.f 127 [(.t 16), (.w [104, 111, 109, 101])])],
 .cond (.t 17) 14 15,
 .reg [.s 18 (.a 8 3),
 .n (.store 1 (.t 18) (.i (-1)))],
 .seq 16 17,
 .reg [.s 19 (.a 6 3),
 .s 20 (.l 19),
 .s 21 (.bin .geq (.t 20) (.i 15))],
 .cond (.t 21) 18 19,
 .reg [.s 22 (.m 0),
 .s 23 (.f 80 [(.t 22), (.i 4)])],
 .reg [.s 24 (.m 0),
 .s 25 (.f 128 [(.t 24)]),
 .s 26 (.a 7 3),
 .n (.store 1 (.t 26) (.t 25))],
 .seq 21 22,
 .reg [.s 27 (.m 0),
 .s 28 (.f 129 [(.t 27)]),
 .s 29 (.a 9 3),
 .n (.store 1 (.t 29) (.t 28))],
 .seq 23 24,
 .reg [.s 30 (.load (some 19) (.t 3)),
 .n (.store 19 (.t 2) (.t 30))],
 .ret]⟩
def F70 : FT := ⟨17, 1, [.cell 2 (some 19)],
 [.seq 1 2,
 .reg [.s 2 (.alloc 28 Z0)],
 .seq 3 4,
 .reg [.s 4 (.build Z0 [(0, 1, (.i 1)), (1, 1, (.w [99, 108, 101, 97, 114])), (6, 1, (.i (-1)))]),
 .s 3 (.alloc 28 Z0),
 .n (.store 19 (.t 3) (.t 4))],
 .seq 5 12,
 .seq 6 7,
 .reg [.s 5 (.m 0),
 .s 6 (.f 68 [(.t 5)]),
 .s 7 (.fld none 0 (.t 6)),
 .s 8 (.bin .eql (.t 7) (.i 3))],
 .cond (.t 8) 8 11,
 .seq 9 10,
 .reg [.s 9 (.load (some 19) (.t 3)),
 .n (.store 19 (.t 2) (.t 9))],
 .ret,
 .skip,
 .seq 13 14,
 .reg [.s 10 (.m 0),
 .s 11 (.f 46 [(.t 10)]),
 .s 12 (.a 5 3),
 .n (.store 1 (.t 12) (.t 11))],
 .seq 15 16,
 .reg [.s 13 (.m 0),
 .s 14 (.f 126 [(.t 13), (.i (-1))]),
 .s 15 (.a 6 3),
 .n (.store 1 (.t 15) (.t 14))],
 .seq 17 18,
 .reg [.s 16 (.load (some 19) (.t 3)),
 .n (.store 19 (.t 2) (.t 16))],
 .ret]⟩
def F71 : FT := ⟨45, 1, [.cell 2 (some 19)],
 [.seq 1 2,
 .reg [.s 2 (.alloc 28 Z0)],
 .seq 3 4,
 .reg [.s 4 (.m 0),
 .s 5 (.f 68 [(.t 4)]),
 .s 6 (.fld none 1 (.t 5)),
 .s 7 (.build Z0 [(0, 1, (.i 2)), (1, 1, (.w [114, 101, 99, 111, 114, 100])), (2, 1, (.t 6))]),
 .s 3 (.alloc 28 Z0),
 .n (.store 19 (.t 3) (.t 7))],
 .seq 5 36,
 .seq 6 7,
 .reg [.s 8 (.m 0),
 .s 9 (.f 127 [(.t 8), (.w [99, 117, 101])])],
 .cond (.t 9) 8 25,
 .seq 9 10,
 .reg [.s 10 (.m 0),
 .s 11 (.load (some 19) (.t 3)),
 .s 12 (.f 73 [(.t 10), (.t 11)]),
 .n (.store 19 (.t 3) (.t 12))],
 .seq 11 16,
 .seq 12 13,
 .reg [.s 13 (.m 0),
 .s 14 (.f 127 [(.t 13), (.w [111, 110, 108, 121])])],
 .cond (.t 14) 14 15,
 .reg [.s 15 (.a 10 3),
 .n (.store 1 (.t 15) (.i 1))],
 .skip,
 .seq 17 18,
 .reg [.s 16 (.a 7 3),
 .n (.store 1 (.t 16) (.i 1))],
 .seq 19 24,
 .seq 20 21,
 .reg [.s 17 (.m 0),
 .s 18 (.f 127 [(.t 17), (.w [112, 97, 114, 116])])],
 .cond (.t 18) 22 23,
 .reg [.s 19 (.m 0),
 .s 20 (.f 79 [(.t 19), (.i 4)]),
 .s 21 (.a 7 3),
 .n (.store 1 (.t 21) (.t 20))],
 .skip,
 .reg [.s 22 (.m 0),
 .s 23 (.f 129 [(.t 22)]),
 .s 24 (.a 9 3),
 .n (.store 1 (.t 24) (.t 23))],
 .seq 26 27,
 .reg [.s 25 (.m 0),
 .s 26 (.f 127 [(.t 25), (.w [112, 97, 108, 101, 116, 116, 101])]),
 .s 27 (.m 26),
 .x 28 (.m 0) 27,
 .x 29 (.f 127 [(.t 28), (.w [115, 117, 98])]) 27,
 .s 30 (.pick (.t 27) (.c (.bool true)) (.t 29))],
 .cond (.t 30) 28 29,
 .reg [.s 31 (.m 0),
 .s 32 (.f 79 [(.t 31), (.i 1048576)]),
 .s 33 (.a 4 3),
 .n (.store 1 (.t 33) (.t 32))],
 .seq 30 31,
 .reg [.s 34 (.m 0),
 .s 35 (.f 127 [(.t 34), (.w [103, 114, 111, 117, 112])])],
 .cond (.t 35) 32 35,
 .seq 33 34,
 .reg [.s 36 (.m 0),
 .s 37 (.f 79 [(.t 36), (.i 1048576)]),
 .s 38 (.a 4 3),
 .n (.store 1 (.t 38) (.t 37))],
 .reg [.s 39 (.m 0),
 .s 40 (.f 46 [(.t 39)]),
 .s 41 (.a 5 3),
 .n (.store 1 (.t 41) (.t 40))],
 .reg [.s 42 (.m 0),
 .s 43 (.f 80 [(.t 42), (.i 4)])],
 .seq 37 38,
 .reg [.s 44 (.load (some 19) (.t 3)),
 .n (.store 19 (.t 2) (.t 44))],
 .ret]⟩
def F72 : FT := ⟨10, 2, [],
 [.seq 1 2,
 .reg [.s 4 (.m 0),
 .s 5 (.m 1),
 .s 6 (.f 127 [(.t 4), (.t 5)]),
 .s 7 (.un .not (.t 6))],
 .cond (.t 7) 3 4,
 .reg [.s 8 (.m 0),
 .s 9 (.f 80 [(.t 8), (.i 4)])],
 .skip]⟩
def F73 : FT := ⟨14, 2, [.cell 4 (some 19)],
 [.seq 1 2,
 .reg [.s 3 (.box 28 (.t 1)),
 .s 4 (.alloc 28 Z0)],
 .seq 3 4,
 .reg [.s 5 (.m 0),
 .s 6 (.f 79 [(.t 5), (.i 1048576)]),
 .s 7 (.a 4 3),
 .n (.store 1 (.t 7) (.t 6))],
 .seq 5 6,
 .reg [.s 8 (.m 0),
 .s 9 (.f 130 [(.t 8)])],
 .seq 7 8,
 .reg [.s 10 (.m 0),
 .s 11 (.f 131 [(.t 10)]),
 .s 12 (.a 3 3),
 .n (.store 1 (.t 12) (.t 11))],
 .seq 9 10,
 .reg [.s 13 (.load (some 19) (.t 3)),
 .n (.store 19 (.t 4) (.t 13))],
 .ret]⟩
def F74 : FT := ⟨41, 1, [.cell 2 (some 19)],
 [.seq 1 2,
 .reg [.s 2 (.alloc 28 Z0)],
 .seq 3 4,
 .reg [.s 4 (.m 0),
 .s 5 (.f 68 [(.t 4)]),
 .s 6 (.fld none 1 (.t 5)),
 .s 7 (.build Z0 [(0, 1, (.i 4)), (1, 1, (.w [100, 101, 108, 101, 116, 101])), (2, 1, (.t 6))]),
 .s 3 (.alloc 28 Z0),
 .n (.store 19 (.t 3) (.t 7))],
 .seq 5 24,
 .seq 6 7,
 .reg [.s 8 (.m 0),
 .s 9 (.f 127 [(.t 8), (.w [99, 117, 101])])],
 .cond (.t 9) 8 15,
 .seq 9 10,
 .reg [.s 10 (.m 0),
 .s 11 (.load (some 19) (.t 3)),
 .s 12 (.f 73 [(.t 10), (.t 11)]),
 .n (.store 19 (.t 3) (.t 12))],
 .seq 11 12,
 .reg [.s 13 (.m 0),
 .s 14 (.f 127 [(.t 13), (.w [107, 101, 101, 112])])],
 .cond (.t 14) 13 14,
 .reg [.s 15 (.a 10 3),
 .n (.store 1 (.t 15) (.i 2))],
 .skip,
 .seq 16 17,
 .reg [.s 16 (.m 0),
 .s 17 (.f 127 [(.t 16), (.w [112, 97, 108, 101, 116, 116, 101])]),
 .s 18 (.m 17),
 .x 19 (.m 0) 18,
 .x 20 (.f 127 [(.t 19), (.w [103, 114, 111, 117, 112])]) 18,
 .s 21 (.pick (.t 18) (.c (.bool true)) (.t 20)),
 .s 22 (.m 21),
 .x 23 (.m 0) 22,
 .x 24 (.f 127 [(.t 23), (.w [115, 117, 98])]) 22,
 .s 25 (.pick (.t 22) (.c (.bool true)) (.t 24)),
 .s 26 (.m 25),
 .x 27 (.m 0) 26,
 .x 28 (.f 127 [(.t 27), (.w [101, 102, 102, 101, 99, 116])]) 26,
 .s 29 (.pick (.t 26) (.c (.bool true)) (.t 28))],
 .cond (.t 29) 18 19,
 .reg [.s 30 (.m 0),
 .s 31 (.f 79 [(.t 30), (.i 1048576)]),
 .s 32 (.a 4 3),
 .n (.store 1 (.t 32) (.t 31))],
 .seq 20 21,
 .reg [.s 33 (.m 0),
 .s 34 (.f 127 [(.t 33), (.w [102, 105, 120, 116, 117, 114, 101])])],
 .cond (.t 34) 22 23,
 .reg [.s 35 (.m 0),
 .s 36 (.f 132 [(.t 35)]),
 .s 37 (.a 11 3),
 .n (.store 7 (.t 37) (.t 36))],
 .reg [.s 38 (.m 0),
 .s 39 (.f 80 [(.t 38), (.i 4)])],
 .seq 25 26,
 .reg [.s 40 (.load (some 19) (.t 3)),
 .n (.store 19 (.t 2) (.t 40))],
 .ret]⟩
def F75 : FT := ⟨27, 1, [.cell 2 (some 19)],
 [.seq 1 2,
 .reg [.s 2 (.alloc 28 Z0)],
 .seq 3 4,
 .reg [.s 4 (.m 0),
 .s 5 (.f 132 [(.t 4)]),
 .s 3 (.alloc 25 Z1),
 .n (.store 7 (.t 3) (.t 5))],
 .seq 5 6,
 .reg [.s 6 (.m 0),
 .s 7 (.f 133 [(.t 6)]),
 .s 8 (.a 2 3),
 .n (.store 1 (.t 8) (.t 7))],
 .seq 7 8,
 .reg [.s 9 (.m 0),
 .s 10 (.f 72 [(.t 9), (.w [97, 116])])],
 .seq 9 10,
 .reg [.s 11 (.m 0),
 .s 12 (.f 79 [(.t 11), (.i 8)]),
 .s 13 (.a 3 3),
 .n (.store 1 (.t 13) (.t 12))],
 .seq 11 12,
 .reg [.s 14 (.m 0),
 .s 15 (.f 130 [(.t 14)])],
 .seq 13 14,
 .reg [.s 16 (.m 0),
 .s 17 (.f 79 [(.t 16), (.i 512)]),
 .s 18 (.a 4 3),
 .n (.store 1 (.t 18) (.t 17))],
 .seq 15 16,
 .reg [.s 19 (.a 5 3),
 .n (.store 1 (.t 19) (.i 1))],
 .seq 17 22,
 .seq 18 19,
 .reg [.s 20 (.m 0),
 .s 21 (.f 127 [(.t 20), (.w [112, 104, 97, 115, 101])])],
 .cond (.t 21) 20 21,
 .reg [.s 22 (.m 0),
 .s 23 (.f 79 [(.t 22), (.i 3)]),
 .s 24 (.a 5 3),
 .n (.store 1 (.t 24) (.t 23))],
 .skip,
 .seq 23 24,
 .reg [.s 25 (.load (some 7) (.t 3)),
 .s 26 (.build Z0 [(0, 1, (.i 5)), (1, 1, (.w [112, 97, 116, 99, 104])), (11, 7, (.t 25))]),
 .n (.store 19 (.t 2) (.t 26))],
 .ret]⟩
def F76 : FT := ⟨31, 2, [.cell 4 (some 19)],
 [.seq 1 2,
 .reg [.s 4 (.alloc 28 Z0)],
 .seq 3 4,
 .reg [.s 6 (.m 1),
 .s 7 (.m 0),
 .s 8 (.f 79 [(.t 7), (.i 1048576)]),
 .s 9 (.build Z0 [(0, 1, (.i 6)), (1, 1, (.t 6)), (4, 1, (.t 8))]),
 .s 5 (.alloc 28 Z0),
 .n (.store 19 (.t 5) (.t 9))],
 .seq 5 25,
 .seq 6 7,
 .reg [.s 10 (.m 1)],
 .block 0 8,
 .seq 9 10,
 .reg [.s 12 (.bin .eql (.t 10) (.w [103, 111, 116, 111])),
 .s 11 (.m 12)],
 .cond (.t 11) 11 14,
 .seq 12 13,
 .reg [.s 13 (.m 0),
 .s 14 (.f 72 [(.t 13), (.w [99, 117, 101])])],
 .reg [.s 15 (.m 0),
 .s 16 (.f 131 [(.t 15)]),
 .s 17 (.a 3 5),
 .n (.store 1 (.t 17) (.t 16))],
 .seq 15 16,
 .reg [.s 19 (.bin .eql (.t 10) (.w [114, 97, 116, 101])),
 .s 18 (.m 19)],
 .cond (.t 18) 17 20,
 .seq 18 19,
 .reg [.s 20 (.m 0),
 .s 21 (.f 72 [(.t 20), (.w [97, 116])])],
 .reg [.s 22 (.m 0),
 .s 23 (.f 79 [(.t 22), (.i 400)]),
 .s 24 (.a 7 5),
 .n (.store 1 (.t 24) (.t 23))],
 .seq 21 22,
 .reg [.s 26 (.bin .eql (.t 10) (.w [114, 101, 108, 101, 97, 115, 101])),
 .s 25 (.m 26)],
 .cond (.t 25) 23 24,
 .reg [.s 27 (.m 0),
 .s 28 (.f 129 [(.t 27)]),
 .s 29 (.a 9 5),
 .n (.store 1 (.t 29) (.t 28))],
 .skip,
 .seq 26 27,
 .reg [.s 30 (.load (some 19) (.t 5)),
 .n (.store 19 (.t 4) (.t 30))],
 .ret]⟩
def F77 : FT := ⟨30, 2, [.cell 4 (some 19)],
 [.seq 1 2,
 .reg [.s 4 (.alloc 28 Z0)],
 .seq 3 4,
 .reg [.s 6 (.m 1),
 .s 7 (.build Z0 [(0, 1, (.i 7)), (1, 1, (.t 6))]),
 .s 5 (.alloc 28 Z0),
 .n (.store 19 (.t 5) (.t 7))],
 .seq 5 18,
 .seq 6 7,
 .reg [.s 8 (.m 1),
 .s 9 (.bin .eql (.t 8) (.w [98, 108, 97, 99, 107, 111, 117, 116]))],
 .cond (.t 9) 8 17,
 .seq 9 14,
 .seq 10 11,
 .reg [.s 10 (.m 0),
 .s 11 (.f 127 [(.t 10), (.w [111, 110])])],
 .cond (.t 11) 12 13,
 .reg [.s 12 (.a 7 5),
 .n (.store 1 (.t 12) (.i 1))],
 .reg [.s 13 (.m 0),
 .s 14 (.f 72 [(.t 13), (.w [111, 102, 102])])],
 .seq 15 16,
 .reg [.s 15 (.load (some 19) (.t 5)),
 .n (.store 19 (.t 4) (.t 15))],
 .ret,
 .skip,
 .seq 19 24,
 .seq 20 21,
 .reg [.s 16 (.m 1),
 .s 17 (.bin .neq (.t 16) (.w [109, 97, 115, 116, 101, 114]))],
 .cond (.t 17) 22 23,
 .reg [.s 18 (.m 0),
 .s 19 (.f 79 [(.t 18), (.i 1048576)]),
 .s 20 (.a 4 5),
 .n (.store 1 (.t 20) (.t 19))],
 .skip,
 .seq 25 26,
 .reg [.s 21 (.m 0),
 .s 22 (.f 72 [(.t 21), (.w [97, 116])])],
 .seq 27 28,
 .reg [.s 23 (.m 0),
 .s 24 (.f 128 [(.t 23)]),
 .s 25 (.a 7 5),
 .n (.store 1 (.t 25) (.t 24))],
 .seq 29 30,
 .reg [.s 26 (.m 0),
 .s 27 (.f 129 [(.t 26)]),
 .s 28 (.a 9 5),
 .n (.store 1 (.t 28) (.t 27))],
 .seq 31 32,
 .reg [.s 29 (.load (some 19) (.t 5)),
 .n (.store 19 (.t 4) (.t 29))],
 .ret]⟩
def F78 : FT := ⟨20, 1, [.cell 2 (some 19)],
 [.seq 1 2,
 .reg [.s 2 (.alloc 28 Z0)],
 .seq 3 4,
 .reg [.s 4 (.m 0),
 .s 5 (.f 79 [(.t 4), (.i 1048576)]),
 .s 6 (.build Z0 [(0, 1, (.i 8)), (1, 1, (.w [101, 102, 102, 101, 99, 116])), (4, 1, (.t 5))]),
 .s 3 (.alloc 28 Z0),
 .n (.store 19 (.t 3) (.t 6))],
 .seq 5 14,
 .seq 6 7,
 .reg [.s 7 (.m 0),
 .s 8 (.f 127 [(.t 7), (.w [111, 110])])],
 .cond (.t 8) 8 13,
 .seq 9 10,
 .reg [.s 9 (.m 0),
 .s 10 (.f 46 [(.t 9)]),
 .s 11 (.a 5 3),
 .n (.store 1 (.t 11) (.t 10))],
 .seq 11 12,
 .reg [.s 12 (.load (some 19) (.t 3)),
 .n (.store 19 (.t 2) (.t 12))],
 .ret,
 .skip,
 .seq 15 16,
 .reg [.s 13 (.m 0),
 .s 14 (.f 72 [(.t 13), (.w [97, 116])])],
 .seq 17 18,
 .reg [.s 15 (.a 1 3),
 .n (.store 1 (.t 15) (.w [115, 112, 101, 101, 100]))],
 .seq 19 20,
 .reg [.s 16 (.m 0),
 .s 17 (.f 79 [(.t 16), (.i 400)]),
 .s 18 (.a 7 3),
 .n (.store 1 (.t 18) (.t 17))],
 .seq 21 22,
 .reg [.s 19 (.load (some 19) (.t 3)),
 .n (.store 19 (.t 2) (.t 19))],
 .ret]⟩
def F79 : FT := ⟨45, 2, [.tmp 4],
 [.seq 1 2,
 .reg [.s 4 (.mv (.i 0))],
 .seq 3 4,
 .reg [.s 7 (.m 0),
 .s 8 (.f 68 [(.t 7)]),
 .s 5 (.alloc 111 [(.i 0), (.str []), (.i 0)]),
 .n (.store 3 (.t 5) (.t 8))],
 .seq 5 10,
 .seq 6 7,
 .reg [.s 9 (.a 0 5),
 .s 10 (.l 9),
 .s 11 (.bin .neq (.t 10) (.i 1)),
 .s 12 (.m 11),
 .x 13 (.a 1 5) 12,
 .x 14 (.l 13) 12,
 .x 15 (.f 40 [(.t 14)]) 12,
 .x 16 (.un .not (.t 15)) 12,
 .s 17 (.pick (.t 12) (.c (.bool true)) (.t 16))],
 .cond (.t 17) 8 9,
 .reg [.s 18 (.m 0),
 .s 19 (.f 80 [(.t 18), (.i 4)])],
 .skip,
 .seq 11 12,
 .reg [.s 6 (.mv (.i 0))],
 .seq 13 18,
 .seq 14 15,
 .reg [.s 20 (.m 0),
 .s 21 (.k 20),
 .s 22 (.a 2 21),
 .s 23 (.l 22),
 .s 24 (.bin .eql (.t 23) (.i 0))],
 .cond (.t 24) 16 17,
 .reg [.s 25 (.a 1 5),
 .s 26 (.l 25),
 .s 27 (.f 42 [(.t 26)]),
 .s 6 (.m 27)],
 .skip,
 .seq 19 28,
 .seq 20 21,
 .reg [.s 28 (.m 6),
 .s 29 (.bin .lss (.t 28) (.i 1)),
 .s 30 (.m 29),
 .x 31 (.m 6) 30,
 .x 32 (.m 1) 30,
 .x 33 (.bin .gtr (.t 31) (.t 32)) 30,
 .s 34 (.pick (.t 30) (.c (.bool true)) (.t 33))],
 .cond (.t 34) 22 27,
 .seq 23 24,
 .reg [.s 35 (.m 0),
 .s 36 (.f 80 [(.t 35), (.i 2)])],
 .seq 25 26,
 .reg [.s 4 (.mv (.i 0))],
 .ret,
 .skip,
 .seq 29 30,
 .reg [.s 37 (.m 0),
 .s 38 (.k 37),
 .s 39 (.a 1 38),
 .s 40 (.l 39),
 .s 41 (.bin .add (.t 40) (.i 1)),
 .s 42 (.k 37),
 .s 43 (.a 1 42),
 .n (.store 1 (.t 43) (.t 41))],
 .seq 31 32,
 .reg [.s 44 (.m 6),
 .s 4 (.m 44)],
 .ret]⟩
def F80 : FT := ⟨19, 2, [],
 [.seq 1 2,
 .reg [.s 4 (.m 0),
 .s 5 (.k 4),
 .s 6 (.a 2 5),
 .s 7 (.l 6),
 .s 8 (.bin .eql (.t 7) (.i 0))],
 .cond (.t 8) 3 4,
 .reg [.s 9 (.m 0),
 .s 10 (.m 0),
 .s 11 (.m 1),
 .s 12 (.m 0),
 .s 13 (.f 68 [(.t 12)]),
 .s 14 (.fld none 2 (.t 13)),
 .s 15 (.k 9),
 .s 16 (.a 2 15),
 .n (.store 1 (.t 16) (.t 11)),
 .s 17 (.k 10),
 .s 18 (.a 3 17),
 .n (.store 1 (.t 18) (.t 14))],
 .skip]⟩
def F92 : FT := ⟨45, 2, [.cell 4 (some 4)],
 [.seq 1 2,
 .reg [.s 4 (.alloc 43 [(.i 0), (.i 0), (.i 0), (.i 0)])],
 .seq 3 10,
 .seq 4 5,
 .reg [.s 8 (.m 0),
 .s 9 (.f 127 [(.t 8), (.w [103, 114, 111, 117, 112])])],
 .cond (.t 9) 6 9,
 .seq 7 8,
 .reg [.s 10 (.m 1),
 .s 11 (.m 0),
 .s 12 (.f 79 [(.t 11), (.i 1048576)]),
 .s 13 (.build [(.i 0), (.i 0), (.i 0), (.i 0)] [(0, 1, (.t 10)), (1, 1, (.t 12))]),
 .n (.store 4 (.t 4) (.t 13))],
 .ret,
 .skip,
 .seq 11 12,
 .reg [.s 14 (.m 0),
 .s 15 (.f 79 [(.t 14), (.i 999)]),
 .s 5 (.m 15)],
 .seq 13 14,
 .reg [.s 16 (.m 5),
 .s 6 (.m 16)],
 .seq 15 28,
 .seq 16 17,
 .reg [.s 17 (.m 0),
 .s 18 (.f 127 [(.t 17), (.w [116, 104, 114, 117])])],
 .cond (.t 18) 18 27,
 .seq 19 20,
 .reg [.s 19 (.m 0),
 .s 20 (.f 68 [(.t 19)]),
 .s 21 (.fld none 2 (.t 20)),
 .s 7 (.m 21)],
 .seq 21 22,
 .reg [.s 22 (.m 0),
 .s 23 (.f 79 [(.t 22), (.i 999)]),
 .s 6 (.m 23)],
 .seq 23 24,
 .reg [.s 24 (.m 0),
 .s 25 (.k 24),
 .s 26 (.a 2 25),
 .s 27 (.l 26),
 .s 28 (.bin .eql (.t 27) (.i 0)),
 .s 29 (.m 28),
 .y 30 (.m 6) 29,
 .y 31 (.m 5) 29,
 .y 32 (.bin .lss (.t 30) (.t 31)) 29,
 .s 33 (.pick (.t 29) (.t 32) (.c (.bool false)))],
 .cond (.t 33) 25 26,
 .reg [.s 34 (.m 0),
 .s 35 (.m 0),
 .s 36 (.m 7),
 .s 37 (.k 34),
 .s 38 (.a 2 37),
 .n (.store 1 (.t 38) (.i 9)),
 .s 39 (.k 35),
 .s 40 (.a 3 39),
 .n (.store 1 (.t 40) (.t 36))],
 .skip,
 .skip,
 .seq 29 30,
 .reg [.s 41 (.m 1),
 .s 42 (.m 5),
 .s 43 (.m 6),
 .s 44 (.build [(.i 0), (.i 0), (.i 0), (.i 0)] [(0, 1, (.t 41)), (2, 1, (.t 42)), (3, 1, (.t 43))]),
 .n (.store 4 (.t 4) (.t 44))],
 .ret]⟩
def F93 : FT := ⟨31, 2, [.tmp 4],
 [.seq 1 2,
 .reg [.s 4 (.mv (.c (.bool false)))],
 .seq 3 4,
 .reg [.s 6 (.m 0),
 .s 7 (.f 68 [(.t 6)]),
 .s 5 (.alloc 111 [(.i 0), (.str []), (.i 0)]),
 .n (.store 3 (.t 5) (.t 7))],
 .seq 5 12,
 .seq 6 7,
 .reg [.s 8 (.m 0),
 .s 9 (.k 8),
 .s 10 (.a 2 9),
 .s 11 (.l 10),
 .s 12 (.bin .neq (.t 11) (.i 0)),
 .s 13 (.m 12),
 .x 14 (.a 0 5) 13,
 .x 15 (.l 14) 13,
 .x 16 (.bin .neq (.t 15) (.i 2)) 13,
 .s 17 (.pick (.t 13) (.c (.bool true)) (.t 16)),
 .s 18 (.m 17),
 .x 19 (.a 1 5) 18,
 .x 20 (.l 19) 18,
 .x 21 (.m 1) 18,
 .x 22 (.bin .neq (.t 20) (.t 21)) 18,
 .s 23 (.pick (.t 18) (.c (.bool true)) (.t 22))],
 .cond (.t 23) 8 11,
 .seq 9 10,
 .reg [.s 4 (.mv (.c (.bool false)))],
 .ret,
 .skip,
 .seq 13 14,
 .reg [.s 24 (.m 0),
 .s 25 (.k 24),
 .s 26 (.a 1 25),
 .s 27 (.l 26),
 .s 28 (.bin .add (.t 27) (.i 1)),
 .s 29 (.k 24),
 .s 30 (.a 1 29),
 .n (.store 1 (.t 30) (.t 28))],
 .seq 15 16,
 .reg [.s 4 (.mv (.c (.bool true)))],
 .ret]⟩
def F126 : FT := ⟨39, 2, [.tmp 4],
 [.seq 1 2,
 .reg [.s 4 (.mv (.i 0))],
 .seq 3 4,
 .reg [.s 8 (.m 0),
 .s 9 (.f 68 [(.t 8)]),
 .s 5 (.alloc 111 [(.i 0), (.str []), (.i 0)]),
 .n (.store 3 (.t 5) (.t 9))],
 .seq 5 6,
 .reg [.s 11 (.a 1 5),
 .s 12 (.l 11),
 .s 13 (.f 14 [(.t 12)]),
 .s 10 (.m 13),
 .s 14 (.ext 0 (.t 10)),
 .s 15 (.ext 1 (.t 10)),
 .s 6 (.m 14),
 .s 7 (.m 15)],
 .seq 7 14,
 .seq 8 9,
 .reg [.s 16 (.m 0),
 .s 17 (.k 16),
 .s 18 (.a 2 17),
 .s 19 (.l 18),
 .s 20 (.bin .neq (.t 19) (.i 0)),
 .s 21 (.m 20),
 .x 22 (.a 0 5) 21,
 .x 23 (.l 22) 21,
 .x 24 (.bin .neq (.t 23) (.i 0)) 21,
 .s 25 (.pick (.t 21) (.c (.bool true)) (.t 24)),
 .s 26 (.m 25),
 .x 27 (.m 7) 26,
 .x 28 (.bin .neq (.t 27) (.i 0)) 26,
 .s 29 (.pick (.t 26) (.c (.bool true)) (.t 28))],
 .cond (.t 29) 10 13,
 .seq 11 12,
 .reg [.s 30 (.m 1),
 .s 4 (.m 30)],
 .ret,
 .skip,
 .seq 15 16,
 .reg [.s 31 (.m 0),
 .s 32 (.k 31),
 .s 33 (.a 1 32),
 .s 34 (.l 33),
 .s 35 (.bin .add (.t 34) (.i 1)),
 .s 36 (.k 31),
 .s 37 (.a 1 36),
 .n (.store 1 (.t 37) (.t 35))],
 .seq 17 18,
 .reg [.s 38 (.m 6),
 .s 4 (.m 38)],
 .ret]⟩
def F127 : FT := ⟨31, 2, [.tmp 4],
 [.seq 1 2,
 .reg [.s 4 (.mv (.c (.bool false)))],
 .seq 3 4,
 .reg [.s 6 (.m 0),
 .s 7 (.f 68 [(.t 6)]),
 .s 5 (.alloc 111 [(.i 0), (.str []), (.i 0)]),
 .n (.store 3 (.t 5) (.t 7))],
 .seq 5 12,
 .seq 6 7,
 .reg [.s 8 (.m 0),
 .s 9 (.k 8),
 .s 10 (.a 2 9),
 .s 11 (.l 10),
 .s 12 (.bin .neq (.t 11) (.i 0)),
 .s 13 (.m 12),
 .x 14 (.a 0 5) 13,
 .x 15 (.l 14) 13,
 .x 16 (.bin .neq (.t 15) (.i 0)) 13,
 .s 17 (.pick (.t 13) (.c (.bool true)) (.t 16)),
 .s 18 (.m 17),
 .x 19 (.a 1 5) 18,
 .x 20 (.l 19) 18,
 .x 21 (.m 1) 18,
 .x 22 (.bin .neq (.t 20) (.t 21)) 18,
 .s 23 (.pick (.t 18) (.c (.bool true)) (.t 22))],
 .cond (.t 23) 8 11,
 .seq 9 10,
 .reg [.s 4 (.mv (.c (.bool false)))],
 .ret,
 .skip,
 .seq 13 14,
 .reg [.s 24 (.m 0),
 .s 25 (.k 24),
 .s 26 (.a 1 25),
 .s 27 (.l 26),
 .s 28 (.bin .add (.t 27) (.i 1)),
 .s 29 (.k 24),
 .s 30 (.a 1 29),
 .n (.store 1 (.t 30) (.t 28))],
 .seq 15 16,
 .reg [.s 4 (.mv (.c (.bool true)))],
 .ret]⟩
def F128 : FT := ⟨51, 1, [.tmp 2],
 [.seq 1 2,
 .reg [.s 2 (.mv (.i 0))],
 .seq 3 4,
 .reg [.s 6 (.m 0),
 .s 7 (.f 68 [(.t 6)]),
 .s 3 (.alloc 111 [(.i 0), (.str []), (.i 0)]),
 .n (.store 3 (.t 3) (.t 7))],
 .seq 5 6,
 .reg [.s 9 (.a 1 3),
 .s 10 (.l 9),
 .s 11 (.f 183 [(.t 10)]),
 .s 8 (.m 11),
 .s 12 (.ext 0 (.t 8)),
 .s 13 (.ext 1 (.t 8)),
 .s 4 (.m 12),
 .s 5 (.m 13)],
 .seq 7 12,
 .seq 8 9,
 .reg [.s 14 (.a 0 3),
 .s 15 (.l 14),
 .s 16 (.bin .neq (.t 15) (.i 1)),
 .s 17 (.m 16),
 .y 18 (.a 0 3) 17,
 .y 19 (.l 18) 17,
 .y 20 (.bin .eql (.t 19) (.i 0)) 17,
 .y 21 (.m 20) 17,
 .y 22 (.a 1 3) 21,
 .y 23 (.l 22) 21,
 .y 24 (.bin .eql (.t 23) (.w [102, 117, 108, 108])) 21,
 .y 25 (.pick (.t 21) (.t 24) (.c (.bool false))) 17,
 .y 26 (.un .not (.t 25)) 17,
 .s 27 (.pick (.t 17) (.t 26) (.c (.bool false))),
 .s 28 (.m 27),
 .x 29 (.m 5) 28,
 .x 30 (.bin .eql (.t 29) (.i 3)) 28,
 .s 31 (.pick (.t 28) (.c (.bool true)) (.t 30))],
 .cond (.t 31) 10 11,
 .reg [.s 32 (.m 0),
 .s 33 (.f 80 [(.t 32), (.i 4)])],
 .skip,
 .seq 13 18,
 .seq 14 15,
 .reg [.s 34 (.m 5),
 .s 35 (.bin .eql (.t 34) (.i 2))],
 .cond (.t 35) 16 17,
 .reg [.s 36 (.m 0),
 .s 37 (.f 80 [(.t 36), (.i 2)])],
 .skip,
 .seq 19 26,
 .seq 20 21,
 .reg [.s 38 (.m 0),
 .s 39 (.k 38),
 .s 40 (.a 2 39),
 .s 41 (.l 40),
 .s 42 (.bin .neq (.t 41) (.i 0))],
 .cond (.t 42) 22 25,
 .seq 23 24,
 .reg [.s 2 (.mv (.i 0))],
 .ret,
 .skip,
 .seq 27 28,
 .reg [.s 43 (.m 0),
 .s 44 (.k 43),
 .s 45 (.a 1 44),
 .s 46 (.l 45),
 .s 47 (.bin .add (.t 46) (.i 1)),
 .s 48 (.k 43),
 .s 49 (.a 1 48),
 .n (.store 1 (.t 49) (.t 47))],
 .seq 29 30,
 .reg [.s 50 (.m 4),
 .s 2 (.m 50)],
 .ret]⟩
def F129 : FT := ⟨43, 1, [.tmp 2],
 [.seq 1 2,
 .reg [.s 2 (.mv (.i 0))],
 .seq 3 10,
 .seq 4 5,
 .reg [.s 6 (.m 0),
 .s 7 (.f 127 [(.t 6), (.w [116, 105, 109, 101])]),
 .s 8 (.un .not (.t 7))],
 .cond (.t 8) 6 9,
 .seq 7 8,
 .reg [.s 2 (.mv (.i (-1)))],
 .ret,
 .skip,
 .seq 11 12,
 .reg [.s 9 (.m 0),
 .s 10 (.f 68 [(.t 9)]),
 .s 3 (.alloc 111 [(.i 0), (.str []), (.i 0)]),
 .n (.store 3 (.t 3) (.t 10))],
 .seq 13 14,
 .reg [.s 12 (.a 1 3),
 .s 13 (.l 12),
 .s 14 (.f 16 [(.t 13)]),
 .s 11 (.m 14),
 .s 15 (.ext 0 (.t 11)),
 .s 16 (.ext 1 (.t 11)),
 .s 4 (.m 15),
 .s 5 (.m 16)],
 .seq 15 20,
 .seq 16 17,
 .reg [.s 17 (.a 0 3),
 .s 18 (.l 17),
 .s 19 (.bin .neq (.t 18) (.i 1)),
 .s 20 (.m 19),
 .x 21 (.m 5) 20,
 .x 22 (.bin .eql (.t 21) (.i 3)) 20,
 .s 23 (.pick (.t 20) (.c (.bool true)) (.t 22))],
 .cond (.t 23) 18 19,
 .reg [.s 24 (.m 0),
 .s 25 (.f 80 [(.t 24), (.i 4)])],
 .skip,
 .seq 21 26,
 .seq 22 23,
 .reg [.s 26 (.m 5),
 .s 27 (.bin .eql (.t 26) (.i 2))],
 .cond (.t 27) 24 25,
 .reg [.s 28 (.m 0),
 .s 29 (.f 80 [(.t 28), (.i 2)])],
 .skip,
 .seq 27 34,
 .seq 28 29,
 .reg [.s 30 (.m 0),
 .s 31 (.k 30),
 .s 32 (.a 2 31),
 .s 33 (.l 32),
 .s 34 (.bin .neq (.t 33) (.i 0))],
 .cond (.t 34) 30 33,
 .seq 31 32,
 .reg [.s 2 (.mv (.i 0))],
 .ret,
 .skip,
 .seq 35 36,
 .reg [.s 35 (.m 0),
 .s 36 (.k 35),
 .s 37 (.a 1 36),
 .s 38 (.l 37),
 .s 39 (.bin .add (.t 38) (.i 1)),
 .s 40 (.k 35),
 .s 41 (.a 1 40),
 .n (.store 1 (.t 41) (.t 39))],
 .seq 37 38,
 .reg [.s 42 (.m 4),
 .s 2 (.m 42)],
 .ret]⟩
def F130 : FT := ⟨7, 1, [],
 [.seq 1 2,
 .reg [.s 2 (.m 0),
 .s 3 (.f 93 [(.t 2), (.w [47])]),
 .s 4 (.un .not (.t 3))],
 .cond (.t 4) 3 4,
 .reg [.s 5 (.m 0),
 .s 6 (.f 80 [(.t 5), (.i 4)])],
 .skip]⟩
def F131 : FT := ⟨37, 1, [.tmp 2],
 [.seq 1 2,
 .reg [.s 2 (.mv (.w []))],
 .seq 3 4,
 .reg [.s 5 (.m 0),
 .s 6 (.f 68 [(.t 5)]),
 .s 3 (.alloc 111 [(.i 0), (.str []), (.i 0)]),
 .n (.store 3 (.t 3) (.t 6))],
 .seq 5 6,
 .reg [.s 7 (.a 1 3),
 .s 8 (.l 7),
 .s 9 (.f 184 [(.t 8)]),
 .s 4 (.m 9)],
 .seq 7 12,
 .seq 8 9,
 .reg [.s 10 (.a 0 3),
 .s 11 (.l 10),
 .s 12 (.bin .neq (.t 11) (.i 1)),
 .s 13 (.m 12),
 .x 14 (.m 4) 13,
 .x 15 (.bin .eql (.t 14) (.i 3)) 13,
 .s 16 (.pick (.t 13) (.c (.bool true)) (.t 15))],
 .cond (.t 16) 10 11,
 .reg [.s 17 (.m 0),
 .s 18 (.f 80 [(.t 17), (.i 4)])],
 .skip,
 .seq 13 18,
 .seq 14 15,
 .reg [.s 19 (.m 4),
 .s 20 (.bin .eql (.t 19) (.i 2))],
 .cond (.t 20) 16 17,
 .reg [.s 21 (.m 0),
 .s 22 (.f 80 [(.t 21), (.i 2)])],
 .skip,
 .seq 19 26,
 .seq 20 21,
 .reg [.s 23 (.m 0),
 .s 24 (.k 23),
 .s 25 (.a 2 24),
 .s 26 (.l 25),
 .s 27 (.bin .neq (.t 26) (.i 0))],
 .cond (.t 27) 22 25,
 .seq 23 24,
 .reg [.s 2 (.mv (.w []))],
 .ret,
 .skip,
 .seq 27 28,
 .reg [.s 28 (.m 0),
 .s 29 (.k 28),
 .s 30 (.a 1 29),
 .s 31 (.l 30),
 .s 32 (.bin .add (.t 31) (.i 1)),
 .s 33 (.k 28),
 .s 34 (.a 1 33),
 .n (.store 1 (.t 34) (.t 32))],
 .seq 29 30,
 .reg [.s 35 (.a 1 3),
 .s 36 (.l 35),
 .s 2 (.m 36)],
 .ret]⟩
def F132 : FT := ⟨77, 1, [.cell 2 (some 7)],
 [.seq 1 2,
 .reg [.s 2 (.alloc 25 Z1)],
 .seq 3 4,
 .reg [.s 8 (.m 0),
 .s 9 (.f 68 [(.t 8)]),
 .s 3 (.alloc 111 [(.i 0), (.str []), (.i 0)]),
 .n (.store 3 (.t 3) (.t 9))],
 .seq 5 6,
 .reg [.s 11 (.a 1 3),
 .s 12 (.l 11),
 .s 13 (.f 39 [(.t 12)]),
 .s 10 (.m 13),
 .s 14 (.ext 0 (.t 10)),
 .s 15 (.ext 1 (.t 10)),
 .s 16 (.ext 2 (.t 10)),
 .s 4 (.m 14),
 .s 5 (.m 15),
 .s 6 (.m 16)],
 .seq 7 16,
 .seq 8 9,
 .reg [.s 17 (.a 0 3),
 .s 18 (.l 17),
 .s 19 (.bin .neq (.t 18) (.i 1)),
 .s 20 (.m 19),
 .x 21 (.m 4) 20,
 .x 22 (.f 40 [(.t 21)]) 20,
 .x 23 (.un .not (.t 22)) 20,
 .s 24 (.pick (.t 20) (.c (.bool true)) (.t 23)),
 .s 25 (.m 24),
 .x 26 (.m 6) 25,
 .x 27 (.m 26) 25,
 .y 28 (.m 5) 27,
 .y 29 (.f 40 [(.t 28)]) 27,
 .y 30 (.un .not (.t 29)) 27,
 .x 31 (.pick (.t 27) (.t 30) (.c (.bool false))) 25,
 .s 32 (.pick (.t 25) (.c (.bool true)) (.t 31))],
 .cond (.t 32) 10 15,
 .seq 11 12,
 .reg [.s 33 (.m 0),
 .s 34 (.f 80 [(.t 33), (.i 4)])],
 .seq 13 14,
 .reg [.s 35 (.build Z1 []),
 .n (.store 7 (.t 2) (.t 35))],
 .ret,
 .skip,
 .seq 17 18,
 .reg [.s 36 (.m 4),
 .s 37 (.f 42 [(.t 36)]),
 .s 38 (.build Z1 [(0, 1, (.t 37)), (1, 1, (.i 1))]),
 .s 7 (.alloc 25 Z1),
 .n (.store 7 (.t 7) (.t 38))],
 .seq 19 24,
 .seq 20 21,
 .reg [.s 39 (.m 6)],
 .cond (.t 39) 22 23,
 .reg [.s 40 (.m 5),
 .s 41 (.f 42 [(.t 40)]),
 .s 42 (.a 1 7),
 .n (.store 1 (.t 42) (.t 41))],
 .skip,
 .seq 25 30,
 .seq 26 27,
 .reg [.s 43 (.a 0 7),
 .s 44 (.l 43),
 .s 45 (.bin .lss (.t 44) (.i 1)),
 .s 46 (.m 45),
 .x 47 (.a 0 7) 46,
 .x 48 (.l 47) 46,
 .x 49 (.bin .gtr (.t 48) (.i 999)) 46,
 .s 50 (.pick (.t 46) (.c (.bool true)) (.t 49)),
 .s 51 (.m 50),
 .x 52 (.a 1 7) 51,
 .x 53 (.l 52) 51,
 .x 54 (.bin .lss (.t 53) (.i 1)) 51,
 .s 55 (.pick (.t 51) (.c (.bool true)) (.t 54)),
 .s 56 (.m 55),
 .x 57 (.a 1 7) 56,
 .x 58 (.l 57) 56,
 .x 59 (.bin .gtr (.t 58) (.i 64)) 56,
 .s 60 (.pick (.t 56) (.c (.bool true)) (.t 59))],
 .cond (.t 60) 28 29,
 .reg [.s 61 (.m 0),
 .s 62 (.f 80 [(.t 61), (.i 2)])],
 .skip,
 .seq 31 38,
 .seq 32 33,
 .reg [.s 63 (.m 0),
 .s 64 (.k 63),
 .s 65 (.a 2 64),
 .s 66 (.l 65),
 .s 67 (.bin .neq (.t 66) (.i 0))],
 .cond (.t 67) 34 37,
 .seq 35 36,
 .reg [.s 68 (.build Z1 []),
 .n (.store 7 (.t 2) (.t 68))],
 .ret,
 .skip,
 .seq 39 40,
 .reg [.s 69 (.m 0),
 .s 70 (.k 69),
 .s 71 (.a 1 70),
 .s 72 (.l 71),
 .s 73 (.bin .add (.t 72) (.i 1)),
 .s 74 (.k 69),
 .s 75 (.a 1 74),
 .n (.store 1 (.t 75) (.t 73))],
 .seq 41 42,
 .reg [.s 76 (.load (some 7) (.t 7)),
 .n (.store 7 (.t 2) (.t 76))],
 .ret]⟩
def F133 : FT := ⟨37, 1, [.tmp 2],
 [.seq 1 2,
 .reg [.s 2 (.mv (.w []))],
 .seq 3 4,
 .reg [.s 5 (.m 0),
 .s 6 (.f 68 [(.t 5)]),
 .s 3 (.alloc 111 [(.i 0), (.str []), (.i 0)]),
 .n (.store 3 (.t 3) (.t 6))],
 .seq 5 6,
 .reg [.s 7 (.a 1 3),
 .s 8 (.l 7),
 .s 9 (.f 185 [(.t 8)]),
 .s 4 (.m 9)],
 .seq 7 12,
 .seq 8 9,
 .reg [.s 10 (.a 0 3),
 .s 11 (.l 10),
 .s 12 (.bin .neq (.t 11) (.i 0)),
 .s 13 (.m 12),
 .x 14 (.m 4) 13,
 .x 15 (.bin .eql (.t 14) (.i 8)) 13,
 .s 16 (.pick (.t 13) (.c (.bool true)) (.t 15))],
 .cond (.t 16) 10 11,
 .reg [.s 17 (.m 0),
 .s 18 (.f 80 [(.t 17), (.i 4)])],
 .skip,
 .seq 13 18,
 .seq 14 15,
 .reg [.s 19 (.m 4),
 .s 20 (.bin .eql (.t 19) (.i 13))],
 .cond (.t 20) 16 17,
 .reg [.s 21 (.m 0),
 .s 22 (.f 80 [(.t 21), (.i 8)])],
 .skip,
 .seq 19 26,
 .seq 20 21,
 .reg [.s 23 (.m 0),
 .s 24 (.k 23),
 .s 25 (.a 2 24),
 .s 26 (.l 25),
 .s 27 (.bin .neq (.t 26) (.i 0))],
 .cond (.t 27) 22 25,
 .seq 23 24,
 .reg [.s 2 (.mv (.w []))],
 .ret,
 .skip,
 .seq 27 28,
 .reg [.s 28 (.m 0),
 .s 29 (.k 28),
 .s 30 (.a 1 29),
 .s 31 (.l 30),
 .s 32 (.bin .add (.t 31) (.i 1)),
 .s 33 (.k 28),
 .s 34 (.a 1 33),
 .n (.store 1 (.t 34) (.t 32))],
 .seq 29 30,
 .reg [.s 35 (.a 1 3),
 .s 36 (.l 35),
 .s 2 (.m 36)],
 .ret]⟩
theorem F11_ok : compFn Tryz.prog 11 = some F11 := by kernel_rfl
theorem F19_ok : compFn Tryz.prog 19 = some F19 := by kernel_rfl
theorem F28_ok : compFn Tryz.prog 28 = some F28 := by kernel_rfl
theorem F29_ok : compFn Tryz.prog 29 = some F29 := by kernel_rfl
theorem F30_ok : compFn Tryz.prog 30 = some F30 := by kernel_rfl
theorem F46_ok : compFn Tryz.prog 46 = some F46 := by kernel_rfl
theorem F68_ok : compFn Tryz.prog 68 = some F68 := by kernel_rfl
theorem F69_ok : compFn Tryz.prog 69 = some F69 := by kernel_rfl
theorem F70_ok : compFn Tryz.prog 70 = some F70 := by kernel_rfl
theorem F71_ok : compFn Tryz.prog 71 = some F71 := by kernel_rfl
theorem F72_ok : compFn Tryz.prog 72 = some F72 := by kernel_rfl
theorem F73_ok : compFn Tryz.prog 73 = some F73 := by kernel_rfl
theorem F74_ok : compFn Tryz.prog 74 = some F74 := by kernel_rfl
theorem F75_ok : compFn Tryz.prog 75 = some F75 := by kernel_rfl
theorem F76_ok : compFn Tryz.prog 76 = some F76 := by kernel_rfl
theorem F77_ok : compFn Tryz.prog 77 = some F77 := by kernel_rfl
theorem F78_ok : compFn Tryz.prog 78 = some F78 := by kernel_rfl
theorem F79_ok : compFn Tryz.prog 79 = some F79 := by kernel_rfl
theorem F80_ok : compFn Tryz.prog 80 = some F80 := by kernel_rfl
theorem F92_ok : compFn Tryz.prog 92 = some F92 := by kernel_rfl
theorem F93_ok : compFn Tryz.prog 93 = some F93 := by kernel_rfl
theorem F126_ok : compFn Tryz.prog 126 = some F126 := by kernel_rfl
theorem F127_ok : compFn Tryz.prog 127 = some F127 := by kernel_rfl
theorem F128_ok : compFn Tryz.prog 128 = some F128 := by kernel_rfl
theorem F129_ok : compFn Tryz.prog 129 = some F129 := by kernel_rfl
theorem F130_ok : compFn Tryz.prog 130 = some F130 := by kernel_rfl
theorem F131_ok : compFn Tryz.prog 131 = some F131 := by kernel_rfl
theorem F132_ok : compFn Tryz.prog 132 = some F132 := by kernel_rfl
theorem F133_ok : compFn Tryz.prog 133 = some F133 := by kernel_rfl
def rdr (T : List Tok) (i : Nat) (e p : Int) : List V := [.sl (T.map tkV), .int .i64 (i : Int), .int .i64 e, .int .i64 p]
def stQ (st : St) (rid : Nat) (T : List Tok) (i : Nat) (e p : Int) : St := st.put rid (rdr T i e p)
theorem stQ_eq {st : St} {rid : Nat} {T : List Tok} {i : Nat} {e p : Int} : stQ st rid T i e p = ⟨st.nx, updM st.mem rid [.sl (T.map tkV), .int .i64 (i : Int), .int .i64 e, .int .i64 p], st.arr, st.x⟩ := @_root_.id (_ = _) rfl
theorem stQ_same {st : St} {rid : Nat} {T : List Tok} {i : Nat} {e p : Int} (hm : Sha.look st.mem rid = some (rdr T i e p)) : stQ st rid T i e p = st := by
 rw [stQ_eq]; show (⟨st.nx, updM st.mem rid (rdr T i e p), st.arr, st.x⟩ : St) = st; rw [updM_same hm]
theorem wfQ {st : St} (hwf : st.Wf) {rid : Nat} (T : List Tok) (i : Nat) (e p : Int) : (stQ st rid T i e p).Wf := hwf.put (by simp [rdr, V.bdL, V.bd, bdL_tk])
theorem WfT.drop : ∀ {T : List Tok} {i : Nat}, WfT T → i < T.length → WfT (T.drop i)
 | [], i, h, _ => h.elim
 | x :: r, 0, h, _ => h
 | x :: r, i + 1, h, hi => by
  rw [List.drop_succ_cons]
  have hi' : i < r.length := by simpa using hi
  exact WfT.drop (h.2.1 (by rintro rfl; simp at hi')) hi'
theorem WfT.at {T : List Tok} {i : Nat} {ts : List Tok} (h : WfT T) (hi : i < T.length) (hD : T.drop i = ts) : WfT ts := by rw [← hD]; exact h.drop hi
theorem hd_get {T : List Tok} {i : Nat} {ts : List Tok} (hi : i < T.length) (hD : T.drop i = ts) : T[i]? = some (hd ts) := by
 rw [← hD, List.drop_eq_getElem_cons hi, List.getElem?_eq_getElem hi]; rfl
theorem drop_tail {T : List Tok} {i : Nat} {ts : List Tok} (hD : T.drop i = ts) : T.drop (i + 1) = ts.tail := by rw [← hD, List.tail_drop]
theorem drop_lt {T : List Tok} {i : Nat} {ts : List Tok} (hw : WfT T) (hi : i < T.length) (hD : T.drop i = ts) (hk : (hd ts).k ≠ 3) : i + 1 < T.length := by
 have h1 := hw.at hi hD
 rcases Nat.lt_or_ge (i + 1) T.length with h | h
 ·exact h
 ·exfalso
  have ht : ts.tail = [] := by rw [← drop_tail hD]; exact List.drop_eq_nil_of_le h
  cases ts with
  | nil => exact h1
  | cons x r =>
   have : r = [] := ht
   subst this
   exact hk (h1.1.2 rfl)
def rf0 {α : Type} (m : Rd α) (enc : α → V) (st : St) (rid : Nat) (T ts : List Tok) (r : VRes) (s : St) : Prop := match m ts with
 | .ok (a, ts') => ∃ i', i' < T.length ∧ T.drop i' = ts' ∧ r = .ret (enc a) ∧ s = stQ st rid T i' 0 0
 | .error (q, x) => x ≠ 0 ∧ ∃ a i', i' < T.length ∧ r = .ret (enc a) ∧ s = stQ st rid T i' x q
def rfX {α : Type} (enc : α → V) (st : St) (r : VRes) (s : St) : Prop := ∃ a, r = .ret (enc a) ∧ s = st
def RfC {α : Type} (f : FuncId) (args : List V) (m : Rd α) (enc : α → V) : Prop :=
 ∀ (st : St) (rid : Nat) (T : List Tok) (i : Nat), WfT T → i < T.length →
  (∀ ts, T.drop i = ts → Sha.look st.mem rid = some (rdr T i 0 0) → VCalls Tryz.prog f (.ptr rid 0 :: args) st (rf0 m enc st rid T ts)) ∧
  (∀ e p, e ≠ 0 → Sha.look st.mem rid = some (rdr T i e p) → VCalls Tryz.prog f (.ptr rid 0 :: args) st (rfX enc st))
theorem rf_call0 {α : Type} {f : FuncId} {args args' : List V} {m : Rd α} {enc : α → V} (h : RfC f args' m enc) {st : St} {rid : Nat} {T ts : List Tok} {i : Nat} {K : VRes → St → Prop} (hs : args = args' ∨ mapO (snapA st) (.ptr rid 0 :: args) = some (.ptr rid 0 :: args'))
  (hm : Sha.look st.mem rid = some (rdr T i 0 0)) (hw : WfT T) (hi : i < T.length) (hD : T.drop i = ts)
  (hok : ∀ a ts' i', m ts = .ok (a, ts') → i' < T.length → T.drop i' = ts' → K (.ret (enc a)) (stQ st rid T i' 0 0))
  (herr : ∀ q x a i', m ts = .error (q, x) → x ≠ 0 → i' < T.length → K (.ret (enc a)) (stQ st rid T i' x q)) :
  VCalls Tryz.prog f (.ptr rid 0 :: args) st K := by
 refine (fun hv => hs.elim (fun e => e ▸ hv) (fun e => VCalls_snap hv e)) (VCalls.mono ((h st rid T i hw hi).1 ts hD hm) (fun r s hr => ?_))
 unfold rf0 at hr
 split at hr
 ·rename_i a ts' he
  obtain ⟨i', h1, h2, rfl, rfl⟩ := hr
  exact hok a ts' i' he h1 h2
 ·rename_i q x he
  obtain ⟨h0, a, i', h1, rfl, rfl⟩ := hr
  exact herr q x a i' he h0 h1
theorem rf_callx {α : Type} {f : FuncId} {args args' : List V} {m : Rd α} {enc : α → V} (h : RfC f args' m enc) {st : St} {rid : Nat} {T : List Tok} {i : Nat} {e p : Int} {K : VRes → St → Prop} (hs : args = args' ∨ mapO (snapA st) (.ptr rid 0 :: args) = some (.ptr rid 0 :: args'))
  (hm : Sha.look st.mem rid = some (rdr T i e p)) (hw : WfT T) (hi : i < T.length) (he : e ≠ 0) (hx : ∀ a, K (.ret (enc a)) st) : VCalls Tryz.prog f (.ptr rid 0 :: args) st K := by
 refine (fun hv => hs.elim (fun e => e ▸ hv) (fun e => VCalls_snap hv e)) (VCalls.mono ((h st rid T i hw hi).2 e p he hm) (fun r s hr => ?_))
 obtain ⟨a, rfl, rfl⟩ := hr
 exact hx a
theorem finF0 {α : Type} {m : Rd α} {enc : α → V} {res : List Res} {st st1 : St} {rid i' : Nat} {T ts ts' : List Tok} {env : Env} {vs : List V} {a : α} (hwf : st.Wf) (hm : Sub st.nx st1.mem (stQ st rid T i' 0 0).mem) (h1 : resV env st1 res = some vs) (h2 : enc a = resOne vs ∨ snapV st1 (resOne vs) = some (enc a))
  (hi : i' < T.length) (hD : T.drop i' = ts') (he : m ts = .ok (a, ts')) (hb : (enc a).bd st.nx = true) (hn : st.nx ≤ st1.nx) (ha : Sub st.nx st1.arr st.arr) (hx : ExSub st.nx st1.x st.x) : finQ res st.nx (rf0 m enc st rid T ts) .ret env st1 := by
 refine ⟨vs, h1, enc a, stQ st rid T i' 0 0, h2, hb, Weak.wf rfl hn hm ha hx (wfQ hwf T i' 0 0), Nat.le_refl _, ?_⟩
 unfold rf0
 rw [he]
 exact ⟨i', hi, hD, rfl, rfl⟩
theorem finF1 {α : Type} {m : Rd α} {enc : α → V} {res : List Res} {st st1 : St} {rid i' : Nat} {q x : Int} {T ts : List Tok} {env : Env} {vs : List V} {a : α} (hwf : st.Wf) (hm : Sub st.nx st1.mem (stQ st rid T i' x q).mem) (h0 : x ≠ 0) (h1 : resV env st1 res = some vs) (h2 : enc a = resOne vs ∨ snapV st1 (resOne vs) = some (enc a))
  (hi : i' < T.length) (he : m ts = .error (q, x)) (hb : (enc a).bd st.nx = true) (hn : st.nx ≤ st1.nx) (ha : Sub st.nx st1.arr st.arr) (hx : ExSub st.nx st1.x st.x) : finQ res st.nx (rf0 m enc st rid T ts) .ret env st1 := by
 refine ⟨vs, h1, enc a, stQ st rid T i' x q, h2, hb, Weak.wf rfl hn hm ha hx (wfQ hwf T i' x q), Nat.le_refl _, ?_⟩
 unfold rf0
 rw [he]
 exact ⟨h0, a, i', hi, rfl, rfl⟩
theorem finFx {α : Type} {enc : α → V} {res : List Res} {st st1 : St} {env : Env} {vs : List V} {a : α} (hwf : st.Wf) (h1 : resV env st1 res = some vs) (h2 : enc a = resOne vs ∨ snapV st1 (resOne vs) = some (enc a)) (hb : (enc a).bd st.nx = true)
  (hn : st.nx ≤ st1.nx) (hm : Sub st.nx st1.mem st.mem) (ha : Sub st.nx st1.arr st.arr) (hx : ExSub st.nx st1.x st.x) : finQ res st.nx (rfX enc st) .ret env st1 :=
 ⟨vs, h1, enc a, st, h2, hb, Weak.wf rfl hn hm ha hx hwf, Nat.le_refl _, a, rfl, rfl⟩
theorem qtoken_v {st : St} {rid : Nat} {T : List Tok} {i : Nat} {e p : Int} {ts : List Tok} (hm : Sha.look st.mem rid = some (rdr T i e p)) (hw : WfT T) (hi : i < T.length) (hD : T.drop i = ts) : VRet Tryz.prog 68 [.ptr rid 0] st (tkV (hd ts)) st := by
 have hg := hd_get hi hD
 have hsm := hw.small
 have w1 : IntKind.i64.wrap ((T.length : Int) - 1) = (T.length : Int) - 1 := wrap64 (by omega) (by omega)
 have w2 : (if (T.length : Int) - 1 < (i : Int) then (T.length : Int) - 1 else (i : Int)) = (i : Int) := if_neg (by omega)
 unfold rdr at hm
 refine vc F68_ok rfl (fun hwf => ?_)
 have e1 : (st.nx = rid) = False := eq_false (by have := (hwf.mem _ _ hm).1; omega)
 (repeat' first | ((first | refine go rfl rfl ?_ | (refine Fk.by_ ?_ ?_ <;> intro hc <;> try simp only [hc]) | refine storeK_eq rfl ?_ | with_reducible refine an ?_ ?_) <;> try simp only [hm, hg, hi, e1, cells_tkV, w1, w2, push_cast, ed, reduceCtorEq, ld]))
 all_goals first | refine finC (hwf) (by simp only [F68, push_cast, ed, reduceCtorEq, ld]; exact rfl) (by first | exact .inl rfl | (right; simp only [F68, push_cast, ed, reduceCtorEq, ld]; try rfl)) (by first | rfl | assumption) (by simp [(hwf).z])
theorem qfail_0 (e : Int) {st : St} {rid : Nat} {T : List Tok} {i : Nat} {ts : List Tok} (hm : Sha.look st.mem rid = some (rdr T i 0 0)) (hw : WfT T) (hi : i < T.length) (hD : T.drop i = ts) : VRet Tryz.prog 80 [.ptr rid 0, .int .i64 e] st (.tup []) (stQ st rid T i e (hd ts).a) := by
 have hm' := hm
 unfold rdr at hm'
 have h0 : ((0 : Int) == 0) = true := rfl
 refine vc F80_ok rfl (fun hwf => ?_)
 have e1 : (st.nx = rid) = False := eq_false (by have := (hwf.mem _ _ hm).1; omega)
 have hw2 := wfQ hwf (rid := rid) T i e (hd ts).a
 rw [stQ_eq] at hw2 ⊢
 (repeat' first | ((first | refine go rfl rfl ?_ | refine Cl.by_ (by (first | refine qtoken_v hm hw hi hD)) ?_ | (refine Fk.by_ ?_ ?_ <;> intro hc <;> try simp only [hc]) | refine storeK_eq rfl ?_ | with_reducible refine an ?_ ?_) <;> try simp only [hm', e1, h0, tkV, lookR, push_cast, ed, reduceCtorEq, ld]))
 all_goals first | refine finB (hw2) (by simp only [F80, push_cast, ed, reduceCtorEq, ld]; exact rfl) (by first | exact .inl rfl | (right; simp only [F80, push_cast, ed, reduceCtorEq, ld]; try rfl)) (by first | rfl | assumption) (by simp) (by simp) (by (repeat first | exact (hw2).subm | exact (hw2).suba | refine Sub.drop (by simp) ?_)) (by (repeat first | exact (hw2).subm | exact (hw2).suba | refine Sub.drop (by simp) ?_)) (by (repeat first | exact (hw2).subx | refine ExSub.dropt (by simp) ?_ | refine ExSub.drop (by simp) ?_))
theorem qfail_x (e : Int) {st : St} {rid : Nat} {T : List Tok} {i : Nat} {x p : Int} (hm : Sha.look st.mem rid = some (rdr T i x p)) (hx : x ≠ 0) : VRet Tryz.prog 80 [.ptr rid 0, .int .i64 e] st (.tup []) st := by
 have hm' := hm
 unfold rdr at hm'
 have h0 : (x == 0) = false := by simpa using hx
 refine vc F80_ok rfl (fun hwf => ?_)
 have e1 : (st.nx = rid) = False := eq_false (by have := (hwf.mem _ _ hm).1; omega)
 (repeat' first | ((first | refine go rfl rfl ?_ | (refine Fk.by_ ?_ ?_ <;> intro hc <;> try simp only [hc]) | refine storeK_eq rfl ?_ | with_reducible refine an ?_ ?_) <;> try simp only [hm', e1, h0, push_cast, ed, reduceCtorEq, ld]))
 all_goals first | refine finC (hwf) (by simp only [F80, push_cast, ed, reduceCtorEq, ld]; exact rfl) (by first | exact .inl rfl | (right; simp only [F80, push_cast, ed, reduceCtorEq, ld]; try rfl)) (by first | rfl | assumption) (by simp [(hwf).z])
theorem qfail_call0 {e : Int} {st : St} {rid : Nat} {T : List Tok} {i : Nat} {ts : List Tok} {K : VRes → St → Prop} (hm : Sha.look st.mem rid = some (rdr T i 0 0)) (hw : WfT T) (hi : i < T.length) (hD : T.drop i = ts) (h : K (.ret (.tup [])) (stQ st rid T i e (hd ts).a)) : VCalls Tryz.prog 80 [.ptr rid 0, .int .i64 e] st K :=
 (qfail_0 e hm hw hi hD).use h
theorem qfail_callx {e : Int} {st : St} {rid : Nat} {T : List Tok} {i : Nat} {x p : Int} {K : VRes → St → Prop} (hm : Sha.look st.mem rid = some (rdr T i x p)) (hx : x ≠ 0) (h : K (.ret (.tup [])) st) : VCalls Tryz.prog 80 [.ptr rid 0, .int .i64 e] st K :=
 (qfail_x e hm hx).use h
theorem hdIs_tf {k : Int} {s : List UInt8} {ts : List Tok} (h : hdIs k s ts = true) : ((hd ts).k != k) = false ∧ ((hd ts).t != s) = false := by
 simp only [hdIs, Bool.and_eq_true, beq_iff_eq] at h
 simp [h.1, h.2]
theorem hdIs_ff {k : Int} {s : List UInt8} {ts : List Tok} (h : hdIs k s ts = false) (hk : ((hd ts).k != k) = false) : ((hd ts).t != s) = true := by
 have hk' : (hd ts).k = k := by simpa using hk
 simpa [hdIs, hk'] using h
theorem qword_1 {s : List UInt8} {st : St} {rid : Nat} {T : List Tok} {i : Nat} {ts : List Tok} (hm : Sha.look st.mem rid = some (rdr T i 0 0)) (hw : WfT T) (hi : i < T.length) (hD : T.drop i = ts) (h : hdIs 0 s ts = true) : VRet Tryz.prog 127 [.ptr rid 0, .str s] st (.bool true) (stQ st rid T (i + 1) 0 0) := by
 obtain ⟨h1, h2⟩ := hdIs_tf h
 have hm' := hm
 unfold rdr at hm'
 have hsm := hw.small
 have h0 : ((0 : Int) != 0) = false := rfl
 have hwr : IntKind.i64.wrap ((i : Int) + 1) = (i : Int) + 1 := wrap64 (by omega) (by omega)
 refine vc F127_ok rfl (fun hwf => ?_)
 have e1 : (st.nx = rid) = False := eq_false (by have := (hwf.mem _ _ hm).1; omega)
 have hw2 := wfQ hwf (rid := rid) T (i + 1) 0 0
 rw [stQ_eq] at hw2 ⊢
 simp only [Int.natCast_add, Int.cast_ofNat_Int] at hw2 ⊢
 (repeat' first | ((first | refine go rfl rfl ?_ | refine Cl.by_ (by (first | refine qtoken_v hm hw hi hD)) ?_ | (refine Fk.by_ ?_ ?_ <;> intro hc <;> try simp only [hc]) | refine storeK_eq rfl ?_ | with_reducible refine an ?_ ?_) <;> try simp only [hm', e1, h0, h1, h2, hwr, tkV, push_cast, ed, reduceCtorEq, ld]))
 all_goals first | refine finB (hw2) (by simp only [F127, push_cast, ed, reduceCtorEq, ld]; exact rfl) (by first | exact .inl rfl | (right; simp only [F127, push_cast, ed, reduceCtorEq, ld]; try rfl)) (by first | rfl | assumption) (by simp) (by simp) (by (repeat first | exact (hw2).subm | exact (hw2).suba | refine Sub.drop (by simp) ?_)) (by (repeat first | exact (hw2).subm | exact (hw2).suba | refine Sub.drop (by simp) ?_)) (by (repeat first | exact (hw2).subx | refine ExSub.dropt (by simp) ?_ | refine ExSub.drop (by simp) ?_))
theorem qword_0 {s : List UInt8} {st : St} {rid : Nat} {T : List Tok} {i : Nat} {ts : List Tok} (hm : Sha.look st.mem rid = some (rdr T i 0 0)) (hw : WfT T) (hi : i < T.length) (hD : T.drop i = ts) (h : hdIs 0 s ts = false) : VRet Tryz.prog 127 [.ptr rid 0, .str s] st (.bool false) st := by
 have hm' := hm
 unfold rdr at hm'
 have h0 : ((0 : Int) != 0) = false := rfl
 refine vc F127_ok rfl (fun hwf => ?_)
 have e1 : (st.nx = rid) = False := eq_false (by have := (hwf.mem _ _ hm).1; omega)
 cases hk : (hd ts).k != 0 with
 | true =>
  (repeat' first | ((first | refine go rfl rfl ?_ | refine Cl.by_ (by (first | refine qtoken_v hm hw hi hD)) ?_ | (refine Fk.by_ ?_ ?_ <;> intro hc <;> try simp only [hc]) | refine storeK_eq rfl ?_ | with_reducible refine an ?_ ?_) <;> try simp only [hm', e1, h0, hk, tkV, push_cast, ed, reduceCtorEq, ld]))
  all_goals first | refine finC (hwf) (by simp only [F127, push_cast, ed, reduceCtorEq, ld]; exact rfl) (by first | exact .inl rfl | (right; simp only [F127, push_cast, ed, reduceCtorEq, ld]; try rfl)) (by first | rfl | assumption) (by simp [(hwf).z])
 | false =>
  have h2 := hdIs_ff h hk
  (repeat' first | ((first | refine go rfl rfl ?_ | refine Cl.by_ (by (first | refine qtoken_v hm hw hi hD)) ?_ | (refine Fk.by_ ?_ ?_ <;> intro hc <;> try simp only [hc]) | refine storeK_eq rfl ?_ | with_reducible refine an ?_ ?_) <;> try simp only [hm', e1, h0, hk, h2, tkV, push_cast, ed, reduceCtorEq, ld]))
  all_goals first | refine finC (hwf) (by simp only [F127, push_cast, ed, reduceCtorEq, ld]; exact rfl) (by first | exact .inl rfl | (right; simp only [F127, push_cast, ed, reduceCtorEq, ld]; try rfl)) (by first | rfl | assumption) (by simp [(hwf).z])
theorem qword_x {s : List UInt8} {st : St} {rid : Nat} {T : List Tok} {i : Nat} {x p : Int} (hm : Sha.look st.mem rid = some (rdr T i x p)) (hw : WfT T) (hi : i < T.length) (hx : x ≠ 0) : VRet Tryz.prog 127 [.ptr rid 0, .str s] st (.bool false) st := by
 have hm' := hm
 unfold rdr at hm'
 have h0 : (x != 0) = true := by simpa using hx
 refine vc F127_ok rfl (fun hwf => ?_)
 have e1 : (st.nx = rid) = False := eq_false (by have := (hwf.mem _ _ hm).1; omega)
 (repeat' first | ((first | refine go rfl rfl ?_ | refine Cl.by_ (by (first | refine qtoken_v hm hw hi rfl)) ?_ | (refine Fk.by_ ?_ ?_ <;> intro hc <;> try simp only [hc]) | refine storeK_eq rfl ?_ | with_reducible refine an ?_ ?_) <;> try simp only [hm', e1, h0, tkV, push_cast, ed, reduceCtorEq, ld]))
 all_goals first | refine finC (hwf) (by simp only [F127, push_cast, ed, reduceCtorEq, ld]; exact rfl) (by first | exact .inl rfl | (right; simp only [F127, push_cast, ed, reduceCtorEq, ld]; try rfl)) (by first | rfl | assumption) (by simp [(hwf).z])
theorem word_call0 {s : List UInt8} {st : St} {rid : Nat} {T : List Tok} {i : Nat} {ts : List Tok} {K : VRes → St → Prop} (hm : Sha.look st.mem rid = some (rdr T i 0 0)) (hw : WfT T) (hi : i < T.length) (hD : T.drop i = ts)
  (hT : ∀ i', hdIs 0 s ts = true → i' < T.length → T.drop i' = ts.tail → K (.ret (.bool true)) (stQ st rid T i' 0 0)) (hF : hdIs 0 s ts = false → K (.ret (.bool false)) st) : VCalls Tryz.prog 127 [.ptr rid 0, .str s] st K := by
 cases h : hdIs 0 s ts with
 | true => exact (qword_1 hm hw hi hD h).use (hT (i + 1) h (drop_lt hw hi hD (hdIs_ne h (by decide))) (drop_tail hD))
 | false => exact (qword_0 hm hw hi hD h).use (hF h)
theorem word_callx {s : List UInt8} {st : St} {rid : Nat} {T : List Tok} {i : Nat} {x p : Int} {K : VRes → St → Prop} (hm : Sha.look st.mem rid = some (rdr T i x p)) (hw : WfT T) (hi : i < T.length) (hx : x ≠ 0) (h : K (.ret (.bool false)) st) : VCalls Tryz.prog 127 [.ptr rid 0, .str s] st K :=
 (qword_x hm hw hi hx).use h
theorem qsign_1 {s : List UInt8} {st : St} {rid : Nat} {T : List Tok} {i : Nat} {ts : List Tok} (hm : Sha.look st.mem rid = some (rdr T i 0 0)) (hw : WfT T) (hi : i < T.length) (hD : T.drop i = ts) (h : hdIs 2 s ts = true) : VRet Tryz.prog 93 [.ptr rid 0, .str s] st (.bool true) (stQ st rid T (i + 1) 0 0) := by
 obtain ⟨h1, h2⟩ := hdIs_tf h
 have hm' := hm
 unfold rdr at hm'
 have hsm := hw.small
 have h0 : ((0 : Int) != 0) = false := rfl
 have hwr : IntKind.i64.wrap ((i : Int) + 1) = (i : Int) + 1 := wrap64 (by omega) (by omega)
 refine vc F93_ok rfl (fun hwf => ?_)
 have e1 : (st.nx = rid) = False := eq_false (by have := (hwf.mem _ _ hm).1; omega)
 have hw2 := wfQ hwf (rid := rid) T (i + 1) 0 0
 rw [stQ_eq] at hw2 ⊢
 simp only [Int.natCast_add, Int.cast_ofNat_Int] at hw2 ⊢
 (repeat' first | ((first | refine go rfl rfl ?_ | refine Cl.by_ (by (first | refine qtoken_v hm hw hi hD)) ?_ | (refine Fk.by_ ?_ ?_ <;> intro hc <;> try simp only [hc]) | refine storeK_eq rfl ?_ | with_reducible refine an ?_ ?_) <;> try simp only [hm', e1, h0, h1, h2, hwr, tkV, push_cast, ed, reduceCtorEq, ld]))
 all_goals first | refine finB (hw2) (by simp only [F93, push_cast, ed, reduceCtorEq, ld]; exact rfl) (by first | exact .inl rfl | (right; simp only [F93, push_cast, ed, reduceCtorEq, ld]; try rfl)) (by first | rfl | assumption) (by simp) (by simp) (by (repeat first | exact (hw2).subm | exact (hw2).suba | refine Sub.drop (by simp) ?_)) (by (repeat first | exact (hw2).subm | exact (hw2).suba | refine Sub.drop (by simp) ?_)) (by (repeat first | exact (hw2).subx | refine ExSub.dropt (by simp) ?_ | refine ExSub.drop (by simp) ?_))
theorem qsign_0 {s : List UInt8} {st : St} {rid : Nat} {T : List Tok} {i : Nat} {ts : List Tok} (hm : Sha.look st.mem rid = some (rdr T i 0 0)) (hw : WfT T) (hi : i < T.length) (hD : T.drop i = ts) (h : hdIs 2 s ts = false) : VRet Tryz.prog 93 [.ptr rid 0, .str s] st (.bool false) st := by
 have hm' := hm
 unfold rdr at hm'
 have h0 : ((0 : Int) != 0) = false := rfl
 refine vc F93_ok rfl (fun hwf => ?_)
 have e1 : (st.nx = rid) = False := eq_false (by have := (hwf.mem _ _ hm).1; omega)
 cases hk : (hd ts).k != 2 with
 | true =>
  (repeat' first | ((first | refine go rfl rfl ?_ | refine Cl.by_ (by (first | refine qtoken_v hm hw hi hD)) ?_ | (refine Fk.by_ ?_ ?_ <;> intro hc <;> try simp only [hc]) | refine storeK_eq rfl ?_ | with_reducible refine an ?_ ?_) <;> try simp only [hm', e1, h0, hk, tkV, push_cast, ed, reduceCtorEq, ld]))
  all_goals first | refine finC (hwf) (by simp only [F93, push_cast, ed, reduceCtorEq, ld]; exact rfl) (by first | exact .inl rfl | (right; simp only [F93, push_cast, ed, reduceCtorEq, ld]; try rfl)) (by first | rfl | assumption) (by simp [(hwf).z])
 | false =>
  have h2 := hdIs_ff h hk
  (repeat' first | ((first | refine go rfl rfl ?_ | refine Cl.by_ (by (first | refine qtoken_v hm hw hi hD)) ?_ | (refine Fk.by_ ?_ ?_ <;> intro hc <;> try simp only [hc]) | refine storeK_eq rfl ?_ | with_reducible refine an ?_ ?_) <;> try simp only [hm', e1, h0, hk, h2, tkV, push_cast, ed, reduceCtorEq, ld]))
  all_goals first | refine finC (hwf) (by simp only [F93, push_cast, ed, reduceCtorEq, ld]; exact rfl) (by first | exact .inl rfl | (right; simp only [F93, push_cast, ed, reduceCtorEq, ld]; try rfl)) (by first | rfl | assumption) (by simp [(hwf).z])
theorem qsign_x {s : List UInt8} {st : St} {rid : Nat} {T : List Tok} {i : Nat} {x p : Int} (hm : Sha.look st.mem rid = some (rdr T i x p)) (hw : WfT T) (hi : i < T.length) (hx : x ≠ 0) : VRet Tryz.prog 93 [.ptr rid 0, .str s] st (.bool false) st := by
 have hm' := hm
 unfold rdr at hm'
 have h0 : (x != 0) = true := by simpa using hx
 refine vc F93_ok rfl (fun hwf => ?_)
 have e1 : (st.nx = rid) = False := eq_false (by have := (hwf.mem _ _ hm).1; omega)
 (repeat' first | ((first | refine go rfl rfl ?_ | refine Cl.by_ (by (first | refine qtoken_v hm hw hi rfl)) ?_ | (refine Fk.by_ ?_ ?_ <;> intro hc <;> try simp only [hc]) | refine storeK_eq rfl ?_ | with_reducible refine an ?_ ?_) <;> try simp only [hm', e1, h0, tkV, push_cast, ed, reduceCtorEq, ld]))
 all_goals first | refine finC (hwf) (by simp only [F93, push_cast, ed, reduceCtorEq, ld]; exact rfl) (by first | exact .inl rfl | (right; simp only [F93, push_cast, ed, reduceCtorEq, ld]; try rfl)) (by first | rfl | assumption) (by simp [(hwf).z])
theorem sign_call0 {s : List UInt8} {st : St} {rid : Nat} {T : List Tok} {i : Nat} {ts : List Tok} {K : VRes → St → Prop} (hm : Sha.look st.mem rid = some (rdr T i 0 0)) (hw : WfT T) (hi : i < T.length) (hD : T.drop i = ts)
  (hT : ∀ i', hdIs 2 s ts = true → i' < T.length → T.drop i' = ts.tail → K (.ret (.bool true)) (stQ st rid T i' 0 0)) (hF : hdIs 2 s ts = false → K (.ret (.bool false)) st) : VCalls Tryz.prog 93 [.ptr rid 0, .str s] st K := by
 cases h : hdIs 2 s ts with
 | true => exact (qsign_1 hm hw hi hD h).use (hT (i + 1) h (drop_lt hw hi hD (hdIs_ne h (by decide))) (drop_tail hD))
 | false => exact (qsign_0 hm hw hi hD h).use (hF h)
theorem sign_callx {s : List UInt8} {st : St} {rid : Nat} {T : List Tok} {i : Nat} {x p : Int} {K : VRes → St → Prop} (hm : Sha.look st.mem rid = some (rdr T i x p)) (hw : WfT T) (hi : i < T.length) (hx : x ≠ 0) (h : K (.ret (.bool false)) st) : VCalls Tryz.prog 93 [.ptr rid 0, .str s] st K :=
 (qsign_x hm hw hi hx).use h
theorem need_call0 {s : List UInt8} {st : St} {rid : Nat} {T : List Tok} {i : Nat} {ts : List Tok} {K : VRes → St → Prop} (hm : Sha.look st.mem rid = some (rdr T i 0 0)) (hw : WfT T) (hi : i < T.length) (hD : T.drop i = ts)
  (hT : ∀ i', hdIs 0 s ts = true → i' < T.length → T.drop i' = ts.tail → K (.ret (.tup [])) (stQ st rid T i' 0 0)) (hF : hdIs 0 s ts = false → K (.ret (.tup [])) (stQ st rid T i 4 (hd ts).a)) : VCalls Tryz.prog 72 [.ptr rid 0, .str s] st K := by
 cases h : hdIs 0 s ts with
 | true =>
  have hK := hT (i + 1) h (drop_lt hw hi hD (hdIs_ne h (by decide))) (drop_tail hD)
  refine VRet.use (r := .tup []) (st' := stQ st rid T (i + 1) 0 0) ?_ hK
  refine vc F72_ok rfl (fun hwf => ?_)
  have hw2 := wfQ hwf (rid := rid) T (i + 1) 0 0
  have h1 := qword_1 hm hw hi hD h
  rw [stQ_eq] at hw2 h1 ⊢
  (repeat' first | ((first | refine go rfl rfl ?_ | refine Cl.by_ (by (first | refine h1)) ?_ | (refine Fk.by_ ?_ ?_ <;> intro hc <;> try simp only [hc]) | refine storeK_eq rfl ?_ | with_reducible refine an ?_ ?_) <;> try simp only [push_cast, ed, reduceCtorEq, ld]))
  all_goals first | refine finB (hw2) (by simp only [F72, push_cast, ed, reduceCtorEq, ld]; exact rfl) (by first | exact .inl rfl | (right; simp only [F72, push_cast, ed, reduceCtorEq, ld]; try rfl)) (by first | rfl | assumption) (by simp) (by simp) (by (repeat first | exact (hw2).subm | exact (hw2).suba | refine Sub.drop (by simp) ?_)) (by (repeat first | exact (hw2).subm | exact (hw2).suba | refine Sub.drop (by simp) ?_)) (by (repeat first | exact (hw2).subx | refine ExSub.dropt (by simp) ?_ | refine ExSub.drop (by simp) ?_))
 | false =>
  have hK := hF h
  refine VRet.use (r := .tup []) (st' := stQ st rid T i 4 (hd ts).a) ?_ hK
  refine vc F72_ok rfl (fun hwf => ?_)
  have hw2 := wfQ hwf (rid := rid) T i 4 (hd ts).a
  have h1 := qfail_0 4 hm hw hi hD
  rw [stQ_eq] at hw2 h1 ⊢
  (repeat' first | ((first | refine go rfl rfl ?_ | refine Cl.by_ (by (first | refine qword_0 hm hw hi hD h | refine h1)) ?_ | (refine Fk.by_ ?_ ?_ <;> intro hc <;> try simp only [hc]) | refine storeK_eq rfl ?_ | with_reducible refine an ?_ ?_) <;> try simp only [push_cast, ed, reduceCtorEq, ld]))
  all_goals first | refine finB (hw2) (by simp only [F72, push_cast, ed, reduceCtorEq, ld]; exact rfl) (by first | exact .inl rfl | (right; simp only [F72, push_cast, ed, reduceCtorEq, ld]; try rfl)) (by first | rfl | assumption) (by simp) (by simp) (by (repeat first | exact (hw2).subm | exact (hw2).suba | refine Sub.drop (by simp) ?_)) (by (repeat first | exact (hw2).subm | exact (hw2).suba | refine Sub.drop (by simp) ?_)) (by (repeat first | exact (hw2).subx | refine ExSub.dropt (by simp) ?_ | refine ExSub.drop (by simp) ?_))
theorem need_callx {s : List UInt8} {st : St} {rid : Nat} {T : List Tok} {i : Nat} {x p : Int} {K : VRes → St → Prop} (hm : Sha.look st.mem rid = some (rdr T i x p)) (hw : WfT T) (hi : i < T.length) (hx : x ≠ 0) (h : K (.ret (.tup [])) st) : VCalls Tryz.prog 72 [.ptr rid 0, .str s] st K := by
 refine VRet.use (r := .tup []) (st' := st) ?_ h
 refine vc F72_ok rfl (fun hwf => ?_)
 (repeat' first | ((first | refine go rfl rfl ?_ | refine Cl.by_ (by (first | refine qword_x hm hw hi hx | refine qfail_x 4 hm hx)) ?_ | (refine Fk.by_ ?_ ?_ <;> intro hc <;> try simp only [hc]) | refine storeK_eq rfl ?_ | with_reducible refine an ?_ ?_) <;> try simp only [push_cast, ed, reduceCtorEq, ld]))
 all_goals first | refine finC (hwf) (by simp only [F72, push_cast, ed, reduceCtorEq, ld]; exact rfl) (by first | exact .inl rfl | (right; simp only [F72, push_cast, ed, reduceCtorEq, ld]; try rfl)) (by first | rfl | assumption) (by simp [(hwf).z])
theorem slash_call0 {st : St} {rid : Nat} {T : List Tok} {i : Nat} {ts : List Tok} {K : VRes → St → Prop} (hm : Sha.look st.mem rid = some (rdr T i 0 0)) (hw : WfT T) (hi : i < T.length) (hD : T.drop i = ts)
  (hT : ∀ i', hdIs 2 [47] ts = true → i' < T.length → T.drop i' = ts.tail → K (.ret (.tup [])) (stQ st rid T i' 0 0)) (hF : hdIs 2 [47] ts = false → K (.ret (.tup [])) (stQ st rid T i 4 (hd ts).a)) : VCalls Tryz.prog 130 [.ptr rid 0] st K := by
 cases h : hdIs 2 [47] ts with
 | true =>
  have hK := hT (i + 1) h (drop_lt hw hi hD (hdIs_ne h (by decide))) (drop_tail hD)
  refine VRet.use (r := .tup []) (st' := stQ st rid T (i + 1) 0 0) ?_ hK
  refine vc F130_ok rfl (fun hwf => ?_)
  have hw2 := wfQ hwf (rid := rid) T (i + 1) 0 0
  have h1 := qsign_1 hm hw hi hD h
  rw [stQ_eq] at hw2 h1 ⊢
  (repeat' first | ((first | refine go rfl rfl ?_ | refine Cl.by_ (by (first | refine h1)) ?_ | (refine Fk.by_ ?_ ?_ <;> intro hc <;> try simp only [hc]) | refine storeK_eq rfl ?_ | with_reducible refine an ?_ ?_) <;> try simp only [push_cast, ed, reduceCtorEq, ld]))
  all_goals first | refine finB (hw2) (by simp only [F130, push_cast, ed, reduceCtorEq, ld]; exact rfl) (by first | exact .inl rfl | (right; simp only [F130, push_cast, ed, reduceCtorEq, ld]; try rfl)) (by first | rfl | assumption) (by simp) (by simp) (by (repeat first | exact (hw2).subm | exact (hw2).suba | refine Sub.drop (by simp) ?_)) (by (repeat first | exact (hw2).subm | exact (hw2).suba | refine Sub.drop (by simp) ?_)) (by (repeat first | exact (hw2).subx | refine ExSub.dropt (by simp) ?_ | refine ExSub.drop (by simp) ?_))
 | false =>
  have hK := hF h
  refine VRet.use (r := .tup []) (st' := stQ st rid T i 4 (hd ts).a) ?_ hK
  refine vc F130_ok rfl (fun hwf => ?_)
  have hw2 := wfQ hwf (rid := rid) T i 4 (hd ts).a
  have h1 := qfail_0 4 hm hw hi hD
  rw [stQ_eq] at hw2 h1 ⊢
  (repeat' first | ((first | refine go rfl rfl ?_ | refine Cl.by_ (by (first | refine qsign_0 hm hw hi hD h | refine h1)) ?_ | (refine Fk.by_ ?_ ?_ <;> intro hc <;> try simp only [hc]) | refine storeK_eq rfl ?_ | with_reducible refine an ?_ ?_) <;> try simp only [push_cast, ed, reduceCtorEq, ld]))
  all_goals first | refine finB (hw2) (by simp only [F130, push_cast, ed, reduceCtorEq, ld]; exact rfl) (by first | exact .inl rfl | (right; simp only [F130, push_cast, ed, reduceCtorEq, ld]; try rfl)) (by first | rfl | assumption) (by simp) (by simp) (by (repeat first | exact (hw2).subm | exact (hw2).suba | refine Sub.drop (by simp) ?_)) (by (repeat first | exact (hw2).subm | exact (hw2).suba | refine Sub.drop (by simp) ?_)) (by (repeat first | exact (hw2).subx | refine ExSub.dropt (by simp) ?_ | refine ExSub.drop (by simp) ?_))
theorem slash_callx {st : St} {rid : Nat} {T : List Tok} {i : Nat} {x p : Int} {K : VRes → St → Prop} (hm : Sha.look st.mem rid = some (rdr T i x p)) (hw : WfT T) (hi : i < T.length) (hx : x ≠ 0) (h : K (.ret (.tup [])) st) : VCalls Tryz.prog 130 [.ptr rid 0] st K := by
 refine VRet.use (r := .tup []) (st' := st) ?_ h
 refine vc F130_ok rfl (fun hwf => ?_)
 (repeat' first | ((first | refine go rfl rfl ?_ | refine Cl.by_ (by (first | refine qsign_x hm hw hi hx | refine qfail_x 4 hm hx)) ?_ | (refine Fk.by_ ?_ ?_ <;> intro hc <;> try simp only [hc]) | refine storeK_eq rfl ?_ | with_reducible refine an ?_ ?_) <;> try simp only [push_cast, ed, reduceCtorEq, ld]))
 all_goals first | refine finC (hwf) (by simp only [F130, push_cast, ed, reduceCtorEq, ld]; exact rfl) (by first | exact .inl rfl | (right; simp only [F130, push_cast, ed, reduceCtorEq, ld]; try rfl)) (by first | rfl | assumption) (by simp [(hwf).z])
class Call0 (f : FuncId) (args : List V) (Post : outParam (St → Nat → List Tok → Nat → List Tok → (VRes → St → Prop) → Prop)) : Prop where
 c : ∀ {st : St} {rid : Nat} {T : List Tok} {i : Nat} {ts : List Tok} {K : VRes → St → Prop}, Sha.look st.mem rid = some (rdr T i 0 0) → WfT T → i < T.length → T.drop i = ts → Post st rid T i ts K → VCalls Tryz.prog f (.ptr rid 0 :: args) st K
class CallX (f : FuncId) (args : List V) (Post : outParam (St → (VRes → St → Prop) → Prop)) : Prop where
 c : ∀ {st : St} {rid : Nat} {T : List Tok} {i : Nat} {e p : Int} {K : VRes → St → Prop}, Sha.look st.mem rid = some (rdr T i e p) → WfT T → i < T.length → e ≠ 0 → Post st K → VCalls Tryz.prog f (.ptr rid 0 :: args) st K
abbrev P0 {α : Type} (m : Rd α) (enc : α → V) (st : St) (rid : Nat) (T : List Tok) (_ : Nat) (ts : List Tok) (K : VRes → St → Prop) : Prop :=
 (∀ a ts' i', m ts = .ok (a, ts') → i' < T.length → T.drop i' = ts' → K (.ret (enc a)) (stQ st rid T i' 0 0)) ∧ ∀ q x a i', m ts = .error (q, x) → x ≠ 0 → i' < T.length → K (.ret (enc a)) (stQ st rid T i' x q)
abbrev PX {α : Type} (enc : α → V) (st : St) (K : VRes → St → Prop) : Prop := ∀ a, K (.ret (enc a)) st
abbrev PW (k : Int) (s : List UInt8) (r : Bool → V) (st : St) (rid : Nat) (T : List Tok) (_ : Nat) (ts : List Tok) (K : VRes → St → Prop) : Prop :=
 (∀ i', hdIs k s ts = true → i' < T.length → T.drop i' = ts.tail → K (.ret (r true)) (stQ st rid T i' 0 0)) ∧ (hdIs k s ts = false → K (.ret (r false)) st)
abbrev PN (k : Int) (s : List UInt8) (st : St) (rid : Nat) (T : List Tok) (i : Nat) (ts : List Tok) (K : VRes → St → Prop) : Prop :=
 (∀ i', hdIs k s ts = true → i' < T.length → T.drop i' = ts.tail → K (.ret (.tup [])) (stQ st rid T i' 0 0)) ∧ (hdIs k s ts = false → K (.ret (.tup [])) (stQ st rid T i 4 (hd ts).a))
theorem RfC.k0 {α : Type} {f : FuncId} {args : List V} {m : Rd α} {enc : α → V} (h : RfC f args m enc) : Call0 f args (P0 m enc) := ⟨fun hm hw hi hD k => rf_call0 h (.inl rfl) hm hw hi hD k.1 k.2⟩
theorem RfC.kx {α : Type} {f : FuncId} {args : List V} {m : Rd α} {enc : α → V} (h : RfC f args m enc) : CallX f args (PX enc) := ⟨fun hm hw hi he k => rf_callx h (.inl rfl) hm hw hi he k⟩
instance : Call0 68 [] (fun st _ _ _ ts K => K (.ret (tkV (hd ts))) st) := ⟨fun hm hw hi hD k => (qtoken_v hm hw hi hD).use k⟩
instance : CallX 68 [] (fun st K => ∀ t, t.t.length < 140737488355328 → K (.ret (tkV t)) st) := ⟨fun hm hw hi _ k => (qtoken_v hm hw hi rfl).use (k _ (hw.drop hi).txt)⟩
instance {e : Int} : Call0 80 [.int .i64 e] (fun st rid T i ts K => K (.ret (.tup [])) (stQ st rid T i e (hd ts).a)) := ⟨fun hm hw hi hD k => qfail_call0 hm hw hi hD k⟩
instance {e : Int} : CallX 80 [.int .i64 e] (fun st K => K (.ret (.tup [])) st) := ⟨fun hm _ _ he k => qfail_callx hm he k⟩
instance {s : List UInt8} : Call0 127 [.str s] (PW 0 s .bool) := ⟨fun hm hw hi hD k => word_call0 hm hw hi hD k.1 k.2⟩
instance {s : List UInt8} : CallX 127 [.str s] (fun st K => K (.ret (.bool false)) st) := ⟨fun hm hw hi he k => word_callx hm hw hi he k⟩
instance {s : List UInt8} : Call0 93 [.str s] (PW 2 s .bool) := ⟨fun hm hw hi hD k => sign_call0 hm hw hi hD k.1 k.2⟩
instance {s : List UInt8} : CallX 93 [.str s] (fun st K => K (.ret (.bool false)) st) := ⟨fun hm hw hi he k => sign_callx hm hw hi he k⟩
instance {s : List UInt8} : Call0 72 [.str s] (PN 0 s) := ⟨fun hm hw hi hD k => need_call0 hm hw hi hD k.1 k.2⟩
instance {s : List UInt8} : CallX 72 [.str s] (fun st K => K (.ret (.tup [])) st) := ⟨fun hm hw hi he k => need_callx hm hw hi he k⟩
instance : Call0 130 [] (PN 2 [47]) := ⟨fun hm hw hi hD k => slash_call0 hm hw hi hD k.1 k.2⟩
instance : CallX 130 [] (fun st K => K (.ret (.tup [])) st) := ⟨fun hm hw hi he k => slash_callx hm hw hi he k⟩
theorem subQ {st : St} {rid : Nat} {T : List Tok} {i : Nat} (hm : Sha.look st.mem rid = some (rdr T i 0 0)) (hwf : st.Wf) : Sub st.nx st.mem (stQ st rid T i 0 0).mem := by rw [stQ_same hm]; exact hwf.subm
theorem finF {α : Type} {m : Rd α} {enc : α → V} {res : List Res} {st st1 : St} {rid i' : Nat} {e p : Int} {T ts : List Tok} {env : Env} {vs : List V} {a : α} {x : VX} (hwf : st.Wf) (k : x = .ret ∨ x = .normal) (hm : Sub st.nx st1.mem (stQ st rid T i' e p).mem) (h1 : resV env st1 res = some vs) (h2 : enc a = resOne vs) (hi : i' < T.length)
  (he : (e = 0 ∧ p = 0 ∧ ∃ ts', T.drop i' = ts' ∧ m ts = .ok (a, ts')) ∨ (e ≠ 0 ∧ m ts = .error (p, e))) (hb : (enc a).bd st.nx = true) (hn : st.nx ≤ st1.nx) (ha : Sub st.nx st1.arr st.arr) (hx : ExSub st.nx st1.x st.x) : finQ res st.nx (rf0 m enc st rid T ts) x env st1 := by
 rcases he with ⟨rfl, rfl, ts', hD, he⟩ | ⟨h0, he⟩
 ·rcases k with rfl | rfl <;> exact finF0 hwf hm h1 (.inl h2) hi hD he hb hn ha hx
 ·rcases k with rfl | rfl <;> exact finF1 hwf hm h0 h1 (.inl h2) hi he hb hn ha hx
theorem finXx {α : Type} {enc : α → V} {res : List Res} {st st1 : St} {env : Env} {vs : List V} {a : α} {x : VX} (hwf : st.Wf) (k : x = .ret ∨ x = .normal) (h1 : resV env st1 res = some vs) (h2 : enc a = resOne vs) (hb : (enc a).bd st.nx = true)
  (hn : st.nx ≤ st1.nx) (hm : Sub st.nx st1.mem st.mem) (ha : Sub st.nx st1.arr st.arr) (hx : ExSub st.nx st1.x st.x) : finQ res st.nx (rfX enc st) x env st1 := by
 rcases k with rfl | rfl <;> exact finFx hwf h1 (.inl h2) hb hn hm ha hx
theorem rfc_of {α : Type} {f : FuncId} {args : List V} {m : Rd α} {enc : α → V}
  (h0 : ∀ (st : St) (rid : Nat) (T : List Tok) (i : Nat) (ts : List Tok), WfT T → i < T.length → T.drop i = ts → WfT ts → Sha.look st.mem rid = some (rdr T i 0 0) → VCalls Tryz.prog f (.ptr rid 0 :: args) st (rf0 m enc st rid T ts))
  (hx : ∀ (st : St) (rid : Nat) (T : List Tok) (i : Nat) (ts : List Tok) (e p : Int), WfT T → i < T.length → T.drop i = ts → WfT ts → e ≠ 0 → Sha.look st.mem rid = some (rdr T i e p) → VCalls Tryz.prog f (.ptr rid 0 :: args) st (rfX enc st)) : RfC f args m enc :=
 fun st rid T i hw hi => ⟨fun ts hD hm => h0 st rid T i ts hw hi hD (hw.at hi hD) hm, fun e p he hm => hx st rid T i (T.drop i) e p hw hi rfl (hw.drop hi) he hm⟩
def Rf0 {α : Type} (f : FuncId) (args : List V) (m : Rd α) (enc : α → V) : Prop := ∀ (st : St) (rid : Nat) (T : List Tok) (i : Nat) (ts : List Tok), WfT T → i < T.length → T.drop i = ts → WfT ts → Sha.look st.mem rid = some (rdr T i 0 0) → VCalls Tryz.prog f (.ptr rid 0 :: args) st (rf0 m enc st rid T ts)
def RfE {α : Type} (f : FuncId) (args : List V) (enc : α → V) : Prop := ∀ (st : St) (rid : Nat) (T : List Tok) (i : Nat) (ts : List Tok) (e p : Int), WfT T → i < T.length → T.drop i = ts → WfT ts → e ≠ 0 → Sha.look st.mem rid = some (rdr T i e p) → VCalls Tryz.prog f (.ptr rid 0 :: args) st (rfX enc st)
theorem step_at {T : List Tok} {i : Nat} {ts : List Tok} (hw : WfT T) (hi : i < T.length) (hD : T.drop i = ts) (hk : (hd ts).k ≠ 3) : ∃ k : Nat, IntKind.i64.wrap ((i : Int) + 1) = (k : Int) ∧ k < T.length ∧ T.drop k = ts.tail := by
 have h := drop_lt hw hi hD hk
 have hs := hw.small
 exact ⟨i + 1, by rw [wrap64 (by omega) (by omega)]; omega, h, drop_tail hD⟩
theorem numR_lt {s : List UInt8} {most : Int} (hm : most ≤ 1048576) : decide ((numR s : Int) < 1) = decide ((capV (numD s) : Int) < 1) ∧ decide (most < (numR s : Int)) = decide (most < (capV (numD s) : Int)) ∧ (decide (most < (numR s : Int)) = false → (numR s : Int) = (capV (numD s) : Int)) := by
 unfold numR capV
 refine ⟨by rw [decide_eq_decide]; omega, by rw [decide_eq_decide]; omega, fun h => ?_⟩
 simp only [decide_eq_false_iff_not] at h
 omega
theorem rfint_v (most : Int) (h1 : 1 ≤ most) (h2 : most ≤ 1048576) : RfC 79 [.int .i64 most] (rInt most) (fun n => .int .i64 n) := by
 have z0 : ((0 : Int) == 0) = true := rfl
 refine rfc_of (fun st rid T i ts hw hi hD hwt hm0 => ?_) (fun st rid T i ts e p hw hi hD hwt he hm0 => ?_)
 ·have hm := hm0
  unfold rdr at hm
  have ht := hwt.txt
  refine vc F79_ok rfl (fun hwf => ?_)
  have hrid := (hwf.mem _ _ hm).1
  have e1 : (st.nx = rid) = False := eq_false (by omega)
  cases hk : (hd ts).k != 1 with
  | true =>
   have hE : rInt most ts = _ := rNum_err hk
   (repeat' first | ((first | (with_reducible intro x1 x2 x3 x4 hE hX hI <;> (try (cases (x3 : Fix))) <;> (try (cases (x3 : Cmd); cases ‹Fix›)) <;> (try (have hI2 := rSelO_inv_err hE; clear hE; have hE := hI2; clear hI2))) | (with_reducible intro x1 x2 x3 hE hI hD <;> (try (have hI2 := rSelO_inv hE; obtain ⟨l1, rfl, hI2⟩ := hI2; clear hE; have hE := hI2; clear hI2)) <;> (try (have hI2 := rUnit_inv hE; obtain ⟨u1, u2, rfl⟩ := hI2; dsimp only)) <;> (try (have hI2 := rPlace_inv hE; obtain ⟨n1, q1, rfl⟩ := hI2; dsimp only at hE ⊢)) <;> (try (cases (x1 : Cmd); cases ‹Fix›))) | (with_reducible intro x1 hE hI hD <;> (try (have hI2 := hdIs_t hE; try simp only [hI2]))) | with_reducible intro x1 hF | (with_reducible intro x1 <;> (try (cases (x1 : Fix))) <;> (try (cases (x1 : Cmd); cases ‹Fix›))) | refine go rfl rfl ?_ | refine CallX.c (by first | assumption | (simp only [stQ_eq, lookR, om, hm, e1, hk, tkV, z0, push_cast, ed, reduceCtorEq, ld] <;> exact rfl)) (by assumption) (by assumption) (by first | assumption | decide) ?_ | refine Call0.c (by first | assumption | (simp only [stQ_eq, lookR, om, hm, e1, hk, tkV, z0, push_cast, ed, reduceCtorEq, ld] <;> exact rfl)) (by assumption) (by assumption) (by assumption) ?_ | (refine Fk.by_ ?_ ?_ <;> intro hc <;> try simp only [hc]) | refine storeK_eq rfl ?_ | with_reducible refine an ?_ ?_) <;> try simp only [stQ_eq, lookR, om, hm, e1, hk, tkV, z0, push_cast, ed, reduceCtorEq, ld]))
   all_goals first | (exact finF hwf (by first | exact .inl rfl | exact .inr rfl) (by first | ((repeat first | exact (wfQ hwf _ _ _ _).subm | exact subQ hm0 hwf | refine Sub.drop (by simp) ?_); done) | fail) (by first | rfl | (simp only [push_cast, ed, reduceCtorEq, ld]; exact rfl)) rfl (by assumption) (by first | exact .inl ⟨rfl, rfl, _, by assumption, (by first | assumption | (simp only [if_true, if_false, bf, *]; done) | (simp [*]; done) | fail)⟩ | exact .inr ⟨by first | assumption | decide, (by first | assumption | (simp only [if_true, if_false, bf, *]; done) | (simp [*]; done) | fail)⟩) (by first | rfl | assumption | exact bd_cmd | (simp [V.bd, V.bdL]; done) | fail) (by simp) (by simp [(hwf).z]) (hwf).subx)
  | false =>
   have hR : rInt most ts = _ := rNum_ok hk
   obtain ⟨k, wk, hk1, hk2⟩ := step_at hw hi hD (k1_ne hk)
   cases hd' : digsB (hd ts).t with
   | false =>
    rw [hd'] at hR
    (repeat' first | ((first | (with_reducible intro x1 x2 x3 x4 hE hX hI <;> (try (cases (x3 : Fix))) <;> (try (cases (x3 : Cmd); cases ‹Fix›)) <;> (try (have hI2 := rSelO_inv_err hE; clear hE; have hE := hI2; clear hI2))) | (with_reducible intro x1 x2 x3 hE hI hD <;> (try (have hI2 := rSelO_inv hE; obtain ⟨l1, rfl, hI2⟩ := hI2; clear hE; have hE := hI2; clear hI2)) <;> (try (have hI2 := rUnit_inv hE; obtain ⟨u1, u2, rfl⟩ := hI2; dsimp only)) <;> (try (have hI2 := rPlace_inv hE; obtain ⟨n1, q1, rfl⟩ := hI2; dsimp only at hE ⊢)) <;> (try (cases (x1 : Cmd); cases ‹Fix›))) | (with_reducible intro x1 hE hI hD <;> (try (have hI2 := hdIs_t hE; try simp only [hI2]))) | with_reducible intro x1 hF | (with_reducible intro x1 <;> (try (cases (x1 : Fix))) <;> (try (cases (x1 : Cmd); cases ‹Fix›))) | refine go rfl rfl ?_ | refine Cl.by_ (by (first | refine qdigits_v _ _ (by assumption))) ?_ | refine CallX.c (by first | assumption | (simp only [stQ_eq, lookR, om, hm, e1, hk, hd', tkV, z0, push_cast, ed, reduceCtorEq, ld] <;> exact rfl)) (by assumption) (by assumption) (by first | assumption | decide) ?_ | refine Call0.c (by first | assumption | (simp only [stQ_eq, lookR, om, hm, e1, hk, hd', tkV, z0, push_cast, ed, reduceCtorEq, ld] <;> exact rfl)) (by assumption) (by assumption) (by assumption) ?_ | (refine Fk.by_ ?_ ?_ <;> intro hc <;> try simp only [hc]) | refine storeK_eq rfl ?_ | with_reducible refine an ?_ ?_) <;> try simp only [stQ_eq, lookR, om, hm, e1, hk, hd', tkV, z0, push_cast, ed, reduceCtorEq, ld]))
    all_goals first | (exact finF hwf (by first | exact .inl rfl | exact .inr rfl) (by first | ((repeat first | exact (wfQ hwf _ _ _ _).subm | exact subQ hm0 hwf | refine Sub.drop (by simp) ?_); done) | fail) (by first | rfl | (simp only [push_cast, ed, reduceCtorEq, ld]; exact rfl)) rfl (by assumption) (by first | exact .inl ⟨rfl, rfl, _, by assumption, (by first | assumption | (simp only [if_true, if_false, bf, *]; done) | (simp [*]; done) | fail)⟩ | exact .inr ⟨by first | assumption | decide, (by first | assumption | (simp only [if_true, if_false, bf, *]; done) | (simp [*]; done) | fail)⟩) (by first | rfl | assumption | exact bd_cmd | (simp [V.bd, V.bdL]; done) | fail) (by simp) (by simp [(hwf).z]) (hwf).subx)
   | true =>
    rw [hd'] at hR
    have hn := fun st' => qnumber_v (hd ts).t st' ht (digsB_ok hd').2
    obtain ⟨n1, n2, n3⟩ := numR_lt (s := (hd ts).t) h2
    cases hb1 : decide ((capV (numD (hd ts).t) : Int) < 1) with
    | true =>
     rw [hb1] at n1
     (repeat' first | ((first | (with_reducible intro x1 x2 x3 x4 hE hX hI <;> (try (cases (x3 : Fix))) <;> (try (cases (x3 : Cmd); cases ‹Fix›)) <;> (try (have hI2 := rSelO_inv_err hE; clear hE; have hE := hI2; clear hI2))) | (with_reducible intro x1 x2 x3 hE hI hD <;> (try (have hI2 := rSelO_inv hE; obtain ⟨l1, rfl, hI2⟩ := hI2; clear hE; have hE := hI2; clear hI2)) <;> (try (have hI2 := rUnit_inv hE; obtain ⟨u1, u2, rfl⟩ := hI2; dsimp only)) <;> (try (have hI2 := rPlace_inv hE; obtain ⟨n1, q1, rfl⟩ := hI2; dsimp only at hE ⊢)) <;> (try (cases (x1 : Cmd); cases ‹Fix›))) | (with_reducible intro x1 hE hI hD <;> (try (have hI2 := hdIs_t hE; try simp only [hI2]))) | with_reducible intro x1 hF | (with_reducible intro x1 <;> (try (cases (x1 : Fix))) <;> (try (cases (x1 : Cmd); cases ‹Fix›))) | refine go rfl rfl ?_ | refine Cl.by_ (by (first | refine qdigits_v _ _ (by assumption) | refine hn _)) ?_ | refine CallX.c (by first | assumption | (simp only [stQ_eq, lookR, om, hm, e1, hk, hd', tkV, z0, n1, push_cast, ed, reduceCtorEq, ld] <;> exact rfl)) (by assumption) (by assumption) (by first | assumption | decide) ?_ | refine Call0.c (by first | assumption | (simp only [stQ_eq, lookR, om, hm, e1, hk, hd', tkV, z0, n1, push_cast, ed, reduceCtorEq, ld] <;> exact rfl)) (by assumption) (by assumption) (by assumption) ?_ | (refine Fk.by_ ?_ ?_ <;> intro hc <;> try simp only [hc]) | refine storeK_eq rfl ?_ | with_reducible refine an ?_ ?_) <;> try simp only [stQ_eq, lookR, om, hm, e1, hk, hd', tkV, z0, n1, push_cast, ed, reduceCtorEq, ld]))
     all_goals first | (exact finF hwf (by first | exact .inl rfl | exact .inr rfl) (by first | ((repeat first | exact (wfQ hwf _ _ _ _).subm | exact subQ hm0 hwf | refine Sub.drop (by simp) ?_); done) | fail) (by first | rfl | (simp only [push_cast, ed, reduceCtorEq, ld]; exact rfl)) rfl (by assumption) (by first | exact .inl ⟨rfl, rfl, _, by assumption, (by first | assumption | (simp only [if_true, if_false, bf, *]; done) | (simp [*]; done) | fail)⟩ | exact .inr ⟨by first | assumption | decide, (by first | assumption | (simp only [if_true, if_false, bf, *]; done) | (simp [*]; done) | fail)⟩) (by first | rfl | assumption | exact bd_cmd | (simp [V.bd, V.bdL]; done) | fail) (by simp) (by simp [(hwf).z]) (hwf).subx)
    | false =>
     rw [hb1] at n1
     cases hb2 : decide (most < (capV (numD (hd ts).t) : Int)) with
     | true =>
      rw [hb2] at n2
      (repeat' first | ((first | (with_reducible intro x1 x2 x3 x4 hE hX hI <;> (try (cases (x3 : Fix))) <;> (try (cases (x3 : Cmd); cases ‹Fix›)) <;> (try (have hI2 := rSelO_inv_err hE; clear hE; have hE := hI2; clear hI2))) | (with_reducible intro x1 x2 x3 hE hI hD <;> (try (have hI2 := rSelO_inv hE; obtain ⟨l1, rfl, hI2⟩ := hI2; clear hE; have hE := hI2; clear hI2)) <;> (try (have hI2 := rUnit_inv hE; obtain ⟨u1, u2, rfl⟩ := hI2; dsimp only)) <;> (try (have hI2 := rPlace_inv hE; obtain ⟨n1, q1, rfl⟩ := hI2; dsimp only at hE ⊢)) <;> (try (cases (x1 : Cmd); cases ‹Fix›))) | (with_reducible intro x1 hE hI hD <;> (try (have hI2 := hdIs_t hE; try simp only [hI2]))) | with_reducible intro x1 hF | (with_reducible intro x1 <;> (try (cases (x1 : Fix))) <;> (try (cases (x1 : Cmd); cases ‹Fix›))) | refine go rfl rfl ?_ | refine Cl.by_ (by (first | refine qdigits_v _ _ (by assumption) | refine hn _)) ?_ | refine CallX.c (by first | assumption | (simp only [stQ_eq, lookR, om, hm, e1, hk, hd', tkV, z0, n1, n2, push_cast, ed, reduceCtorEq, ld] <;> exact rfl)) (by assumption) (by assumption) (by first | assumption | decide) ?_ | refine Call0.c (by first | assumption | (simp only [stQ_eq, lookR, om, hm, e1, hk, hd', tkV, z0, n1, n2, push_cast, ed, reduceCtorEq, ld] <;> exact rfl)) (by assumption) (by assumption) (by assumption) ?_ | (refine Fk.by_ ?_ ?_ <;> intro hc <;> try simp only [hc]) | refine storeK_eq rfl ?_ | with_reducible refine an ?_ ?_) <;> try simp only [stQ_eq, lookR, om, hm, e1, hk, hd', tkV, z0, n1, n2, push_cast, ed, reduceCtorEq, ld]))
      all_goals first | (exact finF hwf (by first | exact .inl rfl | exact .inr rfl) (by first | ((repeat first | exact (wfQ hwf _ _ _ _).subm | exact subQ hm0 hwf | refine Sub.drop (by simp) ?_); done) | fail) (by first | rfl | (simp only [push_cast, ed, reduceCtorEq, ld]; exact rfl)) rfl (by assumption) (by first | exact .inl ⟨rfl, rfl, _, by assumption, (by first | assumption | (simp only [if_true, if_false, bf, *]; done) | (simp [*]; done) | fail)⟩ | exact .inr ⟨by first | assumption | decide, (by first | assumption | (simp only [if_true, if_false, bf, *]; done) | (simp [*]; done) | fail)⟩) (by first | rfl | assumption | exact bd_cmd | (simp [V.bd, V.bdL]; done) | fail) (by simp) (by simp [(hwf).z]) (hwf).subx)
     | false =>
      rw [hb2] at n2
      have n4 := n3 n2
      rw [n4] at hn
      rw [hb1, hb2] at hR
      rw [n4] at n1 n2
      (repeat' first | ((first | (with_reducible intro x1 x2 x3 x4 hE hX hI <;> (try (cases (x3 : Fix))) <;> (try (cases (x3 : Cmd); cases ‹Fix›)) <;> (try (have hI2 := rSelO_inv_err hE; clear hE; have hE := hI2; clear hI2))) | (with_reducible intro x1 x2 x3 hE hI hD <;> (try (have hI2 := rSelO_inv hE; obtain ⟨l1, rfl, hI2⟩ := hI2; clear hE; have hE := hI2; clear hI2)) <;> (try (have hI2 := rUnit_inv hE; obtain ⟨u1, u2, rfl⟩ := hI2; dsimp only)) <;> (try (have hI2 := rPlace_inv hE; obtain ⟨n1, q1, rfl⟩ := hI2; dsimp only at hE ⊢)) <;> (try (cases (x1 : Cmd); cases ‹Fix›))) | (with_reducible intro x1 hE hI hD <;> (try (have hI2 := hdIs_t hE; try simp only [hI2]))) | with_reducible intro x1 hF | (with_reducible intro x1 <;> (try (cases (x1 : Fix))) <;> (try (cases (x1 : Cmd); cases ‹Fix›))) | refine go rfl rfl ?_ | refine Cl.by_ (by (first | refine qdigits_v _ _ (by assumption) | refine hn _)) ?_ | refine CallX.c (by first | assumption | (simp only [stQ_eq, lookR, om, hm, e1, hk, hd', tkV, z0, n1, n2, wk, push_cast, ed, reduceCtorEq, ld] <;> exact rfl)) (by assumption) (by assumption) (by first | assumption | decide) ?_ | refine Call0.c (by first | assumption | (simp only [stQ_eq, lookR, om, hm, e1, hk, hd', tkV, z0, n1, n2, wk, push_cast, ed, reduceCtorEq, ld] <;> exact rfl)) (by assumption) (by assumption) (by assumption) ?_ | (refine Fk.by_ ?_ ?_ <;> intro hc <;> try simp only [hc]) | refine storeK_eq rfl ?_ | with_reducible refine an ?_ ?_) <;> try simp only [stQ_eq, lookR, om, hm, e1, hk, hd', tkV, z0, n1, n2, wk, push_cast, ed, reduceCtorEq, ld]))
      all_goals first | (exact finF hwf (by first | exact .inl rfl | exact .inr rfl) (by first | ((repeat first | exact (wfQ hwf _ _ _ _).subm | exact subQ hm0 hwf | refine Sub.drop (by simp) ?_); done) | fail) (by first | rfl | (simp only [push_cast, ed, reduceCtorEq, ld]; exact rfl)) rfl (by assumption) (by first | exact .inl ⟨rfl, rfl, _, by assumption, (by first | assumption | (simp only [if_true, if_false, bf, *]; done) | (simp [*]; done) | fail)⟩ | exact .inr ⟨by first | assumption | decide, (by first | assumption | (simp only [if_true, if_false, bf, *]; done) | (simp [*]; done) | fail)⟩) (by first | rfl | assumption | exact bd_cmd | (simp [V.bd, V.bdL]; done) | fail) (by simp) (by simp [(hwf).z]) (hwf).subx)
 ·have hm := hm0
  unfold rdr at hm
  have ht := hwt.txt
  have z1 : (e == 0) = false := by simpa using he
  refine vc F79_ok rfl (fun hwf => ?_)
  have hrid := (hwf.mem _ _ hm).1
  have e1 : (st.nx = rid) = False := eq_false (by omega)
  (repeat' first | ((first | (with_reducible intro x1 x2 x3 x4 hE hX hI <;> (try (cases (x3 : Fix))) <;> (try (cases (x3 : Cmd); cases ‹Fix›)) <;> (try (have hI2 := rSelO_inv_err hE; clear hE; have hE := hI2; clear hI2))) | (with_reducible intro x1 x2 x3 hE hI hD <;> (try (have hI2 := rSelO_inv hE; obtain ⟨l1, rfl, hI2⟩ := hI2; clear hE; have hE := hI2; clear hI2)) <;> (try (have hI2 := rUnit_inv hE; obtain ⟨u1, u2, rfl⟩ := hI2; dsimp only)) <;> (try (have hI2 := rPlace_inv hE; obtain ⟨n1, q1, rfl⟩ := hI2; dsimp only at hE ⊢)) <;> (try (cases (x1 : Cmd); cases ‹Fix›))) | (with_reducible intro x1 hE hI hD <;> (try (have hI2 := hdIs_t hE; try simp only [hI2]))) | with_reducible intro x1 hF | (with_reducible intro x1 <;> (try (cases (x1 : Fix))) <;> (try (cases (x1 : Cmd); cases ‹Fix›))) | refine go rfl rfl ?_ | refine Cl.by_ (by (first | refine qdigits_v _ _ (by assumption))) ?_ | refine CallX.c (by first | assumption | (simp only [stQ_eq, lookR, om, hm, e1, tkV, z1, push_cast, ed, reduceCtorEq, ld] <;> exact rfl)) (by assumption) (by assumption) (by first | assumption | decide) ?_ | refine Call0.c (by first | assumption | (simp only [stQ_eq, lookR, om, hm, e1, tkV, z1, push_cast, ed, reduceCtorEq, ld] <;> exact rfl)) (by assumption) (by assumption) (by assumption) ?_ | (refine Fk.by_ ?_ ?_ <;> intro hc <;> try simp only [hc]) | refine storeK_eq rfl ?_ | with_reducible refine an ?_ ?_) <;> try simp only [stQ_eq, lookR, om, hm, e1, tkV, z1, push_cast, ed, reduceCtorEq, ld]))
  all_goals first | (exact finXx (a := 0) hwf (by first | exact .inl rfl | exact .inr rfl) (by first | rfl | (simp only [push_cast, ed, reduceCtorEq, ld]; exact rfl)) rfl (by first | rfl | assumption | exact bd_cmd | (simp [V.bd, V.bdL]; done) | fail) (by simp) (by first | ((repeat first | exact (hwf).subm | refine Sub.drop (by simp) ?_); done) | fail) (by simp [(hwf).z]) (hwf).subx)
instance : Call0 79 [.int .i64 3] (P0 (rInt 3) fun n => .int .i64 n) := (rfint_v 3 (by decide) (by decide)).k0
instance : Call0 79 [.int .i64 4] (P0 (rInt 4) fun n => .int .i64 n) := (rfint_v 4 (by decide) (by decide)).k0
instance : Call0 79 [.int .i64 8] (P0 (rInt 8) fun n => .int .i64 n) := (rfint_v 8 (by decide) (by decide)).k0
instance : Call0 79 [.int .i64 400] (P0 (rInt 400) fun n => .int .i64 n) := (rfint_v 400 (by decide) (by decide)).k0
instance : Call0 79 [.int .i64 512] (P0 (rInt 512) fun n => .int .i64 n) := (rfint_v 512 (by decide) (by decide)).k0
instance : Call0 79 [.int .i64 999] (P0 (rInt 999) fun n => .int .i64 n) := (rfint_v 999 (by decide) (by decide)).k0
instance : Call0 79 [.int .i64 1048576] (P0 (rInt 1048576) fun n => .int .i64 n) := (rfint_v 1048576 (by decide) (by decide)).k0
instance : CallX 79 [.int .i64 3] (PX fun n : Int => .int .i64 n) := (rfint_v 3 (by decide) (by decide)).kx
instance : CallX 79 [.int .i64 4] (PX fun n : Int => .int .i64 n) := (rfint_v 4 (by decide) (by decide)).kx
instance : CallX 79 [.int .i64 8] (PX fun n : Int => .int .i64 n) := (rfint_v 8 (by decide) (by decide)).kx
instance : CallX 79 [.int .i64 400] (PX fun n : Int => .int .i64 n) := (rfint_v 400 (by decide) (by decide)).kx
instance : CallX 79 [.int .i64 512] (PX fun n : Int => .int .i64 n) := (rfint_v 512 (by decide) (by decide)).kx
instance : CallX 79 [.int .i64 999] (PX fun n : Int => .int .i64 n) := (rfint_v 999 (by decide) (by decide)).kx
instance : CallX 79 [.int .i64 1048576] (PX fun n : Int => .int .i64 n) := (rfint_v 1048576 (by decide) (by decide)).kx
theorem chkN_3 (s : List UInt8) : chkN s = 0 ∨ chkN s = 2 ∨ chkN s = 3 := by
 unfold chkN; split
 ·exact .inr (.inr rfl)
 ·split
  ·exact .inr (.inl rfl)
  ·exact .inl rfl
theorem pctN_3 (s : List UInt8) : (pctN s).2 = 0 ∨ (pctN s).2 = 2 ∨ (pctN s).2 = 3 := by
 unfold pctN; split
 ·exact .inl rfl
 ·split
  ·exact .inr (.inr rfl)
  ·split
   ·exact .inr (.inl rfl)
   ·exact .inl rfl
theorem secN_3 (s : List UInt8) : (secN s).2 = 0 ∨ (secN s).2 = 2 ∨ (secN s).2 = 3 := by
 unfold secN; split
 ·exact .inr (.inr rfl)
 ·split
  ·exact .inr (.inl rfl)
  ·exact .inl rfl
theorem wordN_3 (s : List UInt8) : wordN s = 0 ∨ wordN s = 8 ∨ wordN s = 13 := by
 unfold wordN; split
 ·split
  ·exact .inr (.inr rfl)
  ·exact .inl rfl
 ·exact .inr (.inl rfl)
theorem z0 : ((0 : Int) == 0) = true := rfl
theorem z0n : ((0 : Int) != 0) = false := rfl
theorem z4n : ((4 : Int) != 0) = true := rfl
theorem z2n : ((2 : Int) != 0) = true := rfl
theorem z8n : ((8 : Int) != 0) = true := rfl
set_option maxHeartbeats 1000000 in
theorem rfcue_v : RfC 131 [] rCue .str := by
 refine rfc_of (fun st rid T i ts hw hi hD hwt hm0 => ?_) (fun st rid T i ts e p hw hi hD hwt he hm0 => ?_)
 ·have hm := hm0
  unfold rdr at hm
  have ht := hwt.txt
  refine vc F131_ok rfl (fun hwf => ?_)
  have hrid := (hwf.mem _ _ hm).1
  have e1 : (st.nx = rid) = False := eq_false (by omega)
  have e2 : (st.nx + 1 = rid) = False := eq_false (by omega)
  have e3 : (st.nx + 2 = rid) = False := eq_false (by omega)
  cases hk : (hd ts).k != 1 with
  | true =>
   have hE : rCue ts = _ := rNum_err hk
   rcases chkN_3 (hd ts).t with h | h | h
   all_goals (
    have c1 : (chkN (hd ts).t == 2) = _ := congrArg (· == 2) h
    have c2 : (chkN (hd ts).t == 3) = _ := congrArg (· == 3) h
    (repeat' first | ((first | (with_reducible intro x1 x2 x3 x4 hE hX hI <;> (try (cases (x3 : Fix))) <;> (try (cases (x3 : Cmd); cases ‹Fix›)) <;> (try (have hI2 := rSelO_inv_err hE; clear hE; have hE := hI2; clear hI2))) | (with_reducible intro x1 x2 x3 hE hI hD <;> (try (have hI2 := rSelO_inv hE; obtain ⟨l1, rfl, hI2⟩ := hI2; clear hE; have hE := hI2; clear hI2)) <;> (try (have hI2 := rUnit_inv hE; obtain ⟨u1, u2, rfl⟩ := hI2; dsimp only)) <;> (try (have hI2 := rPlace_inv hE; obtain ⟨n1, q1, rfl⟩ := hI2; dsimp only at hE ⊢)) <;> (try (cases (x1 : Cmd); cases ‹Fix›))) | (with_reducible intro x1 hE hI hD <;> (try (have hI2 := hdIs_t hE; try simp only [hI2]))) | with_reducible intro x1 hF | (with_reducible intro x1 <;> (try (cases (x1 : Fix))) <;> (try (cases (x1 : Cmd); cases ‹Fix›))) | refine go rfl rfl ?_ | refine Cl.by_ (by (first | refine qcheck_v _ _ (by assumption))) ?_ | refine CallX.c (by first | assumption | (simp only [stQ_eq, lookR, om, hm, e1, e2, e3, tkV, z0, z0n, z4n, z2n, z8n, hk, c1, c2, h, push_cast, ed, reduceCtorEq, ld] <;> exact rfl)) (by assumption) (by assumption) (by first | assumption | decide) ?_ | refine Call0.c (by first | assumption | (simp only [stQ_eq, lookR, om, hm, e1, e2, e3, tkV, z0, z0n, z4n, z2n, z8n, hk, c1, c2, h, push_cast, ed, reduceCtorEq, ld] <;> exact rfl)) (by assumption) (by assumption) (by assumption) ?_ | (refine Fk.by_ ?_ ?_ <;> intro hc <;> try simp only [hc]) | refine storeK_eq rfl ?_ | with_reducible refine an ?_ ?_) <;> try simp only [stQ_eq, lookR, om, hm, e1, e2, e3, tkV, z0, z0n, z4n, z2n, z8n, hk, c1, c2, h, push_cast, ed, reduceCtorEq, ld]))
    all_goals first | (exact finF hwf (by first | exact .inl rfl | exact .inr rfl) (by first | ((repeat first | exact (wfQ hwf _ _ _ _).subm | exact subQ hm0 hwf | refine Sub.drop (by simp) ?_); done) | fail) (by first | rfl | (simp only [push_cast, ed, reduceCtorEq, ld]; exact rfl)) rfl (by assumption) (by first | exact .inl ⟨rfl, rfl, _, by assumption, (by first | assumption | (simp only [if_true, if_false, bf, *]; done) | (simp [*]; done) | fail)⟩ | exact .inr ⟨by first | assumption | decide, (by first | assumption | (simp only [if_true, if_false, bf, *]; done) | (simp [*]; done) | fail)⟩) (by first | rfl | assumption | exact bd_cmd | (simp [V.bd, V.bdL]; done) | fail) (by simp) (by simp [(hwf).z]) (hwf).subx))
  | false =>
   have hR : rCue ts = _ := rNum_ok hk
   obtain ⟨k, wk, hk1, hk2⟩ := step_at hw hi hD (k1_ne hk)
   rcases chkN_3 (hd ts).t with h | h | h
   all_goals (
    have c2 : ((0 : Int) == 2) = false := rfl
    have c3 : ((0 : Int) == 3) = false := rfl
    have c4 : ((2 : Int) == 2) = true := rfl
    have c5 : ((2 : Int) == 3) = false := rfl
    have c6 : ((3 : Int) == 3) = true := rfl
    have c7 : ((3 : Int) == 2) = false := rfl
    have hq := fun st' => qcheck_v (hd ts).t st' ht
    rw [h] at hR hq
    (repeat' first | ((first | (with_reducible intro x1 x2 x3 x4 hE hX hI <;> (try (cases (x3 : Fix))) <;> (try (cases (x3 : Cmd); cases ‹Fix›)) <;> (try (have hI2 := rSelO_inv_err hE; clear hE; have hE := hI2; clear hI2))) | (with_reducible intro x1 x2 x3 hE hI hD <;> (try (have hI2 := rSelO_inv hE; obtain ⟨l1, rfl, hI2⟩ := hI2; clear hE; have hE := hI2; clear hI2)) <;> (try (have hI2 := rUnit_inv hE; obtain ⟨u1, u2, rfl⟩ := hI2; dsimp only)) <;> (try (have hI2 := rPlace_inv hE; obtain ⟨n1, q1, rfl⟩ := hI2; dsimp only at hE ⊢)) <;> (try (cases (x1 : Cmd); cases ‹Fix›))) | (with_reducible intro x1 hE hI hD <;> (try (have hI2 := hdIs_t hE; try simp only [hI2]))) | with_reducible intro x1 hF | (with_reducible intro x1 <;> (try (cases (x1 : Fix))) <;> (try (cases (x1 : Cmd); cases ‹Fix›))) | refine go rfl rfl ?_ | refine Cl.by_ (by (first | refine hq _)) ?_ | refine CallX.c (by first | assumption | (simp only [stQ_eq, lookR, om, hm, e1, e2, e3, tkV, z0, z0n, z4n, z2n, z8n, hk, c2, c3, c4, c5, c6, c7, wk, push_cast, ed, reduceCtorEq, ld] <;> exact rfl)) (by assumption) (by assumption) (by first | assumption | decide) ?_ | refine Call0.c (by first | assumption | (simp only [stQ_eq, lookR, om, hm, e1, e2, e3, tkV, z0, z0n, z4n, z2n, z8n, hk, c2, c3, c4, c5, c6, c7, wk, push_cast, ed, reduceCtorEq, ld] <;> exact rfl)) (by assumption) (by assumption) (by assumption) ?_ | (refine Fk.by_ ?_ ?_ <;> intro hc <;> try simp only [hc]) | refine storeK_eq rfl ?_ | with_reducible refine an ?_ ?_) <;> try simp only [stQ_eq, lookR, om, hm, e1, e2, e3, tkV, z0, z0n, z4n, z2n, z8n, hk, c2, c3, c4, c5, c6, c7, wk, push_cast, ed, reduceCtorEq, ld]))
    all_goals first | (exact finF hwf (by first | exact .inl rfl | exact .inr rfl) (by first | ((repeat first | exact (wfQ hwf _ _ _ _).subm | exact subQ hm0 hwf | refine Sub.drop (by simp) ?_); done) | fail) (by first | rfl | (simp only [rNext, rMust, push_cast, ed, reduceCtorEq, ld]; exact rfl)) rfl (by assumption) (by first | exact .inl ⟨rfl, rfl, _, by assumption, (by first | assumption | (simp only [rNext, rMust, if_true, if_false, bf, *]; done) | (simp [rNext, rMust, *]; done) | fail)⟩ | exact .inr ⟨by first | assumption | decide, (by first | assumption | (simp only [rNext, rMust, if_true, if_false, bf, *]; done) | (simp [rNext, rMust, *]; done) | fail)⟩) (by first | rfl | assumption | exact bd_cmd | (simp [V.bd, V.bdL]; done) | fail) (by simp) (by simp [(hwf).z]) (hwf).subx))
 ·have hm := hm0
  unfold rdr at hm
  have ht := hwt.txt
  refine vc F131_ok rfl (fun hwf => ?_)
  have hrid := (hwf.mem _ _ hm).1
  have e1 : (st.nx = rid) = False := eq_false (by omega)
  have e2 : (st.nx + 1 = rid) = False := eq_false (by omega)
  have e3 : (st.nx + 2 = rid) = False := eq_false (by omega)
  have zx : (e != 0) = true := by simpa using he
  (repeat' first | ((first | (with_reducible intro x1 x2 x3 x4 hE hX hI <;> (try (cases (x3 : Fix))) <;> (try (cases (x3 : Cmd); cases ‹Fix›)) <;> (try (have hI2 := rSelO_inv_err hE; clear hE; have hE := hI2; clear hI2))) | (with_reducible intro x1 x2 x3 hE hI hD <;> (try (have hI2 := rSelO_inv hE; obtain ⟨l1, rfl, hI2⟩ := hI2; clear hE; have hE := hI2; clear hI2)) <;> (try (have hI2 := rUnit_inv hE; obtain ⟨u1, u2, rfl⟩ := hI2; dsimp only)) <;> (try (have hI2 := rPlace_inv hE; obtain ⟨n1, q1, rfl⟩ := hI2; dsimp only at hE ⊢)) <;> (try (cases (x1 : Cmd); cases ‹Fix›))) | (with_reducible intro x1 hE hI hD <;> (try (have hI2 := hdIs_t hE; try simp only [hI2]))) | with_reducible intro x1 hF | (with_reducible intro x1 <;> (try (cases (x1 : Fix))) <;> (try (cases (x1 : Cmd); cases ‹Fix›))) | refine go rfl rfl ?_ | refine Cl.by_ (by (first | refine qcheck_v _ _ (by assumption))) ?_ | refine CallX.c (by first | assumption | (simp only [stQ_eq, lookR, om, hm, e1, e2, e3, tkV, z0, z0n, z4n, z2n, z8n, zx, push_cast, ed, reduceCtorEq, ld] <;> exact rfl)) (by assumption) (by assumption) (by first | assumption | decide) ?_ | refine Call0.c (by first | assumption | (simp only [stQ_eq, lookR, om, hm, e1, e2, e3, tkV, z0, z0n, z4n, z2n, z8n, zx, push_cast, ed, reduceCtorEq, ld] <;> exact rfl)) (by assumption) (by assumption) (by assumption) ?_ | (refine Fk.by_ ?_ ?_ <;> intro hc <;> try simp only [hc]) | refine storeK_eq rfl ?_ | with_reducible refine an ?_ ?_) <;> try simp only [stQ_eq, lookR, om, hm, e1, e2, e3, tkV, z0, z0n, z4n, z2n, z8n, zx, push_cast, ed, reduceCtorEq, ld]))
  all_goals first | (exact finXx (a := []) hwf (by first | exact .inl rfl | exact .inr rfl) (by first | rfl | (simp only [push_cast, ed, reduceCtorEq, ld]; exact rfl)) rfl (by first | rfl | assumption | exact bd_cmd | (simp [V.bd, V.bdL]; done) | fail) (by simp) (by first | ((repeat first | exact (hwf).subm | refine Sub.drop (by simp) ?_); done) | fail) (by simp [(hwf).z]) (hwf).subx)
instance : Call0 131 [] (P0 rCue .str) := (rfcue_v).k0
instance : CallX 131 [] (PX .str) := (rfcue_v).kx
theorem rLevel_ok {ts : List Tok} (h : hdIs 0 [102, 117, 108, 108] ts = true ∨ ((hd ts).k != 1) = false) : rLevel ts = if ((pctN (hd ts).t).2 == 0) = true then .ok ((pctN (hd ts).t).1, ts.tail) else .error ((hd ts).a, mustE (pctN (hd ts).t).2) := by
 have key : ∀ f : List UInt8, f = (hd ts).t → (rNext (rMust (pctN f).2) fun _ ts => (.ok ((pctN f).1, ts.tail) : Except (Int × Int) (Int × List Tok))) ts = if ((pctN (hd ts).t).2 == 0) = true then .ok ((pctN (hd ts).t).1, ts.tail) else .error ((hd ts).a, mustE (pctN (hd ts).t).2) := fun f hf => by
  subst hf
  cases hp : (pctN (hd ts).t).2 == 0
  ·rw [rMust_err hp]; rfl
  ·rw [rMust_ok hp]; rfl
 cases hf : hdIs 0 [102, 117, 108, 108] ts with
 | true =>
  simp only [rLevel, hf, if_true]
  exact key _ rfl
 | false =>
  have hk : ((hd ts).k != 1) = false := by rcases h with h | h; (rw [h] at hf; cases hf); exact h
  simp only [rLevel, hf, bf, if_false]
  rw [rNum_ok hk]
  exact key _ rfl
set_option maxHeartbeats 1000000 in
theorem rflevel_v : RfC 128 [] rLevel (fun n => .int .i64 n) := by
 refine rfc_of (fun st rid T i ts hw hi hD hwt hm0 => ?_) (fun st rid T i ts e p hw hi hD hwt he hm0 => ?_)
 ·have hm := hm0
  unfold rdr at hm
  have ht := hwt.txt
  refine vc F128_ok rfl (fun hwf => ?_)
  have hrid := (hwf.mem _ _ hm).1
  have e1 : (st.nx = rid) = False := eq_false (by omega)
  have e2 : (st.nx + 1 = rid) = False := eq_false (by omega)
  have e3 : (st.nx + 2 = rid) = False := eq_false (by omega)
  have hC : (hdIs 0 [102, 117, 108, 108] ts = true ∨ ((hd ts).k != 1) = false) ∨ (hdIs 0 [102, 117, 108, 108] ts = false ∧ ((hd ts).k != 1) = true) := by
   cases hdIs 0 [102, 117, 108, 108] ts <;> cases (hd ts).k != 1 <;> simp
  rcases hC with hC | ⟨hf, hk⟩
  ·have hR := rLevel_ok hC
   have h3 : (hd ts).k ≠ 3 := by
    rcases hC with h | h
    ·exact (hdIs_full h).2
    ·exact k1_ne h
   have hcond : (((hd ts).k != 1) = true → ((hd ts).k == 0) = true ∧ ((hd ts).t == [102, 117, 108, 108]) = true) := fun hk => by
    rcases hC with h | h
    ·simpa [hdIs] using h
    ·rw [h] at hk; cases hk
   obtain ⟨k, wk, hk1, hk2⟩ := step_at hw hi hD h3
   rcases pctN_3 (hd ts).t with h | h | h
   all_goals (
    have c2 : ((0 : Int) == 2) = false := rfl
    have c3 : ((0 : Int) == 3) = false := rfl
    have c4 : ((2 : Int) == 2) = true := rfl
    have c5 : ((2 : Int) == 3) = false := rfl
    have c6 : ((3 : Int) == 3) = true := rfl
    have c7 : ((3 : Int) == 2) = false := rfl
    have c8 : ((2 : Int) == 0) = false := rfl
    have c9 : ((3 : Int) == 0) = false := rfl
    have hq := fun st' => qpercent_v (hd ts).t st' ht
    rw [h] at hR hq
    cases hk : (hd ts).k != 1 with
    | true =>
     obtain ⟨y1, y2⟩ := hcond hk
     (repeat' first | ((first | (with_reducible intro x1 x2 x3 x4 hE hX hI <;> (try (cases (x3 : Fix))) <;> (try (cases (x3 : Cmd); cases ‹Fix›)) <;> (try (have hI2 := rSelO_inv_err hE; clear hE; have hE := hI2; clear hI2))) | (with_reducible intro x1 x2 x3 hE hI hD <;> (try (have hI2 := rSelO_inv hE; obtain ⟨l1, rfl, hI2⟩ := hI2; clear hE; have hE := hI2; clear hI2)) <;> (try (have hI2 := rUnit_inv hE; obtain ⟨u1, u2, rfl⟩ := hI2; dsimp only)) <;> (try (have hI2 := rPlace_inv hE; obtain ⟨n1, q1, rfl⟩ := hI2; dsimp only at hE ⊢)) <;> (try (cases (x1 : Cmd); cases ‹Fix›))) | (with_reducible intro x1 hE hI hD <;> (try (have hI2 := hdIs_t hE; try simp only [hI2]))) | with_reducible intro x1 hF | (with_reducible intro x1 <;> (try (cases (x1 : Fix))) <;> (try (cases (x1 : Cmd); cases ‹Fix›))) | refine go rfl rfl ?_ | refine Cl.by_ (by (first | refine hq _)) ?_ | refine CallX.c (by first | assumption | (simp only [stQ_eq, lookR, om, hm, e1, e2, e3, tkV, z0, z0n, z4n, z2n, z8n, hk, y1, y2, c2, c3, c4, c5, c6, c7, wk, push_cast, ed, reduceCtorEq, ld] <;> exact rfl)) (by assumption) (by assumption) (by first | assumption | decide) ?_ | refine Call0.c (by first | assumption | (simp only [stQ_eq, lookR, om, hm, e1, e2, e3, tkV, z0, z0n, z4n, z2n, z8n, hk, y1, y2, c2, c3, c4, c5, c6, c7, wk, push_cast, ed, reduceCtorEq, ld] <;> exact rfl)) (by assumption) (by assumption) (by assumption) ?_ | (refine Fk.by_ ?_ ?_ <;> intro hc <;> try simp only [hc]) | refine storeK_eq rfl ?_ | with_reducible refine an ?_ ?_) <;> try simp only [stQ_eq, lookR, om, hm, e1, e2, e3, tkV, z0, z0n, z4n, z2n, z8n, hk, y1, y2, c2, c3, c4, c5, c6, c7, wk, push_cast, ed, reduceCtorEq, ld]))
     all_goals first | (exact finF hwf (by first | exact .inl rfl | exact .inr rfl) (by first | ((repeat first | exact (wfQ hwf _ _ _ _).subm | exact subQ hm0 hwf | refine Sub.drop (by simp) ?_); done) | fail) (by first | rfl | (simp only [mustE, c8, c9, push_cast, ed, reduceCtorEq, ld]; exact rfl)) rfl (by assumption) (by first | exact .inl ⟨rfl, rfl, _, by assumption, (by first | assumption | (simp only [mustE, c8, c9, if_true, if_false, bf, *]; done) | (simp [mustE, c8, c9, *]; done) | fail)⟩ | exact .inr ⟨by first | assumption | decide, (by first | assumption | (simp only [mustE, c8, c9, if_true, if_false, bf, *]; done) | (simp [mustE, c8, c9, *]; done) | fail)⟩) (by first | rfl | assumption | exact bd_cmd | (simp [V.bd, V.bdL]; done) | fail) (by simp) (by simp [(hwf).z]) (hwf).subx)
    | false =>
     (repeat' first | ((first | (with_reducible intro x1 x2 x3 x4 hE hX hI <;> (try (cases (x3 : Fix))) <;> (try (cases (x3 : Cmd); cases ‹Fix›)) <;> (try (have hI2 := rSelO_inv_err hE; clear hE; have hE := hI2; clear hI2))) | (with_reducible intro x1 x2 x3 hE hI hD <;> (try (have hI2 := rSelO_inv hE; obtain ⟨l1, rfl, hI2⟩ := hI2; clear hE; have hE := hI2; clear hI2)) <;> (try (have hI2 := rUnit_inv hE; obtain ⟨u1, u2, rfl⟩ := hI2; dsimp only)) <;> (try (have hI2 := rPlace_inv hE; obtain ⟨n1, q1, rfl⟩ := hI2; dsimp only at hE ⊢)) <;> (try (cases (x1 : Cmd); cases ‹Fix›))) | (with_reducible intro x1 hE hI hD <;> (try (have hI2 := hdIs_t hE; try simp only [hI2]))) | with_reducible intro x1 hF | (with_reducible intro x1 <;> (try (cases (x1 : Fix))) <;> (try (cases (x1 : Cmd); cases ‹Fix›))) | refine go rfl rfl ?_ | refine Cl.by_ (by (first | refine hq _)) ?_ | refine CallX.c (by first | assumption | (simp only [stQ_eq, lookR, om, hm, e1, e2, e3, tkV, z0, z0n, z4n, z2n, z8n, hk, c2, c3, c4, c5, c6, c7, wk, push_cast, ed, reduceCtorEq, ld] <;> exact rfl)) (by assumption) (by assumption) (by first | assumption | decide) ?_ | refine Call0.c (by first | assumption | (simp only [stQ_eq, lookR, om, hm, e1, e2, e3, tkV, z0, z0n, z4n, z2n, z8n, hk, c2, c3, c4, c5, c6, c7, wk, push_cast, ed, reduceCtorEq, ld] <;> exact rfl)) (by assumption) (by assumption) (by assumption) ?_ | (refine Fk.by_ ?_ ?_ <;> intro hc <;> try simp only [hc]) | refine storeK_eq rfl ?_ | with_reducible refine an ?_ ?_) <;> try simp only [stQ_eq, lookR, om, hm, e1, e2, e3, tkV, z0, z0n, z4n, z2n, z8n, hk, c2, c3, c4, c5, c6, c7, wk, push_cast, ed, reduceCtorEq, ld]))
     all_goals first | (exact finF hwf (by first | exact .inl rfl | exact .inr rfl) (by first | ((repeat first | exact (wfQ hwf _ _ _ _).subm | exact subQ hm0 hwf | refine Sub.drop (by simp) ?_); done) | fail) (by first | rfl | (simp only [mustE, c8, c9, push_cast, ed, reduceCtorEq, ld]; exact rfl)) rfl (by assumption) (by first | exact .inl ⟨rfl, rfl, _, by assumption, (by first | assumption | (simp only [mustE, c8, c9, if_true, if_false, bf, *]; done) | (simp [mustE, c8, c9, *]; done) | fail)⟩ | exact .inr ⟨by first | assumption | decide, (by first | assumption | (simp only [mustE, c8, c9, if_true, if_false, bf, *]; done) | (simp [mustE, c8, c9, *]; done) | fail)⟩) (by first | rfl | assumption | exact bd_cmd | (simp [V.bd, V.bdL]; done) | fail) (by simp) (by simp [(hwf).z]) (hwf).subx))
  ·have hE : rLevel ts = .error ((hd ts).a, 4) := by simp only [rLevel, hf, bf, if_false]; exact rNum_err hk
   have hx : ((hd ts).k == 0) = true → ((hd ts).t == [102, 117, 108, 108]) = false := fun h => by simpa [hdIs, h] using hf
   cases h0 : (hd ts).k == 0 with
   | true =>
    have h1 := hx h0
    (repeat' first | ((first | (with_reducible intro x1 x2 x3 x4 hE hX hI <;> (try (cases (x3 : Fix))) <;> (try (cases (x3 : Cmd); cases ‹Fix›)) <;> (try (have hI2 := rSelO_inv_err hE; clear hE; have hE := hI2; clear hI2))) | (with_reducible intro x1 x2 x3 hE hI hD <;> (try (have hI2 := rSelO_inv hE; obtain ⟨l1, rfl, hI2⟩ := hI2; clear hE; have hE := hI2; clear hI2)) <;> (try (have hI2 := rUnit_inv hE; obtain ⟨u1, u2, rfl⟩ := hI2; dsimp only)) <;> (try (have hI2 := rPlace_inv hE; obtain ⟨n1, q1, rfl⟩ := hI2; dsimp only at hE ⊢)) <;> (try (cases (x1 : Cmd); cases ‹Fix›))) | (with_reducible intro x1 hE hI hD <;> (try (have hI2 := hdIs_t hE; try simp only [hI2]))) | with_reducible intro x1 hF | (with_reducible intro x1 <;> (try (cases (x1 : Fix))) <;> (try (cases (x1 : Cmd); cases ‹Fix›))) | refine go rfl rfl ?_ | refine Cl.by_ (by (first | refine qpercent_v _ _ (by assumption))) ?_ | refine CallX.c (by first | assumption | (simp only [stQ_eq, lookR, om, hm, e1, e2, e3, tkV, z0, z0n, z4n, z2n, z8n, hk, h0, h1, push_cast, ed, reduceCtorEq, ld] <;> exact rfl)) (by assumption) (by assumption) (by first | assumption | decide) ?_ | refine Call0.c (by first | assumption | (simp only [stQ_eq, lookR, om, hm, e1, e2, e3, tkV, z0, z0n, z4n, z2n, z8n, hk, h0, h1, push_cast, ed, reduceCtorEq, ld] <;> exact rfl)) (by assumption) (by assumption) (by assumption) ?_ | (refine Fk.by_ ?_ ?_ <;> intro hc <;> try simp only [hc]) | refine storeK_eq rfl ?_ | with_reducible refine an ?_ ?_) <;> try simp only [stQ_eq, lookR, om, hm, e1, e2, e3, tkV, z0, z0n, z4n, z2n, z8n, hk, h0, h1, push_cast, ed, reduceCtorEq, ld]))
    all_goals first | (exact finF hwf (by first | exact .inl rfl | exact .inr rfl) (by first | ((repeat first | exact (wfQ hwf _ _ _ _).subm | exact subQ hm0 hwf | refine Sub.drop (by simp) ?_); done) | fail) (by first | rfl | (simp only [push_cast, ed, reduceCtorEq, ld]; exact rfl)) rfl (by assumption) (by first | exact .inl ⟨rfl, rfl, _, by assumption, (by first | assumption | (simp only [if_true, if_false, bf, *]; done) | (simp [*]; done) | fail)⟩ | exact .inr ⟨by first | assumption | decide, (by first | assumption | (simp only [if_true, if_false, bf, *]; done) | (simp [*]; done) | fail)⟩) (by first | rfl | assumption | exact bd_cmd | (simp [V.bd, V.bdL]; done) | fail) (by simp) (by simp [(hwf).z]) (hwf).subx)
   | false =>
    (repeat' first | ((first | (with_reducible intro x1 x2 x3 x4 hE hX hI <;> (try (cases (x3 : Fix))) <;> (try (cases (x3 : Cmd); cases ‹Fix›)) <;> (try (have hI2 := rSelO_inv_err hE; clear hE; have hE := hI2; clear hI2))) | (with_reducible intro x1 x2 x3 hE hI hD <;> (try (have hI2 := rSelO_inv hE; obtain ⟨l1, rfl, hI2⟩ := hI2; clear hE; have hE := hI2; clear hI2)) <;> (try (have hI2 := rUnit_inv hE; obtain ⟨u1, u2, rfl⟩ := hI2; dsimp only)) <;> (try (have hI2 := rPlace_inv hE; obtain ⟨n1, q1, rfl⟩ := hI2; dsimp only at hE ⊢)) <;> (try (cases (x1 : Cmd); cases ‹Fix›))) | (with_reducible intro x1 hE hI hD <;> (try (have hI2 := hdIs_t hE; try simp only [hI2]))) | with_reducible intro x1 hF | (with_reducible intro x1 <;> (try (cases (x1 : Fix))) <;> (try (cases (x1 : Cmd); cases ‹Fix›))) | refine go rfl rfl ?_ | refine Cl.by_ (by (first | refine qpercent_v _ _ (by assumption))) ?_ | refine CallX.c (by first | assumption | (simp only [stQ_eq, lookR, om, hm, e1, e2, e3, tkV, z0, z0n, z4n, z2n, z8n, hk, h0, push_cast, ed, reduceCtorEq, ld] <;> exact rfl)) (by assumption) (by assumption) (by first | assumption | decide) ?_ | refine Call0.c (by first | assumption | (simp only [stQ_eq, lookR, om, hm, e1, e2, e3, tkV, z0, z0n, z4n, z2n, z8n, hk, h0, push_cast, ed, reduceCtorEq, ld] <;> exact rfl)) (by assumption) (by assumption) (by assumption) ?_ | (refine Fk.by_ ?_ ?_ <;> intro hc <;> try simp only [hc]) | refine storeK_eq rfl ?_ | with_reducible refine an ?_ ?_) <;> try simp only [stQ_eq, lookR, om, hm, e1, e2, e3, tkV, z0, z0n, z4n, z2n, z8n, hk, h0, push_cast, ed, reduceCtorEq, ld]))
    all_goals first | (exact finF hwf (by first | exact .inl rfl | exact .inr rfl) (by first | ((repeat first | exact (wfQ hwf _ _ _ _).subm | exact subQ hm0 hwf | refine Sub.drop (by simp) ?_); done) | fail) (by first | rfl | (simp only [push_cast, ed, reduceCtorEq, ld]; exact rfl)) rfl (by assumption) (by first | exact .inl ⟨rfl, rfl, _, by assumption, (by first | assumption | (simp only [if_true, if_false, bf, *]; done) | (simp [*]; done) | fail)⟩ | exact .inr ⟨by first | assumption | decide, (by first | assumption | (simp only [if_true, if_false, bf, *]; done) | (simp [*]; done) | fail)⟩) (by first | rfl | assumption | exact bd_cmd | (simp [V.bd, V.bdL]; done) | fail) (by simp) (by simp [(hwf).z]) (hwf).subx)
 ·have hm := hm0
  unfold rdr at hm
  have ht := hwt.txt
  refine vc F128_ok rfl (fun hwf => ?_)
  have hrid := (hwf.mem _ _ hm).1
  have e1 : (st.nx = rid) = False := eq_false (by omega)
  have e2 : (st.nx + 1 = rid) = False := eq_false (by omega)
  have e3 : (st.nx + 2 = rid) = False := eq_false (by omega)
  have zx : (e != 0) = true := by simpa using he
  (repeat' first | ((first | (with_reducible intro x1 x2 x3 x4 hE hX hI <;> (try (cases (x3 : Fix))) <;> (try (cases (x3 : Cmd); cases ‹Fix›)) <;> (try (have hI2 := rSelO_inv_err hE; clear hE; have hE := hI2; clear hI2))) | (with_reducible intro x1 x2 x3 hE hI hD <;> (try (have hI2 := rSelO_inv hE; obtain ⟨l1, rfl, hI2⟩ := hI2; clear hE; have hE := hI2; clear hI2)) <;> (try (have hI2 := rUnit_inv hE; obtain ⟨u1, u2, rfl⟩ := hI2; dsimp only)) <;> (try (have hI2 := rPlace_inv hE; obtain ⟨n1, q1, rfl⟩ := hI2; dsimp only at hE ⊢)) <;> (try (cases (x1 : Cmd); cases ‹Fix›))) | (with_reducible intro x1 hE hI hD <;> (try (have hI2 := hdIs_t hE; try simp only [hI2]))) | with_reducible intro x1 hF | (with_reducible intro x1 <;> (try (cases (x1 : Fix))) <;> (try (cases (x1 : Cmd); cases ‹Fix›))) | refine go rfl rfl ?_ | refine Cl.by_ (by (first | refine qpercent_v _ _ (by assumption))) ?_ | refine CallX.c (by first | assumption | (simp only [stQ_eq, lookR, om, hm, e1, e2, e3, tkV, z0, z0n, z4n, z2n, z8n, zx, push_cast, ed, reduceCtorEq, ld] <;> exact rfl)) (by assumption) (by assumption) (by first | assumption | decide) ?_ | refine Call0.c (by first | assumption | (simp only [stQ_eq, lookR, om, hm, e1, e2, e3, tkV, z0, z0n, z4n, z2n, z8n, zx, push_cast, ed, reduceCtorEq, ld] <;> exact rfl)) (by assumption) (by assumption) (by assumption) ?_ | (refine Fk.by_ ?_ ?_ <;> intro hc <;> try simp only [hc]) | refine storeK_eq rfl ?_ | with_reducible refine an ?_ ?_) <;> try simp only [stQ_eq, lookR, om, hm, e1, e2, e3, tkV, z0, z0n, z4n, z2n, z8n, zx, push_cast, ed, reduceCtorEq, ld]))
  all_goals first | (exact finXx (a := 0) hwf (by first | exact .inl rfl | exact .inr rfl) (by first | rfl | (simp only [push_cast, ed, reduceCtorEq, ld]; exact rfl)) rfl (by first | rfl | assumption | exact bd_cmd | (simp [V.bd, V.bdL]; done) | fail) (by simp) (by first | ((repeat first | exact (hwf).subm | refine Sub.drop (by simp) ?_); done) | fail) (by simp [(hwf).z]) (hwf).subx)
instance : Call0 128 [] (P0 rLevel (fun n => .int .i64 n)) := (rflevel_v).k0
instance : CallX 128 [] (PX (fun n : Int => .int .i64 n)) := (rflevel_v).kx
set_option maxHeartbeats 1000000 in
theorem rfprofile_v : RfC 133 [] rProfile .str := by
 refine rfc_of (fun st rid T i ts hw hi hD hwt hm0 => ?_) (fun st rid T i ts e p hw hi hD hwt he hm0 => ?_)
 ·have hm := hm0
  unfold rdr at hm
  have ht := hwt.txt
  refine vc F133_ok rfl (fun hwf => ?_)
  have hrid := (hwf.mem _ _ hm).1
  have e1 : (st.nx = rid) = False := eq_false (by omega)
  have e2 : (st.nx + 1 = rid) = False := eq_false (by omega)
  have e3 : (st.nx + 2 = rid) = False := eq_false (by omega)
  cases hk : (hd ts).k != 0 with
  | true =>
   have hE : rProfile ts = .error ((hd ts).a, 4) := by unfold rProfile; rw [if_pos hk]
   (repeat' first | ((first | (with_reducible intro x1 x2 x3 x4 hE hX hI <;> (try (cases (x3 : Fix))) <;> (try (cases (x3 : Cmd); cases ‹Fix›)) <;> (try (have hI2 := rSelO_inv_err hE; clear hE; have hE := hI2; clear hI2))) | (with_reducible intro x1 x2 x3 hE hI hD <;> (try (have hI2 := rSelO_inv hE; obtain ⟨l1, rfl, hI2⟩ := hI2; clear hE; have hE := hI2; clear hI2)) <;> (try (have hI2 := rUnit_inv hE; obtain ⟨u1, u2, rfl⟩ := hI2; dsimp only)) <;> (try (have hI2 := rPlace_inv hE; obtain ⟨n1, q1, rfl⟩ := hI2; dsimp only at hE ⊢)) <;> (try (cases (x1 : Cmd); cases ‹Fix›))) | (with_reducible intro x1 hE hI hD <;> (try (have hI2 := hdIs_t hE; try simp only [hI2]))) | with_reducible intro x1 hF | (with_reducible intro x1 <;> (try (cases (x1 : Fix))) <;> (try (cases (x1 : Cmd); cases ‹Fix›))) | refine go rfl rfl ?_ | refine Cl.by_ (by (first | refine refWord_v _ _ (by assumption))) ?_ | refine CallX.c (by first | assumption | (simp only [stQ_eq, lookR, om, hm, e1, e2, e3, tkV, z0, z0n, z4n, z2n, z8n, hk, push_cast, ed, reduceCtorEq, ld] <;> exact rfl)) (by assumption) (by assumption) (by first | assumption | decide) ?_ | refine Call0.c (by first | assumption | (simp only [stQ_eq, lookR, om, hm, e1, e2, e3, tkV, z0, z0n, z4n, z2n, z8n, hk, push_cast, ed, reduceCtorEq, ld] <;> exact rfl)) (by assumption) (by assumption) (by assumption) ?_ | (refine Fk.by_ ?_ ?_ <;> intro hc <;> try simp only [hc]) | refine storeK_eq rfl ?_ | with_reducible refine an ?_ ?_) <;> try simp only [stQ_eq, lookR, om, hm, e1, e2, e3, tkV, z0, z0n, z4n, z2n, z8n, hk, push_cast, ed, reduceCtorEq, ld]))
   all_goals first | (exact finF hwf (by first | exact .inl rfl | exact .inr rfl) (by first | ((repeat first | exact (wfQ hwf _ _ _ _).subm | exact subQ hm0 hwf | refine Sub.drop (by simp) ?_); done) | fail) (by first | rfl | (simp only [push_cast, ed, reduceCtorEq, ld]; exact rfl)) rfl (by assumption) (by first | exact .inl ⟨rfl, rfl, _, by assumption, (by first | assumption | (simp only [if_true, if_false, bf, *]; done) | (simp [*]; done) | fail)⟩ | exact .inr ⟨by first | assumption | decide, (by first | assumption | (simp only [if_true, if_false, bf, *]; done) | (simp [*]; done) | fail)⟩) (by first | rfl | assumption | exact bd_cmd | (simp [V.bd, V.bdL]; done) | fail) (by simp) (by simp [(hwf).z]) (hwf).subx)
  | false =>
   obtain ⟨k, wk, hk1, hk2⟩ := step_at hw hi hD (k0_ne hk)
   have hR : rProfile ts = if (wordN (hd ts).t == 8) = true then .error ((hd ts).a, 4) else if (wordN (hd ts).t == 13) = true then .error ((hd ts).a, 8) else .ok ((hd ts).t, ts.tail) := by unfold rProfile; rw [if_neg (by rw [hk]; decide)]
   rcases wordN_3 (hd ts).t with h | h | h
   all_goals (
    have c2 : ((0 : Int) == 8) = false := rfl
    have c3 : ((0 : Int) == 13) = false := rfl
    have c4 : ((8 : Int) == 8) = true := rfl
    have c5 : ((8 : Int) == 13) = false := rfl
    have c6 : ((13 : Int) == 8) = false := rfl
    have c7 : ((13 : Int) == 13) = true := rfl
    have hq := fun st' => refWord_v (hd ts).t st' ht
    rw [h] at hR hq
    (repeat' first | ((first | (with_reducible intro x1 x2 x3 x4 hE hX hI <;> (try (cases (x3 : Fix))) <;> (try (cases (x3 : Cmd); cases ‹Fix›)) <;> (try (have hI2 := rSelO_inv_err hE; clear hE; have hE := hI2; clear hI2))) | (with_reducible intro x1 x2 x3 hE hI hD <;> (try (have hI2 := rSelO_inv hE; obtain ⟨l1, rfl, hI2⟩ := hI2; clear hE; have hE := hI2; clear hI2)) <;> (try (have hI2 := rUnit_inv hE; obtain ⟨u1, u2, rfl⟩ := hI2; dsimp only)) <;> (try (have hI2 := rPlace_inv hE; obtain ⟨n1, q1, rfl⟩ := hI2; dsimp only at hE ⊢)) <;> (try (cases (x1 : Cmd); cases ‹Fix›))) | (with_reducible intro x1 hE hI hD <;> (try (have hI2 := hdIs_t hE; try simp only [hI2]))) | with_reducible intro x1 hF | (with_reducible intro x1 <;> (try (cases (x1 : Fix))) <;> (try (cases (x1 : Cmd); cases ‹Fix›))) | refine go rfl rfl ?_ | refine Cl.by_ (by (first | refine hq _)) ?_ | refine CallX.c (by first | assumption | (simp only [stQ_eq, lookR, om, hm, e1, e2, e3, tkV, z0, z0n, z4n, z2n, z8n, hk, c2, c3, c4, c5, c6, c7, wk, push_cast, ed, reduceCtorEq, ld] <;> exact rfl)) (by assumption) (by assumption) (by first | assumption | decide) ?_ | refine Call0.c (by first | assumption | (simp only [stQ_eq, lookR, om, hm, e1, e2, e3, tkV, z0, z0n, z4n, z2n, z8n, hk, c2, c3, c4, c5, c6, c7, wk, push_cast, ed, reduceCtorEq, ld] <;> exact rfl)) (by assumption) (by assumption) (by assumption) ?_ | (refine Fk.by_ ?_ ?_ <;> intro hc <;> try simp only [hc]) | refine storeK_eq rfl ?_ | with_reducible refine an ?_ ?_) <;> try simp only [stQ_eq, lookR, om, hm, e1, e2, e3, tkV, z0, z0n, z4n, z2n, z8n, hk, c2, c3, c4, c5, c6, c7, wk, push_cast, ed, reduceCtorEq, ld]))
    all_goals first | (exact finF hwf (by first | exact .inl rfl | exact .inr rfl) (by first | ((repeat first | exact (wfQ hwf _ _ _ _).subm | exact subQ hm0 hwf | refine Sub.drop (by simp) ?_); done) | fail) (by first | rfl | (simp only [push_cast, ed, reduceCtorEq, ld]; exact rfl)) rfl (by assumption) (by first | exact .inl ⟨rfl, rfl, _, by assumption, (by first | assumption | (simp only [if_true, if_false, bf, *]; done) | (simp [*]; done) | fail)⟩ | exact .inr ⟨by first | assumption | decide, (by first | assumption | (simp only [if_true, if_false, bf, *]; done) | (simp [*]; done) | fail)⟩) (by first | rfl | assumption | exact bd_cmd | (simp [V.bd, V.bdL]; done) | fail) (by simp) (by simp [(hwf).z]) (hwf).subx))
 ·have hm := hm0
  unfold rdr at hm
  have ht := hwt.txt
  refine vc F133_ok rfl (fun hwf => ?_)
  have hrid := (hwf.mem _ _ hm).1
  have e1 : (st.nx = rid) = False := eq_false (by omega)
  have e2 : (st.nx + 1 = rid) = False := eq_false (by omega)
  have e3 : (st.nx + 2 = rid) = False := eq_false (by omega)
  have zx : (e != 0) = true := by simpa using he
  (repeat' first | ((first | (with_reducible intro x1 x2 x3 x4 hE hX hI <;> (try (cases (x3 : Fix))) <;> (try (cases (x3 : Cmd); cases ‹Fix›)) <;> (try (have hI2 := rSelO_inv_err hE; clear hE; have hE := hI2; clear hI2))) | (with_reducible intro x1 x2 x3 hE hI hD <;> (try (have hI2 := rSelO_inv hE; obtain ⟨l1, rfl, hI2⟩ := hI2; clear hE; have hE := hI2; clear hI2)) <;> (try (have hI2 := rUnit_inv hE; obtain ⟨u1, u2, rfl⟩ := hI2; dsimp only)) <;> (try (have hI2 := rPlace_inv hE; obtain ⟨n1, q1, rfl⟩ := hI2; dsimp only at hE ⊢)) <;> (try (cases (x1 : Cmd); cases ‹Fix›))) | (with_reducible intro x1 hE hI hD <;> (try (have hI2 := hdIs_t hE; try simp only [hI2]))) | with_reducible intro x1 hF | (with_reducible intro x1 <;> (try (cases (x1 : Fix))) <;> (try (cases (x1 : Cmd); cases ‹Fix›))) | refine go rfl rfl ?_ | refine Cl.by_ (by (first | refine refWord_v _ _ (by assumption))) ?_ | refine CallX.c (by first | assumption | (simp only [stQ_eq, lookR, om, hm, e1, e2, e3, tkV, z0, z0n, z4n, z2n, z8n, zx, push_cast, ed, reduceCtorEq, ld] <;> exact rfl)) (by assumption) (by assumption) (by first | assumption | decide) ?_ | refine Call0.c (by first | assumption | (simp only [stQ_eq, lookR, om, hm, e1, e2, e3, tkV, z0, z0n, z4n, z2n, z8n, zx, push_cast, ed, reduceCtorEq, ld] <;> exact rfl)) (by assumption) (by assumption) (by assumption) ?_ | (refine Fk.by_ ?_ ?_ <;> intro hc <;> try simp only [hc]) | refine storeK_eq rfl ?_ | with_reducible refine an ?_ ?_) <;> try simp only [stQ_eq, lookR, om, hm, e1, e2, e3, tkV, z0, z0n, z4n, z2n, z8n, zx, push_cast, ed, reduceCtorEq, ld]))
  all_goals first | (exact finXx (a := []) hwf (by first | exact .inl rfl | exact .inr rfl) (by first | rfl | (simp only [push_cast, ed, reduceCtorEq, ld]; exact rfl)) rfl (by first | rfl | assumption | exact bd_cmd | (simp [V.bd, V.bdL]; done) | fail) (by simp) (by first | ((repeat first | exact (hwf).subm | refine Sub.drop (by simp) ?_); done) | fail) (by simp [(hwf).z]) (hwf).subx)
instance : Call0 133 [] (P0 rProfile .str) := (rfprofile_v).k0
instance : CallX 133 [] (PX .str) := (rfprofile_v).kx
set_option maxHeartbeats 1000000 in
theorem rfkind_v (none : Int) : RfC 126 [.int .i64 none] (rKind none) (fun n => .int .i64 n) := by
 refine rfc_of (fun st rid T i ts hw hi hD hwt hm0 => ?_) (fun st rid T i ts e p hw hi hD hwt he hm0 => ?_)
 ·have hm := hm0
  unfold rdr at hm
  have ht := hwt.txt
  refine vc F126_ok rfl (fun hwf => ?_)
  have hrid := (hwf.mem _ _ hm).1
  have e1 : (st.nx = rid) = False := eq_false (by omega)
  have e2 : (st.nx + 1 = rid) = False := eq_false (by omega)
  have e3 : (st.nx + 2 = rid) = False := eq_false (by omega)
  cases hk : (hd ts).k != 0 with
  | true =>
   have hE : rKind none ts = .ok (none, ts) := by unfold rKind; rw [if_pos hk]
   (repeat' first | ((first | (with_reducible intro x1 x2 x3 x4 hE hX hI <;> (try (cases (x3 : Fix))) <;> (try (cases (x3 : Cmd); cases ‹Fix›)) <;> (try (have hI2 := rSelO_inv_err hE; clear hE; have hE := hI2; clear hI2))) | (with_reducible intro x1 x2 x3 hE hI hD <;> (try (have hI2 := rSelO_inv hE; obtain ⟨l1, rfl, hI2⟩ := hI2; clear hE; have hE := hI2; clear hI2)) <;> (try (have hI2 := rUnit_inv hE; obtain ⟨u1, u2, rfl⟩ := hI2; dsimp only)) <;> (try (have hI2 := rPlace_inv hE; obtain ⟨n1, q1, rfl⟩ := hI2; dsimp only at hE ⊢)) <;> (try (cases (x1 : Cmd); cases ‹Fix›))) | (with_reducible intro x1 hE hI hD <;> (try (have hI2 := hdIs_t hE; try simp only [hI2]))) | with_reducible intro x1 hF | (with_reducible intro x1 <;> (try (cases (x1 : Fix))) <;> (try (cases (x1 : Cmd); cases ‹Fix›))) | refine go rfl rfl ?_ | refine Cl.by_ (by (first | refine qattr_v _ _)) ?_ | refine CallX.c (by first | assumption | (simp only [stQ_eq, lookR, om, hm, e1, e2, e3, tkV, z0, z0n, z4n, z2n, z8n, hk, push_cast, ed, reduceCtorEq, ld] <;> exact rfl)) (by assumption) (by assumption) (by first | assumption | decide) ?_ | refine Call0.c (by first | assumption | (simp only [stQ_eq, lookR, om, hm, e1, e2, e3, tkV, z0, z0n, z4n, z2n, z8n, hk, push_cast, ed, reduceCtorEq, ld] <;> exact rfl)) (by assumption) (by assumption) (by assumption) ?_ | (refine Fk.by_ ?_ ?_ <;> intro hc <;> try simp only [hc]) | refine storeK_eq rfl ?_ | with_reducible refine an ?_ ?_) <;> try simp only [stQ_eq, lookR, om, hm, e1, e2, e3, tkV, z0, z0n, z4n, z2n, z8n, hk, push_cast, ed, reduceCtorEq, ld]))
   all_goals first | (exact finF hwf (by first | exact .inl rfl | exact .inr rfl) (by first | ((repeat first | exact (wfQ hwf _ _ _ _).subm | exact subQ hm0 hwf | refine Sub.drop (by simp) ?_); done) | fail) (by first | rfl | (simp only [push_cast, ed, reduceCtorEq, ld]; exact rfl)) rfl (by assumption) (by first | exact .inl ⟨rfl, rfl, _, by assumption, (by first | assumption | (simp only [if_true, if_false, bf, *]; done) | (simp [*]; done) | fail)⟩ | exact .inr ⟨by first | assumption | decide, (by first | assumption | (simp only [if_true, if_false, bf, *]; done) | (simp [*]; done) | fail)⟩) (by first | rfl | assumption | exact bd_cmd | (simp [V.bd, V.bdL]; done) | fail) (by simp) (by simp [(hwf).z]) (hwf).subx)
  | false =>
   obtain ⟨k, wk, hk1, hk2⟩ := step_at hw hi hD (k0_ne hk)
   have hR : rKind none ts = if ((attrN (hd ts).t).2 != 0) = true then .ok (none, ts) else .ok ((attrN (hd ts).t).1, ts.tail) := by unfold rKind; rw [if_neg (by rw [hk]; decide)]
   (repeat' first | ((first | (with_reducible intro x1 x2 x3 x4 hE hX hI <;> (try (cases (x3 : Fix))) <;> (try (cases (x3 : Cmd); cases ‹Fix›)) <;> (try (have hI2 := rSelO_inv_err hE; clear hE; have hE := hI2; clear hI2))) | (with_reducible intro x1 x2 x3 hE hI hD <;> (try (have hI2 := rSelO_inv hE; obtain ⟨l1, rfl, hI2⟩ := hI2; clear hE; have hE := hI2; clear hI2)) <;> (try (have hI2 := rUnit_inv hE; obtain ⟨u1, u2, rfl⟩ := hI2; dsimp only)) <;> (try (have hI2 := rPlace_inv hE; obtain ⟨n1, q1, rfl⟩ := hI2; dsimp only at hE ⊢)) <;> (try (cases (x1 : Cmd); cases ‹Fix›))) | (with_reducible intro x1 hE hI hD <;> (try (have hI2 := hdIs_t hE; try simp only [hI2]))) | with_reducible intro x1 hF | (with_reducible intro x1 <;> (try (cases (x1 : Fix))) <;> (try (cases (x1 : Cmd); cases ‹Fix›))) | refine go rfl rfl ?_ | refine Cl.by_ (by (first | refine qattr_v _ _)) ?_ | refine CallX.c (by first | assumption | (simp only [stQ_eq, lookR, om, hm, e1, e2, e3, tkV, z0, z0n, z4n, z2n, z8n, hk, wk, push_cast, ed, reduceCtorEq, ld] <;> exact rfl)) (by assumption) (by assumption) (by first | assumption | decide) ?_ | refine Call0.c (by first | assumption | (simp only [stQ_eq, lookR, om, hm, e1, e2, e3, tkV, z0, z0n, z4n, z2n, z8n, hk, wk, push_cast, ed, reduceCtorEq, ld] <;> exact rfl)) (by assumption) (by assumption) (by assumption) ?_ | (refine Fk.by_ ?_ ?_ <;> intro hc <;> try simp only [hc]) | refine storeK_eq rfl ?_ | with_reducible refine an ?_ ?_) <;> try simp only [stQ_eq, lookR, om, hm, e1, e2, e3, tkV, z0, z0n, z4n, z2n, z8n, hk, wk, push_cast, ed, reduceCtorEq, ld]))
   all_goals first | (exact finF hwf (by first | exact .inl rfl | exact .inr rfl) (by first | ((repeat first | exact (wfQ hwf _ _ _ _).subm | exact subQ hm0 hwf | refine Sub.drop (by simp) ?_); done) | fail) (by first | rfl | (simp only [push_cast, ed, reduceCtorEq, ld]; exact rfl)) rfl (by assumption) (by first | exact .inl ⟨rfl, rfl, _, by assumption, (by first | assumption | (simp only [if_true, if_false, bf, *]; done) | (simp [*]; done) | fail)⟩ | exact .inr ⟨by first | assumption | decide, (by first | assumption | (simp only [if_true, if_false, bf, *]; done) | (simp [*]; done) | fail)⟩) (by first | rfl | assumption | exact bd_cmd | (simp [V.bd, V.bdL]; done) | fail) (by simp) (by simp [(hwf).z]) (hwf).subx)
 ·have hm := hm0
  unfold rdr at hm
  have ht := hwt.txt
  refine vc F126_ok rfl (fun hwf => ?_)
  have hrid := (hwf.mem _ _ hm).1
  have e1 : (st.nx = rid) = False := eq_false (by omega)
  have e2 : (st.nx + 1 = rid) = False := eq_false (by omega)
  have e3 : (st.nx + 2 = rid) = False := eq_false (by omega)
  have zx : (e != 0) = true := by simpa using he
  (repeat' first | ((first | (with_reducible intro x1 x2 x3 x4 hE hX hI <;> (try (cases (x3 : Fix))) <;> (try (cases (x3 : Cmd); cases ‹Fix›)) <;> (try (have hI2 := rSelO_inv_err hE; clear hE; have hE := hI2; clear hI2))) | (with_reducible intro x1 x2 x3 hE hI hD <;> (try (have hI2 := rSelO_inv hE; obtain ⟨l1, rfl, hI2⟩ := hI2; clear hE; have hE := hI2; clear hI2)) <;> (try (have hI2 := rUnit_inv hE; obtain ⟨u1, u2, rfl⟩ := hI2; dsimp only)) <;> (try (have hI2 := rPlace_inv hE; obtain ⟨n1, q1, rfl⟩ := hI2; dsimp only at hE ⊢)) <;> (try (cases (x1 : Cmd); cases ‹Fix›))) | (with_reducible intro x1 hE hI hD <;> (try (have hI2 := hdIs_t hE; try simp only [hI2]))) | with_reducible intro x1 hF | (with_reducible intro x1 <;> (try (cases (x1 : Fix))) <;> (try (cases (x1 : Cmd); cases ‹Fix›))) | refine go rfl rfl ?_ | refine Cl.by_ (by (first | refine qattr_v _ _)) ?_ | refine CallX.c (by first | assumption | (simp only [stQ_eq, lookR, om, hm, e1, e2, e3, tkV, z0, z0n, z4n, z2n, z8n, zx, push_cast, ed, reduceCtorEq, ld] <;> exact rfl)) (by assumption) (by assumption) (by first | assumption | decide) ?_ | refine Call0.c (by first | assumption | (simp only [stQ_eq, lookR, om, hm, e1, e2, e3, tkV, z0, z0n, z4n, z2n, z8n, zx, push_cast, ed, reduceCtorEq, ld] <;> exact rfl)) (by assumption) (by assumption) (by assumption) ?_ | (refine Fk.by_ ?_ ?_ <;> intro hc <;> try simp only [hc]) | refine storeK_eq rfl ?_ | with_reducible refine an ?_ ?_) <;> try simp only [stQ_eq, lookR, om, hm, e1, e2, e3, tkV, z0, z0n, z4n, z2n, z8n, zx, push_cast, ed, reduceCtorEq, ld]))
  all_goals first | (exact finXx hwf (by first | exact .inl rfl | exact .inr rfl) (by first | rfl | (simp only [push_cast, ed, reduceCtorEq, ld]; exact rfl)) rfl (by first | rfl | assumption | exact bd_cmd | (simp [V.bd, V.bdL]; done) | fail) (by simp) (by first | ((repeat first | exact (hwf).subm | refine Sub.drop (by simp) ?_); done) | fail) (by simp [(hwf).z]) (hwf).subx)
instance {none : Int} : Call0 126 [.int .i64 none] (P0 (rKind none) (fun n => .int .i64 n)) := (rfkind_v none).k0
instance {none : Int} : CallX 126 [.int .i64 none] (PX (fun n : Int => .int .i64 n)) := (rfkind_v none).kx
theorem rTime_no {ts : List Tok} (h : hdIs 0 [116, 105, 109, 101] ts = false) : rTime ts = .ok (-1, ts) := by
 simp [rTime, rNext, rWord, rOk, h]
theorem rTime_yes {ts : List Tok} (h : hdIs 0 [116, 105, 109, 101] ts = true) : rTime ts = (rNext rNumber fun s => rNext (rMust (secN s).2) fun _ ts => .ok ((secN s).1, ts.tail)) ts.tail := by
 simp [rTime, rNext, rWord, h]
set_option maxHeartbeats 1000000 in
theorem rftime_v : RfC 129 [] rTime (fun n => .int .i64 n) := by
 refine rfc_of (fun st rid T i ts hw hi hD hwt hm0 => ?_) (fun st rid T i ts e p hw hi hD hwt he hm0 => ?_)
 ·have hm := hm0
  unfold rdr at hm
  cases hT : hdIs 0 [116, 105, 109, 101] ts with
  | false =>
   have hR := rTime_no hT
   have hword := qword_0 hm0 hw hi hD hT
   refine vc F129_ok rfl (fun hwf => ?_)
   have hrid := (hwf.mem _ _ hm).1
   have e1 : (st.nx = rid) = False := eq_false (by omega)
   (repeat' first | ((first | (with_reducible intro x1 x2 x3 x4 hE hX hI <;> (try (cases (x3 : Fix))) <;> (try (cases (x3 : Cmd); cases ‹Fix›)) <;> (try (have hI2 := rSelO_inv_err hE; clear hE; have hE := hI2; clear hI2))) | (with_reducible intro x1 x2 x3 hE hI hD <;> (try (have hI2 := rSelO_inv hE; obtain ⟨l1, rfl, hI2⟩ := hI2; clear hE; have hE := hI2; clear hI2)) <;> (try (have hI2 := rUnit_inv hE; obtain ⟨u1, u2, rfl⟩ := hI2; dsimp only)) <;> (try (have hI2 := rPlace_inv hE; obtain ⟨n1, q1, rfl⟩ := hI2; dsimp only at hE ⊢)) <;> (try (cases (x1 : Cmd); cases ‹Fix›))) | (with_reducible intro x1 hE hI hD <;> (try (have hI2 := hdIs_t hE; try simp only [hI2]))) | with_reducible intro x1 hF | (with_reducible intro x1 <;> (try (cases (x1 : Fix))) <;> (try (cases (x1 : Cmd); cases ‹Fix›))) | refine go rfl rfl ?_ | refine Cl.by_ (by (first | refine hword)) ?_ | refine CallX.c (by first | assumption | (simp only [stQ_eq, lookR, om, hm, e1, push_cast, ed, reduceCtorEq, ld] <;> exact rfl)) (by assumption) (by assumption) (by first | assumption | decide) ?_ | refine Call0.c (by first | assumption | (simp only [stQ_eq, lookR, om, hm, e1, push_cast, ed, reduceCtorEq, ld] <;> exact rfl)) (by assumption) (by assumption) (by assumption) ?_ | (refine Fk.by_ ?_ ?_ <;> intro hc <;> try simp only [hc]) | refine storeK_eq rfl ?_ | with_reducible refine an ?_ ?_) <;> try simp only [stQ_eq, lookR, om, hm, e1, push_cast, ed, reduceCtorEq, ld]))
   all_goals first | (exact finF hwf (by first | exact .inl rfl | exact .inr rfl) (by first | ((repeat first | exact (wfQ hwf _ _ _ _).subm | exact subQ hm0 hwf | refine Sub.drop (by simp) ?_); done) | fail) (by first | rfl | (simp only [push_cast, ed, reduceCtorEq, ld]; exact rfl)) rfl (by assumption) (by first | exact .inl ⟨rfl, rfl, _, by assumption, (by first | assumption | (simp only [if_true, if_false, bf, *]; done) | (simp [*]; done) | fail)⟩ | exact .inr ⟨by first | assumption | decide, (by first | assumption | (simp only [if_true, if_false, bf, *]; done) | (simp [*]; done) | fail)⟩) (by first | rfl | assumption | exact bd_cmd | (simp [V.bd, V.bdL]; done) | fail) (by simp) (by simp [(hwf).z]) (hwf).subx)
  | true =>
   have hR := rTime_yes hT
   have hi1 := drop_lt hw hi hD (hdIs_ne hT (by decide))
   have hD1 := drop_tail hD
   have hword := qword_1 hm0 hw hi hD hT
   obtain ⟨j, hj⟩ : ∃ j, j = i + 1 := ⟨_, rfl⟩
   rw [← hj] at hi1 hD1 hword
   obtain ⟨t1, ht1⟩ : ∃ t1, t1 = ts.tail := ⟨_, rfl⟩
   rw [← ht1] at hR hD1
   have hwt1 := hw.at hi1 hD1
   have htx := hwt1.txt
   have hq := fun st' => qseconds_v (hd t1).t st' htx
   rw [stQ_eq] at hword
   refine vc F129_ok rfl (fun hwf => ?_)
   have hrid := (hwf.mem _ _ hm).1
   have e1 : (st.nx = rid) = False := eq_false (by omega)
   have c2 : ((0 : Int) == 2) = false := rfl
   have c3 : ((0 : Int) == 3) = false := rfl
   have c4 : ((2 : Int) == 2) = true := rfl
   have c5 : ((2 : Int) == 3) = false := rfl
   have c6 : ((3 : Int) == 3) = true := rfl
   have c7 : ((3 : Int) == 2) = false := rfl
   cases hk : (hd t1).k != 1 with
   | true =>
    rw [rNum_err hk] at hR
    rcases secN_3 (hd t1).t with h | h | h
    all_goals (
     rw [h] at hq
     (repeat' first | ((first | (with_reducible intro x1 x2 x3 x4 hE hX hI <;> (try (cases (x3 : Fix))) <;> (try (cases (x3 : Cmd); cases ‹Fix›)) <;> (try (have hI2 := rSelO_inv_err hE; clear hE; have hE := hI2; clear hI2))) | (with_reducible intro x1 x2 x3 hE hI hD <;> (try (have hI2 := rSelO_inv hE; obtain ⟨l1, rfl, hI2⟩ := hI2; clear hE; have hE := hI2; clear hI2)) <;> (try (have hI2 := rUnit_inv hE; obtain ⟨u1, u2, rfl⟩ := hI2; dsimp only)) <;> (try (have hI2 := rPlace_inv hE; obtain ⟨n1, q1, rfl⟩ := hI2; dsimp only at hE ⊢)) <;> (try (cases (x1 : Cmd); cases ‹Fix›))) | (with_reducible intro x1 hE hI hD <;> (try (have hI2 := hdIs_t hE; try simp only [hI2]))) | with_reducible intro x1 hF | (with_reducible intro x1 <;> (try (cases (x1 : Fix))) <;> (try (cases (x1 : Cmd); cases ‹Fix›))) | refine go rfl rfl ?_ | refine VRet.use hword ?_ | refine Cl.by_ (by (first | refine hq _)) ?_ | refine CallX.c (by first | assumption | (simp only [stQ_eq, lookR, om, hm, e1, tkV, z0, z0n, z4n, z2n, hk, c2, c3, c4, c5, c6, c7, push_cast, ed, reduceCtorEq, ld] <;> exact rfl)) (by assumption) (by assumption) (by first | assumption | decide) ?_ | refine Call0.c (by first | assumption | (simp only [stQ_eq, lookR, om, hm, e1, tkV, z0, z0n, z4n, z2n, hk, c2, c3, c4, c5, c6, c7, push_cast, ed, reduceCtorEq, ld] <;> exact rfl)) (by assumption) (by assumption) (by assumption) ?_ | (refine Fk.by_ ?_ ?_ <;> intro hc <;> try simp only [hc]) | refine storeK_eq rfl ?_ | with_reducible refine an ?_ ?_) <;> try simp only [stQ_eq, lookR, om, hm, e1, tkV, z0, z0n, z4n, z2n, hk, c2, c3, c4, c5, c6, c7, push_cast, ed, reduceCtorEq, ld]))
     all_goals first | (exact finF hwf (by first | exact .inl rfl | exact .inr rfl) (by first | ((repeat first | exact (wfQ hwf _ _ _ _).subm | exact subQ hm0 hwf | refine Sub.drop (by simp) ?_); done) | fail) (by first | rfl | (simp only [push_cast, ed, reduceCtorEq, ld]; exact rfl)) rfl (by assumption) (by first | exact .inl ⟨rfl, rfl, _, by assumption, (by first | assumption | (simp only [if_true, if_false, bf, *]; done) | (simp [*]; done) | fail)⟩ | exact .inr ⟨by first | assumption | decide, (by first | assumption | (simp only [if_true, if_false, bf, *]; done) | (simp [*]; done) | fail)⟩) (by first | rfl | assumption | exact bd_cmd | (simp [V.bd, V.bdL]; done) | fail) (by simp) (by simp [(hwf).z]) (hwf).subx))
   | false =>
    rw [rNum_ok hk] at hR
    obtain ⟨k, wk, hk1, hk2⟩ := step_at hw hi1 hD1 (k1_ne hk)
    rcases secN_3 (hd t1).t with h | h | h
    all_goals (
     rw [h] at hq hR
     (repeat' first | ((first | (with_reducible intro x1 x2 x3 x4 hE hX hI <;> (try (cases (x3 : Fix))) <;> (try (cases (x3 : Cmd); cases ‹Fix›)) <;> (try (have hI2 := rSelO_inv_err hE; clear hE; have hE := hI2; clear hI2))) | (with_reducible intro x1 x2 x3 hE hI hD <;> (try (have hI2 := rSelO_inv hE; obtain ⟨l1, rfl, hI2⟩ := hI2; clear hE; have hE := hI2; clear hI2)) <;> (try (have hI2 := rUnit_inv hE; obtain ⟨u1, u2, rfl⟩ := hI2; dsimp only)) <;> (try (have hI2 := rPlace_inv hE; obtain ⟨n1, q1, rfl⟩ := hI2; dsimp only at hE ⊢)) <;> (try (cases (x1 : Cmd); cases ‹Fix›))) | (with_reducible intro x1 hE hI hD <;> (try (have hI2 := hdIs_t hE; try simp only [hI2]))) | with_reducible intro x1 hF | (with_reducible intro x1 <;> (try (cases (x1 : Fix))) <;> (try (cases (x1 : Cmd); cases ‹Fix›))) | refine go rfl rfl ?_ | refine VRet.use hword ?_ | refine Cl.by_ (by (first | refine hq _)) ?_ | refine CallX.c (by first | assumption | (simp only [stQ_eq, lookR, om, hm, e1, tkV, z0, z0n, z4n, z2n, hk, c2, c3, c4, c5, c6, c7, wk, push_cast, ed, reduceCtorEq, ld] <;> exact rfl)) (by assumption) (by assumption) (by first | assumption | decide) ?_ | refine Call0.c (by first | assumption | (simp only [stQ_eq, lookR, om, hm, e1, tkV, z0, z0n, z4n, z2n, hk, c2, c3, c4, c5, c6, c7, wk, push_cast, ed, reduceCtorEq, ld] <;> exact rfl)) (by assumption) (by assumption) (by assumption) ?_ | (refine Fk.by_ ?_ ?_ <;> intro hc <;> try simp only [hc]) | refine storeK_eq rfl ?_ | with_reducible refine an ?_ ?_) <;> try simp only [stQ_eq, lookR, om, hm, e1, tkV, z0, z0n, z4n, z2n, hk, c2, c3, c4, c5, c6, c7, wk, push_cast, ed, reduceCtorEq, ld]))
     all_goals first | (exact finF hwf (by first | exact .inl rfl | exact .inr rfl) (by first | ((repeat first | exact (wfQ hwf _ _ _ _).subm | exact subQ hm0 hwf | refine Sub.drop (by simp) ?_); done) | fail) (by first | rfl | (simp only [rNext, rMust, push_cast, ed, reduceCtorEq, ld]; exact rfl)) rfl (by assumption) (by first | exact .inl ⟨rfl, rfl, _, by assumption, (by first | assumption | (simp only [rNext, rMust, if_true, if_false, bf, *]; done) | (simp [rNext, rMust, *]; done) | fail)⟩ | exact .inr ⟨by first | assumption | decide, (by first | assumption | (simp only [rNext, rMust, if_true, if_false, bf, *]; done) | (simp [rNext, rMust, *]; done) | fail)⟩) (by first | rfl | assumption | exact bd_cmd | (simp [V.bd, V.bdL]; done) | fail) (by simp) (by simp [(hwf).z]) (hwf).subx))
 ·have hm := hm0
  unfold rdr at hm
  refine vc F129_ok rfl (fun hwf => ?_)
  (repeat' first | ((first | (with_reducible intro x1 x2 x3 x4 hE hX hI <;> (try (cases (x3 : Fix))) <;> (try (cases (x3 : Cmd); cases ‹Fix›)) <;> (try (have hI2 := rSelO_inv_err hE; clear hE; have hE := hI2; clear hI2))) | (with_reducible intro x1 x2 x3 hE hI hD <;> (try (have hI2 := rSelO_inv hE; obtain ⟨l1, rfl, hI2⟩ := hI2; clear hE; have hE := hI2; clear hI2)) <;> (try (have hI2 := rUnit_inv hE; obtain ⟨u1, u2, rfl⟩ := hI2; dsimp only)) <;> (try (have hI2 := rPlace_inv hE; obtain ⟨n1, q1, rfl⟩ := hI2; dsimp only at hE ⊢)) <;> (try (cases (x1 : Cmd); cases ‹Fix›))) | (with_reducible intro x1 hE hI hD <;> (try (have hI2 := hdIs_t hE; try simp only [hI2]))) | with_reducible intro x1 hF | (with_reducible intro x1 <;> (try (cases (x1 : Fix))) <;> (try (cases (x1 : Cmd); cases ‹Fix›))) | refine go rfl rfl ?_ | refine CallX.c (by first | assumption | (simp only [stQ_eq, lookR, om, hm, push_cast, ed, reduceCtorEq, ld] <;> exact rfl)) (by assumption) (by assumption) (by first | assumption | decide) ?_ | refine Call0.c (by first | assumption | (simp only [stQ_eq, lookR, om, hm, push_cast, ed, reduceCtorEq, ld] <;> exact rfl)) (by assumption) (by assumption) (by assumption) ?_ | (refine Fk.by_ ?_ ?_ <;> intro hc <;> try simp only [hc]) | refine storeK_eq rfl ?_ | with_reducible refine an ?_ ?_) <;> try simp only [stQ_eq, lookR, om, hm, push_cast, ed, reduceCtorEq, ld]))
  all_goals first | (exact finXx hwf (by first | exact .inl rfl | exact .inr rfl) (by first | rfl | (simp only [push_cast, ed, reduceCtorEq, ld]; exact rfl)) rfl (by first | rfl | assumption | exact bd_cmd | (simp [V.bd, V.bdL]; done) | fail) (by simp) (by first | ((repeat first | exact (hwf).subm | refine Sub.drop (by simp) ?_); done) | fail) (by simp [(hwf).z]) (hwf).subx)
instance : Call0 129 [] (P0 rTime (fun n => .int .i64 n)) := (rftime_v).k0
instance : CallX 129 [] (PX (fun n : Int => .int .i64 n)) := (rftime_v).kx
theorem rUnit_ok {ts : List Tok} (hk : ((hd ts).k != 1) = false) (hW : digsB (cutW 46 (hd ts).t) = true) {R : List UInt8} (hR : R = if cutP 46 (hd ts).t = true then cutR 46 (hd ts).t else [49]) (hRd : digsB R = true) : rUnit ts =
  if (decide ((capV (numD (cutW 46 (hd ts).t)) : Int) < 1) || decide (999 < (capV (numD (cutW 46 (hd ts).t)) : Int)) || decide ((capV (numD R) : Int) < 1) || decide (64 < (capV (numD R) : Int))) = true then .error ((hd ts).a, 2) else .ok (⟨capV (numD (cutW 46 (hd ts).t)), capV (numD R), [], 0, 0, 0⟩, ts.tail) := by
 unfold rUnit
 rw [rNum_ok hk]
 dsimp only
 rw [← hR, hW, hRd, if_neg (by decide)]
theorem rUnit_bad {ts : List Tok} (h : ((hd ts).k != 1) = true ∨ digsB (cutW 46 (hd ts).t) = false ∨ (cutP 46 (hd ts).t = true ∧ digsB (cutR 46 (hd ts).t) = false)) : rUnit ts = .error ((hd ts).a, 4) := by
 unfold rUnit
 cases hk : (hd ts).k != 1 with
 | true => rw [rNum_err hk]
 | false =>
  rw [rNum_ok hk]
  dsimp only
  rcases h with h | h | ⟨h1, h2⟩
  ·rw [h] at hk; cases hk
  ·rw [h, if_pos (by rfl)]
  ·rw [if_pos h1, h2, if_pos (by simp)]
set_option maxHeartbeats 2000000 in
theorem rfunit_v : RfC 132 [] rUnit fixV := by
 refine rfc_of (fun st rid T i ts hw hi hD hwt hm0 => ?_) (fun st rid T i ts e p hw hi hD hwt he hm0 => ?_)
 ·have hm := hm0
  unfold rdr at hm
  have ht := hwt.txt
  have hWl : (cutW 46 (hd ts).t).length < 140737488355328 := cutW_len ht
  have hRl : (cutR 46 (hd ts).t).length < 140737488355328 := cutR_len ht
  refine vc F132_ok rfl (fun hwf => ?_)
  have hrid := (hwf.mem _ _ hm).1
  have e1 : (st.nx = rid) = False := eq_false (by omega)
  have e2 : (st.nx + 1 = rid) = False := eq_false (by omega)
  have e3 : (st.nx + 2 = rid) = False := eq_false (by omega)
  have hsp := fun st' => qsplit_v (hd ts).t st' ht
  have hbad := @rUnit_bad ts
  have hok := @rUnit_ok ts
  generalize cutW 46 (hd ts).t = W at *
  generalize cutR 46 (hd ts).t = R at *
  generalize cutP 46 (hd ts).t = P at *
  cases hk : (hd ts).k != 1 with
  | true =>
   have hE := hbad (.inl hk)
   clear hbad hok
   (repeat' first | ((first | (with_reducible intro x1 x2 x3 x4 hE hX hI <;> (try (cases (x3 : Fix))) <;> (try (cases (x3 : Cmd); cases ‹Fix›)) <;> (try (have hI2 := rSelO_inv_err hE; clear hE; have hE := hI2; clear hI2))) | (with_reducible intro x1 x2 x3 hE hI hD <;> (try (have hI2 := rSelO_inv hE; obtain ⟨l1, rfl, hI2⟩ := hI2; clear hE; have hE := hI2; clear hI2)) <;> (try (have hI2 := rUnit_inv hE; obtain ⟨u1, u2, rfl⟩ := hI2; dsimp only)) <;> (try (have hI2 := rPlace_inv hE; obtain ⟨n1, q1, rfl⟩ := hI2; dsimp only at hE ⊢)) <;> (try (cases (x1 : Cmd); cases ‹Fix›))) | (with_reducible intro x1 hE hI hD <;> (try (have hI2 := hdIs_t hE; try simp only [hI2]))) | with_reducible intro x1 hF | (with_reducible intro x1 <;> (try (cases (x1 : Fix))) <;> (try (cases (x1 : Cmd); cases ‹Fix›))) | refine go rfl rfl ?_ | refine Cl.by_ (by (first | refine hsp _)) ?_ | refine CallX.c (by first | assumption | (simp only [stQ_eq, lookR, om, hm, e1, e2, e3, tkV, hk, push_cast, ed, reduceCtorEq, ld] <;> exact rfl)) (by assumption) (by assumption) (by first | assumption | decide) ?_ | refine Call0.c (by first | assumption | (simp only [stQ_eq, lookR, om, hm, e1, e2, e3, tkV, hk, push_cast, ed, reduceCtorEq, ld] <;> exact rfl)) (by assumption) (by assumption) (by assumption) ?_ | (refine Fk.by_ ?_ ?_ <;> intro hc <;> try simp only [hc]) | refine storeK_eq rfl ?_ | with_reducible refine an ?_ ?_) <;> try simp only [stQ_eq, lookR, om, hm, e1, e2, e3, tkV, hk, push_cast, ed, reduceCtorEq, ld]))
   all_goals first | (exact finF (a := fix0) hwf (by first | exact .inl rfl | exact .inr rfl) (by first | ((repeat first | exact (wfQ hwf _ _ _ _).subm | exact subQ hm0 hwf | refine Sub.drop (by simp) ?_); done) | fail) (by first | rfl | (simp only [F132, push_cast, ed, reduceCtorEq, ld]; exact rfl)) rfl (by assumption) (by first | exact .inl ⟨rfl, rfl, _, by assumption, (by first | assumption | (simp only [F132, if_true, if_false, bf, *]; done) | (simp [F132, *]; done) | fail)⟩ | exact .inr ⟨by first | assumption | decide, (by first | assumption | (simp only [F132, if_true, if_false, bf, *]; done) | (simp [F132, *]; done) | fail)⟩) (by first | rfl | assumption | exact bd_cmd | (simp [V.bd, V.bdL]; done) | fail) (by simp) (by simp [(hwf).z]) (hwf).subx)
  | false =>
  cases hW : digsB W with
  | false =>
   have hE := hbad (.inr (.inl hW))
   clear hbad hok
   (repeat' first | ((first | (with_reducible intro x1 x2 x3 x4 hE hX hI <;> (try (cases (x3 : Fix))) <;> (try (cases (x3 : Cmd); cases ‹Fix›)) <;> (try (have hI2 := rSelO_inv_err hE; clear hE; have hE := hI2; clear hI2))) | (with_reducible intro x1 x2 x3 hE hI hD <;> (try (have hI2 := rSelO_inv hE; obtain ⟨l1, rfl, hI2⟩ := hI2; clear hE; have hE := hI2; clear hI2)) <;> (try (have hI2 := rUnit_inv hE; obtain ⟨u1, u2, rfl⟩ := hI2; dsimp only)) <;> (try (have hI2 := rPlace_inv hE; obtain ⟨n1, q1, rfl⟩ := hI2; dsimp only at hE ⊢)) <;> (try (cases (x1 : Cmd); cases ‹Fix›))) | (with_reducible intro x1 hE hI hD <;> (try (have hI2 := hdIs_t hE; try simp only [hI2]))) | with_reducible intro x1 hF | (with_reducible intro x1 <;> (try (cases (x1 : Fix))) <;> (try (cases (x1 : Cmd); cases ‹Fix›))) | refine go rfl rfl ?_ | refine Cl.by_ (by (first | refine hsp _ | refine qdigits_v _ _ hWl)) ?_ | refine CallX.c (by first | assumption | (simp only [stQ_eq, lookR, om, hm, e1, e2, e3, tkV, hk, hW, push_cast, ed, reduceCtorEq, ld] <;> exact rfl)) (by assumption) (by assumption) (by first | assumption | decide) ?_ | refine Call0.c (by first | assumption | (simp only [stQ_eq, lookR, om, hm, e1, e2, e3, tkV, hk, hW, push_cast, ed, reduceCtorEq, ld] <;> exact rfl)) (by assumption) (by assumption) (by assumption) ?_ | (refine Fk.by_ ?_ ?_ <;> intro hc <;> try simp only [hc]) | refine storeK_eq rfl ?_ | with_reducible refine an ?_ ?_) <;> try simp only [stQ_eq, lookR, om, hm, e1, e2, e3, tkV, hk, hW, push_cast, ed, reduceCtorEq, ld]))
   all_goals first | (exact finF (a := fix0) hwf (by first | exact .inl rfl | exact .inr rfl) (by first | ((repeat first | exact (wfQ hwf _ _ _ _).subm | exact subQ hm0 hwf | refine Sub.drop (by simp) ?_); done) | fail) (by first | rfl | (simp only [F132, push_cast, ed, reduceCtorEq, ld]; exact rfl)) rfl (by assumption) (by first | exact .inl ⟨rfl, rfl, _, by assumption, (by first | assumption | (simp only [F132, if_true, if_false, bf, *]; done) | (simp [F132, *]; done) | fail)⟩ | exact .inr ⟨by first | assumption | decide, (by first | assumption | (simp only [F132, if_true, if_false, bf, *]; done) | (simp [F132, *]; done) | fail)⟩) (by first | rfl | assumption | exact bd_cmd | (simp [V.bd, V.bdL]; done) | fail) (by simp) (by simp [(hwf).z]) (hwf).subx)
  | true =>
  obtain ⟨k, wk, hk1, hk2⟩ := step_at hw hi hD (k1_ne hk)
  have hnW := fun st' => qnumber_v W st' hWl (digsB_ok hW).2
  obtain ⟨n1, n2, n3⟩ := numR_lt (s := W) (most := 999) (by decide)
  cases P with
  | true =>
   cases hR : digsB R with
   | false =>
    have hE := hbad (.inr (.inr ⟨rfl, hR⟩))
    clear hbad hok
    (repeat' first | ((first | (with_reducible intro x1 x2 x3 x4 hE hX hI <;> (try (cases (x3 : Fix))) <;> (try (cases (x3 : Cmd); cases ‹Fix›)) <;> (try (have hI2 := rSelO_inv_err hE; clear hE; have hE := hI2; clear hI2))) | (with_reducible intro x1 x2 x3 hE hI hD <;> (try (have hI2 := rSelO_inv hE; obtain ⟨l1, rfl, hI2⟩ := hI2; clear hE; have hE := hI2; clear hI2)) <;> (try (have hI2 := rUnit_inv hE; obtain ⟨u1, u2, rfl⟩ := hI2; dsimp only)) <;> (try (have hI2 := rPlace_inv hE; obtain ⟨n1, q1, rfl⟩ := hI2; dsimp only at hE ⊢)) <;> (try (cases (x1 : Cmd); cases ‹Fix›))) | (with_reducible intro x1 hE hI hD <;> (try (have hI2 := hdIs_t hE; try simp only [hI2]))) | with_reducible intro x1 hF | (with_reducible intro x1 <;> (try (cases (x1 : Fix))) <;> (try (cases (x1 : Cmd); cases ‹Fix›))) | refine go rfl rfl ?_ | refine Cl.by_ (by (first | refine hsp _ | refine qdigits_v _ _ hWl | refine qdigits_v _ _ hRl)) ?_ | refine CallX.c (by first | assumption | (simp only [stQ_eq, lookR, om, hm, e1, e2, e3, tkV, hk, hW, hR, push_cast, ed, reduceCtorEq, ld] <;> exact rfl)) (by assumption) (by assumption) (by first | assumption | decide) ?_ | refine Call0.c (by first | assumption | (simp only [stQ_eq, lookR, om, hm, e1, e2, e3, tkV, hk, hW, hR, push_cast, ed, reduceCtorEq, ld] <;> exact rfl)) (by assumption) (by assumption) (by assumption) ?_ | (refine Fk.by_ ?_ ?_ <;> intro hc <;> try simp only [hc]) | refine storeK_eq rfl ?_ | with_reducible refine an ?_ ?_) <;> try simp only [stQ_eq, lookR, om, hm, e1, e2, e3, tkV, hk, hW, hR, push_cast, ed, reduceCtorEq, ld]))
    all_goals first | (exact finF (a := fix0) hwf (by first | exact .inl rfl | exact .inr rfl) (by first | ((repeat first | exact (wfQ hwf _ _ _ _).subm | exact subQ hm0 hwf | refine Sub.drop (by simp) ?_); done) | fail) (by first | rfl | (simp only [F132, push_cast, ed, reduceCtorEq, ld]; exact rfl)) rfl (by assumption) (by first | exact .inl ⟨rfl, rfl, _, by assumption, (by first | assumption | (simp only [F132, if_true, if_false, bf, *]; done) | (simp [F132, *]; done) | fail)⟩ | exact .inr ⟨by first | assumption | decide, (by first | assumption | (simp only [F132, if_true, if_false, bf, *]; done) | (simp [F132, *]; done) | fail)⟩) (by first | rfl | assumption | exact bd_cmd | (simp [V.bd, V.bdL]; done) | fail) (by simp) (by simp [(hwf).z]) (hwf).subx)
   | true =>
    have hE := hok hk hW rfl hR
    clear hbad hok
    rw [if_pos rfl] at hE
    have hnR := fun st' => qnumber_v R st' hRl (digsB_ok hR).2
    obtain ⟨m1, m2, m3⟩ := numR_lt (s := R) (most := 64) (by decide)
    cases hb : (decide ((capV (numD W) : Int) < 1) || decide (999 < (capV (numD W) : Int)) || decide ((capV (numD R) : Int) < 1) || decide (64 < (capV (numD R) : Int))) with
    | true =>
     rw [hb, if_pos rfl] at hE
     (repeat' first | ((first | (with_reducible intro x1 x2 x3 x4 hE hX hI <;> (try (cases (x3 : Fix))) <;> (try (cases (x3 : Cmd); cases ‹Fix›)) <;> (try (have hI2 := rSelO_inv_err hE; clear hE; have hE := hI2; clear hI2))) | (with_reducible intro x1 x2 x3 hE hI hD <;> (try (have hI2 := rSelO_inv hE; obtain ⟨l1, rfl, hI2⟩ := hI2; clear hE; have hE := hI2; clear hI2)) <;> (try (have hI2 := rUnit_inv hE; obtain ⟨u1, u2, rfl⟩ := hI2; dsimp only)) <;> (try (have hI2 := rPlace_inv hE; obtain ⟨n1, q1, rfl⟩ := hI2; dsimp only at hE ⊢)) <;> (try (cases (x1 : Cmd); cases ‹Fix›))) | (with_reducible intro x1 hE hI hD <;> (try (have hI2 := hdIs_t hE; try simp only [hI2]))) | with_reducible intro x1 hF | (with_reducible intro x1 <;> (try (cases (x1 : Fix))) <;> (try (cases (x1 : Cmd); cases ‹Fix›))) | refine go rfl rfl ?_ | refine Cl.by_ (by (first | refine hsp _ | refine qdigits_v _ _ hWl | refine qdigits_v _ _ hRl | refine hnW _ | refine hnR _)) ?_ | refine CallX.c (by first | assumption | (simp only [stQ_eq, lookR, om, hm, e1, e2, e3, tkV, hk, hW, hR, n1, n2, m1, m2, z0n, z2n, push_cast, ed, reduceCtorEq, ld] <;> exact rfl)) (by assumption) (by assumption) (by first | assumption | decide) ?_ | refine Call0.c (by first | assumption | (simp only [stQ_eq, lookR, om, hm, e1, e2, e3, tkV, hk, hW, hR, n1, n2, m1, m2, z0n, z2n, push_cast, ed, reduceCtorEq, ld] <;> exact rfl)) (by assumption) (by assumption) (by assumption) ?_ | (refine Fk.by_ ?_ ?_ <;> intro hc <;> try simp only [hc]) | refine storeK_eq rfl ?_ | with_reducible refine an ?_ ?_) <;> try simp only [stQ_eq, lookR, om, hm, e1, e2, e3, tkV, hk, hW, hR, n1, n2, m1, m2, z0n, z2n, push_cast, ed, reduceCtorEq, ld]))
     all_goals first | (exfalso; simp [*] at hb; done) | (exact finF (a := fix0) hwf (by first | exact .inl rfl | exact .inr rfl) (by first | ((repeat first | exact (wfQ hwf _ _ _ _).subm | exact subQ hm0 hwf | refine Sub.drop (by simp) ?_); done) | fail) (by first | rfl | (simp only [F132, push_cast, ed, reduceCtorEq, ld]; exact rfl)) rfl (by assumption) (by first | exact .inl ⟨rfl, rfl, _, by assumption, (by first | assumption | (simp only [F132, if_true, if_false, bf, *]; done) | (simp [F132, *]; done) | fail)⟩ | exact .inr ⟨by first | assumption | decide, (by first | assumption | (simp only [F132, if_true, if_false, bf, *]; done) | (simp [F132, *]; done) | fail)⟩) (by first | rfl | assumption | exact bd_cmd | (simp [V.bd, V.bdL]; done) | fail) (by simp) (by simp [(hwf).z]) (hwf).subx)
    | false =>
     rw [hb, if_neg (by decide)] at hE
     simp only [Bool.or_eq_false_iff] at hb
     obtain ⟨⟨⟨b1, b2⟩, b3⟩, b4⟩ := hb
     rw [b1] at n1; rw [b2] at n2; rw [b3] at m1; rw [b4] at m2
     rw [← n3 n2, ← m3 m2] at hE
     (repeat' first | ((first | (with_reducible intro x1 x2 x3 x4 hE hX hI <;> (try (cases (x3 : Fix))) <;> (try (cases (x3 : Cmd); cases ‹Fix›)) <;> (try (have hI2 := rSelO_inv_err hE; clear hE; have hE := hI2; clear hI2))) | (with_reducible intro x1 x2 x3 hE hI hD <;> (try (have hI2 := rSelO_inv hE; obtain ⟨l1, rfl, hI2⟩ := hI2; clear hE; have hE := hI2; clear hI2)) <;> (try (have hI2 := rUnit_inv hE; obtain ⟨u1, u2, rfl⟩ := hI2; dsimp only)) <;> (try (have hI2 := rPlace_inv hE; obtain ⟨n1, q1, rfl⟩ := hI2; dsimp only at hE ⊢)) <;> (try (cases (x1 : Cmd); cases ‹Fix›))) | (with_reducible intro x1 hE hI hD <;> (try (have hI2 := hdIs_t hE; try simp only [hI2]))) | with_reducible intro x1 hF | (with_reducible intro x1 <;> (try (cases (x1 : Fix))) <;> (try (cases (x1 : Cmd); cases ‹Fix›))) | refine go rfl rfl ?_ | refine Cl.by_ (by (first | refine hsp _ | refine qdigits_v _ _ hWl | refine qdigits_v _ _ hRl | refine hnW _ | refine hnR _)) ?_ | refine CallX.c (by first | assumption | (simp only [stQ_eq, lookR, om, hm, e1, e2, e3, tkV, hk, hW, hR, n1, n2, m1, m2, z0n, z2n, wk, push_cast, ed, reduceCtorEq, ld] <;> exact rfl)) (by assumption) (by assumption) (by first | assumption | decide) ?_ | refine Call0.c (by first | assumption | (simp only [stQ_eq, lookR, om, hm, e1, e2, e3, tkV, hk, hW, hR, n1, n2, m1, m2, z0n, z2n, wk, push_cast, ed, reduceCtorEq, ld] <;> exact rfl)) (by assumption) (by assumption) (by assumption) ?_ | (refine Fk.by_ ?_ ?_ <;> intro hc <;> try simp only [hc]) | refine storeK_eq rfl ?_ | with_reducible refine an ?_ ?_) <;> try simp only [stQ_eq, lookR, om, hm, e1, e2, e3, tkV, hk, hW, hR, n1, n2, m1, m2, z0n, z2n, wk, push_cast, ed, reduceCtorEq, ld]))
     all_goals first | (exact finF (a := ⟨_, _, _, _, _, _⟩) hwf (by first | exact .inl rfl | exact .inr rfl) (by first | ((repeat first | exact (wfQ hwf _ _ _ _).subm | exact subQ hm0 hwf | refine Sub.drop (by simp) ?_); done) | fail) (by first | rfl | (simp only [F132, push_cast, ed, reduceCtorEq, ld]; exact rfl)) rfl (by assumption) (by first | exact .inl ⟨rfl, rfl, _, by assumption, (by first | assumption | (simp only [F132, if_true, if_false, bf, *]; done) | (simp [F132, *]; done) | fail)⟩ | exact .inr ⟨by first | assumption | decide, (by first | assumption | (simp only [F132, if_true, if_false, bf, *]; done) | (simp [F132, *]; done) | fail)⟩) (by first | rfl | assumption | exact bd_cmd | (simp [V.bd, V.bdL]; done) | fail) (by simp) (by simp [(hwf).z]) (hwf).subx)
  | false =>
   have hE := hok (R := [49]) hk hW rfl rfl
   clear hbad hok
   have c1 : ((capV (numD [49]) : Nat) : Int) = 1 := rfl
   rw [c1] at hE
   have d1 : decide ((1 : Int) < 1) = false := rfl
   have d2 : decide ((64 : Int) < 1) = false := rfl
   rw [d1, d2, Bool.or_false, Bool.or_false] at hE
   cases hb : (decide ((capV (numD W) : Int) < 1) || decide (999 < (capV (numD W) : Int))) with
   | true =>
    rw [hb, if_pos rfl] at hE
    (repeat' first | ((first | (with_reducible intro x1 x2 x3 x4 hE hX hI <;> (try (cases (x3 : Fix))) <;> (try (cases (x3 : Cmd); cases ‹Fix›)) <;> (try (have hI2 := rSelO_inv_err hE; clear hE; have hE := hI2; clear hI2))) | (with_reducible intro x1 x2 x3 hE hI hD <;> (try (have hI2 := rSelO_inv hE; obtain ⟨l1, rfl, hI2⟩ := hI2; clear hE; have hE := hI2; clear hI2)) <;> (try (have hI2 := rUnit_inv hE; obtain ⟨u1, u2, rfl⟩ := hI2; dsimp only)) <;> (try (have hI2 := rPlace_inv hE; obtain ⟨n1, q1, rfl⟩ := hI2; dsimp only at hE ⊢)) <;> (try (cases (x1 : Cmd); cases ‹Fix›))) | (with_reducible intro x1 hE hI hD <;> (try (have hI2 := hdIs_t hE; try simp only [hI2]))) | with_reducible intro x1 hF | (with_reducible intro x1 <;> (try (cases (x1 : Fix))) <;> (try (cases (x1 : Cmd); cases ‹Fix›))) | refine go rfl rfl ?_ | refine Cl.by_ (by (first | refine hsp _ | refine qdigits_v _ _ hWl | refine hnW _)) ?_ | refine CallX.c (by first | assumption | (simp only [stQ_eq, lookR, om, hm, e1, e2, e3, tkV, hk, hW, n1, n2, z0n, z2n, d1, d2, push_cast, ed, reduceCtorEq, ld] <;> exact rfl)) (by assumption) (by assumption) (by first | assumption | decide) ?_ | refine Call0.c (by first | assumption | (simp only [stQ_eq, lookR, om, hm, e1, e2, e3, tkV, hk, hW, n1, n2, z0n, z2n, d1, d2, push_cast, ed, reduceCtorEq, ld] <;> exact rfl)) (by assumption) (by assumption) (by assumption) ?_ | (refine Fk.by_ ?_ ?_ <;> intro hc <;> try simp only [hc]) | refine storeK_eq rfl ?_ | with_reducible refine an ?_ ?_) <;> try simp only [stQ_eq, lookR, om, hm, e1, e2, e3, tkV, hk, hW, n1, n2, z0n, z2n, d1, d2, push_cast, ed, reduceCtorEq, ld]))
    all_goals first | (exfalso; simp [*] at hb; done) | (exact finF (a := fix0) hwf (by first | exact .inl rfl | exact .inr rfl) (by first | ((repeat first | exact (wfQ hwf _ _ _ _).subm | exact subQ hm0 hwf | refine Sub.drop (by simp) ?_); done) | fail) (by first | rfl | (simp only [F132, push_cast, ed, reduceCtorEq, ld]; exact rfl)) rfl (by assumption) (by first | exact .inl ⟨rfl, rfl, _, by assumption, (by first | assumption | (simp only [F132, if_true, if_false, bf, *]; done) | (simp [F132, *]; done) | fail)⟩ | exact .inr ⟨by first | assumption | decide, (by first | assumption | (simp only [F132, if_true, if_false, bf, *]; done) | (simp [F132, *]; done) | fail)⟩) (by first | rfl | assumption | exact bd_cmd | (simp [V.bd, V.bdL]; done) | fail) (by simp) (by simp [(hwf).z]) (hwf).subx)
   | false =>
    rw [hb, if_neg (by decide)] at hE
    simp only [Bool.or_eq_false_iff] at hb
    obtain ⟨b1, b2⟩ := hb
    rw [b1] at n1; rw [b2] at n2
    rw [← n3 n2] at hE
    (repeat' first | ((first | (with_reducible intro x1 x2 x3 x4 hE hX hI <;> (try (cases (x3 : Fix))) <;> (try (cases (x3 : Cmd); cases ‹Fix›)) <;> (try (have hI2 := rSelO_inv_err hE; clear hE; have hE := hI2; clear hI2))) | (with_reducible intro x1 x2 x3 hE hI hD <;> (try (have hI2 := rSelO_inv hE; obtain ⟨l1, rfl, hI2⟩ := hI2; clear hE; have hE := hI2; clear hI2)) <;> (try (have hI2 := rUnit_inv hE; obtain ⟨u1, u2, rfl⟩ := hI2; dsimp only)) <;> (try (have hI2 := rPlace_inv hE; obtain ⟨n1, q1, rfl⟩ := hI2; dsimp only at hE ⊢)) <;> (try (cases (x1 : Cmd); cases ‹Fix›))) | (with_reducible intro x1 hE hI hD <;> (try (have hI2 := hdIs_t hE; try simp only [hI2]))) | with_reducible intro x1 hF | (with_reducible intro x1 <;> (try (cases (x1 : Fix))) <;> (try (cases (x1 : Cmd); cases ‹Fix›))) | refine go rfl rfl ?_ | refine Cl.by_ (by (first | refine hsp _ | refine qdigits_v _ _ hWl | refine hnW _)) ?_ | refine CallX.c (by first | assumption | (simp only [stQ_eq, lookR, om, hm, e1, e2, e3, tkV, hk, hW, n1, n2, z0n, z2n, d1, d2, wk, push_cast, ed, reduceCtorEq, ld] <;> exact rfl)) (by assumption) (by assumption) (by first | assumption | decide) ?_ | refine Call0.c (by first | assumption | (simp only [stQ_eq, lookR, om, hm, e1, e2, e3, tkV, hk, hW, n1, n2, z0n, z2n, d1, d2, wk, push_cast, ed, reduceCtorEq, ld] <;> exact rfl)) (by assumption) (by assumption) (by assumption) ?_ | (refine Fk.by_ ?_ ?_ <;> intro hc <;> try simp only [hc]) | refine storeK_eq rfl ?_ | with_reducible refine an ?_ ?_) <;> try simp only [stQ_eq, lookR, om, hm, e1, e2, e3, tkV, hk, hW, n1, n2, z0n, z2n, d1, d2, wk, push_cast, ed, reduceCtorEq, ld]))
    all_goals first | (exact finF (a := ⟨_, _, _, _, _, _⟩) hwf (by first | exact .inl rfl | exact .inr rfl) (by first | ((repeat first | exact (wfQ hwf _ _ _ _).subm | exact subQ hm0 hwf | refine Sub.drop (by simp) ?_); done) | fail) (by first | rfl | (simp only [F132, push_cast, ed, reduceCtorEq, ld]; exact rfl)) rfl (by assumption) (by first | exact .inl ⟨rfl, rfl, _, by assumption, (by first | assumption | (simp only [F132, if_true, if_false, bf, *]; done) | (simp [F132, *]; done) | fail)⟩ | exact .inr ⟨by first | assumption | decide, (by first | assumption | (simp only [F132, if_true, if_false, bf, *]; done) | (simp [F132, *]; done) | fail)⟩) (by first | rfl | assumption | exact bd_cmd | (simp [V.bd, V.bdL]; done) | fail) (by simp) (by simp [(hwf).z]) (hwf).subx)
 ·have hm := hm0
  unfold rdr at hm
  have ht := hwt.txt
  have hWl : (cutW 46 (hd ts).t).length < 140737488355328 := cutW_len ht
  have hRl : (cutR 46 (hd ts).t).length < 140737488355328 := cutR_len ht
  refine vc F132_ok rfl (fun hwf => ?_)
  have hrid := (hwf.mem _ _ hm).1
  have e1 : (st.nx = rid) = False := eq_false (by omega)
  have e2 : (st.nx + 1 = rid) = False := eq_false (by omega)
  have e3 : (st.nx + 2 = rid) = False := eq_false (by omega)
  have zx : (e != 0) = true := by simpa using he
  have hsp := fun st' => qsplit_v (hd ts).t st' ht
  generalize cutW 46 (hd ts).t = W at *
  generalize cutR 46 (hd ts).t = R at *
  generalize cutP 46 (hd ts).t = P at *
  cases hW : digsB W with
  | false =>
   (repeat' first | ((first | (with_reducible intro x1 x2 x3 x4 hE hX hI <;> (try (cases (x3 : Fix))) <;> (try (cases (x3 : Cmd); cases ‹Fix›)) <;> (try (have hI2 := rSelO_inv_err hE; clear hE; have hE := hI2; clear hI2))) | (with_reducible intro x1 x2 x3 hE hI hD <;> (try (have hI2 := rSelO_inv hE; obtain ⟨l1, rfl, hI2⟩ := hI2; clear hE; have hE := hI2; clear hI2)) <;> (try (have hI2 := rUnit_inv hE; obtain ⟨u1, u2, rfl⟩ := hI2; dsimp only)) <;> (try (have hI2 := rPlace_inv hE; obtain ⟨n1, q1, rfl⟩ := hI2; dsimp only at hE ⊢)) <;> (try (cases (x1 : Cmd); cases ‹Fix›))) | (with_reducible intro x1 hE hI hD <;> (try (have hI2 := hdIs_t hE; try simp only [hI2]))) | with_reducible intro x1 hF | (with_reducible intro x1 <;> (try (cases (x1 : Fix))) <;> (try (cases (x1 : Cmd); cases ‹Fix›))) | refine go rfl rfl ?_ | refine Cl.by_ (by (first | refine qtoken_v (by simp only [hm, e1, push_cast, ed, reduceCtorEq, ld] <;> exact rfl) hw hi hD | refine hsp _ | refine qdigits_v _ _ hWl)) ?_ | refine CallX.c (by first | assumption | (simp only [stQ_eq, lookR, om, hm, e1, e2, e3, tkV, hW, zx, push_cast, ed, reduceCtorEq, ld] <;> exact rfl)) (by assumption) (by assumption) (by first | assumption | decide) ?_ | refine Call0.c (by first | assumption | (simp only [stQ_eq, lookR, om, hm, e1, e2, e3, tkV, hW, zx, push_cast, ed, reduceCtorEq, ld] <;> exact rfl)) (by assumption) (by assumption) (by assumption) ?_ | (refine Fk.by_ ?_ ?_ <;> intro hc <;> try simp only [hc]) | refine storeK_eq rfl ?_ | with_reducible refine an ?_ ?_) <;> try simp only [stQ_eq, lookR, om, hm, e1, e2, e3, tkV, hW, zx, push_cast, ed, reduceCtorEq, ld]))
   all_goals first | (exact finXx (a := fix0) hwf (by first | exact .inl rfl | exact .inr rfl) (by first | rfl | (simp only [F132, push_cast, ed, reduceCtorEq, ld]; exact rfl)) rfl (by first | rfl | assumption | exact bd_cmd | (simp [V.bd, V.bdL]; done) | fail) (by simp) (by first | ((repeat first | exact (hwf).subm | refine Sub.drop (by simp) ?_); done) | fail) (by simp [(hwf).z]) (hwf).subx)
  | true =>
  have hnW := fun st' => qnumber_v W st' hWl (digsB_ok hW).2
  cases P with
  | false =>
   (repeat' first | ((first | (with_reducible intro x1 x2 x3 x4 hE hX hI <;> (try (cases (x3 : Fix))) <;> (try (cases (x3 : Cmd); cases ‹Fix›)) <;> (try (have hI2 := rSelO_inv_err hE; clear hE; have hE := hI2; clear hI2))) | (with_reducible intro x1 x2 x3 hE hI hD <;> (try (have hI2 := rSelO_inv hE; obtain ⟨l1, rfl, hI2⟩ := hI2; clear hE; have hE := hI2; clear hI2)) <;> (try (have hI2 := rUnit_inv hE; obtain ⟨u1, u2, rfl⟩ := hI2; dsimp only)) <;> (try (have hI2 := rPlace_inv hE; obtain ⟨n1, q1, rfl⟩ := hI2; dsimp only at hE ⊢)) <;> (try (cases (x1 : Cmd); cases ‹Fix›))) | (with_reducible intro x1 hE hI hD <;> (try (have hI2 := hdIs_t hE; try simp only [hI2]))) | with_reducible intro x1 hF | (with_reducible intro x1 <;> (try (cases (x1 : Fix))) <;> (try (cases (x1 : Cmd); cases ‹Fix›))) | refine go rfl rfl ?_ | refine Cl.by_ (by (first | refine qtoken_v (by simp only [hm, e1, push_cast, ed, reduceCtorEq, ld] <;> exact rfl) hw hi hD | refine hsp _ | refine qdigits_v _ _ hWl | refine hnW _)) ?_ | refine CallX.c (by first | assumption | (simp only [stQ_eq, lookR, om, hm, e1, e2, e3, tkV, hW, zx, push_cast, ed, reduceCtorEq, ld] <;> exact rfl)) (by assumption) (by assumption) (by first | assumption | decide) ?_ | refine Call0.c (by first | assumption | (simp only [stQ_eq, lookR, om, hm, e1, e2, e3, tkV, hW, zx, push_cast, ed, reduceCtorEq, ld] <;> exact rfl)) (by assumption) (by assumption) (by assumption) ?_ | (refine Fk.by_ ?_ ?_ <;> intro hc <;> try simp only [hc]) | refine storeK_eq rfl ?_ | with_reducible refine an ?_ ?_) <;> try simp only [stQ_eq, lookR, om, hm, e1, e2, e3, tkV, hW, zx, push_cast, ed, reduceCtorEq, ld]))
   all_goals first | (exact finXx (a := fix0) hwf (by first | exact .inl rfl | exact .inr rfl) (by first | rfl | (simp only [F132, push_cast, ed, reduceCtorEq, ld]; exact rfl)) rfl (by first | rfl | assumption | exact bd_cmd | (simp [V.bd, V.bdL]; done) | fail) (by simp) (by first | ((repeat first | exact (hwf).subm | refine Sub.drop (by simp) ?_); done) | fail) (by simp [(hwf).z]) (hwf).subx)
  | true =>
   cases hR : digsB R with
   | false =>
    (repeat' first | ((first | (with_reducible intro x1 x2 x3 x4 hE hX hI <;> (try (cases (x3 : Fix))) <;> (try (cases (x3 : Cmd); cases ‹Fix›)) <;> (try (have hI2 := rSelO_inv_err hE; clear hE; have hE := hI2; clear hI2))) | (with_reducible intro x1 x2 x3 hE hI hD <;> (try (have hI2 := rSelO_inv hE; obtain ⟨l1, rfl, hI2⟩ := hI2; clear hE; have hE := hI2; clear hI2)) <;> (try (have hI2 := rUnit_inv hE; obtain ⟨u1, u2, rfl⟩ := hI2; dsimp only)) <;> (try (have hI2 := rPlace_inv hE; obtain ⟨n1, q1, rfl⟩ := hI2; dsimp only at hE ⊢)) <;> (try (cases (x1 : Cmd); cases ‹Fix›))) | (with_reducible intro x1 hE hI hD <;> (try (have hI2 := hdIs_t hE; try simp only [hI2]))) | with_reducible intro x1 hF | (with_reducible intro x1 <;> (try (cases (x1 : Fix))) <;> (try (cases (x1 : Cmd); cases ‹Fix›))) | refine go rfl rfl ?_ | refine Cl.by_ (by (first | refine qtoken_v (by simp only [hm, e1, push_cast, ed, reduceCtorEq, ld] <;> exact rfl) hw hi hD | refine hsp _ | refine qdigits_v _ _ hWl | refine qdigits_v _ _ hRl | refine hnW _)) ?_ | refine CallX.c (by first | assumption | (simp only [stQ_eq, lookR, om, hm, e1, e2, e3, tkV, hW, hR, zx, push_cast, ed, reduceCtorEq, ld] <;> exact rfl)) (by assumption) (by assumption) (by first | assumption | decide) ?_ | refine Call0.c (by first | assumption | (simp only [stQ_eq, lookR, om, hm, e1, e2, e3, tkV, hW, hR, zx, push_cast, ed, reduceCtorEq, ld] <;> exact rfl)) (by assumption) (by assumption) (by assumption) ?_ | (refine Fk.by_ ?_ ?_ <;> intro hc <;> try simp only [hc]) | refine storeK_eq rfl ?_ | with_reducible refine an ?_ ?_) <;> try simp only [stQ_eq, lookR, om, hm, e1, e2, e3, tkV, hW, hR, zx, push_cast, ed, reduceCtorEq, ld]))
    all_goals first | (exact finXx (a := fix0) hwf (by first | exact .inl rfl | exact .inr rfl) (by first | rfl | (simp only [F132, push_cast, ed, reduceCtorEq, ld]; exact rfl)) rfl (by first | rfl | assumption | exact bd_cmd | (simp [V.bd, V.bdL]; done) | fail) (by simp) (by first | ((repeat first | exact (hwf).subm | refine Sub.drop (by simp) ?_); done) | fail) (by simp [(hwf).z]) (hwf).subx)
   | true =>
    have hnR := fun st' => qnumber_v R st' hRl (digsB_ok hR).2
    (repeat' first | ((first | (with_reducible intro x1 x2 x3 x4 hE hX hI <;> (try (cases (x3 : Fix))) <;> (try (cases (x3 : Cmd); cases ‹Fix›)) <;> (try (have hI2 := rSelO_inv_err hE; clear hE; have hE := hI2; clear hI2))) | (with_reducible intro x1 x2 x3 hE hI hD <;> (try (have hI2 := rSelO_inv hE; obtain ⟨l1, rfl, hI2⟩ := hI2; clear hE; have hE := hI2; clear hI2)) <;> (try (have hI2 := rUnit_inv hE; obtain ⟨u1, u2, rfl⟩ := hI2; dsimp only)) <;> (try (have hI2 := rPlace_inv hE; obtain ⟨n1, q1, rfl⟩ := hI2; dsimp only at hE ⊢)) <;> (try (cases (x1 : Cmd); cases ‹Fix›))) | (with_reducible intro x1 hE hI hD <;> (try (have hI2 := hdIs_t hE; try simp only [hI2]))) | with_reducible intro x1 hF | (with_reducible intro x1 <;> (try (cases (x1 : Fix))) <;> (try (cases (x1 : Cmd); cases ‹Fix›))) | refine go rfl rfl ?_ | refine Cl.by_ (by (first | refine qtoken_v (by simp only [hm, e1, push_cast, ed, reduceCtorEq, ld] <;> exact rfl) hw hi hD | refine hsp _ | refine qdigits_v _ _ hWl | refine qdigits_v _ _ hRl | refine hnW _ | refine hnR _)) ?_ | refine CallX.c (by first | assumption | (simp only [stQ_eq, lookR, om, hm, e1, e2, e3, tkV, hW, hR, zx, push_cast, ed, reduceCtorEq, ld] <;> exact rfl)) (by assumption) (by assumption) (by first | assumption | decide) ?_ | refine Call0.c (by first | assumption | (simp only [stQ_eq, lookR, om, hm, e1, e2, e3, tkV, hW, hR, zx, push_cast, ed, reduceCtorEq, ld] <;> exact rfl)) (by assumption) (by assumption) (by assumption) ?_ | (refine Fk.by_ ?_ ?_ <;> intro hc <;> try simp only [hc]) | refine storeK_eq rfl ?_ | with_reducible refine an ?_ ?_) <;> try simp only [stQ_eq, lookR, om, hm, e1, e2, e3, tkV, hW, hR, zx, push_cast, ed, reduceCtorEq, ld]))
    all_goals first | (exact finXx (a := fix0) hwf (by first | exact .inl rfl | exact .inr rfl) (by first | rfl | (simp only [F132, push_cast, ed, reduceCtorEq, ld]; exact rfl)) rfl (by first | rfl | assumption | exact bd_cmd | (simp [V.bd, V.bdL]; done) | fail) (by simp) (by first | ((repeat first | exact (hwf).subm | refine Sub.drop (by simp) ?_); done) | fail) (by simp [(hwf).z]) (hwf).subx)
instance : Call0 132 [] (P0 rUnit fixV) := (rfunit_v).k0
instance : CallX 132 [] (PX fixV) := (rfunit_v).kx
set_option maxHeartbeats 1000000 in
theorem rfterm_v (op : Int) : RfC 92 [.int .i64 op] (rTerm op) selV := by
 refine rfc_of (fun st rid T i ts hw hi hD hwt hm0 => ?_) (fun st rid T i ts e p hw hi hD hwt he hm0 => ?_)
 ·have hm := hm0
  unfold rdr at hm
  refine vc F92_ok rfl (fun hwf => ?_)
  have hrid := (hwf.mem _ _ hm).1
  have e1 : (st.nx = rid) = False := eq_false (by omega)
  have e2 : (st.nx + 1 = rid) = False := eq_false (by omega)
  have e3 : (st.nx + 2 = rid) = False := eq_false (by omega)
  (repeat' first | ((first | (with_reducible intro x1 x2 x3 x4 hE hX hI <;> (try (cases (x3 : Fix))) <;> (try (cases (x3 : Cmd); cases ‹Fix›)) <;> (try (have hI2 := rSelO_inv_err hE; clear hE; have hE := hI2; clear hI2))) | (with_reducible intro x1 x2 x3 hE hI hD <;> (try (have hI2 := rSelO_inv hE; obtain ⟨l1, rfl, hI2⟩ := hI2; clear hE; have hE := hI2; clear hI2)) <;> (try (have hI2 := rUnit_inv hE; obtain ⟨u1, u2, rfl⟩ := hI2; dsimp only)) <;> (try (have hI2 := rPlace_inv hE; obtain ⟨n1, q1, rfl⟩ := hI2; dsimp only at hE ⊢)) <;> (try (cases (x1 : Cmd); cases ‹Fix›))) | (with_reducible intro x1 hE hI hD <;> (try (have hI2 := hdIs_t hE; try simp only [hI2]))) | with_reducible intro x1 hF | (with_reducible intro x1 <;> (try (cases (x1 : Fix))) <;> (try (cases (x1 : Cmd); cases ‹Fix›))) | refine go rfl rfl ?_ | refine CallX.c (by first | assumption | (simp only [stQ_eq, lookR, om, hm, e1, e2, e3, tkV, z0, z0n, push_cast, ed, reduceCtorEq, ld] <;> exact rfl)) (by assumption) (by assumption) (by first | assumption | decide) ?_ | refine Call0.c (by first | assumption | (simp only [stQ_eq, lookR, om, hm, e1, e2, e3, tkV, z0, z0n, push_cast, ed, reduceCtorEq, ld] <;> exact rfl)) (by assumption) (by assumption) (by assumption) ?_ | (refine Fk.by_ ?_ ?_ <;> intro hc <;> try simp only [hc]) | refine storeK_eq rfl ?_ | with_reducible refine an ?_ ?_) <;> try simp only [stQ_eq, lookR, om, hm, e1, e2, e3, tkV, z0, z0n, push_cast, ed, reduceCtorEq, ld]))
  all_goals first | (exact finF (a := ⟨_, _, _, _⟩) hwf (by first | exact .inl rfl | exact .inr rfl) (by first | ((repeat first | exact (wfQ hwf _ _ _ _).subm | exact subQ hm0 hwf | refine Sub.drop (by simp) ?_); done) | fail) (by first | rfl | (simp only [F92, rTerm, rNext, rWord, rOk, push_cast, ed, reduceCtorEq, ld]; exact rfl)) rfl (by assumption) (by first | exact .inl ⟨rfl, rfl, _, by assumption, (by first | assumption | (simp only [F92, rTerm, rNext, rWord, rOk, if_true, if_false, bf, *]; done) | (simp [F92, rTerm, rNext, rWord, rOk, *]; done) | fail)⟩ | exact .inr ⟨by first | assumption | decide, (by first | assumption | (simp only [F92, rTerm, rNext, rWord, rOk, if_true, if_false, bf, *]; done) | (simp [F92, rTerm, rNext, rWord, rOk, *]; done) | fail)⟩) (by first | rfl | assumption | exact bd_cmd | (simp [V.bd, V.bdL]; done) | fail) (by simp) (by simp [(hwf).z]) (hwf).subx) | (exfalso; simp_all; done)
 ·have hm := hm0
  unfold rdr at hm
  refine vc F92_ok rfl (fun hwf => ?_)
  have hrid := (hwf.mem _ _ hm).1
  have e1 : (st.nx = rid) = False := eq_false (by omega)
  have zx : (e == 0) = false := by simpa using he
  (repeat' first | ((first | (with_reducible intro x1 x2 x3 x4 hE hX hI <;> (try (cases (x3 : Fix))) <;> (try (cases (x3 : Cmd); cases ‹Fix›)) <;> (try (have hI2 := rSelO_inv_err hE; clear hE; have hE := hI2; clear hI2))) | (with_reducible intro x1 x2 x3 hE hI hD <;> (try (have hI2 := rSelO_inv hE; obtain ⟨l1, rfl, hI2⟩ := hI2; clear hE; have hE := hI2; clear hI2)) <;> (try (have hI2 := rUnit_inv hE; obtain ⟨u1, u2, rfl⟩ := hI2; dsimp only)) <;> (try (have hI2 := rPlace_inv hE; obtain ⟨n1, q1, rfl⟩ := hI2; dsimp only at hE ⊢)) <;> (try (cases (x1 : Cmd); cases ‹Fix›))) | (with_reducible intro x1 hE hI hD <;> (try (have hI2 := hdIs_t hE; try simp only [hI2]))) | with_reducible intro x1 hF | (with_reducible intro x1 <;> (try (cases (x1 : Fix))) <;> (try (cases (x1 : Cmd); cases ‹Fix›))) | refine go rfl rfl ?_ | refine CallX.c (by first | assumption | (simp only [stQ_eq, lookR, om, hm, e1, tkV, zx, push_cast, ed, reduceCtorEq, ld] <;> exact rfl)) (by assumption) (by assumption) (by first | assumption | decide) ?_ | refine Call0.c (by first | assumption | (simp only [stQ_eq, lookR, om, hm, e1, tkV, zx, push_cast, ed, reduceCtorEq, ld] <;> exact rfl)) (by assumption) (by assumption) (by assumption) ?_ | (refine Fk.by_ ?_ ?_ <;> intro hc <;> try simp only [hc]) | refine storeK_eq rfl ?_ | with_reducible refine an ?_ ?_) <;> try simp only [stQ_eq, lookR, om, hm, e1, tkV, zx, push_cast, ed, reduceCtorEq, ld]))
  all_goals first | (exact finXx (a := ⟨_, _, _, _⟩) hwf (by first | exact .inl rfl | exact .inr rfl) (by first | rfl | (simp only [F92, push_cast, ed, reduceCtorEq, ld]; exact rfl)) rfl (by first | rfl | assumption | exact bd_cmd | (simp [V.bd, V.bdL]; done) | fail) (by simp) (by first | ((repeat first | exact (hwf).subm | refine Sub.drop (by simp) ?_); done) | fail) (by simp [(hwf).z]) (hwf).subx)
instance {op : Int} : Call0 92 [.int .i64 op] (P0 (rTerm op) selV) := (rfterm_v op).k0
instance {op : Int} : CallX 92 [.int .i64 op] (PX selV) := (rfterm_v op).kx
def rSelO : Rd (Option (List Sel)) := rNext rSelection fun l => rOk (some l)
theorem rSelO_err {ts : List Tok} {q : Int × Int} (h : rSelection ts = .error q) : rSelO ts = .error q := by simp only [rSelO, rNext, h]
theorem rSelO_ok {ts ts' : List Tok} {l : List Sel} (h : rSelection ts = .ok (l, ts')) : rSelO ts = .ok (some l, ts') := by simp only [rSelO, rNext, h, rOk]
theorem rMore_stop {acc : List Sel} {m : Nat} {ts : List Tok} (h1 : hdIs 2 [43] ts = false) (h2 : hdIs 2 [45] ts = false) : rMore acc (m + 1) ts = .ok (acc, ts) := by
 simp [rMore, rNext, rSign, h1, h2, rOk]
theorem rMore_add {acc : List Sel} {m : Nat} {ts ts' : List Tok} {x : Sel} (h1 : hdIs 2 [43] ts = true) (h2 : rTerm 0 ts.tail = .ok (x, ts')) : rMore acc (m + 1) ts = rMore (acc ++ [x]) m ts' := by
 simp [rMore, rNext, rSign, h1, h2]
theorem rMore_drop {acc : List Sel} {m : Nat} {ts ts' : List Tok} {x : Sel} (h0 : hdIs 2 [43] ts = false) (h1 : hdIs 2 [45] ts = true) (h2 : rTerm 1 ts.tail = .ok (x, ts')) : rMore acc (m + 1) ts = rMore (acc ++ [x]) m ts' := by
 simp [rMore, rNext, rSign, h0, h1, h2]
theorem rMore_add_err {acc : List Sel} {m : Nat} {ts : List Tok} {q : Int × Int} (h1 : hdIs 2 [43] ts = true) (h2 : rTerm 0 ts.tail = .error q) : rMore acc (m + 1) ts = .error q := by
 simp [rMore, rNext, rSign, h1, h2]
theorem rMore_drop_err {acc : List Sel} {m : Nat} {ts : List Tok} {q : Int × Int} (h0 : hdIs 2 [43] ts = false) (h1 : hdIs 2 [45] ts = true) (h2 : rTerm 1 ts.tail = .error q) : rMore acc (m + 1) ts = .error q := by
 simp [rMore, rNext, rSign, h0, h1, h2]
theorem tail_len {ts : List Tok} (h : 0 < ts.length) : ts.tail.length + 1 = ts.length := by simp; omega
set_option maxHeartbeats 2000000 in
theorem rfselection_v : RfC 46 [] rSelO selO := by
  have zz : ((0 : Int) == 0) = true := rfl
  refine rfc_of (fun st rid T i ts hw hi hD hwt hm0 => ?_) (fun st rid T i ts e p hw hi hD hwt he hm0 => ?_)
  · have hm := hm0
    unfold rdr at hm
    have hsm := hw.small
    refine vc F46_ok rfl (fun hwf => ?_)
    have hrid := (hwf.mem _ _ hm).1
    have e1 : (st.nx = rid) = False := eq_false (by omega)
    have e2 : (st.nx + 1 = rid) = False := eq_false (by omega)
    have key : ∀ (acc0 : List Sel) (i0 : Nat) (x0 q0 : Int), acc0.length = 1 → i0 < T.length → ((x0 = 0 ∧ q0 = 0 ∧ ∃ l, l = T.drop i0 ∧ l.length ≤ T.length ∧ rSelection ts = rMore acc0 l.length l) ∨ (x0 ≠ 0 ∧ rSelection ts = .error (q0, x0))) →
        WT Tryz.prog F46.N F46.T 6 [(3, .osl st.nx acc0.length), (2, .nils), (0, .ptr rid 0)] ⟨st.nx + 1, updM st.mem rid [.sl (T.map tkV), .int .i64 (i0 : Int), .int .i64 x0, .int .i64 q0], (st.nx, ⟨43, 4, acc0.map selV, false, false⟩) :: st.arr, st.x⟩ (blockPost 0 (seqT Tryz.prog F46.N F46.T 25 (finQ F46.res st.nx (rf0 rSelO selO st rid T ts)))) := by
      intro acc0 i0 x0 q0 hl0 hi0 hR0
      refine WT_loop rfl (fun m e z => ∃ (acc : List Sel) (j : Nat) (x q : Int), j < T.length ∧ acc.length ≤ 2 + T.length ∧
          ((x = 0 ∧ q = 0 ∧ (T.drop j).length ≤ m ∧ acc.length + (T.drop j).length ≤ 1 + T.length ∧ rSelection ts = rMore acc m (T.drop j)) ∨ (x ≠ 0 ∧ rSelection ts = .error (q, x))) ∧
          e = [(3, .osl st.nx acc.length), (2, .nils), (0, .ptr rid 0)] ∧ z = ⟨st.nx + 1, updM st.mem rid [.sl (T.map tkV), .int .i64 (j : Int), .int .i64 x, .int .i64 q], (st.nx, ⟨43, 4, acc.map selV, false, false⟩) :: st.arr, st.x⟩) (st.nx + 1) (Nat.le_refl _) (by rintro _ _ _ ⟨_, _, _, _, _, _, _, _, rfl⟩; rfl)
        ⟨(T.drop i0).length, _, _, ⟨acc0, i0, x0, q0, hi0, by omega, by
          rcases hR0 with ⟨h1, h2, l, rfl, h4, h5⟩ | h
          · exact .inl ⟨h1, h2, Nat.le_refl _, by rw [List.length_drop]; omega, h5⟩
          · exact .inr h, rfl, rfl⟩, (by repeat first | exact .nil | refine .cons (by first | rfl | (simp [V.bd, V.bdL]; try first | omega | assumption)) (by first | rfl | simp only [push_cast, ed, reduceCtorEq, ld]) ?_), .refl ((wfQ hwf T i0 x0 q0).newA (bdL_sel (l := acc0)))⟩ ?_
      rintro m e z ⟨acc, j, x, q, hj, hacc, hR, rfl, rfl⟩
      have hrm : roomV (acc.length + 1) 32 = true := by
        have h1 : acc.length + 1 ≤ maxLen := by unfold maxLen; omega
        have h2 : (acc.length + 1) * 32 ≤ 140737488355328 := by omega
        unfold roomV
        rw [decide_eq_true h1, decide_eq_true h2]; rfl
      rcases hR with ⟨rfl, rfl, hm1, hacc1, hR⟩ | ⟨hx, hR⟩
      · have hDj : T.drop j = T.drop j := rfl
        obtain ⟨l, hl⟩ : ∃ l, T.drop j = l := ⟨_, rfl⟩
        have hl1 : 0 < l.length := by rw [← hl, List.length_drop]; omega
        have htl := tail_len hl1
        rw [hl] at hm1 hacc1 hR
        obtain ⟨m, rfl⟩ : ∃ k, m = k + 1 := ⟨m - 1, by omega⟩
        clear hDj
        have good : ∀ {y : Sel} {t2 : List Tok} {k : Nat} {op : Int}, rTerm op l.tail = .ok (y, t2) → T.drop k = t2 → t2.length + 1 ≤ l.length := fun h2 h3 => by
          have := Shr.term _ _ _ h2; omega
        (repeat' first | ((first | (with_reducible intro x1 x2 x3 x4 hE hX hI <;> (try (cases (x3 : Fix))) <;> (try (cases (x3 : Cmd); cases ‹Fix›)) <;> (try (have hI2 := rSelO_inv_err hE; clear hE; have hE := hI2; clear hI2))) | (with_reducible intro x1 x2 x3 hE hI hD <;> (try (have hI2 := rSelO_inv hE; obtain ⟨l1, rfl, hI2⟩ := hI2; clear hE; have hE := hI2; clear hI2)) <;> (try (have hI2 := rUnit_inv hE; obtain ⟨u1, u2, rfl⟩ := hI2; dsimp only)) <;> (try (have hI2 := rPlace_inv hE; obtain ⟨n1, q1, rfl⟩ := hI2; dsimp only at hE ⊢)) <;> (try (cases (x1 : Cmd); cases ‹Fix›))) | (with_reducible intro x1 hE hI hD <;> (try (have hI2 := hdIs_t hE; try simp only [hI2]))) | with_reducible intro x1 hF | (with_reducible intro x1 <;> (try (cases (x1 : Fix))) <;> (try (cases (x1 : Cmd); cases ‹Fix›))) | refine go rfl rfl ?_ | refine CallX.c (by first | assumption | (simp only [stQ_eq, lookR, om, hm, e1, e2, cells_selV, app_sel, all_sel, snap_sel, part_sel, hrm, zz, push_cast, ed, reduceCtorEq, ld] <;> exact rfl)) (by assumption) (by assumption) (by first | assumption | decide) ?_ | refine Call0.c (by first | assumption | (simp only [stQ_eq, lookR, om, hm, e1, e2, cells_selV, app_sel, all_sel, snap_sel, part_sel, hrm, zz, push_cast, ed, reduceCtorEq, ld] <;> exact rfl)) (by assumption) (by assumption) (by assumption) ?_ | (refine Fk.by_ ?_ ?_ <;> intro hc <;> try simp only [hc]) | refine storeK_eq rfl ?_ | with_reducible refine an ?_ ?_) <;> try simp only [stQ_eq, lookR, om, hm, e1, e2, cells_selV, app_sel, all_sel, snap_sel, part_sel, hrm, zz, push_cast, ed, reduceCtorEq, ld]))
        all_goals first
          | (have g2 := good (by assumption) (by assumption)
             refine ⟨_, _, _, Nat.lt_succ_self _, ⟨acc ++ [x1], x3, 0, 0, by assumption, ?_, .inl ⟨rfl, rfl, ?_, ?_, ?_⟩, rfl, rfl⟩, (by repeat first | exact .nil | refine .cons (by first | rfl | (simp [V.bd, V.bdL]; try first | omega | assumption)) (by first | rfl | simp only [push_cast, ed, reduceCtorEq, ld]) ?_), Weak.wf rfl (by simp) (by (repeat first | exact ((wfQ hwf T x3 0 0).newA (bdL_sel (l := acc ++ [x1]))).subm | exact ((wfQ hwf T x3 0 0).newA (bdL_sel (l := acc ++ [x1]))).suba | refine Sub.drop (by simp) ?_)) (by (repeat first | exact ((wfQ hwf T x3 0 0).newA (bdL_sel (l := acc ++ [x1]))).subm | exact ((wfQ hwf T x3 0 0).newA (bdL_sel (l := acc ++ [x1]))).suba | refine Sub.drop (by simp) ?_)) (by (repeat first | exact ((wfQ hwf T x3 0 0).newA (bdL_sel (l := acc ++ [x1]))).subx | refine ExSub.dropt (by simp) ?_ | refine ExSub.drop (by simp) ?_)) ((wfQ hwf T x3 0 0).newA (bdL_sel (l := acc ++ [x1])))⟩
             · simp only [List.length_append, List.length_singleton]; omega
             · rw [hD]; omega
             · rw [hD]; simp only [List.length_append, List.length_singleton]; omega
             · rw [hD, hR]; first | exact rMore_add (by assumption) (by assumption) | exact rMore_drop (by assumption) (by assumption) (by assumption))
          | (refine ⟨0, _, _, Nat.succ_pos _, ⟨acc ++ [x3], x4, x2, x1, by assumption, ?_, .inr ⟨by assumption, ?_⟩, rfl, rfl⟩, (by repeat first | exact .nil | refine .cons (by first | rfl | (simp [V.bd, V.bdL]; try first | omega | assumption)) (by first | rfl | simp only [push_cast, ed, reduceCtorEq, ld]) ?_), Weak.wf rfl (by simp) (by (repeat first | exact ((wfQ hwf T x4 x2 x1).newA (bdL_sel (l := acc ++ [x3]))).subm | exact ((wfQ hwf T x4 x2 x1).newA (bdL_sel (l := acc ++ [x3]))).suba | refine Sub.drop (by simp) ?_)) (by (repeat first | exact ((wfQ hwf T x4 x2 x1).newA (bdL_sel (l := acc ++ [x3]))).subm | exact ((wfQ hwf T x4 x2 x1).newA (bdL_sel (l := acc ++ [x3]))).suba | refine Sub.drop (by simp) ?_)) (by (repeat first | exact ((wfQ hwf T x4 x2 x1).newA (bdL_sel (l := acc ++ [x3]))).subx | refine ExSub.dropt (by simp) ?_ | refine ExSub.drop (by simp) ?_)) ((wfQ hwf T x4 x2 x1).newA (bdL_sel (l := acc ++ [x3])))⟩
             · simp only [List.length_append, List.length_singleton]; omega
             · rw [hR]; first | exact rMore_add_err (by assumption) (by assumption) | exact rMore_drop_err (by assumption) (by assumption) (by assumption))
          | (clear good
             have hE := rSelO_ok (hR.trans (rMore_stop (by assumption) (by assumption)))
             have hbs : (selO (some acc)).bd st.nx = true := bdL_sel
             exact finF0 (a := some acc) hwf (by first | ((repeat first | exact (wfQ hwf _ _ _ _).subm | refine Sub.drop (by simp) ?_); done) | fail) (by first | rfl | (simp only [F46, push_cast, ed, reduceCtorEq, ld]; exact rfl)) (by right; simp only [push_cast, ed, reduceCtorEq, ld]; rfl) hj hl hE hbs (by simp) (by repeat first | exact hwf.suba | refine Sub.drop (by simp) ?_) hwf.subx)
      · have zx : (x == 0) = false := by simpa using hx
        have hE := rSelO_err hR
        (repeat' first | ((first | (with_reducible intro x1 x2 x3 x4 hE hX hI <;> (try (cases (x3 : Fix))) <;> (try (cases (x3 : Cmd); cases ‹Fix›)) <;> (try (have hI2 := rSelO_inv_err hE; clear hE; have hE := hI2; clear hI2))) | (with_reducible intro x1 x2 x3 hE hI hD <;> (try (have hI2 := rSelO_inv hE; obtain ⟨l1, rfl, hI2⟩ := hI2; clear hE; have hE := hI2; clear hI2)) <;> (try (have hI2 := rUnit_inv hE; obtain ⟨u1, u2, rfl⟩ := hI2; dsimp only)) <;> (try (have hI2 := rPlace_inv hE; obtain ⟨n1, q1, rfl⟩ := hI2; dsimp only at hE ⊢)) <;> (try (cases (x1 : Cmd); cases ‹Fix›))) | (with_reducible intro x1 hE hI hD <;> (try (have hI2 := hdIs_t hE; try simp only [hI2]))) | with_reducible intro x1 hF | (with_reducible intro x1 <;> (try (cases (x1 : Fix))) <;> (try (cases (x1 : Cmd); cases ‹Fix›))) | refine go rfl rfl ?_ | refine CallX.c (by first | assumption | (simp only [stQ_eq, lookR, om, hm, e1, e2, zx, push_cast, ed, reduceCtorEq, ld] <;> exact rfl)) (by assumption) (by assumption) (by first | assumption | decide) ?_ | refine Call0.c (by first | assumption | (simp only [stQ_eq, lookR, om, hm, e1, e2, zx, push_cast, ed, reduceCtorEq, ld] <;> exact rfl)) (by assumption) (by assumption) (by assumption) ?_ | (refine Fk.by_ ?_ ?_ <;> intro hc <;> try simp only [hc]) | refine storeK_eq rfl ?_ | with_reducible refine an ?_ ?_) <;> try simp only [stQ_eq, lookR, om, hm, e1, e2, zx, push_cast, ed, reduceCtorEq, ld]))
        all_goals first | (exact finF (a := none) hwf (by first | exact .inl rfl | exact .inr rfl) (by first | ((repeat first | exact (wfQ hwf _ _ _ _).subm | exact subQ hm0 hwf | refine Sub.drop (by simp) ?_); done) | fail) (by first | rfl | (simp only [F46, push_cast, ed, reduceCtorEq, ld]; exact rfl)) rfl (by assumption) (by first | exact .inl ⟨rfl, rfl, _, by assumption, (by first | assumption | (simp only [F46, if_true, if_false, bf, *]; done) | (simp [F46, *]; done) | fail)⟩ | exact .inr ⟨by first | assumption | decide, (by first | assumption | (simp only [F46, if_true, if_false, bf, *]; done) | (simp [F46, *]; done) | fail)⟩) (by first | rfl | assumption | exact bd_cmd | (simp [V.bd, V.bdL]; done) | fail) (by simp) (by simp [(hwf).z]) (hwf).subx)
    (repeat' first | ((first | (with_reducible intro x1 x2 x3 x4 hE hX hI <;> (try (cases (x3 : Fix))) <;> (try (cases (x3 : Cmd); cases ‹Fix›)) <;> (try (have hI2 := rSelO_inv_err hE; clear hE; have hE := hI2; clear hI2))) | (with_reducible intro x1 x2 x3 hE hI hD <;> (try (have hI2 := rSelO_inv hE; obtain ⟨l1, rfl, hI2⟩ := hI2; clear hE; have hE := hI2; clear hI2)) <;> (try (have hI2 := rUnit_inv hE; obtain ⟨u1, u2, rfl⟩ := hI2; dsimp only)) <;> (try (have hI2 := rPlace_inv hE; obtain ⟨n1, q1, rfl⟩ := hI2; dsimp only at hE ⊢)) <;> (try (cases (x1 : Cmd); cases ‹Fix›))) | (with_reducible intro x1 hE hI hD <;> (try (have hI2 := hdIs_t hE; try simp only [hI2]))) | with_reducible intro x1 hF | (with_reducible intro x1 <;> (try (cases (x1 : Fix))) <;> (try (cases (x1 : Cmd); cases ‹Fix›))) | refine go rfl rfl ?_ | refine CallX.c (by first | assumption | (simp only [stQ_eq, lookR, om, hm, e1, e2, cells_selV, snap_sel, part_sel, zz, push_cast, ed, reduceCtorEq, ld] <;> exact rfl)) (by assumption) (by assumption) (by first | assumption | decide) ?_ | refine Call0.c (by first | assumption | (simp only [stQ_eq, lookR, om, hm, e1, e2, cells_selV, snap_sel, part_sel, zz, push_cast, ed, reduceCtorEq, ld] <;> exact rfl)) (by assumption) (by assumption) (by assumption) ?_ | (refine Fk.by_ ?_ ?_ <;> intro hc <;> try simp only [hc]) | refine storeK_eq rfl ?_ | with_reducible refine an ?_ ?_) <;> try simp only [stQ_eq, lookR, om, hm, e1, e2, cells_selV, snap_sel, part_sel, zz, push_cast, ed, reduceCtorEq, ld]))
    · exact WT_env (by repeat first | exact .nil | refine .cons (by first | rfl | simp only [push_cast, ed, reduceCtorEq, ld]) ?_) (key [x1] x3 0 0 rfl (by assumption) (.inl ⟨rfl, rfl, _, rfl, by rw [List.length_drop]; omega, by rw [hD]; simp only [rSelection, rNext, hE]⟩))
    · exact WT_env (by repeat first | exact .nil | refine .cons (by first | rfl | simp only [push_cast, ed, reduceCtorEq, ld]) ?_) (key [x3] x4 x2 x1 rfl (by assumption) (.inr ⟨by assumption, by simp only [rSelection, rNext, hE]⟩))
  · have hm := hm0
    unfold rdr at hm
    refine vc F46_ok rfl (fun hwf => ?_)
    have hrid := (hwf.mem _ _ hm).1
    have e1 : (st.nx = rid) = False := eq_false (by omega)
    have zx : (e == 0) = false := by simpa using he
    (repeat' first | ((first | (with_reducible intro x1 x2 x3 x4 hE hX hI <;> (try (cases (x3 : Fix))) <;> (try (cases (x3 : Cmd); cases ‹Fix›)) <;> (try (have hI2 := rSelO_inv_err hE; clear hE; have hE := hI2; clear hI2))) | (with_reducible intro x1 x2 x3 hE hI hD <;> (try (have hI2 := rSelO_inv hE; obtain ⟨l1, rfl, hI2⟩ := hI2; clear hE; have hE := hI2; clear hI2)) <;> (try (have hI2 := rUnit_inv hE; obtain ⟨u1, u2, rfl⟩ := hI2; dsimp only)) <;> (try (have hI2 := rPlace_inv hE; obtain ⟨n1, q1, rfl⟩ := hI2; dsimp only at hE ⊢)) <;> (try (cases (x1 : Cmd); cases ‹Fix›))) | (with_reducible intro x1 hE hI hD <;> (try (have hI2 := hdIs_t hE; try simp only [hI2]))) | with_reducible intro x1 hF | (with_reducible intro x1 <;> (try (cases (x1 : Fix))) <;> (try (cases (x1 : Cmd); cases ‹Fix›))) | refine go rfl rfl ?_ | refine CallX.c (by first | assumption | (simp only [stQ_eq, lookR, om, hm, e1, cells_selV, snap_sel, part_sel, push_cast, ed, reduceCtorEq, ld] <;> exact rfl)) (by assumption) (by assumption) (by first | assumption | decide) ?_ | refine Call0.c (by first | assumption | (simp only [stQ_eq, lookR, om, hm, e1, cells_selV, snap_sel, part_sel, push_cast, ed, reduceCtorEq, ld] <;> exact rfl)) (by assumption) (by assumption) (by assumption) ?_ | (refine Fk.by_ ?_ ?_ <;> intro hc <;> try simp only [hc]) | refine storeK_eq rfl ?_ | with_reducible refine an ?_ ?_) <;> try simp only [stQ_eq, lookR, om, hm, e1, cells_selV, snap_sel, part_sel, push_cast, ed, reduceCtorEq, ld]))
    refine WT_loop rfl (fun m e z => e = [(3, .osl st.nx 1), (2, .nils), (0, .ptr rid 0)] ∧ z = ⟨st.nx + 1, st.mem, (st.nx, ⟨43, 4, [selV x1], false, false⟩) :: st.arr, st.x⟩) (st.nx + 1) (Nat.le_refl _) (by rintro _ _ _ ⟨_, rfl⟩; rfl)
      ⟨0, _, _, ⟨rfl, rfl⟩, (by repeat first | exact .nil | refine .cons (by first | rfl | (simp [V.bd, V.bdL]; try first | omega | assumption)) (by first | rfl | simp only [push_cast, ed, reduceCtorEq, ld]) ?_), .refl (hwf.newA (bdL_sel (l := [x1])))⟩ ?_
    rintro m e z ⟨rfl, rfl⟩
    (repeat' first | ((first | (with_reducible intro x1 x2 x3 x4 hE hX hI <;> (try (cases (x3 : Fix))) <;> (try (cases (x3 : Cmd); cases ‹Fix›)) <;> (try (have hI2 := rSelO_inv_err hE; clear hE; have hE := hI2; clear hI2))) | (with_reducible intro x1 x2 x3 hE hI hD <;> (try (have hI2 := rSelO_inv hE; obtain ⟨l1, rfl, hI2⟩ := hI2; clear hE; have hE := hI2; clear hI2)) <;> (try (have hI2 := rUnit_inv hE; obtain ⟨u1, u2, rfl⟩ := hI2; dsimp only)) <;> (try (have hI2 := rPlace_inv hE; obtain ⟨n1, q1, rfl⟩ := hI2; dsimp only at hE ⊢)) <;> (try (cases (x1 : Cmd); cases ‹Fix›))) | (with_reducible intro x1 hE hI hD <;> (try (have hI2 := hdIs_t hE; try simp only [hI2]))) | with_reducible intro x1 hF | (with_reducible intro x1 <;> (try (cases (x1 : Fix))) <;> (try (cases (x1 : Cmd); cases ‹Fix›))) | refine go rfl rfl ?_ | refine CallX.c (by first | assumption | (simp only [stQ_eq, lookR, om, hm, e1, zx, push_cast, ed, reduceCtorEq, ld] <;> exact rfl)) (by assumption) (by assumption) (by first | assumption | decide) ?_ | refine Call0.c (by first | assumption | (simp only [stQ_eq, lookR, om, hm, e1, zx, push_cast, ed, reduceCtorEq, ld] <;> exact rfl)) (by assumption) (by assumption) (by assumption) ?_ | (refine Fk.by_ ?_ ?_ <;> intro hc <;> try simp only [hc]) | refine storeK_eq rfl ?_ | with_reducible refine an ?_ ?_) <;> try simp only [stQ_eq, lookR, om, hm, e1, zx, push_cast, ed, reduceCtorEq, ld]))
    all_goals first | (exact finXx (a := none) hwf (by first | exact .inl rfl | exact .inr rfl) (by first | rfl | (simp only [F46, push_cast, ed, reduceCtorEq, ld]; exact rfl)) rfl (by first | rfl | assumption | exact bd_cmd | (simp [V.bd, V.bdL]; done) | fail) (by simp) (by first | ((repeat first | exact (hwf).subm | refine Sub.drop (by simp) ?_); done) | fail) (by simp [(hwf).z]) (hwf).subx)
instance : Call0 46 [] (P0 rSelO selO) := (rfselection_v).k0
instance : CallX 46 [] (PX selO) := (rfselection_v).kx
theorem rSelO_inv {ts ts' : List Tok} {o : Option (List Sel)} (h : rSelO ts = .ok (o, ts')) : ∃ l, some l = o ∧ rSelection ts = .ok (l, ts') := by
 unfold rSelO rNext at h
 split at h
 ·rename_i a t he
  injection h with h; injection h with h1 h2
  exact ⟨a, h1, by rw [he, h2]⟩
 ·cases h
theorem rSelO_inv_err {ts : List Tok} {q : Int × Int} (h : rSelO ts = .error q) : rSelection ts = .error q := by
 unfold rSelO rNext at h
 split at h
 ·cases h
 ·rename_i he
  injection h with h; rw [he, h]
theorem hdIs_t {k : Int} {s : List UInt8} {ts : List Tok} (h : hdIs k s ts = true) : (hd ts).t = s := by
 simp only [hdIs, Bool.and_eq_true, beq_iff_eq] at h
 exact h.2
def rFd (verb : List UInt8) : Rd Cmd := fun ts => if (verb == [98, 108, 97, 99, 107, 111, 117, 116]) = true then rBlackout verb ts else rFader verb ts
set_option maxHeartbeats 4000000 in
theorem rfplace_v (c : Cmd) : RfC 73 [cmdV c] (rPlace c) cmdV := by
 obtain ⟨c1, c2, c3, c4, c5, c6, c7, c8, c9, c10, c11, ⟨d1, d2, d3, d4, d5, d6⟩⟩ := c
 refine rfc_of (fun st rid T i ts hw hi hD hwt hm0 => ?_) (fun st rid T i ts e p hw hi hD hwt he hm0 => ?_)
 ·have hm := hm0
  unfold rdr at hm
  refine vc F73_ok rfl (fun hwf => ?_)
  have hrid := (hwf.mem _ _ hm).1
  have e1 : (st.nx = rid) = False := eq_false (by omega)
  have e2 : (st.nx + 1 = rid) = False := eq_false (by omega)
  have e3 : (st.nx + 2 = rid) = False := eq_false (by omega)
  have e4 : (st.nx + 3 = rid) = False := eq_false (by omega)
  have h33 : ((hd ts).k == 3) = !((hd ts).k != 3) := by simp [bne]
  (repeat' first | ((first | (with_reducible intro x1 x2 x3 x4 hE hX hI <;> (try (cases (x3 : Fix))) <;> (try (cases (x3 : Cmd); cases ‹Fix›)) <;> (try (have hI2 := rSelO_inv_err hE; clear hE; have hE := hI2; clear hI2))) | (with_reducible intro x1 x2 x3 hE hI hD <;> (try (have hI2 := rSelO_inv hE; obtain ⟨l1, rfl, hI2⟩ := hI2; clear hE; have hE := hI2; clear hI2)) <;> (try (have hI2 := rUnit_inv hE; obtain ⟨u1, u2, rfl⟩ := hI2; dsimp only)) <;> (try (have hI2 := rPlace_inv hE; obtain ⟨n1, q1, rfl⟩ := hI2; dsimp only at hE ⊢)) <;> (try (cases (x1 : Cmd); cases ‹Fix›))) | (with_reducible intro x1 hE hI hD <;> (try (have hI2 := hdIs_t hE; try simp only [hI2]))) | with_reducible intro x1 hF | (with_reducible intro x1 <;> (try (cases (x1 : Fix))) <;> (try (cases (x1 : Cmd); cases ‹Fix›))) | refine go rfl rfl ?_ | refine CallX.c (by first | assumption | (simp only [stQ_eq, lookR, om, hm, e1, e2, e3, e4, tkV, cmdV, cmdL, fixV, plSt_eq, cells_selO, part_selO, h33, push_cast, ed, reduceCtorEq, ld] <;> exact rfl)) (by assumption) (by assumption) (by first | assumption | decide) ?_ | refine Call0.c (by first | assumption | (simp only [stQ_eq, lookR, om, hm, e1, e2, e3, e4, tkV, cmdV, cmdL, fixV, plSt_eq, cells_selO, part_selO, h33, push_cast, ed, reduceCtorEq, ld] <;> exact rfl)) (by assumption) (by assumption) (by assumption) ?_ | (refine Fk.by_ ?_ ?_ <;> intro hc <;> try simp only [hc]) | refine storeK_eq rfl ?_ | with_reducible refine an ?_ ?_) <;> try simp only [stQ_eq, lookR, om, hm, e1, e2, e3, e4, tkV, cmdV, cmdL, fixV, plSt_eq, cells_selO, part_selO, h33, push_cast, ed, reduceCtorEq, ld]))
  all_goals first | (exact finF (a := ⟨_, _, _, _, _, _, _, _, _, _, _, ⟨_, _, _, _, _, _⟩⟩) hwf (by first | exact .inl rfl | exact .inr rfl) (by first | ((repeat first | exact (wfQ hwf _ _ _ _).subm | exact subQ hm0 hwf | refine Sub.drop (by simp) ?_); done) | fail) (by first | rfl | (simp only [F73, cmdV, cmdL, rPlace, rPl, rNext, rOk, rSlash, rSign, push_cast, ed, reduceCtorEq, ld]; exact rfl)) rfl (by assumption) (by first | exact .inl ⟨rfl, rfl, _, by assumption, (by first | assumption | (simp only [F73, cmdV, cmdL, rPlace, rPl, rNext, rOk, rSlash, rSign, if_true, if_false, bf, *]; done) | (simp [F73, cmdV, cmdL, rPlace, rPl, rNext, rOk, rSlash, rSign, *]; done) | fail)⟩ | exact .inr ⟨by first | assumption | decide, (by first | assumption | (simp only [F73, cmdV, cmdL, rPlace, rPl, rNext, rOk, rSlash, rSign, if_true, if_false, bf, *]; done) | (simp [F73, cmdV, cmdL, rPlace, rPl, rNext, rOk, rSlash, rSign, *]; done) | fail)⟩) (by first | rfl | assumption | exact bd_cmd | (simp [V.bd, V.bdL]; done) | fail) (by simp) (by simp [(hwf).z]) (hwf).subx)
 ·have hm := hm0
  unfold rdr at hm
  refine vc F73_ok rfl (fun hwf => ?_)
  have hrid := (hwf.mem _ _ hm).1
  have e1 : (st.nx = rid) = False := eq_false (by omega)
  have e2 : (st.nx + 1 = rid) = False := eq_false (by omega)
  have e3 : (st.nx + 2 = rid) = False := eq_false (by omega)
  have e4 : (st.nx + 3 = rid) = False := eq_false (by omega)
  have h33 : ((hd ts).k == 3) = !((hd ts).k != 3) := by simp [bne]
  (repeat' first | ((first | (with_reducible intro x1 x2 x3 x4 hE hX hI <;> (try (cases (x3 : Fix))) <;> (try (cases (x3 : Cmd); cases ‹Fix›)) <;> (try (have hI2 := rSelO_inv_err hE; clear hE; have hE := hI2; clear hI2))) | (with_reducible intro x1 x2 x3 hE hI hD <;> (try (have hI2 := rSelO_inv hE; obtain ⟨l1, rfl, hI2⟩ := hI2; clear hE; have hE := hI2; clear hI2)) <;> (try (have hI2 := rUnit_inv hE; obtain ⟨u1, u2, rfl⟩ := hI2; dsimp only)) <;> (try (have hI2 := rPlace_inv hE; obtain ⟨n1, q1, rfl⟩ := hI2; dsimp only at hE ⊢)) <;> (try (cases (x1 : Cmd); cases ‹Fix›))) | (with_reducible intro x1 hE hI hD <;> (try (have hI2 := hdIs_t hE; try simp only [hI2]))) | with_reducible intro x1 hF | (with_reducible intro x1 <;> (try (cases (x1 : Fix))) <;> (try (cases (x1 : Cmd); cases ‹Fix›))) | refine go rfl rfl ?_ | refine CallX.c (by first | assumption | (simp only [stQ_eq, lookR, om, hm, e1, e2, e3, e4, tkV, cmdV, cmdL, fixV, plSt_eq, cells_selO, part_selO, h33, push_cast, ed, reduceCtorEq, ld] <;> exact rfl)) (by assumption) (by assumption) (by first | assumption | decide) ?_ | refine Call0.c (by first | assumption | (simp only [stQ_eq, lookR, om, hm, e1, e2, e3, e4, tkV, cmdV, cmdL, fixV, plSt_eq, cells_selO, part_selO, h33, push_cast, ed, reduceCtorEq, ld] <;> exact rfl)) (by assumption) (by assumption) (by assumption) ?_ | (refine Fk.by_ ?_ ?_ <;> intro hc <;> try simp only [hc]) | refine storeK_eq rfl ?_ | with_reducible refine an ?_ ?_) <;> try simp only [stQ_eq, lookR, om, hm, e1, e2, e3, e4, tkV, cmdV, cmdL, fixV, plSt_eq, cells_selO, part_selO, h33, push_cast, ed, reduceCtorEq, ld]))
  all_goals first | (exact finXx (a := ⟨_, _, _, _, _, _, _, _, _, _, _, ⟨_, _, _, _, _, _⟩⟩) hwf (by first | exact .inl rfl | exact .inr rfl) (by first | rfl | (simp only [F73, cmdV, cmdL, selO, push_cast, ed, reduceCtorEq, ld]; exact rfl)) rfl (by first | rfl | assumption | exact bd_cmd | (simp [V.bd, V.bdL]; done) | fail) (by simp) (by first | ((repeat first | exact (hwf).subm | refine Sub.drop (by simp) ?_); done) | fail) (by simp [(hwf).z]) (hwf).subx)
theorem rPlace_inv {c a : Cmd} {ts ts' : List Tok} (h : rPlace c ts = .ok (a, ts')) : ∃ n q, { c with list := n, num := q } = a := by
 unfold rPlace rNext at h
 split at h
 ·injection h with h; injection h with h _
  exact ⟨_, _, h⟩
 ·cases h
instance {c1 : Int} {c2 c3 c4 : List UInt8} {c5 c7 c8 c9 c10 c11 d1 d2 d4 d5 d6 : Int} {d3 : List UInt8} : Call0 73 [.agg [.int .i64 c1, .str c2, .str c3, .str c4, .int .i64 c5, .nils, .int .i64 c7, .int .i64 c8, .int .i64 c9, .int .i64 c10, .int .i64 c11, .int .i64 d1, .int .i64 d2, .str d3, .int .i64 d4, .int .i64 d5, .int .i64 d6, .str [], .nils]] (P0 (rPlace ⟨c1, c2, c3, c4, c5, none, c7, c8, c9, c10, c11, ⟨d1, d2, d3, d4, d5, d6⟩⟩) cmdV) := (rfplace_v ⟨c1, c2, c3, c4, c5, none, c7, c8, c9, c10, c11, ⟨d1, d2, d3, d4, d5, d6⟩⟩).k0
instance {c1 : Int} {c2 c3 c4 : List UInt8} {c5 c7 c8 c9 c10 c11 d1 d2 d4 d5 d6 : Int} {d3 : List UInt8} : CallX 73 [.agg [.int .i64 c1, .str c2, .str c3, .str c4, .int .i64 c5, .nils, .int .i64 c7, .int .i64 c8, .int .i64 c9, .int .i64 c10, .int .i64 c11, .int .i64 d1, .int .i64 d2, .str d3, .int .i64 d4, .int .i64 d5, .int .i64 d6, .str [], .nils]] (PX cmdV) := (rfplace_v ⟨c1, c2, c3, c4, c5, none, c7, c8, c9, c10, c11, ⟨d1, d2, d3, d4, d5, d6⟩⟩).kx
set_option maxHeartbeats 40000000 in
theorem rfcmds0 : Rf0 69 [] rSet cmdV ∧ Rf0 70 [] rClear cmdV ∧ Rf0 71 [] rRecord cmdV ∧ Rf0 74 [] rRemove cmdV ∧ Rf0 75 [] rPatch cmdV ∧ (∀ w, Rf0 76 [.str w] (rPlay w) cmdV) ∧ (∀ w, Rf0 77 [.str w] (rFd w) cmdV) ∧ Rf0 78 [] (rEffect [101, 102, 102, 101, 99, 116]) cmdV := by
 refine ⟨?_, ?_, ?_, ?_, ?_, fun w => ?_, fun w => ?_, ?_⟩
 all_goals (
  intro st rid T i ts hw hi hD hwt hm0
  have hm := hm0
  unfold rdr at hm
  first | refine vc F69_ok rfl (fun hwf => ?_) | refine vc F70_ok rfl (fun hwf => ?_) | refine vc F71_ok rfl (fun hwf => ?_) | refine vc F74_ok rfl (fun hwf => ?_) | refine vc F75_ok rfl (fun hwf => ?_) | refine vc F76_ok rfl (fun hwf => ?_) | refine vc F77_ok rfl (fun hwf => ?_) | refine vc F78_ok rfl (fun hwf => ?_)
  have hrid := (hwf.mem _ _ hm).1
  have e1 : (st.nx = rid) = False := eq_false (by omega)
  have e2 : (st.nx + 1 = rid) = False := eq_false (by omega)
  have e3 : (st.nx + 2 = rid) = False := eq_false (by omega)
  have e4 : (st.nx + 3 = rid) = False := eq_false (by omega)
  have h33 : ((hd ts).k == 3) = !((hd ts).k != 3) := by simp [bne]
  (repeat' first | ((first | (with_reducible intro x1 x2 x3 x4 hE hX hI <;> (try (cases (x3 : Fix))) <;> (try (cases (x3 : Cmd); cases ‹Fix›)) <;> (try (have hI2 := rSelO_inv_err hE; clear hE; have hE := hI2; clear hI2))) | (with_reducible intro x1 x2 x3 hE hI hD <;> (try (have hI2 := rSelO_inv hE; obtain ⟨l1, rfl, hI2⟩ := hI2; clear hE; have hE := hI2; clear hI2)) <;> (try (have hI2 := rUnit_inv hE; obtain ⟨u1, u2, rfl⟩ := hI2; dsimp only)) <;> (try (have hI2 := rPlace_inv hE; obtain ⟨n1, q1, rfl⟩ := hI2; dsimp only at hE ⊢)) <;> (try (cases (x1 : Cmd); cases ‹Fix›))) | (with_reducible intro x1 hE hI hD <;> (try (have hI2 := hdIs_t hE; try simp only [hI2]))) | with_reducible intro x1 hF | (with_reducible intro x1 <;> (try (cases (x1 : Fix))) <;> (try (cases (x1 : Cmd); cases ‹Fix›))) | refine go rfl rfl ?_ | refine CallX.c (by first | assumption | (simp only [stQ_eq, lookR, om, hm, e1, e2, e3, e4, tkV, cmdV, cmdL, fixV, plSt_eq, cells_selO, part_selO, h33, push_cast, ed, reduceCtorEq, ld] <;> exact rfl)) (by assumption) (by assumption) (by first | assumption | decide) ?_ | refine Call0.c (by first | assumption | (simp only [stQ_eq, lookR, om, hm, e1, e2, e3, e4, tkV, cmdV, cmdL, fixV, plSt_eq, cells_selO, part_selO, h33, push_cast, ed, reduceCtorEq, ld] <;> exact rfl)) (by assumption) (by assumption) (by assumption) ?_ | (refine Fk.by_ ?_ ?_ <;> intro hc <;> try simp only [hc]) | refine storeK_eq rfl ?_ | with_reducible refine an ?_ ?_) <;> try simp only [stQ_eq, lookR, om, hm, e1, e2, e3, e4, tkV, cmdV, cmdL, fixV, plSt_eq, cells_selO, part_selO, h33, push_cast, ed, reduceCtorEq, ld]))
  all_goals first | (exact finF (a := ⟨_, _, _, _, _, none, _, _, _, _, _, ⟨_, _, _, _, _, _⟩⟩) hwf (by first | exact .inl rfl | exact .inr rfl) (by first | ((repeat first | exact (wfQ hwf _ _ _ _).subm | exact subQ hm0 hwf | refine Sub.drop (by simp) ?_); done) | fail) (by first | rfl | (simp only [F69, F70, F71, F74, F75, F76, F77, F78, cmdV, cmdL, fixV, rSet, rClear, rRecord, rRemove, rPatch, rPlay, rFd, rEffect, rBlackout, rFader, rNext, rOk, rWord, rNeed, rSlash, rSign, cmd0, fix0, push_cast, ed, reduceCtorEq, ld]; exact rfl)) rfl (by assumption) (by first | exact .inl ⟨rfl, rfl, _, by assumption, (by first | assumption | (simp only [F69, F70, F71, F74, F75, F76, F77, F78, cmdV, cmdL, fixV, rSet, rClear, rRecord, rRemove, rPatch, rPlay, rFd, rEffect, rBlackout, rFader, rNext, rOk, rWord, rNeed, rSlash, rSign, cmd0, fix0, if_true, if_false, bf, *]; done) | (simp [F69, F70, F71, F74, F75, F76, F77, F78, cmdV, cmdL, fixV, rSet, rClear, rRecord, rRemove, rPatch, rPlay, rFd, rEffect, rBlackout, rFader, rNext, rOk, rWord, rNeed, rSlash, rSign, cmd0, fix0, *]; done) | fail)⟩ | exact .inr ⟨by first | assumption | decide, (by first | assumption | (simp only [F69, F70, F71, F74, F75, F76, F77, F78, cmdV, cmdL, fixV, rSet, rClear, rRecord, rRemove, rPatch, rPlay, rFd, rEffect, rBlackout, rFader, rNext, rOk, rWord, rNeed, rSlash, rSign, cmd0, fix0, if_true, if_false, bf, *]; done) | (simp [F69, F70, F71, F74, F75, F76, F77, F78, cmdV, cmdL, fixV, rSet, rClear, rRecord, rRemove, rPatch, rPlay, rFd, rEffect, rBlackout, rFader, rNext, rOk, rWord, rNeed, rSlash, rSign, cmd0, fix0, *]; done) | fail)⟩) (by first | rfl | assumption | exact bd_cmd | (simp [V.bd, V.bdL]; done) | fail) (by simp) (by simp [(hwf).z]) (hwf).subx) | (exact finF (a := ⟨_, _, _, _, _, _, _, _, _, _, _, ⟨_, _, _, _, _, _⟩⟩) hwf (by first | exact .inl rfl | exact .inr rfl) (by first | ((repeat first | exact (wfQ hwf _ _ _ _).subm | exact subQ hm0 hwf | refine Sub.drop (by simp) ?_); done) | fail) (by first | rfl | (simp only [F69, F70, F71, F74, F75, F76, F77, F78, cmdV, cmdL, fixV, rSet, rClear, rRecord, rRemove, rPatch, rPlay, rFd, rEffect, rBlackout, rFader, rNext, rOk, rWord, rNeed, rSlash, rSign, cmd0, fix0, push_cast, ed, reduceCtorEq, ld]; exact rfl)) rfl (by assumption) (by first | exact .inl ⟨rfl, rfl, _, by assumption, (by first | assumption | (simp only [F69, F70, F71, F74, F75, F76, F77, F78, cmdV, cmdL, fixV, rSet, rClear, rRecord, rRemove, rPatch, rPlay, rFd, rEffect, rBlackout, rFader, rNext, rOk, rWord, rNeed, rSlash, rSign, cmd0, fix0, if_true, if_false, bf, *]; done) | (simp [F69, F70, F71, F74, F75, F76, F77, F78, cmdV, cmdL, fixV, rSet, rClear, rRecord, rRemove, rPatch, rPlay, rFd, rEffect, rBlackout, rFader, rNext, rOk, rWord, rNeed, rSlash, rSign, cmd0, fix0, *]; done) | fail)⟩ | exact .inr ⟨by first | assumption | decide, (by first | assumption | (simp only [F69, F70, F71, F74, F75, F76, F77, F78, cmdV, cmdL, fixV, rSet, rClear, rRecord, rRemove, rPatch, rPlay, rFd, rEffect, rBlackout, rFader, rNext, rOk, rWord, rNeed, rSlash, rSign, cmd0, fix0, if_true, if_false, bf, *]; done) | (simp [F69, F70, F71, F74, F75, F76, F77, F78, cmdV, cmdL, fixV, rSet, rClear, rRecord, rRemove, rPatch, rPlay, rFd, rEffect, rBlackout, rFader, rNext, rOk, rWord, rNeed, rSlash, rSign, cmd0, fix0, *]; done) | fail)⟩) (by first | rfl | assumption | exact bd_cmd | (simp [V.bd, V.bdL]; done) | fail) (by simp) (by simp [(hwf).z]) (hwf).subx) | (exfalso; simp_all; done))
set_option maxHeartbeats 40000000 in
theorem rfcmdsX : RfE 69 [] cmdV ∧ RfE 70 [] cmdV ∧ RfE 71 [] cmdV ∧ RfE 74 [] cmdV ∧ RfE 75 [] cmdV ∧ (∀ w, RfE 76 [.str w] cmdV) ∧ (∀ w, RfE 77 [.str w] cmdV) ∧ RfE 78 [] cmdV := by
 refine ⟨?_, ?_, ?_, ?_, ?_, fun w => ?_, fun w => ?_, ?_⟩
 all_goals (
  intro st rid T i ts e p hw hi hD hwt he hm0
  have hm := hm0
  unfold rdr at hm
  first | refine vc F69_ok rfl (fun hwf => ?_) | refine vc F70_ok rfl (fun hwf => ?_) | refine vc F71_ok rfl (fun hwf => ?_) | refine vc F74_ok rfl (fun hwf => ?_) | refine vc F75_ok rfl (fun hwf => ?_) | refine vc F76_ok rfl (fun hwf => ?_) | refine vc F77_ok rfl (fun hwf => ?_) | refine vc F78_ok rfl (fun hwf => ?_)
  have hrid := (hwf.mem _ _ hm).1
  have e1 : (st.nx = rid) = False := eq_false (by omega)
  have e2 : (st.nx + 1 = rid) = False := eq_false (by omega)
  have e3 : (st.nx + 2 = rid) = False := eq_false (by omega)
  have e4 : (st.nx + 3 = rid) = False := eq_false (by omega)
  have h33 : ((hd ts).k == 3) = !((hd ts).k != 3) := by simp [bne]
  (repeat' first | ((first | (with_reducible intro x1 x2 x3 x4 hE hX hI <;> (try (cases (x3 : Fix))) <;> (try (cases (x3 : Cmd); cases ‹Fix›)) <;> (try (have hI2 := rSelO_inv_err hE; clear hE; have hE := hI2; clear hI2))) | (with_reducible intro x1 x2 x3 hE hI hD <;> (try (have hI2 := rSelO_inv hE; obtain ⟨l1, rfl, hI2⟩ := hI2; clear hE; have hE := hI2; clear hI2)) <;> (try (have hI2 := rUnit_inv hE; obtain ⟨u1, u2, rfl⟩ := hI2; dsimp only)) <;> (try (have hI2 := rPlace_inv hE; obtain ⟨n1, q1, rfl⟩ := hI2; dsimp only at hE ⊢)) <;> (try (cases (x1 : Cmd); cases ‹Fix›))) | (with_reducible intro x1 hE hI hD <;> (try (have hI2 := hdIs_t hE; try simp only [hI2]))) | with_reducible intro x1 hF | (with_reducible intro x1 <;> (try (cases (x1 : Fix))) <;> (try (cases (x1 : Cmd); cases ‹Fix›))) | refine go rfl rfl ?_ | refine CallX.c (by first | assumption | (simp only [stQ_eq, lookR, om, hm, e1, e2, e3, e4, tkV, cmdV, cmdL, fixV, plSt_eq, cells_selO, part_selO, h33, push_cast, ed, reduceCtorEq, ld] <;> exact rfl)) (by assumption) (by assumption) (by first | assumption | decide) ?_ | refine Call0.c (by first | assumption | (simp only [stQ_eq, lookR, om, hm, e1, e2, e3, e4, tkV, cmdV, cmdL, fixV, plSt_eq, cells_selO, part_selO, h33, push_cast, ed, reduceCtorEq, ld] <;> exact rfl)) (by assumption) (by assumption) (by assumption) ?_ | (refine Fk.by_ ?_ ?_ <;> intro hc <;> try simp only [hc]) | refine storeK_eq rfl ?_ | with_reducible refine an ?_ ?_) <;> try simp only [stQ_eq, lookR, om, hm, e1, e2, e3, e4, tkV, cmdV, cmdL, fixV, plSt_eq, cells_selO, part_selO, h33, push_cast, ed, reduceCtorEq, ld]))
  all_goals first | (exact finXx (a := ⟨_, _, _, _, _, none, _, _, _, _, _, ⟨_, _, _, _, _, _⟩⟩) hwf (by first | exact .inl rfl | exact .inr rfl) (by first | rfl | (simp only [F69, F70, F71, F74, F75, F76, F77, F78, cmdV, cmdL, fixV, selO, push_cast, ed, reduceCtorEq, ld]; exact rfl)) rfl (by first | rfl | assumption | exact bd_cmd | (simp [V.bd, V.bdL]; done) | fail) (by simp) (by first | ((repeat first | exact (hwf).subm | refine Sub.drop (by simp) ?_); done) | fail) (by simp [(hwf).z]) (hwf).subx) | (exact finXx (a := ⟨_, _, _, _, _, _, _, _, _, _, _, ⟨_, _, _, _, _, _⟩⟩) hwf (by first | exact .inl rfl | exact .inr rfl) (by first | rfl | (simp only [F69, F70, F71, F74, F75, F76, F77, F78, cmdV, cmdL, fixV, selO, push_cast, ed, reduceCtorEq, ld]; exact rfl)) rfl (by first | rfl | assumption | exact bd_cmd | (simp [V.bd, V.bdL]; done) | fail) (by simp) (by first | ((repeat first | exact (hwf).subm | refine Sub.drop (by simp) ?_); done) | fail) (by simp [(hwf).z]) (hwf).subx))
theorem rfset_v : RfC 69 [] rSet cmdV := rfc_of (rfcmds0.1) (rfcmdsX.1)
theorem rfclear_v : RfC 70 [] rClear cmdV := rfc_of (rfcmds0.2.1) (rfcmdsX.2.1)
theorem rfrecord_v : RfC 71 [] rRecord cmdV := rfc_of (rfcmds0.2.2.1) (rfcmdsX.2.2.1)
theorem rfremove_v : RfC 74 [] rRemove cmdV := rfc_of (rfcmds0.2.2.2.1) (rfcmdsX.2.2.2.1)
theorem rfpatch_v : RfC 75 [] rPatch cmdV := rfc_of (rfcmds0.2.2.2.2.1) (rfcmdsX.2.2.2.2.1)
theorem rfplay_v (w : List UInt8) : RfC 76 [.str w] (rPlay w) cmdV := rfc_of (rfcmds0.2.2.2.2.2.1 w) (rfcmdsX.2.2.2.2.2.1 w)
theorem rffader_v (w : List UInt8) : RfC 77 [.str w] (rFd w) cmdV := rfc_of (rfcmds0.2.2.2.2.2.2.1 w) (rfcmdsX.2.2.2.2.2.2.1 w)
theorem rfeffect_v : RfC 78 [] (rEffect [101, 102, 102, 101, 99, 116]) cmdV := rfc_of (rfcmds0.2.2.2.2.2.2.2) (rfcmdsX.2.2.2.2.2.2.2)
instance : Call0 69 [] (P0 rSet cmdV) := (rfset_v).k0
instance : Call0 70 [] (P0 rClear cmdV) := (rfclear_v).k0
instance : Call0 71 [] (P0 rRecord cmdV) := (rfrecord_v).k0
instance : Call0 74 [] (P0 rRemove cmdV) := (rfremove_v).k0
instance : Call0 75 [] (P0 rPatch cmdV) := (rfpatch_v).k0
instance {w : List UInt8} : Call0 76 [.str w] (P0 (rPlay w) cmdV) := (rfplay_v w).k0
instance {w : List UInt8} : Call0 77 [.str w] (P0 (rFd w) cmdV) := (rffader_v w).k0
instance : Call0 78 [] (P0 (rEffect [101, 102, 102, 101, 99, 116]) cmdV) := (rfeffect_v).k0
theorem rCmd_is {ts : List Tok} {w : List UInt8} {q : Nat × (List UInt8 → Rd Cmd)} (h0 : ((hd ts).k != 0) = false) (h1 : ((hd ts).t == [103, 114, 111, 117, 112]) = false) (h : ((hd ts).t == w) = true) (hq : lukT w tabV = some q) : (hd ts).t = w ∧ rCommand ts = q.2 w ts.tail := by
 have ht : (hd ts).t = w := by simpa using h
 refine ⟨ht, ?_⟩
 unfold rCommand
 rw [h0, h1, if_neg (by decide), ht, hq]
theorem rCmd_none {ts : List Tok} (h0 : ((hd ts).k != 0) = false) (h1 : ((hd ts).t == [103, 114, 111, 117, 112]) = false) (h : lukT (hd ts).t tabV = none) : rCommand ts = .error ((hd ts).a, 4) := by
 unfold rCommand
 rw [h0, h1, if_neg (by decide), h]
theorem rFd_no {v : List UInt8} (h : (v == [98, 108, 97, 99, 107, 111, 117, 116]) = false) {ts : List Tok} : rFd v ts = rFader v ts := by
 unfold rFd; rw [h, if_neg (by decide)]
theorem rFd_yes {ts : List Tok} : rFd [98, 108, 97, 99, 107, 111, 117, 116] ts = rBlackout [98, 108, 97, 99, 107, 111, 117, 116] ts := rfl
theorem rCmd_set {ts : List Tok} (h : ((hd ts).k != 0 || (hd ts).t == [103, 114, 111, 117, 112]) = true) : rCommand ts = rSet ts := by
 unfold rCommand
 rw [if_pos h]
set_option maxHeartbeats 8000000 in
theorem rfcommand_0 (st : St) (rid : Nat) (T : List Tok) (i : Nat) (ts : List Tok) (hw : WfT T) (hi : i < T.length) (hD : T.drop i = ts) (hm0 : Sha.look st.mem rid = some (rdr T i 0 0)) : VCalls Tryz.prog 29 [.ptr rid 0] st (rf0 rCommand cmdV st rid T ts) := by
  have hwt := hw.at hi hD
  have hm := hm0
  unfold rdr at hm
  refine vc F29_ok rfl (fun hwf => ?_)
  have hrid := (hwf.mem _ _ hm).1
  have e1 : (st.nx = rid) = False := eq_false (by omega)
  have e2 : (st.nx + 1 = rid) = False := eq_false (by omega)
  have e3 : (st.nx + 2 = rid) = False := eq_false (by omega)
  have e4 : (st.nx + 3 = rid) = False := eq_false (by omega)
  cases hk : (hd ts).k != 0 with
  | true =>
    have hR := rCmd_set (ts := ts) (by rw [hk]; rfl)
    (repeat' first | ((first | (with_reducible intro x1 x2 x3 x4 hE hX hI <;> (try (cases (x3 : Fix))) <;> (try (cases (x3 : Cmd); cases ‹Fix›)) <;> (try (have hI2 := rSelO_inv_err hE; clear hE; have hE := hI2; clear hI2))) | (with_reducible intro x1 x2 x3 hE hI hD <;> (try (have hI2 := rSelO_inv hE; obtain ⟨l1, rfl, hI2⟩ := hI2; clear hE; have hE := hI2; clear hI2)) <;> (try (have hI2 := rUnit_inv hE; obtain ⟨u1, u2, rfl⟩ := hI2; dsimp only)) <;> (try (have hI2 := rPlace_inv hE; obtain ⟨n1, q1, rfl⟩ := hI2; dsimp only at hE ⊢)) <;> (try (cases (x1 : Cmd); cases ‹Fix›))) | (with_reducible intro x1 hE hI hD <;> (try (have hI2 := hdIs_t hE; try simp only [hI2]))) | with_reducible intro x1 hF | (with_reducible intro x1 <;> (try (cases (x1 : Fix))) <;> (try (cases (x1 : Cmd); cases ‹Fix›))) | refine go rfl rfl ?_ | refine CallX.c (by first | assumption | (simp only [stQ_eq, lookR, om, hm, e1, e2, e3, e4, tkV, hk, V.cells, cmdV, cmdL, push_cast, ed, reduceCtorEq, ld] <;> exact rfl)) (by assumption) (by assumption) (by first | assumption | decide) ?_ | refine Call0.c (by first | assumption | (simp only [stQ_eq, lookR, om, hm, e1, e2, e3, e4, tkV, hk, V.cells, cmdV, cmdL, push_cast, ed, reduceCtorEq, ld] <;> exact rfl)) (by assumption) (by assumption) (by assumption) ?_ | (refine Fk.by_ ?_ ?_ <;> intro hc <;> try simp only [hc]) | refine storeK_eq rfl ?_ | with_reducible refine an ?_ ?_) <;> try simp only [stQ_eq, lookR, om, hm, e1, e2, e3, e4, tkV, hk, V.cells, cmdV, cmdL, push_cast, ed, reduceCtorEq, ld]))
    all_goals first | (exact finF (a := ⟨_, _, _, _, _, _, _, _, _, _, _, ⟨_, _, _, _, _, _⟩⟩) hwf (by first | exact .inl rfl | exact .inr rfl) (by first | ((repeat first | exact (wfQ hwf _ _ _ _).subm | exact subQ hm0 hwf | refine Sub.drop (by simp) ?_); done) | fail) (by first | rfl | (simp only [F29, cmdV, cmdL, push_cast, ed, reduceCtorEq, ld]; exact rfl)) rfl (by assumption) (by first | exact .inl ⟨rfl, rfl, _, by assumption, (by first | assumption | (simp only [F29, cmdV, cmdL, if_true, if_false, bf, *]; done) | (simp [F29, cmdV, cmdL, *]; done) | fail)⟩ | exact .inr ⟨by first | assumption | decide, (by first | assumption | (simp only [F29, cmdV, cmdL, if_true, if_false, bf, *]; done) | (simp [F29, cmdV, cmdL, *]; done) | fail)⟩) (by first | rfl | assumption | exact bd_cmd | (simp [V.bd, V.bdL]; done) | fail) (by simp) (by simp [(hwf).z]) (hwf).subx)
  | false =>
  cases hg : (hd ts).t == [103, 114, 111, 117, 112] with
  | true =>
    have hR := rCmd_set (ts := ts) (by rw [hk, hg]; rfl)
    (repeat' first | ((first | (with_reducible intro x1 x2 x3 x4 hE hX hI <;> (try (cases (x3 : Fix))) <;> (try (cases (x3 : Cmd); cases ‹Fix›)) <;> (try (have hI2 := rSelO_inv_err hE; clear hE; have hE := hI2; clear hI2))) | (with_reducible intro x1 x2 x3 hE hI hD <;> (try (have hI2 := rSelO_inv hE; obtain ⟨l1, rfl, hI2⟩ := hI2; clear hE; have hE := hI2; clear hI2)) <;> (try (have hI2 := rUnit_inv hE; obtain ⟨u1, u2, rfl⟩ := hI2; dsimp only)) <;> (try (have hI2 := rPlace_inv hE; obtain ⟨n1, q1, rfl⟩ := hI2; dsimp only at hE ⊢)) <;> (try (cases (x1 : Cmd); cases ‹Fix›))) | (with_reducible intro x1 hE hI hD <;> (try (have hI2 := hdIs_t hE; try simp only [hI2]))) | with_reducible intro x1 hF | (with_reducible intro x1 <;> (try (cases (x1 : Fix))) <;> (try (cases (x1 : Cmd); cases ‹Fix›))) | refine go rfl rfl ?_ | refine CallX.c (by first | assumption | (simp only [stQ_eq, lookR, om, hm, e1, e2, e3, e4, tkV, hk, hg, V.cells, cmdV, cmdL, push_cast, ed, reduceCtorEq, ld] <;> exact rfl)) (by assumption) (by assumption) (by first | assumption | decide) ?_ | refine Call0.c (by first | assumption | (simp only [stQ_eq, lookR, om, hm, e1, e2, e3, e4, tkV, hk, hg, V.cells, cmdV, cmdL, push_cast, ed, reduceCtorEq, ld] <;> exact rfl)) (by assumption) (by assumption) (by assumption) ?_ | (refine Fk.by_ ?_ ?_ <;> intro hc <;> try simp only [hc]) | refine storeK_eq rfl ?_ | with_reducible refine an ?_ ?_) <;> try simp only [stQ_eq, lookR, om, hm, e1, e2, e3, e4, tkV, hk, hg, V.cells, cmdV, cmdL, push_cast, ed, reduceCtorEq, ld]))
    all_goals first | (exact finF (a := ⟨_, _, _, _, _, _, _, _, _, _, _, ⟨_, _, _, _, _, _⟩⟩) hwf (by first | exact .inl rfl | exact .inr rfl) (by first | ((repeat first | exact (wfQ hwf _ _ _ _).subm | exact subQ hm0 hwf | refine Sub.drop (by simp) ?_); done) | fail) (by first | rfl | (simp only [F29, cmdV, cmdL, push_cast, ed, reduceCtorEq, ld]; exact rfl)) rfl (by assumption) (by first | exact .inl ⟨rfl, rfl, _, by assumption, (by first | assumption | (simp only [F29, cmdV, cmdL, if_true, if_false, bf, *]; done) | (simp [F29, cmdV, cmdL, *]; done) | fail)⟩ | exact .inr ⟨by first | assumption | decide, (by first | assumption | (simp only [F29, cmdV, cmdL, if_true, if_false, bf, *]; done) | (simp [F29, cmdV, cmdL, *]; done) | fail)⟩) (by first | rfl | assumption | exact bd_cmd | (simp [V.bd, V.bdL]; done) | fail) (by simp) (by simp [(hwf).z]) (hwf).subx)
  | false =>
  have hsm := hw.small
  obtain ⟨k, wk, hk1, hk2⟩ := step_at hw hi hD (k0_ne hk)
  have wb : IntKind.i64.wrap ((k : Int) - 1) = (i : Int) := by
    have := drop_lt hw hi hD (k0_ne hk)
    rw [wrap64 (by omega) (by omega)] at wk
    rw [wrap64 (by omega) (by omega)]; omega
  (repeat' first | ((first | (with_reducible intro x1 x2 x3 x4 hE hX hI <;> (try (cases (x3 : Fix))) <;> (try (cases (x3 : Cmd); cases ‹Fix›)) <;> (try (have hI2 := rSelO_inv_err hE; clear hE; have hE := hI2; clear hI2))) | (with_reducible intro x1 x2 x3 hE hI hD <;> (try (have hI2 := rSelO_inv hE; obtain ⟨l1, rfl, hI2⟩ := hI2; clear hE; have hE := hI2; clear hI2)) <;> (try (have hI2 := rUnit_inv hE; obtain ⟨u1, u2, rfl⟩ := hI2; dsimp only)) <;> (try (have hI2 := rPlace_inv hE; obtain ⟨n1, q1, rfl⟩ := hI2; dsimp only at hE ⊢)) <;> (try (cases (x1 : Cmd); cases ‹Fix›))) | (with_reducible intro x1 hE hI hD <;> (try (have hI2 := hdIs_t hE; try simp only [hI2]))) | with_reducible intro x1 hF | (with_reducible intro x1 <;> (try (cases (x1 : Fix))) <;> (try (cases (x1 : Cmd); cases ‹Fix›))) | refine go rfl rfl ?_ | refine CallX.c (by first | assumption | (simp only [stQ_eq, lookR, om, hm, e1, e2, e3, e4, tkV, hk, hg, V.cells, cmdV, cmdL, wk, wb, push_cast, ed, reduceCtorEq, ld] <;> exact rfl)) (by assumption) (by assumption) (by first | assumption | decide) ?_ | refine Call0.c (by first | assumption | (simp only [stQ_eq, lookR, om, hm, e1, e2, e3, e4, tkV, hk, hg, V.cells, cmdV, cmdL, wk, wb, push_cast, ed, reduceCtorEq, ld] <;> exact rfl)) (by assumption) (by assumption) (by assumption) ?_ | (refine Fk.by_ ?_ ?_ <;> intro hc <;> try simp only [hc]) | refine storeK_eq rfl ?_ | with_reducible refine an ?_ ?_) <;> try simp only [stQ_eq, lookR, om, hm, e1, e2, e3, e4, tkV, hk, hg, V.cells, cmdV, cmdL, wk, wb, push_cast, ed, reduceCtorEq, ld]))
  all_goals first
    | (have hQ := rCmd_is hk hg (by assumption) (by rfl)
       obtain ⟨hT, hR⟩ := hQ
       dsimp only at hR
       (try rw [hT] at hE)
       (try first | rw [rFd_no (by decide)] at hE | rw [rFd_yes] at hE)
       simp only [hT]
       (exact finF (a := ⟨_, _, _, _, _, _, _, _, _, _, _, ⟨_, _, _, _, _, _⟩⟩) hwf (by first | exact .inl rfl | exact .inr rfl) (by first | ((repeat first | exact (wfQ hwf _ _ _ _).subm | exact subQ hm0 hwf | refine Sub.drop (by simp) ?_); done) | fail) (by first | rfl | (simp only [F29, cmdV, cmdL, rNext, rOk, rWord, rNeed, cmd0, fix0, rUpdate, push_cast, ed, reduceCtorEq, ld]; exact rfl)) rfl (by assumption) (by first | exact .inl ⟨rfl, rfl, _, by assumption, (by first | assumption | (simp only [F29, cmdV, cmdL, rNext, rOk, rWord, rNeed, cmd0, fix0, rUpdate, if_true, if_false, bf, *]; done) | (simp [F29, cmdV, cmdL, rNext, rOk, rWord, rNeed, cmd0, fix0, rUpdate, *]; done) | fail)⟩ | exact .inr ⟨by first | assumption | decide, (by first | assumption | (simp only [F29, cmdV, cmdL, rNext, rOk, rWord, rNeed, cmd0, fix0, rUpdate, if_true, if_false, bf, *]; done) | (simp [F29, cmdV, cmdL, rNext, rOk, rWord, rNeed, cmd0, fix0, rUpdate, *]; done) | fail)⟩) (by first | rfl | assumption | exact bd_cmd | (simp [V.bd, V.bdL]; done) | fail) (by simp) (by simp [(hwf).z]) (hwf).subx))
    | (have hQ := rCmd_is hk hg (by assumption) (by rfl)
       obtain ⟨hT, hR⟩ := hQ
       dsimp only at hR
       (try rw [hT] at hE)
       (try first | rw [rFd_no (by decide)] at hE | rw [rFd_yes] at hE)
       simp only [hT]
       (exact finF (a := ⟨_, _, _, _, _, none, _, _, _, _, _, ⟨_, _, _, _, _, _⟩⟩) hwf (by first | exact .inl rfl | exact .inr rfl) (by first | ((repeat first | exact (wfQ hwf _ _ _ _).subm | exact subQ hm0 hwf | refine Sub.drop (by simp) ?_); done) | fail) (by first | rfl | (simp only [F29, cmdV, cmdL, rNext, rOk, rWord, rNeed, cmd0, fix0, rFd, rUpdate, rEffect, rUndo, push_cast, ed, reduceCtorEq, ld]; exact rfl)) rfl (by assumption) (by first | exact .inl ⟨rfl, rfl, _, by assumption, (by first | assumption | (simp only [F29, cmdV, cmdL, rNext, rOk, rWord, rNeed, cmd0, fix0, rFd, rUpdate, rEffect, rUndo, if_true, if_false, bf, *]; done) | (simp [F29, cmdV, cmdL, rNext, rOk, rWord, rNeed, cmd0, fix0, rFd, rUpdate, rEffect, rUndo, *]; done) | fail)⟩ | exact .inr ⟨by first | assumption | decide, (by first | assumption | (simp only [F29, cmdV, cmdL, rNext, rOk, rWord, rNeed, cmd0, fix0, rFd, rUpdate, rEffect, rUndo, if_true, if_false, bf, *]; done) | (simp [F29, cmdV, cmdL, rNext, rOk, rWord, rNeed, cmd0, fix0, rFd, rUpdate, rEffect, rUndo, *]; done) | fail)⟩) (by first | rfl | assumption | exact bd_cmd | (simp [V.bd, V.bdL]; done) | fail) (by simp) (by simp [(hwf).z]) (hwf).subx))
    | (have hQ := rCmd_is hk hg (by assumption) (by rfl)
       obtain ⟨hT, hR⟩ := hQ
       dsimp only at hR
       (try rw [hT] at hE)
       (try first | rw [rFd_no (by decide)] at hE | rw [rFd_yes] at hE)
       simp only [hT]
       (exact finF (a := ⟨_, _, _, _, _, _, _, _, _, _, _, ⟨_, _, _, _, _, _⟩⟩) hwf (by first | exact .inl rfl | exact .inr rfl) (by first | ((repeat first | exact (wfQ hwf _ _ _ _).subm | exact subQ hm0 hwf | refine Sub.drop (by simp) ?_); done) | fail) (by first | rfl | (simp only [F29, cmdV, cmdL, rNext, rOk, rWord, rNeed, cmd0, fix0, rFd, rUpdate, rEffect, rUndo, push_cast, ed, reduceCtorEq, ld]; exact rfl)) rfl (by assumption) (by first | exact .inl ⟨rfl, rfl, _, by assumption, (by first | assumption | (simp only [F29, cmdV, cmdL, rNext, rOk, rWord, rNeed, cmd0, fix0, rFd, rUpdate, rEffect, rUndo, if_true, if_false, bf, *]; done) | (simp [F29, cmdV, cmdL, rNext, rOk, rWord, rNeed, cmd0, fix0, rFd, rUpdate, rEffect, rUndo, *]; done) | fail)⟩ | exact .inr ⟨by first | assumption | decide, (by first | assumption | (simp only [F29, cmdV, cmdL, rNext, rOk, rWord, rNeed, cmd0, fix0, rFd, rUpdate, rEffect, rUndo, if_true, if_false, bf, *]; done) | (simp [F29, cmdV, cmdL, rNext, rOk, rWord, rNeed, cmd0, fix0, rFd, rUpdate, rEffect, rUndo, *]; done) | fail)⟩) (by first | rfl | assumption | exact bd_cmd | (simp [V.bd, V.bdL]; done) | fail) (by simp) (by simp [(hwf).z]) (hwf).subx))
    | (have hR := rCmd_none hk hg (by simp only [beq_eq_false_iff_ne, ne_eq] at *; simp only [lukT, tabV, if_false, *])
       (exact finF (a := ⟨_, _, _, _, _, none, _, _, _, _, _, ⟨_, _, _, _, _, _⟩⟩) hwf (by first | exact .inl rfl | exact .inr rfl) (by first | ((repeat first | exact (wfQ hwf _ _ _ _).subm | exact subQ hm0 hwf | refine Sub.drop (by simp) ?_); done) | fail) (by first | rfl | (simp only [F29, cmdV, cmdL, cmd0, fix0, push_cast, ed, reduceCtorEq, ld]; exact rfl)) rfl (by assumption) (by first | exact .inl ⟨rfl, rfl, _, by assumption, (by first | assumption | (simp only [F29, cmdV, cmdL, cmd0, fix0, if_true, if_false, bf, *]; done) | (simp [F29, cmdV, cmdL, cmd0, fix0, *]; done) | fail)⟩ | exact .inr ⟨by first | assumption | decide, (by first | assumption | (simp only [F29, cmdV, cmdL, cmd0, fix0, if_true, if_false, bf, *]; done) | (simp [F29, cmdV, cmdL, cmd0, fix0, *]; done) | fail)⟩) (by first | rfl | assumption | exact bd_cmd | (simp [V.bd, V.bdL]; done) | fail) (by simp) (by simp [(hwf).z]) (hwf).subx))
theorem qend_0 {st : St} {rid : Nat} {T : List Tok} {i : Nat} {ts : List Tok} {K : VRes → St → Prop} (hm : Sha.look st.mem rid = some (rdr T i 0 0)) (hw : WfT T) (hi : i < T.length) (hD : T.drop i = ts)
  (h0 : ((hd ts).k != 3) = false → K (.ret (.tup [])) st) (h1 : ((hd ts).k != 3) = true → K (.ret (.tup [])) (stQ st rid T i 4 (hd ts).a)) : VCalls Tryz.prog 30 [.ptr rid 0] st K := by
 cases hk : (hd ts).k != 3 with
 | false =>
  refine VRet.use (r := .tup []) (st' := st) ?_ (h0 hk)
  refine vc F30_ok rfl (fun hwf => ?_)
  (repeat' first | ((first | refine go rfl rfl ?_ | refine Cl.by_ (by (first | refine qtoken_v hm hw hi hD)) ?_ | (refine Fk.by_ ?_ ?_ <;> intro hc <;> try simp only [hc]) | refine storeK_eq rfl ?_ | with_reducible refine an ?_ ?_) <;> try simp only [tkV, hk, push_cast, ed, reduceCtorEq, ld]))
  all_goals first | refine finC (hwf) (by simp only [F30, push_cast, ed, reduceCtorEq, ld]; exact rfl) (by first | exact .inl rfl | (right; simp only [F30, push_cast, ed, reduceCtorEq, ld]; try rfl)) (by first | rfl | assumption) (by simp [(hwf).z])
 | true =>
  refine VRet.use (r := .tup []) (st' := stQ st rid T i 4 (hd ts).a) ?_ (h1 hk)
  refine vc F30_ok rfl (fun hwf => ?_)
  have hw2 := wfQ hwf (rid := rid) T i 4 (hd ts).a
  have h1 := qfail_0 4 hm hw hi hD
  rw [stQ_eq] at hw2 h1 ⊢
  (repeat' first | ((first | refine go rfl rfl ?_ | refine Cl.by_ (by (first | refine qtoken_v hm hw hi hD | refine h1)) ?_ | (refine Fk.by_ ?_ ?_ <;> intro hc <;> try simp only [hc]) | refine storeK_eq rfl ?_ | with_reducible refine an ?_ ?_) <;> try simp only [tkV, hk, push_cast, ed, reduceCtorEq, ld]))
  all_goals first | refine finB (hw2) (by simp only [F30, push_cast, ed, reduceCtorEq, ld]; exact rfl) (by first | exact .inl rfl | (right; simp only [F30, push_cast, ed, reduceCtorEq, ld]; try rfl)) (by first | rfl | assumption) (by simp) (by simp) (by (repeat first | exact (hw2).subm | exact (hw2).suba | refine Sub.drop (by simp) ?_)) (by (repeat first | exact (hw2).subm | exact (hw2).suba | refine Sub.drop (by simp) ?_)) (by (repeat first | exact (hw2).subx | refine ExSub.dropt (by simp) ?_ | refine ExSub.drop (by simp) ?_))
theorem qend_x {st : St} {rid : Nat} {T : List Tok} {i : Nat} {x p : Int} {K : VRes → St → Prop} (hm : Sha.look st.mem rid = some (rdr T i x p)) (hw : WfT T) (hi : i < T.length) (hx : x ≠ 0) (h : K (.ret (.tup [])) st) : VCalls Tryz.prog 30 [.ptr rid 0] st K := by
 refine VRet.use (r := .tup []) (st' := st) ?_ h
 refine vc F30_ok rfl (fun hwf => ?_)
 (repeat' first | ((first | refine go rfl rfl ?_ | refine Cl.by_ (by (first | refine qtoken_v hm hw hi rfl | refine qfail_x 4 hm hx)) ?_ | (refine Fk.by_ ?_ ?_ <;> intro hc <;> try simp only [hc]) | refine storeK_eq rfl ?_ | with_reducible refine an ?_ ?_) <;> try simp only [tkV, push_cast, ed, reduceCtorEq, ld]))
 all_goals first | refine finC (hwf) (by simp only [F30, push_cast, ed, reduceCtorEq, ld]; exact rfl) (by first | exact .inl rfl | (right; simp only [F30, push_cast, ed, reduceCtorEq, ld]; try rfl)) (by first | rfl | assumption) (by simp [(hwf).z])
theorem qscan_err {s : List UInt8} {l : List Tok} {a : Nat} {e : Int} (hS : scanR s = (l, a, e)) (he : (e != 0) = true) (st : St) : VRet Tryz.prog 28 [.str s] st (.tup [.nilp, .int .i64 (a : Int), .int .i64 e]) st := by
 have hsc := fun st' => refScan_v s st'
 rw [hS] at hsc
 unfold scanV at hsc
 refine vc F28_ok rfl (fun hwf => ?_)
 (repeat' first | ((first | refine go rfl rfl ?_ | refine Cl.by_ (by (first | refine hsc _)) ?_ | (refine Fk.by_ ?_ ?_ <;> intro hc <;> try simp only [hc]) | refine storeK_eq rfl ?_ | with_reducible refine an ?_ ?_) <;> try simp only [he, push_cast, ed, reduceCtorEq, ld]))
 all_goals first | refine finC (hwf) (by simp only [F28, push_cast, ed, reduceCtorEq, ld]; exact rfl) (by first | exact .inl rfl | (right; simp only [F28, push_cast, ed, reduceCtorEq, ld]; try rfl)) (by first | rfl | assumption) (by simp [(hwf).z])
theorem qscan_ok {s : List UInt8} {l : List Tok} {a : Nat} {e : Int} (hS : scanR s = (l, a, e)) (he : (e != 0) = false) (st : St) : VRet Tryz.prog 28 [.str s] st (.tup [.ptr st.nx 0, .int .i64 0, .int .i64 0]) ⟨st.nx + 1, (st.nx, rdr l 0 0 0) :: st.mem, st.arr, st.x⟩ := by
 have hsc := fun st' => refScan_v s st'
 rw [hS] at hsc
 unfold scanV at hsc
 refine vc F28_ok rfl (fun hwf => ?_)
 have hw2 : St.Wf ⟨st.nx + 1, (st.nx, rdr l 0 0 0) :: st.mem, st.arr, st.x⟩ := hwf.new (by simp [rdr, V.bdL, V.bd, bdL_tk])
 (repeat' first | ((first | refine go rfl rfl ?_ | refine Cl.by_ (by (first | refine hsc _)) ?_ | (refine Fk.by_ ?_ ?_ <;> intro hc <;> try simp only [hc]) | refine storeK_eq rfl ?_ | with_reducible refine an ?_ ?_) <;> try simp only [he, push_cast, ed, reduceCtorEq, ld]))
 all_goals first | exact ⟨_, (by simp only [F28, push_cast, ed, reduceCtorEq, ld]; exact rfl), _, _, .inl rfl, (by simp [V.bd, V.bdL, resOne]), Weak.refl hw2, Nat.le_succ _, rfl, rfl⟩
theorem command_call {st : St} {rid : Nat} {T : List Tok} {K : VRes → St → Prop} (hm : Sha.look st.mem rid = some (rdr T 0 0 0)) (hw : WfT T)
  (hok : ∀ a ts' i', pE (rCommand T) = (if ((hd ts').k != 3) = true then .error ((hd ts').a, 4) else .ok a) → i' < T.length → T.drop i' = ts' → K (.ret (cmdV a)) (stQ st rid T i' 0 0))
  (herr : ∀ q x a i', pE (rCommand T) = .error (q, x) → x ≠ 0 → i' < T.length → K (.ret (cmdV a)) (stQ st rid T i' x q)) : VCalls Tryz.prog 29 [.ptr rid 0] st K := by
 refine VCalls.mono (rfcommand_0 st rid T 0 T hw hw.len rfl hm) (fun r s hr => ?_)
 unfold rf0 at hr
 split at hr
 ·rename_i a ts' he
  obtain ⟨i', h1, h2, rfl, rfl⟩ := hr
  exact hok a ts' i' (by rw [he]; rfl) h1 h2
 ·rename_i q x he
  obtain ⟨h0, a, i', h1, rfl, rfl⟩ := hr
  exact herr q x a i' (by rw [he]; rfl) h0 h1
set_option maxHeartbeats 2000000 in
theorem qparse_v (s : List UInt8) (st : St) : VRet Tryz.prog 11 [.str s] st (resP cmdV (cmdV cmd0) (pR rCommand s)) st := by
  refine vc F11_ok rfl (fun hwf => ?_)
  obtain ⟨l, a, e, hS⟩ : ∃ l a e, scanR s = (l, a, e) := ⟨_, _, _, rfl⟩
  have hP : pR rCommand s = if (e != 0) = true then .error ((a : Int), e) else pE (rCommand l) := by unfold pR; rw [hS]
  cases he : e != 0 with
  | true =>
    rw [he, if_pos rfl] at hP
    rw [hP]
    (repeat' first | ((first | (with_reducible intro x1 x2 x3 x4 hE hX hI <;> (try (cases (x3 : Fix))) <;> (try (cases (x3 : Cmd); cases ‹Fix›)) <;> (try (have hI2 := rSelO_inv_err hE; clear hE; have hE := hI2; clear hI2))) | (with_reducible intro x1 x2 x3 hE hI hD <;> (try (have hI2 := rSelO_inv hE; obtain ⟨l1, rfl, hI2⟩ := hI2; clear hE; have hE := hI2; clear hI2)) <;> (try (have hI2 := rUnit_inv hE; obtain ⟨u1, u2, rfl⟩ := hI2; dsimp only)) <;> (try (have hI2 := rPlace_inv hE; obtain ⟨n1, q1, rfl⟩ := hI2; dsimp only at hE ⊢)) <;> (try (cases (x1 : Cmd); cases ‹Fix›))) | (with_reducible intro x1 hE hI hD <;> (try (have hI2 := hdIs_t hE; try simp only [hI2]))) | with_reducible intro x1 hF | (with_reducible intro x1 <;> (try (cases (x1 : Fix))) <;> (try (cases (x1 : Cmd); cases ‹Fix›))) | refine go rfl rfl ?_ | refine Cl.by_ (by (first | refine qscan_err hS he _)) ?_ | refine CallX.c (by first | assumption | (simp only [stQ_eq, lookR, om, he, V.cells, push_cast, ed, reduceCtorEq, ld] <;> exact rfl)) (by assumption) (by assumption) (by first | assumption | decide) ?_ | refine Call0.c (by first | assumption | (simp only [stQ_eq, lookR, om, he, V.cells, push_cast, ed, reduceCtorEq, ld] <;> exact rfl)) (by assumption) (by assumption) (by assumption) ?_ | (refine Fk.by_ ?_ ?_ <;> intro hc <;> try simp only [hc]) | refine storeK_eq rfl ?_ | with_reducible refine an ?_ ?_) <;> try simp only [stQ_eq, lookR, om, he, V.cells, push_cast, ed, reduceCtorEq, ld]))
    all_goals first | exact ⟨_, (by first | rfl | (simp only [F11, push_cast, ed, reduceCtorEq, ld]; exact rfl)), resP cmdV (cmdV cmd0) (.error ((a : Int), e)), st, .inl rfl, bd_resC, Weak.wf rfl (by simp) (by repeat first | exact hwf.subm | refine Sub.drop (by simp) ?_) hwf.suba hwf.subx hwf, Nat.le_refl _, rfl, rfl⟩
  | false =>
    rw [he, if_neg (by decide)] at hP
    rw [hP]
    obtain ⟨R, hRe⟩ : ∃ R, R = resP cmdV (cmdV cmd0) (pE (rCommand l)) := ⟨_, rfl⟩
    rw [← hRe]
    have hwl : WfT l := by have := scanR_wf (s := s) (by rw [hS]; simpa using he); rwa [hS] at this
    have z0 : ((0 : Int) != 0) = false := rfl
    have z4 : ((4 : Int) != 0) = true := rfl
    (repeat' first | ((first | (with_reducible intro x1 x2 x3 x4 hE hX hI <;> (try (cases (x3 : Fix))) <;> (try (cases (x3 : Cmd); cases ‹Fix›)) <;> (try (have hI2 := rSelO_inv_err hE; clear hE; have hE := hI2; clear hI2))) | (with_reducible intro x1 x2 x3 hE hI hD <;> (try (have hI2 := rSelO_inv hE; obtain ⟨l1, rfl, hI2⟩ := hI2; clear hE; have hE := hI2; clear hI2)) <;> (try (have hI2 := rUnit_inv hE; obtain ⟨u1, u2, rfl⟩ := hI2; dsimp only)) <;> (try (have hI2 := rPlace_inv hE; obtain ⟨n1, q1, rfl⟩ := hI2; dsimp only at hE ⊢)) <;> (try (cases (x1 : Cmd); cases ‹Fix›))) | (with_reducible intro x1 hE hI hD <;> (try (have hI2 := hdIs_t hE; try simp only [hI2]))) | with_reducible intro x1 hF | (with_reducible intro x1 <;> (try (cases (x1 : Fix))) <;> (try (cases (x1 : Cmd); cases ‹Fix›))) | refine go rfl rfl ?_ | refine VRet.use (qscan_ok hS he _) ?_ | refine command_call (by first | (simp only [stQ_eq, rdr, push_cast, ed, reduceCtorEq, ld]; done) | (simp only [stQ_eq, rdr, push_cast, ed, reduceCtorEq, ld]; exact rfl)) hwl ?_ ?_ | refine qend_x (by first | (simp only [stQ_eq, rdr, push_cast, ed, reduceCtorEq, ld]; done) | (simp only [stQ_eq, rdr, push_cast, ed, reduceCtorEq, ld]; exact rfl)) (by assumption) (by assumption) (by first | assumption | decide) ?_ | refine qend_0 (by first | (simp only [stQ_eq, rdr, push_cast, ed, reduceCtorEq, ld]; done) | (simp only [stQ_eq, rdr, push_cast, ed, reduceCtorEq, ld]; exact rfl)) (by assumption) (by assumption) (by assumption) ?_ ?_ | refine CallX.c (by first | assumption | (simp only [stQ_eq, lookR, om, z0, z4, V.cells, rdr, cmdV, cmdL, push_cast, ed, reduceCtorEq, ld] <;> exact rfl)) (by assumption) (by assumption) (by first | assumption | decide) ?_ | refine Call0.c (by first | assumption | (simp only [stQ_eq, lookR, om, z0, z4, V.cells, rdr, cmdV, cmdL, push_cast, ed, reduceCtorEq, ld] <;> exact rfl)) (by assumption) (by assumption) (by assumption) ?_ | (refine Fk.by_ ?_ ?_ <;> intro hc <;> try simp only [hc]) | refine storeK_eq rfl ?_ | with_reducible refine an ?_ ?_) <;> try simp only [stQ_eq, lookR, om, z0, z4, V.cells, rdr, cmdV, cmdL, push_cast, ed, reduceCtorEq, ld]))
    all_goals first
      | (rw [x1, if_neg (by decide)] at hE
         rw [hRe, hE]; exact ⟨_, (by first | rfl | (simp only [F11, push_cast, ed, reduceCtorEq, ld]; exact rfl)), resP cmdV (cmdV cmd0) (.ok ⟨_, _, _, _, _, _, _, _, _, _, _, ⟨_, _, _, _, _, _⟩⟩), st, .inl rfl, bd_resC, Weak.wf rfl (by simp) (by first | ((repeat first | exact hwf.subm | refine Sub.drop (by simp) ?_); done) | fail) hwf.suba hwf.subx hwf, Nat.le_refl _, rfl, rfl⟩)
      | (rw [x1, if_pos rfl] at hE
         rw [hRe, hE]; exact ⟨_, (by first | rfl | (simp only [F11, push_cast, ed, reduceCtorEq, ld]; exact rfl)), resP cmdV (cmdV cmd0) (.error (_, _)), st, .inl rfl, bd_resC, Weak.wf rfl (by simp) (by first | ((repeat first | exact hwf.subm | refine Sub.drop (by simp) ?_); done) | fail) hwf.suba hwf.subx hwf, Nat.le_refl _, rfl, rfl⟩)
      | (rw [hRe, hE]; exact ⟨_, (by first | rfl | (simp only [F11, push_cast, ed, reduceCtorEq, ld]; exact rfl)), resP cmdV (cmdV cmd0) (.error (_, _)), st, .inl rfl, bd_resC, Weak.wf rfl (by simp) (by first | ((repeat first | exact hwf.subm | refine Sub.drop (by simp) ?_); done) | fail) hwf.suba hwf.subx hwf, Nat.le_refl _, rfl, rfl⟩)
      | (exfalso; simp only [bne_eq_false_iff_eq] at hc; exact hX hc)
theorem qselection_call {st : St} {rid : Nat} {T : List Tok} {K : VRes → St → Prop} (hm : Sha.look st.mem rid = some (rdr T 0 0 0)) (hw : WfT T)
  (hok : ∀ a ts' i', pE (rSelection T) = (if ((hd ts').k != 3) = true then .error ((hd ts').a, 4) else .ok a) → i' < T.length → T.drop i' = ts' → K (.ret (selsV a)) (stQ st rid T i' 0 0))
  (herr : ∀ q x a i', pE (rSelection T) = .error (q, x) → x ≠ 0 → i' < T.length → K (.ret (selO a)) (stQ st rid T i' x q)) : VCalls Tryz.prog 46 [.ptr rid 0] st K := by
 refine VCalls.mono ((rfselection_v st rid T 0 hw hw.len).1 T rfl hm) (fun r s hr => ?_)
 unfold rf0 at hr
 split at hr
 ·rename_i a ts' he
  obtain ⟨i', h1, h2, rfl, rfl⟩ := hr
  obtain ⟨l, rfl, he'⟩ := rSelO_inv he
  exact hok l ts' i' (by rw [he']; rfl) h1 h2
 ·rename_i q x he
  obtain ⟨h0, a, i', h1, rfl, rfl⟩ := hr
  exact herr q x a i' (by rw [rSelO_inv_err he]; rfl) h0 h1
theorem bd_resS2 {n : Nat} {x : Except (Int × Int) (List Sel)} : (resP selsV .nils x).bd n = true := by
 cases x <;> simp [resP, V.bd, V.bdL, selsV, bdL_sel]
set_option maxHeartbeats 2000000 in
theorem qselection_v (s : List UInt8) (st : St) : VRet Tryz.prog 19 [.str s] st (resP selsV .nils (pR rSelection s)) st := by
  refine vc F19_ok rfl (fun hwf => ?_)
  obtain ⟨l, a, e, hS⟩ : ∃ l a e, scanR s = (l, a, e) := ⟨_, _, _, rfl⟩
  have hP : pR rSelection s = if (e != 0) = true then .error ((a : Int), e) else pE (rSelection l) := by unfold pR; rw [hS]
  cases he : e != 0 with
  | true =>
    rw [he, if_pos rfl] at hP
    rw [hP]
    (repeat' first | ((first | (with_reducible intro x1 x2 x3 x4 hE hX hI <;> (try (cases (x3 : Fix))) <;> (try (cases (x3 : Cmd); cases ‹Fix›)) <;> (try (have hI2 := rSelO_inv_err hE; clear hE; have hE := hI2; clear hI2))) | (with_reducible intro x1 x2 x3 hE hI hD <;> (try (have hI2 := rSelO_inv hE; obtain ⟨l1, rfl, hI2⟩ := hI2; clear hE; have hE := hI2; clear hI2)) <;> (try (have hI2 := rUnit_inv hE; obtain ⟨u1, u2, rfl⟩ := hI2; dsimp only)) <;> (try (have hI2 := rPlace_inv hE; obtain ⟨n1, q1, rfl⟩ := hI2; dsimp only at hE ⊢)) <;> (try (cases (x1 : Cmd); cases ‹Fix›))) | (with_reducible intro x1 hE hI hD <;> (try (have hI2 := hdIs_t hE; try simp only [hI2]))) | with_reducible intro x1 hF | (with_reducible intro x1 <;> (try (cases (x1 : Fix))) <;> (try (cases (x1 : Cmd); cases ‹Fix›))) | refine go rfl rfl ?_ | refine Cl.by_ (by (first | refine qscan_err hS he _)) ?_ | refine CallX.c (by first | assumption | (simp only [stQ_eq, lookR, om, he, V.cells, push_cast, ed, reduceCtorEq, ld] <;> exact rfl)) (by assumption) (by assumption) (by first | assumption | decide) ?_ | refine Call0.c (by first | assumption | (simp only [stQ_eq, lookR, om, he, V.cells, push_cast, ed, reduceCtorEq, ld] <;> exact rfl)) (by assumption) (by assumption) (by assumption) ?_ | (refine Fk.by_ ?_ ?_ <;> intro hc <;> try simp only [hc]) | refine storeK_eq rfl ?_ | with_reducible refine an ?_ ?_) <;> try simp only [stQ_eq, lookR, om, he, V.cells, push_cast, ed, reduceCtorEq, ld]))
    all_goals first | exact ⟨_, (by first | rfl | (simp only [F19, push_cast, ed, reduceCtorEq, ld]; exact rfl)), resP selsV .nils (.error ((a : Int), e)), st, .inl rfl, bd_resS2, Weak.wf rfl (by simp) (by repeat first | exact hwf.subm | refine Sub.drop (by simp) ?_) hwf.suba hwf.subx hwf, Nat.le_refl _, rfl, rfl⟩
  | false =>
    rw [he, if_neg (by decide)] at hP
    rw [hP]
    obtain ⟨R, hRe⟩ : ∃ R, R = resP selsV .nils (pE (rSelection l)) := ⟨_, rfl⟩
    rw [← hRe]
    have hwl : WfT l := by have := scanR_wf (s := s) (by rw [hS]; simpa using he); rwa [hS] at this
    have z0 : ((0 : Int) != 0) = false := rfl
    have z4 : ((4 : Int) != 0) = true := rfl
    (repeat' first | ((first | (with_reducible intro x1 x2 x3 x4 hE hX hI <;> (try (cases (x3 : Fix))) <;> (try (cases (x3 : Cmd); cases ‹Fix›)) <;> (try (have hI2 := rSelO_inv_err hE; clear hE; have hE := hI2; clear hI2))) | (with_reducible intro x1 x2 x3 hE hI hD <;> (try (have hI2 := rSelO_inv hE; obtain ⟨l1, rfl, hI2⟩ := hI2; clear hE; have hE := hI2; clear hI2)) <;> (try (have hI2 := rUnit_inv hE; obtain ⟨u1, u2, rfl⟩ := hI2; dsimp only)) <;> (try (have hI2 := rPlace_inv hE; obtain ⟨n1, q1, rfl⟩ := hI2; dsimp only at hE ⊢)) <;> (try (cases (x1 : Cmd); cases ‹Fix›))) | (with_reducible intro x1 hE hI hD <;> (try (have hI2 := hdIs_t hE; try simp only [hI2]))) | with_reducible intro x1 hF | (with_reducible intro x1 <;> (try (cases (x1 : Fix))) <;> (try (cases (x1 : Cmd); cases ‹Fix›))) | refine go rfl rfl ?_ | refine VRet.use (qscan_ok hS he _) ?_ | refine qselection_call (by first | (simp only [stQ_eq, rdr, push_cast, ed, reduceCtorEq, ld]; done) | (simp only [stQ_eq, rdr, push_cast, ed, reduceCtorEq, ld]; exact rfl)) hwl ?_ ?_ | refine qend_x (by first | (simp only [stQ_eq, rdr, push_cast, ed, reduceCtorEq, ld]; done) | (simp only [stQ_eq, rdr, push_cast, ed, reduceCtorEq, ld]; exact rfl)) (by assumption) (by assumption) (by first | assumption | decide) ?_ | refine qend_0 (by first | (simp only [stQ_eq, rdr, push_cast, ed, reduceCtorEq, ld]; done) | (simp only [stQ_eq, rdr, push_cast, ed, reduceCtorEq, ld]; exact rfl)) (by assumption) (by assumption) (by assumption) ?_ ?_ | refine CallX.c (by first | assumption | (simp only [stQ_eq, lookR, om, z0, z4, V.cells, rdr, push_cast, ed, reduceCtorEq, ld] <;> exact rfl)) (by assumption) (by assumption) (by first | assumption | decide) ?_ | refine Call0.c (by first | assumption | (simp only [stQ_eq, lookR, om, z0, z4, V.cells, rdr, push_cast, ed, reduceCtorEq, ld] <;> exact rfl)) (by assumption) (by assumption) (by assumption) ?_ | (refine Fk.by_ ?_ ?_ <;> intro hc <;> try simp only [hc]) | refine storeK_eq rfl ?_ | with_reducible refine an ?_ ?_) <;> try simp only [stQ_eq, lookR, om, z0, z4, V.cells, rdr, push_cast, ed, reduceCtorEq, ld]))
    all_goals first
      | (rw [x1, if_neg (by decide)] at hE
         rw [hRe, hE]; exact ⟨_, (by first | rfl | (simp only [F19, push_cast, ed, reduceCtorEq, ld]; exact rfl)), resP selsV .nils (.ok _), st, .inl rfl, bd_resS2, Weak.wf rfl (by simp) (by first | ((repeat first | exact hwf.subm | refine Sub.drop (by simp) ?_); done) | fail) hwf.suba hwf.subx hwf, Nat.le_refl _, rfl, rfl⟩)
      | (rw [x1, if_pos rfl] at hE
         rw [hRe, hE]; exact ⟨_, (by first | rfl | (simp only [F19, push_cast, ed, reduceCtorEq, ld]; exact rfl)), resP selsV .nils (.error (_, _)), st, .inl rfl, bd_resS2, Weak.wf rfl (by simp) (by first | ((repeat first | exact hwf.subm | refine Sub.drop (by simp) ?_); done) | fail) hwf.suba hwf.subx hwf, Nat.le_refl _, rfl, rfl⟩)
      | (rw [hRe, hE]; exact ⟨_, (by first | rfl | (simp only [F19, push_cast, ed, reduceCtorEq, ld]; exact rfl)), resP selsV .nils (.error (_, _)), st, .inl rfl, bd_resS2, Weak.wf rfl (by simp) (by first | ((repeat first | exact hwf.subm | refine Sub.drop (by simp) ?_); done) | fail) hwf.suba hwf.subx hwf, Nat.le_refl _, rfl, rfl⟩)
      | (exfalso; simp only [bne_eq_false_iff_eq] at hc; exact hX hc)
end Go.Proofs.YtnondemehfkalaaGreatDoor
