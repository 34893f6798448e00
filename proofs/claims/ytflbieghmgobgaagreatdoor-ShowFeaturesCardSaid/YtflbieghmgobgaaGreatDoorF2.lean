/- The patch: the program's answer is the reference's. Profiles: the program's answer is the reference's. Lists of palettes, submasters, cues: the program's answers are the reference's. Numbers of cues,  .. -/
import Derived.Test.YtflbieghmgobgaaGreatDoorF1
import Derived.Test.YtflbieghmgobgaaGreatDoorFShbYB
import Derived.Test.YtflbieghmgobgaaGreatDoorProg
import Derived.KernelRfl
import Derived.Test.YtflbieghmgobgaaGreatDoorFShbXF
set_option linter.unusedSimpArgs false
set_option linter.unusedVariables false
namespace Go.Proofs.YtflbieghmgobgaaGreatDoor
open Go.Sha
set_option maxRecDepth 100000
variable {g : List (Nat × Obj)} {n : Nat}
theorem foot_ded {ps : List Prof} {x : Fixt} : footS (dedP ps) x = footS ps x := by simp only [footS, pfx_ded]
theorem useU_ded {ps : List Prof} {u : Int} : ∀ {l : List Fixt} {j : Nat} {a : List Int}, useU (dedP ps) u l j a = useU ps u l j a
 | [], _, _ => rfl
 | x :: r, j, a => by rw [useU, useU, foot_ded, useU_ded]
theorem setL_get {a : List Int} {o k : Nat} {v : Int} (h : o < a.length) : (setL a o v).getD k 0 = if k = o then v else a.getD k 0 := by
 have h1 : (a.take o).length = o := len_take (by omega)
 rw [setL, List.getD_eq_getElem?_getD, List.getElem?_append]
 rw [h1]
 by_cases h2 : k < o
 ·rw [if_pos h2, if_neg (by omega), List.getElem?_take, if_pos h2, List.getD_eq_getElem?_getD]
 ·rw [if_neg h2]
  by_cases h3 : k = o
  ·subst h3; simp
  ·rw [if_neg h3, show k - o = (k - o - 1) + 1 by omega, List.getElem?_cons_succ, List.getElem?_drop, show o + 1 + (k - o - 1) = k by omega, List.getD_eq_getElem?_getD]
theorem fillA_get {v : Int} {k : Nat} : ∀ {m : Nat} {a : List Int} {o : Nat}, o + m ≤ a.length → (fillA a o v m).getD k 0 = if o ≤ k ∧ k < o + m then v else a.getD k 0
 | 0, a, o, h => by rw [fillA, if_neg (by omega)]
 | m + 1, a, o, h => by
  have h1 := setL_len (a := a) (o := o) (v := v) (by omega)
  rw [fillA, fillA_get (by omega), setL_get (by omega)]
  by_cases h2 : k = o
  ·rw [if_neg (by omega), if_pos h2, if_pos (by omega)]
  ·rw [if_neg h2]
   by_cases h3 : o + 1 ≤ k ∧ k < o + 1 + m
   ·rw [if_pos h3, if_pos (by omega)]
   ·rw [if_neg h3, if_neg (by omega)]
def usesK (ps : List Prof) (u : Int) (k : Nat) (y : Fixt) : Prop := y.univ = u ∧ y.addr ≤ k ∧ (k : Int) < y.addr + footS ps y
theorem useU_get {ps : List Prof} {u : Int} {k : Nat} : ∀ {l : List Fixt} {j : Nat} {a : List Int}, (∀ x ∈ l, inU ps x) → a.length = 513 → (0 < (useU ps u l j a).getD k 0 ↔ (∃ y ∈ l, usesK ps u k y) ∨ 0 < a.getD k 0)
 | [], j, a, _, _ => by simp [useU]
 | x :: r, j, a, hb, h => by
  obtain ⟨b1, b2, b3⟩ := hb x (List.mem_cons_self ..)
  have hl : (if x.univ = u then fillA a x.addr.toNat (j + 1) (footS ps x).toNat else a).length = 513 := by
   split
   ·rw [fillA_len (by omega)]; exact h
   ·exact h
  rw [useU, useU_get (fun y hy => hb y (List.mem_cons_of_mem _ hy)) hl]
  have e : 0 < (if x.univ = u then fillA a x.addr.toNat (j + 1) (footS ps x).toNat else a).getD k 0 ↔ usesK ps u k x ∨ 0 < a.getD k 0 := by
   by_cases hu : x.univ = u
   ·rw [if_pos hu, fillA_get (by omega)]
    unfold usesK
    by_cases h2 : x.addr.toNat ≤ k ∧ k < x.addr.toNat + (footS ps x).toNat
    ·rw [if_pos h2]; exact ⟨fun _ => .inl ⟨hu, by omega, by omega⟩, fun _ => by omega⟩
    ·rw [if_neg h2]; exact ⟨.inr, fun e => e.resolve_left fun e => h2 (by omega)⟩
   ·rw [if_neg hu]; exact ⟨.inr, fun e => e.resolve_left fun e => hu e.1⟩
  rw [e]
  simp only [List.mem_cons, exists_eq_or_imp]
  exact ⟨fun h => h.elim (fun h => .inl (.inr h)) fun h => h.elim (fun h => .inl (.inl h)) .inr, fun h => h.elim (fun h => h.elim (fun h => .inr (.inl h)) .inl) fun h => .inr (.inr h)⟩
theorem any_part {l : List Int} {m n : Nat} {p : Int → Bool} : (((l.take n).drop m).any p = true) ↔ ∃ k, m ≤ k ∧ k < n ∧ k < l.length ∧ p (l.getD k 0) = true := by
 rw [List.any_eq_true]
 constructor
 ·rintro ⟨x, hx, hp⟩
  obtain ⟨i, hi⟩ := List.mem_iff_getElem?.1 hx
  rw [List.getElem?_drop, List.getElem?_take] at hi
  split at hi
  ·rename_i h
   have h2 := (List.getElem?_eq_some_iff.1 hi).1
   exact ⟨m + i, by omega, h, h2, by rw [List.getD_eq_getElem?_getD, hi]; exact hp⟩
  ·cases hi
 ·rintro ⟨k, h1, h2, h3, h4⟩
  refine ⟨l.getD k 0, List.mem_iff_getElem?.2 ⟨k - m, ?_⟩, h4⟩
  rw [List.getElem?_drop, List.getElem?_take, show m + (k - m) = k by omega, if_pos h2, List.getD_eq_getElem?_getD, List.getElem?_eq_getElem h3]; rfl
theorem aloC_ok {ps : List Prof} {x : Fixt} (h : aloC ps x = 0) : rngC x = 0 ∧ ∃ p, pfx ps x.prof = some p ∧ 1 ≤ p.foot ∧ x.addr + p.foot ≤ 513 := by
 unfold aloC at h
 split at h
 ·rename_i h1; exact absurd h h1
 ·rename_i h1
  have h1 := Classical.not_not.1 h1
  split at h
  ·cases h
  ·split at h
   ·cases h
   ·rename_i p hp
    split at h
    ·cases h
    ·rename_i h3
     have := rng_ok h1
     rw [wr1_ok (by omega)] at h3
     exact ⟨h1, p, hp, by omega, by omega⟩
theorem aloC_in {ps : List Prof} {x : Fixt} (h : aloC ps x = 0) : inU ps x ∧ 1 ≤ footS ps x := by
 obtain ⟨h1, p, hp, h2, h3⟩ := aloC_ok h
 have := rng_ok h1
 have e : footS ps x = p.foot := by rw [footS, hp]; rfl
 unfold inU
 rw [e]
 omega
theorem zI_get {k : Nat} : zI.getD k 0 = 0 := by
 rw [zI, List.getD_eq_getElem?_getD, List.getElem?_replicate]; split <;> rfl
theorem fixF_eq {ps : List Prof} {b : List Fixt} {x : Fixt} (hb : ∀ y ∈ b, aloC ps y = 0) :
  fixF (dedP ps) b x = if ¬ aloC ps x = 0 then aloC ps x else if b.any (fun p => decide (p.chan = x.chan ∧ p.part = x.part)) = true then 7 else if b.any (fun p => ovl ps p x) = true then 10 else 0 := by
 unfold fixF
 rw [pfx_ded, useU_ded]
 by_cases h1 : rngC x = 0
 ·rw [if_neg (by simp [h1])]
  unfold aloC
  rw [if_neg (by simp [h1] : ¬ ¬ rngC x = 0)]
  by_cases h2 : ¬ x.cable = [] ∧ nameS x.cable = false
  ·rw [if_pos h2, if_pos h2]; rfl
  ·rw [if_neg h2, if_neg h2]
   cases hp : pfx ps x.prof with
   | none => rfl
   | some p =>
    dsimp only
    by_cases h3 : p.foot < 1 ∨ wr1 x < p.foot
    ·simp [h3]
    ·simp only [if_neg h3, not_true_eq_false, if_false]
     have r := rng_ok h1
     rw [wr1_ok (by omega)] at h3
     have e1 : (b.any fun y => decide (y.chan = x.chan) && y.part == x.part) = b.any fun p => decide (p.chan = x.chan ∧ p.part = x.part) := by
      congr 1; funext y; simp only [Bool.decide_and]; rfl
     rw [e1]
     congr 1
     have ef : footS ps x = p.foot := by rw [footS, hp]; rfl
     have e2 : ((((useU ps x.univ b 0 zI).take (x.addr + p.foot).toNat).drop x.addr.toNat).any fun v => decide (0 < v)) = b.any fun p => ovl ps p x := by
      rw [Bool.eq_iff_iff, any_part, List.any_eq_true, useU_len (fun y hy => (aloC_in (hb y hy)).1) zI_len]
      simp only [decide_eq_true_eq, useU_get (fun y hy => (aloC_in (hb y hy)).1) zI_len, zI_get, Int.lt_irrefl, or_false]
      constructor
      ·rintro ⟨k, k1, k2, k3, y, hy, u1, u2, u3⟩
       obtain ⟨⟨b1, b2, b3⟩, b4⟩ := aloC_in (hb y hy)
       have w1 : IntKind.i64.wrap (x.addr + p.foot) = x.addr + p.foot := iwrap (by omega) (by omega)
       have w2 : IntKind.i64.wrap (y.addr + footS ps y) = y.addr + footS ps y := iwrap (by omega) (by omega)
       exact ⟨y, hy, by simp only [ovl, decide_eq_true_eq, w1, w2, ef]; omega⟩
      ·rintro ⟨y, hy, ho⟩
       obtain ⟨⟨b1, b2, b3⟩, b4⟩ := aloC_in (hb y hy)
       have w1 : IntKind.i64.wrap (x.addr + p.foot) = x.addr + p.foot := iwrap (by omega) (by omega)
       have w2 : IntKind.i64.wrap (y.addr + footS ps y) = y.addr + footS ps y := iwrap (by omega) (by omega)
       simp only [ovl, decide_eq_true_eq, w1, w2, ef] at ho
       refine ⟨(max x.addr y.addr).toNat, ?_, ?_, ?_, y, hy, ho.1, ?_, ?_⟩ <;> omega
     rw [e2]
 ·rw [if_pos h1]
  have : aloC ps x = 2 := by
   unfold aloC
   rw [if_pos h1]
   unfold rngC at h1 ⊢
   split
   ·rfl
   ·split
    ·rfl
    ·rename_i a b; simp [a, b] at h1
  rw [this]; rfl
theorem L146 {l : List Fixt} {ps : List Prof} (hl : l.length < 140737488355328) (hb : ∀ x ∈ l, x.cable.length < 140737488355328) : ∀ r j, l.drop j = r → (∀ x ∈ l.take j, aloC ps x = 0) → runL Tryz.prog HH [5, 20, 21] 1 B146_0 [(5, .ep (rigV l (dedP ps)) 0), (20, .int .i64 l.length), (21, .int .i64 j)] (stN g 1) = lpE (stN g 1) [] 4 (fixR ps l r j) := by
 refine drop_ind (fun j h h8 => ?_) (fun q r j h hx hd ih h8 => ?_)
 all_goals rw [runL_of B146_0.eq_1]
 ·have h1 : ¬ (j : Int) < l.length := by omega
  push_cast [h1, fixR]
 ·have h1 : (j : Int) < l.length := by omega
  have hw := iw1 (j := j) (by omega)
  have h190 := fun (st : St) => f190 (ps := dedP ps) (st := st) hl h hx (fun y hy => by have := (aloC_in (h8 y hy)).1; unfold inU at this ⊢; rw [foot_ded]; exact this) (hb q (mem_at hd))
  rw [fixF_eq h8] at h190
  push_cast [rigV] at h190
  by_cases h2 : aloC ps q = 0
  ·have ih := ih (by rw [take_snoc hd]; intro x hx; rcases List.mem_append.1 hx with hx | hx; exact h8 x hx; rw [List.mem_singleton.1 hx]; exact h2)
   push_cast [h1, hw, hx, rigV, h190, h2] at ih ⊢
   simp only [ih, fixR, h2]
   all_goals ((repeat' split) <;> simp_all)
  ·clear ih
   push_cast [h1, hw, hx, rigV, h190, h2]
   simp [fixR, h2]
theorem f146 {l : List Fixt} {ps : List Prof} (hl : l.length < 140737488355328) (hb : ∀ x ∈ l, x.cable.length < 140737488355328) (hp : ps.length < 140737488355328) {st : St} : run Tryz.prog HH 146 [.sl (l.map Fixt.v), .sl (ps.map Prof.v)] st = some (.ret (.int .i64 (fixCR l ps)), st) := by
 have h189 := fun (st : St) => f189 (l := l) (ps := ps) (st := st) hp
 have hL := L146 (g := st.x.gl) (ps := ps) hl hb _ 0 rfl (by simp)
 push_cast [rigV] at hL h189
 rw [run_shut F146 rfl rfl (by simp)]
 push_cast [h189, hL, fixCR, lpE]
end Go.Proofs.YtflbieghmgobgaaGreatDoor

namespace Go.Proofs.YtflbieghmgobgaaGreatDoor
open Go.Sha
set_option maxRecDepth 100000
variable {g : List (Nat × Obj)} {n : Nat}
theorem insI_c {l : List Int} {a b : Int} : (insI l a).contains b = (l.contains b || b == a) := by
 unfold insI
 split
 ·rename_i h
  by_cases e : b = a
  ·subst e; simp only [h]; simp
  ·simp [e]
 ·rw [List.contains_eq_any_beq, List.any_append, ← List.contains_eq_any_beq]; simp [BEq.comm]
theorem foldI_c {b : Int} : ∀ {os l : List Int}, (os.foldl insI l).contains b = (l.contains b || os.contains b)
 | [], l => by simp
 | a :: r, l => by rw [List.foldl_cons, foldI_c, insI_c, List.contains_cons, Bool.or_assoc]
theorem offs_c {q : Ftr} {v : Int} : (offs q).contains v = useQ v q := by
 unfold offs useQ
 rw [Bool.eq_iff_iff]
 by_cases h : q.bits = 16
 ·simp only [h, if_true, true_and, List.contains_cons, List.contains_nil, Bool.or_false, Bool.or_eq_true, beq_iff_eq, decide_eq_true_eq]
  exact ⟨fun e => e.elim (fun e => .inl e.symm) (fun e => .inr e.symm), fun e => e.elim (fun e => .inl e.symm) (fun e => .inr e.symm)⟩
 ·simp only [h, if_false, false_and, or_false, List.contains_cons, List.contains_nil, Bool.or_false, beq_iff_eq, decide_eq_true_eq]
  exact ⟨Eq.symm, Eq.symm⟩
def SetOk (b : List Ftr) (ts us : List Int) : Prop := (∀ a, ts.contains a = b.any fun z => z.attr == a) ∧ ∀ v, us.contains v = b.any (useQ v)
theorem SetOk.snoc {b : List Ftr} {ts us : List Int} (h : SetOk b ts us) (q : Ftr) : SetOk (b ++ [q]) (insI ts q.attr) ((offs q).foldl insI us) :=
 ⟨fun a => by rw [insI_c, h.1, List.any_append]; simp [BEq.comm], fun v => by rw [foldI_c, h.2, List.any_append, offs_c]; simp⟩
theorem insC_eq {q : Ftr} (h : q.bits = 8 ∨ q.bits = 16) : insC q = insR q := by
 have e : topV q.bits = if q.bits = 8 then 255 else 65535 := by rcases h with h | h <;> rw [h] <;> decide
 unfold insC insR
 rw [e]
 by_cases h1 : lvl q.home <;> by_cases h2 : q.low < 0 ∨ q.high < q.low ∨ (if q.bits = 8 then 255 else 65535) < q.high <;> simp [h1, h2]
theorem innC_eq {q : Ftr} {c : Int} (h : q.bits = 8 ∨ q.bits = 16) : innC c q = innR c q := by unfold innC innR; rw [insC_eq h]
theorem featF_eq {foot c : Int} {q : Ftr} {b : List Ftr} {ts us : List Int} (h : SetOk b ts us) : featR foot c q b = if ¬ featF foot q ts us = 0 then featF foot q ts us else innC c q := by
 have e1 : ((offs q).any fun v => decide (v < 0 ∨ foot ≤ v)) = true ↔ q.coarse < 0 ∨ foot ≤ q.coarse ∨ q.bits = 16 ∧ (q.fine < 0 ∨ foot ≤ q.fine) := by
  unfold offs; by_cases hb : q.bits = 16 <;> simp [hb, or_assoc]
 have e2 : (offs q).any us.contains = true ↔ b.any (useQ q.coarse) = true ∨ q.bits = 16 ∧ b.any (useQ q.fine) = true := by
  rw [← h.2, ← h.2]; unfold offs; by_cases hb : q.bits = 16 <;> simp only [hb, if_true, if_false, List.any_cons, List.any_nil, Bool.or_false, Bool.or_eq_true, true_and, false_and, or_false]
 unfold featR featF
 rw [h.1]
 by_cases c1 : q.attr < 0 ∨ 15 ≤ q.attr
 ·simp [c1]
 ·by_cases c2 : (b.any fun z => z.attr == q.attr) = true
  ·simp [c1, c2]
  ·by_cases c3 : ¬ q.bits = 8 ∧ ¬ q.bits = 16
   ·simp [c1, c2, c3]
   ·have hb : q.bits = 8 ∨ q.bits = 16 := by omega
    rw [innC_eq hb]
    by_cases c4 : q.coarse < 0 ∨ foot ≤ q.coarse ∨ q.bits = 16 ∧ (q.fine < 0 ∨ foot ≤ q.fine)
    ·simp only [if_neg c1, if_neg c2, if_neg c3, if_pos c4, if_pos (e1.2 c4)]; rfl
    ·simp only [if_neg c1, if_neg c2, if_neg c3, if_neg c4, if_neg (fun e => c4 (e1.1 e))]
     by_cases c5 : q.bits = 8 ∧ ¬ q.fine = 0
     ·simp only [if_pos c5]; rfl
     ·simp only [if_neg c5]
      by_cases c6 : (offs q).any us.contains = true
      ·simp only [if_pos c6]
       rw [if_pos ((e2.1 c6).elim .inl fun e => .inr ⟨e.1, .inl e.2⟩)]; rfl
      ·simp only [if_neg c6]
       by_cases c7 : q.bits = 16 ∧ q.fine = q.coarse
       ·simp only [if_pos c7]; rw [if_pos (.inr ⟨c7.1, .inr c7.2⟩)]; rfl
       ·simp only [if_neg c7]
        rw [if_neg (fun e => e.elim (fun e => c6 (e2.2 (.inl e))) fun e => e.2.elim (fun x => c6 (e2.2 (.inr ⟨e.1, x⟩))) fun x => c7 ⟨e.1, x⟩)]; rfl
theorem featsP_eq {foot c : Int} {l : List Ftr} : ∀ {r : List Ftr} {j : Nat} {ts us : List Int}, l.drop j = r → SetOk (l.take j) ts us → (featsP foot c r ts us).1 = featsR foot c l r j
 | [], _, _, _, _, _ => rfl
 | q :: r, j, ts, us, hd, h => by
  rw [featsP, featsR, featF_eq h]
  by_cases h1 : featF foot q ts us = 0
  ·by_cases h2 : innC c q = 0
   ·have := featsP_eq (foot := foot) (c := c) (l := l) (r := r) (j := j + 1) (by rw [← List.drop_drop, hd]; rfl) (by rw [take_snoc hd]; exact h.snoc q)
    simp only [h1, h2, not_true_eq_false, if_false, if_true]; exact this
   ·simp [h1, h2]
  ·simp [h1]
theorem profP_eq {p : Prof} {l : List (List Pt)} : profP p l = profR p l := by
 unfold profP profR profF
 rw [featsP_eq (l := p.feats) (r := p.feats) (j := 0) rfl ⟨fun _ => rfl, fun _ => rfl⟩]
 by_cases h1 : cursC l = 0
 ·by_cases h2 : nameS p.name = false
  ·simp [h1, h2]
  ·by_cases h3 : p.foot < 1 ∨ 512 < p.foot
   ·have h3' : p.foot < 1 ∨ 512 < p.foot ∨ p.watts < 0 ∨ 1048576 < p.watts := by omega
    simp [h1, h2, h3, h3']
   ·by_cases h4 : p.watts < 0 ∨ 1048576 < p.watts
    ·have h3' : p.foot < 1 ∨ 512 < p.foot ∨ p.watts < 0 ∨ 1048576 < p.watts := by omega
     simp [h1, h2, h3, h4, h3']
    ·have h3' : ¬ (p.foot < 1 ∨ 512 < p.foot ∨ p.watts < 0 ∨ 1048576 < p.watts) := by omega
     by_cases h5 : 16 < (p.feats.length : Int) <;> simp [h1, h2, h3, h4, h3', h5]
 ·simp [h1]
def rigE (c : List (List Pt)) (ps : List Prof) (fx : List Fixt) : V := .agg [.sl (c.map Pt.vs), .sl (ps.map Prof.v), .sl (fx.map Fixt.v)]
def strE (l : List (List UInt8)) : List (V × V) := l.map fun x => (.str x, .bool true)
theorem find_strE {a : List UInt8} : ∀ {l : List (List UInt8)} {i : Nat}, (l.contains a = true → ∃ j, findV (.str a) (strE l) i = some (some (j, .bool true))) ∧ (l.contains a = false → findV (.str a) (strE l) i = some none)
 | [], i => ⟨fun h => by simp at h, fun _ => rfl⟩
 | x :: r, i => by
  obtain ⟨i1, i2⟩ := find_strE (a := a) (l := r) (i := i + 1)
  simp only [strE, List.map_cons, findV, sameV] at i1 i2 ⊢
  by_cases h : a = x
  ·subst h; exact ⟨fun _ => ⟨i, by simp⟩, fun e => by simp at e⟩
  ·have h' : (a == x) = false := by simp [h]
   simp only [h', List.contains_cons, Bool.false_or]
   exact ⟨i1, i2⟩
@[push_cast] theorem look_strE {st : St} {a : List UInt8} {l : List (List UInt8)} : lookB st (.bool false) false (findV (.str a) (strE l) 0) = some (.bool (l.contains a), st) := by
 cases h : l.contains a with
 | true => obtain ⟨j, e⟩ := (find_strE (i := 0)).1 h; rw [e]; rfl
 | false => rw [(find_strE (i := 0)).2 h]; rfl
theorem mset_strE {st : St} {i : Nat} {a : List UInt8} {l : List (List UInt8)} (h : l.contains a = false) : msetB st i (strE l) (.str a) (.bool true) (findV (.str a) (strE l) 0) = some (.und, ⟨st.nx, st.mem, st.arr, ⟨updO st.x.obj i (.map (strE (l ++ [a]))), st.x.gl, st.x.ty⟩⟩) := by
 rw [(find_strE (i := 0)).2 h]; simp [msetB, putM, strE]
@[push_cast] theorem strE_all {l : List (List UInt8)} : ((strE l).all fun p => p.1.bd n && p.2.bd n) = true := by simp [strE, V.bd]
def stS (g : List (Nat × Obj)) (a : List (List UInt8)) : St := ⟨2, [], [], ⟨[(1, .map (strE a))], g, []⟩⟩
@[push_cast] theorem stS_eq {a : List (List UInt8)} : stS g a = ⟨2, [], [], ⟨[(1, .map (strE a))], g, []⟩⟩ := @_root_.id (_ = _) rfl
theorem L99_0 {l : List (List Pt)} {x : V} (hl : Cok l) : ∀ r j, l.drop j = r → runL Tryz.prog HH [1, 15, 16, 17] 1 B99_0 [(1, .ep x 0), (15, .sl (l.map Pt.vs)), (16, .int .i64 l.length), (17, .int .i64 j)] (stN g 1) = lpX 0 (stN g 1) [(1, .ep x 0)] 2 (cursL r) := by
 have hb := hl.1
 refine drop_ind (fun j h => ?_) (fun q r j h hx hd ih => ?_)
 all_goals rw [runL_of B99_0.eq_1]
 ·have h1 : ¬ (j : Int) < l.length := by omega
  push_cast [h1, cursL]
 ·have h1 : (j : Int) < l.length := by omega
  have hw := iw1 (j := j) (by omega)
  have hq : q.length < 140737488355328 := hl.2 q (mem_at hd)
  push_cast [h1, hw, hx, f144 hq] at ih ⊢
  simp only [ih, cursL, lps, Int.reduceEq, not_false_eq_true]
  all_goals ((repeat' split) <;> simp_all)
theorem L99_1 {l : List Prof} {c : List (List Pt)} {fx : List Fixt} (hl : l.length < 140737488355328) (hb : ∀ q ∈ l, q.ok) (hc : Cok c) : ∀ r j, l.drop j = r → ∀ ns, (∀ s, ns.contains s = (l.take j).any fun p => p.name == s) → ∃ ns',
  runL Tryz.prog HH [1, 6, 33, 34, 35] 2 B99_1 [(1, .ep (rigE c l fx) 0), (6, .mp 1), (33, .sl (l.map Prof.v)), (34, .int .i64 l.length), (35, .int .i64 j)] (stS g ns) = lpX 2 (stS g ns') [(1, .ep (rigE c l fx) 0)] 2 (profsR l c r j) := by
 refine drop_ind (fun j h ns hn => ?_) (fun q r j h hx hd ih ns hn => ?_)
 all_goals rw [runL_of B99_1.eq_1]
 ·have h1 : ¬ (j : Int) < l.length := by omega
  refine ⟨ns, ?_⟩
  push_cast [h1, profsR, Prof.v, rigE]
 ·have h1 : (j : Int) < l.length := by omega
  have hw := iw1 (j := j) (by omega)
  have h145 := fun (st : St) => f145 (st := st) (hb q (mem_at hd)) hc
  rw [profP_eq] at h145
  rw [profsR, ← hn]
  cases h2 : ns.contains q.name with
  | true =>
   refine ⟨ns, ?_⟩
   clear ih
   push_cast [Prof.v] at h145
   push_cast [h1, hw, hx, rigE, Prof.v, h145, h2]
   all_goals ((repeat' split) <;> simp_all)
  | false =>
   obtain ⟨ns', ih⟩ := ih (ns ++ [q.name]) (fun s => by rw [take_snoc hd, List.any_append, ← hn, List.contains_eq_any_beq, List.any_append, ← List.contains_eq_any_beq]; simp [BEq.comm])
   have h3 := fun (st : St) (i : Nat) => mset_strE (st := st) (i := i) h2
   by_cases h4 : profR q c = 0
   ·refine ⟨ns', ?_⟩
    push_cast [Prof.v] at h145
    push_cast [h1, hw, hx, rigE, Prof.v, h145, h2, h3, h4] at ih ⊢
    simp only [ih]
   ·refine ⟨ns, ?_⟩
    clear ih
    push_cast [Prof.v] at h145
    push_cast [h1, hw, hx, rigE, Prof.v, h145, h2, h4]
def Pok (l : List Prof) : Prop := l.length < 140737488355328 ∧ (∀ q ∈ l, q.ok) ∧ ∀ q ∈ l, q.okR
def Xok (l : List Fixt) : Prop := l.length < 140737488355328 ∧ ∀ x ∈ l, x.cable.length < 140737488355328
def uniC (c : List (List Pt)) (ps : List Prof) (fx : List Fixt) : Int := if ¬ cursC c = 0 then cursC c else if ¬ profsCR ps c = 0 then profsCR ps c else fixCR fx ps
theorem rigE_bd {c : List (List Pt)} {ps : List Prof} {fx : List Fixt} : V.bd 0 (rigE c ps fx) = true := by simp [rigE, V.bd, V.bdL, bdL_map']
theorem f99 {c : List (List Pt)} {ps : List Prof} {fx : List Fixt} (hc : Cok c) (hp : Pok ps) (hx : Xok fx) {st : St} : run Tryz.prog HH 99 [rigE c ps fx] st = some (.ret (.int .i64 (uniC c ps fx)), st) := by
 have h0 := L99_0 (g := st.x.gl) (x := rigE c ps fx) hc _ 0 rfl
 obtain ⟨ns, h1⟩ := L99_1 (g := st.x.gl) (fx := fx) hp.1 hp.2.1 hc _ 0 rfl [] (fun _ => rfl)
 have h146 := fun (st : St) => f146 (st := st) hx.1 hx.2 hp.1
 have e : strE [] = [] := rfl
 rw [run_shut F99 rfl rfl (by simp [V.bdL, rigE_bd])]
 push_cast [rigE, e] at h0 h1
 push_cast [rigE, h0, h1, h146, lpX]
 unfold uniC cursC profsCR
 by_cases a1 : 16 < (c.length : Int) <;> by_cases a2 : cursL c = 0 <;> by_cases a3 : 32 < (ps.length : Int) <;> by_cases a4 : profsR ps c ps 0 = 0 <;> simp [a1, a2, a3, a4]
theorem f100 {x : Sho} {st : St} : run Tryz.prog HH 100 [x.v] st = some (.ret (rigE x.curves x.profs x.fixts), st) := by
 rw [run_shut F100 rfl rfl (by simp)]
 push_cast [Sho.v, rigE]
theorem f98 {x : Sho} (hc : Cok x.curves) (hp : Pok x.profs) (hx : Xok x.fixts) {st : St} : run Tryz.prog HH 98 [x.v] st = some (.ret (.int .i64 (uniC x.curves x.profs x.fixts)), st) := by
 have h := fun (st : St) => f100 (x := x) (st := st)
 have h2 := fun (st : St) => f99 (st := st) hc hp hx
 push_cast [Sho.v, rigE] at h h2
 rw [run_shut F98 rfl rfl (by simp)]
 push_cast [Sho.v, h, h2]
end Go.Proofs.YtflbieghmgobgaaGreatDoor

namespace Go.Proofs.YtflbieghmgobgaaGreatDoor
open Go.Sha
set_option maxRecDepth 100000
theorem prmC_ok {c : Int} {x : Prm} (h : prmC c x = 0) : c ≤ x.chan ∧ x.chan ≤ 999 ∧ 0 ≤ x.attr ∧ x.attr ≤ 14 := by
 unfold prmC at h; split at h <;> omega
theorem cmp_bef {x y : Prm} {c d : Int} (hc : 0 ≤ c) (hd : 0 ≤ d) (hx : prmC c x = 0) (hy : prmC d y = 0) : (0 ≤ cmpP x y) = (befP x y = false) := by
 have a := prmC_ok hx; have b := prmC_ok hy
 have w1 : IntKind.i64.wrap (x.chan - y.chan) = x.chan - y.chan := iwrap (by omega) (by omega)
 have w2 : IntKind.i64.wrap (x.attr - y.attr) = x.attr - y.attr := iwrap (by omega) (by omega)
 unfold cmpP befP
 rw [w1, w2, eq_iff_iff]
 simp only [Bool.or_eq_false_iff, Bool.and_eq_false_iff, decide_eq_false_iff_not]
 split <;> omega
theorem mem_prev {α : Type} [Inhabited α] {l : List α} {j : Nat} (h0 : 0 < j) (h : j ≤ l.length) : l.getD (j - 1) default ∈ l.take j := by
 rw [List.getD_eq_getElem?_getD, List.getElem?_eq_getElem (by omega)]
 exact List.mem_iff_getElem?.2 ⟨j - 1, by rw [List.getElem?_take, if_pos (by omega), List.getElem?_eq_getElem (by omega)]; rfl⟩
theorem drop_le {α : Type} {l r : List α} {q : α} {j : Nat} (hd : l.drop j = q :: r) : j < l.length := by
 have := congrArg List.length hd; simp at this; omega
theorem all_snoc {α : Type} {l r : List α} {q : α} {j : Nat} {P : α → Prop} (hd : l.drop j = q :: r) (h : ∀ z ∈ l.take j, P z) (hq : P q) : ∀ z ∈ l.take (j + 1), P z := by
 rw [take_snoc hd]; intro z hz
 rcases List.mem_append.1 hz with hz | hz
 ·exact h z hz
 ·rw [List.mem_singleton.1 hz]; exact hq
theorem drop_succ {α : Type} {l r : List α} {q : α} {j : Nat} (hd : l.drop j = q :: r) : l.drop (j + 1) = r := by rw [← List.drop_drop, hd]; rfl
theorem hueC_ok {q : Hue} (h : hueC q = 0) : lvl q.lev ∧ prmC 0 q.p = 0 := by
 unfold hueC at h
 split at h
 ·rename_i a; exact ⟨a, h⟩
 ·omega
theorem huesP_eq {l : List Hue} : ∀ {r : List Hue} {j : Nat}, l.drop j = r → (∀ z ∈ l.take j, hueC z = 0) → huesP l r j = huesR l r j
 | [], _, _, _ => rfl
 | q :: r, j, hd, h => by
  rw [huesP, huesR]
  by_cases h1 : hueC q = 0
  ·obtain ⟨a, b⟩ := hueC_ok h1
   have b' := prmC_ok b
   have n : ¬ (q.chan < 0 ∨ 999 < q.chan ∨ q.attr < 0 ∨ 15 ≤ q.attr ∨ ¬ lvl q.lev) := by
    simp only [Hue.p] at b'; omega
   rw [if_pos h1, if_neg n, huesP_eq (drop_succ hd) (all_snoc hd h h1)]
   have e : (0 < j ∧ 0 ≤ cmpP (l.getD (j - 1) default).p q.p) = (0 < j ∧ befP (l.getD (j - 1) default).p q.p = false) := by
    rw [eq_iff_iff]
    refine and_congr_right fun h0 => ?_
    rw [cmp_bef (Int.le_refl 0) (Int.le_refl 0) (hueC_ok (h _ (mem_prev h0 (Nat.le_of_lt (drop_le hd))))).2 b]
   simp only [e]
  ·rw [if_neg h1]
   have n : q.chan < 0 ∨ 999 < q.chan ∨ q.attr < 0 ∨ 15 ≤ q.attr ∨ ¬ lvl q.lev := by
    by_cases a : lvl q.lev
    ·simp only [hueC, a, if_true, prmC, Hue.p] at h1
     split at h1 <;> omega
    ·exact .inr (.inr (.inr (.inr a)))
   rw [if_pos n]
   unfold hueC prmC at h1 ⊢
   split
   ·rename_i a
    rw [if_pos a] at h1
    split
    ·rfl
    ·rename_i b; rw [if_neg b] at h1; exact absurd rfl h1
   ·rfl
theorem hueL_eq {l : List Hue} : hueLP l = hueLR l := by unfold hueLP hueLR; rw [huesP_eq (l := l) (r := l) (j := 0) rfl (by simp)]
theorem palsP_eq {l : List Pal} : ∀ {r : List Pal} {j : Nat}, palsP l r j = palsR l r j
 | [], _ => rfl
 | q :: r, j => by rw [palsP, palsR, hueL_eq, palsP_eq]
theorem palsC_eq {l : List Pal} : palsCP l = palsCR l := by unfold palsCP palsCR; rw [palsP_eq]
theorem gansP_eq {h : Bool} {l : List Gan} : ∀ {r : List Gan} {j : Nat}, l.drop j = r → (∀ z ∈ l.take j, prmC 1 z.prm = 0) → gansP h l r j = gansR h l r j
 | [], _, _, _ => rfl
 | q :: r, j, hd, hz => by
  rw [gansP, gansR]
  by_cases h1 : prmC 1 q.prm = 0
  ·rw [gansP_eq (drop_succ hd) (all_snoc (P := fun z => prmC 1 z.prm = 0) hd hz h1)]
   have e : (0 < j ∧ 0 ≤ cmpP (l.getD (j - 1) default).prm q.prm) = (0 < j ∧ befP (l.getD (j - 1) default).prm q.prm = false) := by
    rw [eq_iff_iff]
    refine and_congr_right fun h0 => ?_
    rw [cmp_bef (by omega) (by omega) (hz _ (mem_prev h0 (Nat.le_of_lt (drop_le hd)))) h1]
   have e2 : (q.lev < 0 ∨ 65535 < q.lev) = ¬ lvl q.lev := propext (by unfold lvl; omega)
   simp only [e, e2]
  ·rw [if_neg h1, if_neg h1]
theorem sb_eq {x : Sb} : sbP x = sbR x := by unfold sbP sbR; rw [gansP_eq (l := x.gains) (r := x.gains) (j := 0) rfl (by simp)]
theorem subsP_eq {l : List Sb} : ∀ {r : List Sb} {j : Nat} {n : Int}, l.drop j = r → n = (if j = 0 then 0 else (l.getD (j - 1) default).num) → subsP r n = subsR l r j
 | [], _, _, _, _ => rfl
 | q :: r, j, n, hd, hn => by
  rw [subsP, subsR, sb_eq, subsP_eq (n := q.num) (drop_succ hd) (by
   rw [if_neg (by omega), Nat.add_sub_cancel, List.getD_eq_getElem?_getD]
   have := congrArg (·[0]?) hd
   simp at this; rw [this]; rfl)]
  by_cases h1 : sbR q = 0
  ·rw [if_pos h1, if_pos h1]
   have e : (q.num ≤ n) = (0 < j ∧ q.num ≤ (l.getD (j - 1) default).num) := by
    rw [hn]
    by_cases h0 : j = 0
    ·rw [if_pos h0]
     have : ¬ sbOk q := by intro h; unfold sbR at h1; rw [if_pos h] at h1; omega
     simp only [eq_iff_iff]; unfold sbOk at this; omega
    ·rw [if_neg h0]; simp only [eq_iff_iff]; omega
   simp only [e]
  ·rw [if_neg h1, if_neg h1]
theorem subsC_eq {l : List Sb} : subsCP l = subsCR l := by unfold subsCP subsCR; rw [subsP_eq (l := l) (r := l) (j := 0) (n := 0) rfl rfl]
theorem movsP_eq {l : List Mov} : ∀ {r : List Mov} {j : Nat}, l.drop j = r → (∀ z ∈ l.take j, prmC 1 z.prm = 0) → movsP l r j = movsR l r j
 | [], _, _, _ => rfl
 | q :: r, j, hd, hz => by
  rw [movsP, movsR]
  unfold movX
  by_cases h1 : prmC 1 q.prm = 0
  ·rw [movsP_eq (drop_succ hd) (all_snoc (P := fun z => prmC 1 z.prm = 0) hd hz h1)]
   have e : (0 < (j : Int) ∧ 0 ≤ cmpP (l.getD (j - 1) default).prm q.prm) = (0 < j ∧ befP (l.getD (j - 1) default).prm q.prm = false) := by
    rw [eq_iff_iff, show (0 < (j : Int)) = (0 < j) by simp]
    refine and_congr_right fun h0 => ?_
    rw [cmp_bef (by omega) (by omega) (hz _ (mem_prev h0 (Nat.le_of_lt (drop_le hd)))) h1]
   simp only [h1, e]
   by_cases h2 : valC q.val = 0
   ·by_cases h3 : q.part < 1 ∨ 4 < q.part
    ·simp [h2, h3]
    ·by_cases h4 : 0 < j ∧ befP (l.getD (j - 1) default).prm q.prm = false
     ·simp only [h2, if_neg h3, if_pos h4]; rfl
     ·simp only [h2, if_neg h3, if_neg h4]; rfl
   ·simp [h2]
  ·simp [h1]
theorem movC_eq {l : List Mov} : movCP l = movCR l := by unfold movCP movCR; rw [movsP_eq (l := l) (r := l) (j := 0) rfl (by simp)]
theorem cue_eq {x : Cu} : cueP x = cueR x := by
 unfold cueP cueR
 rw [movC_eq, mpL_eq]
 unfold parC timC
 by_cases a1 : numC x.num = 0 <;> by_cases a2 : labC x.label = 0 <;> by_cases a3 : movCR x.moves = 0 <;> simp only [a1, a2, a3, not_true_eq_false, not_false_eq_true, if_true, if_false]
 by_cases a4 : (x.parts.length : Int) = 0
 ·simp only [if_pos a4]; rfl
 ·by_cases a5 : 4 < (x.parts.length : Int)
  ·simp only [if_neg a4, if_pos a5]; rfl
  ·by_cases a6 : timL x.parts = 0
   ·by_cases a7 : (x.moves.any fun q => decide ((x.parts.length : Int) < q.part)) = true
    ·simp only [a4, a5, a6, a7, if_true, if_false, not_true_eq_false]; rfl
    ·simp only [a4, a5, a6, a7, if_true, if_false, not_true_eq_false]; rfl
   ·simp only [if_neg a4, if_neg a5, if_neg a6, if_pos a6, not_false_eq_true, if_true]
end Go.Proofs.YtflbieghmgobgaaGreatDoor

namespace Go.Proofs.YtflbieghmgobgaaGreatDoor
open Go.Sha
set_option maxRecDepth 100000
variable {g : List (Nat × Obj)} {n : Nat}
theorem isD_val {b : UInt8} (h : isD b = true) : IntKind.u8.wrap ((b.toNat : Int) - 48) = ((b.toNat - 48 : Nat) : Int) ∧ b.toNat - 48 ≤ 9 := by
 simp only [isD, Bool.and_eq_true, decide_eq_true_eq] at h
 refine ⟨?_, by omega⟩
 unfold IntKind.wrap
 simp [IntKind.bits, IntKind.signed]
 omega
theorem step_nat {m k : Nat} (hm : m ≤ 100000000000000) (hk : k ≤ 9) : IntKind.i64.wrap (IntKind.i64.wrap (10 * (m : Int)) + IntKind.i64.wrap (k : Int)) = ((10 * m + k : Nat) : Int) := by
 have w1 : IntKind.i64.wrap (10 * (m : Int)) = 10 * (m : Int) := iwrap (by omega) (by omega)
 have w2 : IntKind.i64.wrap (k : Int) = (k : Int) := iwrap (by omega) (by omega)
 rw [w1, w2]
 have w3 : IntKind.i64.wrap (10 * (m : Int) + k) = 10 * (m : Int) + k := iwrap (by omega) (by omega)
 rw [w3]; omega
theorem vwL_nat : ∀ {w : List UInt8} {m B : Nat}, (∀ b ∈ w, isD b = true) → w.length ≤ B → m < 10 ^ (10 - B) → B ≤ 10 → vwL w m = ((w.foldl (fun n b => 10 * n + (b.toNat - 48)) m : Nat) : Int) ∧ w.foldl (fun n b => 10 * n + (b.toNat - 48)) m < 10 ^ (10 - B + w.length)
 | [], m, B, _, _, h, _ => ⟨rfl, by simpa using h⟩
 | b :: r, m, B, hw, hl, h, hB => by
  simp at hl
  obtain ⟨e, hk⟩ := isD_val (hw b (List.mem_cons_self ..))
  have hp : 10 ^ (10 - B) ≤ 10 ^ 10 := Nat.pow_le_pow_right (by omega) (by omega)
  have h2 : 10 * m + (b.toNat - 48) < 10 ^ (10 - (B - 1)) := by
   rw [show 10 - (B - 1) = (10 - B) + 1 by omega, Nat.pow_succ]; omega
  have ih := vwL_nat (w := r) (m := 10 * m + (b.toNat - 48)) (B := B - 1) (fun x hx => hw x (List.mem_cons_of_mem _ hx)) (by omega) h2 (by omega)
  rw [vwL, e, step_nat (by omega) hk, List.foldl_cons]
  refine ⟨ih.1, ?_⟩
  have := ih.2
  rwa [show 10 - (B - 1) + r.length = 10 - B + (b :: r).length by simp; omega] at this
def pdB (r : List UInt8) (k : Nat) : UInt8 := if k < r.length then r.getD k 0 else 48
theorem pad_3 {r : List UInt8} : (r ++ [48, 48, 48]).take 3 = [pdB r 0, pdB r 1, pdB r 2] := by
 match r with
 | [] => rfl
 | [a] => simp [pdB]
 | [a, b] => simp [pdB]
 | a :: b :: c :: r => simp [pdB]
theorem nxV_nat {r : List UInt8} {k m : Nat} (hr : ∀ b ∈ r, isD b = true) (hm : m ≤ 100000000000000) : nxV r k m = ((10 * m + ((pdB r k).toNat - 48) : Nat) : Int) := by
 unfold nxV pdB
 by_cases h : k < r.length
 ·rw [if_pos (by omega), if_pos h]
  obtain ⟨e, hk⟩ := isD_val (hr (r.getD k 0) (by rw [List.getD_eq_getElem?_getD, List.getElem?_eq_getElem h]; exact List.getElem_mem h))
  rw [e, step_nat hm hk]
 ·rw [if_neg (by omega), if_neg h]
  have w1 : IntKind.i64.wrap (10 * (m : Int)) = 10 * (m : Int) := iwrap (by omega) (by omega)
  rw [w1]
  have : (48 : UInt8).toNat = 48 := rfl
  omega
theorem pd_le {r : List UInt8} {k : Nat} (hr : ∀ b ∈ r, isD b = true) : (pdB r k).toNat - 48 ≤ 9 := by
 unfold pdB
 split
 ·rename_i h
  exact (isD_val (hr (r.getD k 0) (by rw [List.getD_eq_getElem?_getD, List.getElem?_eq_getElem h]; exact List.getElem_mem h))).2
 ·decide
theorem numC_parts {s : List UInt8} (h : numC s = 0) : (∀ b ∈ nW s, isD b = true) ∧ (∀ b ∈ nR s, isD b = true) ∧ (nW s).length ≤ 4 ∧ (nR s).length ≤ 3 := by
 unfold numC at h
 split at h
 ·cases h
 ·rename_i h1
  split at h
  ·cases h
  ·rename_i h2
   split at h
   ·cases h
   ·split at h
    ·cases h
    ·rename_i h3 h4
     refine ⟨digB_all (by simpa using h1), ?_, by omega, by omega⟩
     cases hc : s.contains 46 with
     | false => rw [(n_none hc).2]; simp
     | true => rw [hc] at h2; simp at h2; exact digB_all h2.1
theorem val_eq {s : List UInt8} (h : numC s = 0) : valN s = refV s := by
 obtain ⟨a1, a2, a3, a4⟩ := numC_parts h
 obtain ⟨e1, e2⟩ := vwL_nat (w := nW s) (m := 0) (B := 10) a1 (by omega) (by simp) (Nat.le_refl _)
 have hp : 10 ^ (10 - 10 + (nW s).length) ≤ 10 ^ 4 := Nat.pow_le_pow_right (by omega) (by omega)
 generalize hN : (nW s).foldl (fun n b => 10 * n + (b.toNat - 48)) 0 = N at e1 e2
 have p0 := pd_le (k := 0) a2; have p1 := pd_le (k := 1) a2; have p2 := pd_le (k := 2) a2
 unfold valN refV
 rw [if_pos h, show (0 : Int) = ((0 : Nat) : Int) from rfl, e1, nxV_nat a2 (by omega), nxV_nat a2 (by omega), nxV_nat a2 (by omega), natOf, numS, pad_3, List.foldl_append, hN]
 rfl
theorem cueP_num {x : Cu} (h : cueR x = 0) : numC x.num = 0 := by
 unfold cueR at h
 split at h
 ·rename_i a; exact absurd h a
 ·rename_i a; exact Classical.not_not.1 a
theorem cuesP_eq {l : List Cu} : ∀ {r : List Cu} {j : Nat}, l.drop j = r → (∀ z ∈ l.take j, cueR z = 0) → cuesP l r j = cuesR l r j
 | [], _, _, _ => rfl
 | q :: r, j, hd, hz => by
  rw [cuesP, cuesR, cue_eq]
  by_cases h1 : cueR q = 0
  ·rw [cuesP_eq (drop_succ hd) (all_snoc (P := fun z => cueR z = 0) hd hz h1)]
   have e : (0 < j ∧ 0 ≤ cmpN (l.getD (j - 1) default).num q.num) = (0 < j ∧ 0 ≤ ordR (l.getD (j - 1) default).num q.num) := by
    rw [eq_iff_iff]
    refine and_congr_right fun h0 => ?_
    have a := cueP_num (hz _ (mem_prev h0 (Nat.le_of_lt (drop_le hd))))
    have b := cueP_num h1
    unfold cmpN ordR
    rw [if_neg (by rw [a, b]; simp), val_eq a, val_eq b]
   simp only [e]
  ·rw [if_pos h1, if_pos h1]
theorem lst_eq {x : Lst} : lstP x = lstR x := by unfold lstP lstR; rw [cuesP_eq (l := x.cues) (r := x.cues) (j := 0) rfl (by simp)]
def grpsC (l : List Grp) : Int := if 32 < (l.length : Int) then 5 else grpsL l l 0
theorem f102 {l : List Grp} (hl : l.length < 140737488355328) (hb : ∀ x ∈ l, x.chans.length < 140737488355328) {st : St} : run Tryz.prog HH 102 [.sl (l.map Grp.v)] st = some (.ret (.int .i64 (grpsC l)), st) := by
 rw [run_shut F102 rfl rfl (by simp)]
 have hL0 := fun n => L102 (g := st.x.gl) (n := n) hl hb _ 0 rfl
 push_cast [grpsC] at hL0
 push_cast [grpsC, hL0, lpE, lpX, lpI, lpB]
theorem L61 {l : List Grp} (hl : l.length < 140737488355328) (hb : ∀ x ∈ l, x.chans.length < 140737488355328) : ∀ r j, l.drop j = r → runL Tryz.prog HH [0, 3] n B61_0 [(0, .sl (l.map Grp.v)), (3, .int .i64 j)] (stN g n) = lpE (stN g n) [] 2 (grpsL l r j) := by
 refine drop_ind (fun j h => ?_) (fun q r j h hx hd ih => ?_)
 all_goals rw [runL_of B61_0.eq_1]
 ·have h1 : ¬ (j : Int) < l.length := by omega
  push_cast [h1, grpsL, Grp.v]
 ·have h1 : (j : Int) < l.length := by omega
  have hw := iw1 (j := j) (by omega)
  have hq : q.chans.length < 140737488355328 := hb q (mem_at hd)
  push_cast [h1, hw, hx, Grp.v, f114 hq, iwrap_pred (j := j) (by omega)] at ih ⊢
  simp only [ih, grpsL, lps, Int.reduceEq, not_false_eq_true]
  all_goals ((repeat' split) <;> (try simp_all) <;> (try (with_reducible refine dn_eq ?_ ?_ <;> first | trivial | omega | rfl)) <;> (try omega))
theorem f61 {l : List Grp} (hl : l.length < 140737488355328) (hb : ∀ x ∈ l, x.chans.length < 140737488355328) {st : St} : run Tryz.prog HH 61 [.sl (l.map Grp.v)] st = some (.ret (.int .i64 (grpsC l)), st) := by
 rw [run_shut F61 rfl rfl (by simp)]
 have hL0 := fun n => L61 (g := st.x.gl) (n := n) hl hb _ 0 rfl
 push_cast [grpsC] at hL0
 push_cast [grpsC, hL0, lpE, lpX, lpI, lpB]
def lstsL (l : List Lst) : List Lst → Nat → Int
 | [], _ => 0
 | q :: r, j => if ¬ lstR q = 0 then lstR q else if 0 < j ∧ q.num ≤ (l.getD (j - 1) default).num then 9 else lstsL l r (j + 1)
def Lok (l : List Lst) : Prop := l.length < 140737488355328 ∧ ∀ q ∈ l, q.ok
theorem f149' {x : Lst} (h : x.ok) {st : St} : run Tryz.prog HH 149 [x.v] st = some (.ret (.int .i64 (lstR x)), st) := by rw [f149 h, lst_eq]
theorem L105 {x : Sho} (hl : Lok x.lsts) : ∀ r j, x.lsts.drop j = r → runL Tryz.prog HH [1, 11, 12, 13] n B105_0 [(1, .ep x.v 0), (11, .sl (x.lsts.map Lst.v)), (12, .int .i64 x.lsts.length), (13, .int .i64 j)] (stN g n) = lpE (stN g n) [] 2 (lstsL x.lsts r j) := by
 have hb := hl.1
 refine drop_ind (fun j h => ?_) (fun q r j h hx hd ih => ?_)
 all_goals rw [runL_of B105_0.eq_1]
 ·have h1 : ¬ (j : Int) < x.lsts.length := by omega
  push_cast [h1, lstsL, Sho.v, Lst.v]
 ·have h1 : (j : Int) < x.lsts.length := by omega
  have hw := iw1 (j := j) (by omega)
  have hq : q.ok := hl.2 q (mem_at hd)
  push_cast [h1, hw, hx, Sho.v, Lst.v, f149' hq, iwrap_pred (j := j) (by omega)] at ih ⊢
  simp only [ih, lstsL, lps, Int.reduceEq, not_false_eq_true]
  all_goals ((repeat' split) <;> (try simp_all) <;> (try (with_reducible refine dn_eq ?_ ?_ <;> first | trivial | omega | rfl)) <;> (try omega))
def lstsC (l : List Lst) : Int := if 8 < (l.length : Int) then 5 else lstsL l l 0
theorem f105 {x : Sho} (hl : Lok x.lsts) {st : St} : run Tryz.prog HH 105 [x.v] st = some (.ret (.int .i64 (lstsC x.lsts)), st) := by
 rw [run_shut F105 rfl rfl (by simp)]
 have hL0 := fun n => L105 (g := st.x.gl) (n := n) hl _ 0 rfl
 push_cast [Sho.v, lstsC] at hL0
 push_cast [Sho.v, lstsC, hL0, lpE, lpX, lpI, lpB]
theorem L63 {l : List Lst} (hl : Lok l) : ∀ r j, l.drop j = r → runL Tryz.prog HH [0, 3] n B63_0 [(0, .sl (l.map Lst.v)), (3, .int .i64 j)] (stN g n) = lpE (stN g n) [] 2 (lstsL l r j) := by
 have hb := hl.1
 refine drop_ind (fun j h => ?_) (fun q r j h hx hd ih => ?_)
 all_goals rw [runL_of B63_0.eq_1]
 ·have h1 : ¬ (j : Int) < l.length := by omega
  push_cast [h1, lstsL, Lst.v]
 ·have h1 : (j : Int) < l.length := by omega
  have hw := iw1 (j := j) (by omega)
  have hq : q.ok := hl.2 q (mem_at hd)
  push_cast [h1, hw, hx, Lst.v, f91 hq, iwrap_pred (j := j) (by omega)] at ih ⊢
  simp only [ih, lstsL, lps, Int.reduceEq, not_false_eq_true]
  all_goals ((repeat' split) <;> (try simp_all) <;> (try (with_reducible refine dn_eq ?_ ?_ <;> first | trivial | omega | rfl)) <;> (try omega))
theorem f63 {l : List Lst} (hl : Lok l) {st : St} : run Tryz.prog HH 63 [.sl (l.map Lst.v)] st = some (.ret (.int .i64 (lstsC l)), st) := by
 rw [run_shut F63 rfl rfl (by simp)]
 have hL0 := fun n => L63 (g := st.x.gl) (n := n) hl _ 0 rfl
 push_cast [lstsC] at hL0
 push_cast [lstsC, hL0, lpE, lpX, lpI, lpB]
end Go.Proofs.YtflbieghmgobgaaGreatDoor

namespace Go.Proofs.YtflbieghmgobgaaGreatDoor
open Go.Sha
set_option maxRecDepth 100000
variable {g : List (Nat × Obj)} {n : Nat}
def stP (g : List (Nat × Obj)) (xs : List V) : St := ⟨2, [], [(1, ⟨5, 1, xs, true, true⟩)], ⟨[], g, []⟩⟩
@[push_cast] theorem stP_eq {xs : List V} : stP g xs = ⟨2, [], [(1, ⟨5, 1, xs, true, true⟩)], ⟨[], g, []⟩⟩ := @_root_.id (_ = _) rfl
theorem L97 {s : List UInt8} (hl : s.length < 140737488355328) : ∀ r j, s.drop j = r → runL Tryz.prog HH [11, 12, 13] 2 B97_0 [(11, .osl 1 s.length), (12, .int .i64 s.length), (13, .int .i64 j)] (stP g (s.map bV)) = lpE (stP g (s.map bV)) [] 2 (labL r) := by
 refine drop_ind (fun j h => ?_) (fun q r j h hx hd ih => ?_)
 all_goals rw [runL_of B97_0.eq_1]
 ·have h1 : ¬ (j : Int) < s.length := by omega
  push_cast [h1, labL]
 ·have h1 : (j : Int) < s.length := by omega
  have hw := iw1 (j := j) (by omega)
  have hk : ∀ d, (s.map bV).getD j d = bV q := getD_drop hd
  push_cast [h1, hw, hx, bV, hk] at ih ⊢
  simp only [ih, labL, lps, Int.reduceEq, not_false_eq_true]
  all_goals exact dn_eq (by omega) (by with_reducible rfl)
theorem f97 {x : Sho} (hl : x.title.length < 140737488355328) {st : St} : run Tryz.prog HH 97 [x.v] st = some (.ret (.int .i64 (labC x.title)), st) := by
 rw [run_shut F97 rfl rfl (by simp)]
 have hL0 := L97 (g := st.x.gl) hl _ 0 rfl
 push_cast at hL0
 push_cast [Sho.v, hL0, lpE, labC]
 exact dn_eq (by simp [maxLen]; omega) rfl
theorem L110 {s : List UInt8} (hl : s.length < 140737488355328) : ∀ r j, s.drop j = r → runL Tryz.prog HH [0, 3] n B110_0 [(0, .str s), (3, .int .i64 j)] (stN g n) = lpE (stN g n) [] 2 (labL r) := by
 refine drop_ind (fun j h => ?_) (fun q r j h hx hd ih => ?_)
 all_goals rw [runL_of B110_0.eq_1]
 ·have h1 : ¬ (j : Int) < s.length := by omega
  push_cast [h1, labL]
 ·have h1 : (j : Int) < s.length := by omega
  have hw := iw1 (j := j) (by omega)
  push_cast [h1, hw, hx] at ih ⊢
  simp only [ih, labL, lps, Int.reduceEq, not_false_eq_true]
theorem f110 {s : List UInt8} (hl : s.length < 140737488355328) {st : St} : run Tryz.prog HH 110 [.str s] st = some (.ret (.int .i64 (labC s)), st) := by
 rw [run_shut F110 rfl rfl (by simp)]
 have hL0 := fun n => L110 (g := st.x.gl) (n := n) hl _ 0 rfl
 push_cast [labC] at hL0
 push_cast [labC, hL0, lpE, lpX, lpI, lpB]
structure Sho.ok (x : Sho) : Prop where
 t : x.title.length < 140737488355328
 c : Cok x.curves
 p : Pok x.profs
 f : Xok x.fixts
 g : x.grps.length < 140737488355328 ∧ ∀ q ∈ x.grps, q.chans.length < 140737488355328
 l : x.pals.length < 140737488355328 ∧ ∀ q ∈ x.pals, q.hues.length < 140737488355328
 k : Lok x.lsts
 s : x.subs.length < 140737488355328 ∧ ∀ q ∈ x.subs, q.gains.length < 140737488355328
 e : x.effs.length < 140737488355328 ∧ ∀ q ∈ x.effs, q.wave.length < 140737488355328
theorem f101 {x : Sho} (h : x.ok) {st : St} : run Tryz.prog HH 101 [x.v] st = some (.ret (.int .i64 (grpsC x.grps)), st) := by
 rw [run_shut F101 rfl rfl (by simp)]
 push_cast [Sho.v, f102 h.g.1 h.g.2]
theorem f103 {x : Sho} (h : x.ok) {st : St} : run Tryz.prog HH 103 [x.v] st = some (.ret (.int .i64 (palsCR x.pals)), st) := by
 rw [run_shut F103 rfl rfl (by simp)]
 push_cast [Sho.v, f104 h.l.1 h.l.2, palsC_eq]
theorem f106 {x : Sho} (h : x.ok) {st : St} : run Tryz.prog HH 106 [x.v] st = some (.ret (.int .i64 (subsCR x.subs)), st) := by
 rw [run_shut F106 rfl rfl (by simp)]
 push_cast [Sho.v, f107 h.s.1 h.s.2, subsC_eq]
theorem f108 {x : Sho} (h : x.ok) {st : St} : run Tryz.prog HH 108 [x.v] st = some (.ret (.int .i64 (effsC x.effs)), st) := by
 rw [run_shut F108 rfl rfl (by simp)]
 push_cast [Sho.v, f109 h.e.1 h.e.2]
def shoC (x : Sho) : Int := if ¬ labC x.title = 0 then labC x.title else if ¬ uniC x.curves x.profs x.fixts = 0 then uniC x.curves x.profs x.fixts else if ¬ grpsC x.grps = 0 then grpsC x.grps else if ¬ palsCR x.pals = 0 then palsCR x.pals
 else if ¬ lstsC x.lsts = 0 then lstsC x.lsts else if ¬ subsCR x.subs = 0 then subsCR x.subs else effsC x.effs
theorem f15 {x : Sho} (h : x.ok) {st : St} : run Tryz.prog HH 15 [x.v] st = some (.ret (.int .i64 (shoC x)), st) := by
 have h1 := fun (st : St) => f97 (st := st) h.t
 have h2 := fun (st : St) => f98 (st := st) h.c h.p h.f
 have h3 := fun (st : St) => f101 (st := st) h
 have h4 := fun (st : St) => f103 (st := st) h
 have h5 := fun (st : St) => f105 (st := st) h.k
 have h6 := fun (st : St) => f106 (st := st) h
 have h7 := fun (st : St) => f108 (st := st) h
 push_cast [Sho.v] at h1 h2 h3 h4 h5 h6 h7
 rw [run_shut F15 rfl rfl (by simp)]
 push_cast [Sho.v, h1, h2, h3, h4, h5, h6, h7, (fun (st : St) => run_shut (P := Tryz.prog) (H := HH) (args := []) (st := st) F59 rfl rfl rfl), runL_of B15_0.eq_1, shoC, ite0']
theorem f60 {x : Sho} (h : x.ok) {st : St} : run Tryz.prog HH 60 [x.v] st = some (.ret (.int .i64 (if ¬ labC x.title = 0 then labC x.title else uniC x.curves x.profs x.fixts)), st) := by
 have hr : ∀ q ∈ x.profs, q.okR := h.p.2.2
 rw [run_shut F60 rfl rfl (by simp)]
 push_cast [Sho.v, f110 h.t, f111 h.c.1 h.c.2, f112 h.p.1 hr h.c, f113 h.f.1 h.f.2 h.p.1, uniC]
theorem f16 {x : Sho} (h : x.ok) {st : St} : run Tryz.prog HH 16 [x.v] st = some (.ret (.int .i64 (shoC x)), st) := by
 have h1 := fun (st : St) => f60 (st := st) h
 push_cast [Sho.v] at h1
 rw [run_shut F16 rfl rfl (by simp)]
 push_cast [Sho.v, h1, f61 h.g.1 h.g.2, f62 h.l.1 h.l.2, f63 h.k, f64 h.s.1 h.s.2, f65 h.e.1 h.e.2]
 unfold shoC
 by_cases a1 : labC x.title = 0 <;> by_cases a2 : uniC x.curves x.profs x.fixts = 0 <;> simp [a1, a2]
end Go.Proofs.YtflbieghmgobgaaGreatDoor

namespace Go.Proofs.YtflbieghmgobgaaGreatDoor
open Go.Sha
set_option maxRecDepth 10000
def B11_0 : Cd := (.join [1, 3] (.g [.m 53 3,
.a 54 2 1,
.l 55 54,
.u 56 55,
.b 57 .lss 53 56]
 (.i 57 .skip
 (.exit [1] 0)))
 (.join [1, 3] (.block 1 (.g [.a 60 2 1,
.l 61 60,
.m 62 3,
.r 63 4 61 62,
.d 64 4 63,
.f 65 51 64,
.z 66 65]
 (.i 66 (.g [.k 2 false]
 (.ret [2]))
 .skip)))
 (.reg [.m 58 3,
.v 59 .add 58 1,
.m 3 59])))
def B11_1 : Cd := (.join [1, 4] (.join [1, 4, 75] (.reg [.m 67 4,
.a 68 6 1,
.l 69 68,
.u 70 69,
.b 71 .lss 67 70,
.m 72 71,
.my 73 4 72,
.vy 74 .lss 73 10 72,
.e 75 72 74])
 (.i 75 .skip
 (.exit [1] 2)))
 (.join [1, 4] (.block 3 (.g [.a 78 6 1,
.l 79 78,
.m 80 4,
.r 81 3 79 80,
.d 82 3 81,
.f 83 52 82,
.z 84 83]
 (.i 84 (.g [.k 2 false]
 (.ret [2]))
 .skip)))
 (.reg [.m 76 4,
.v 77 .add 76 1,
.m 4 77])))
theorem F11 : compF Tryz.prog 11 = some ⟨101, [.tmp 2], (.g [.q 1 31 0,
.k 2 false]
 (.z [1] (.join [1] (.join [1, 52] (.reg [.a 5 0 1,
.l 6 5,
.s 7 (.lens (.t 6)),
.v 8 .gtr 7 100,
.m 9 8,
.ax 10 1 1 9,
.lx 11 10 9,
.x 12 (.f 45 [.t 11]) 9,
.x 13 (.un .not (.t 12)) 9,
.o 14 9 13,
.m 15 14,
.ax 16 2 1 15,
.lx 17 16 15,
.x 18 (.len (.t 17)) 15,
.vx 19 .gtr 18 40 15,
.o 20 15 19,
.m 21 20,
.ax 22 3 1 21,
.lx 23 22 21,
.ax 24 2 1 21,
.lx 25 24 21,
.x 26 (.f 46 [.t 23, .t 25]) 21,
.x 27 (.un .not (.t 26)) 21,
.o 28 21 27,
.m 29 28,
.ax 30 4 1 29,
.lx 31 30 29,
.x 32 (.f 47 [.t 31]) 29,
.x 33 (.un .not (.t 32)) 29,
.o 34 29 33,
.m 35 34,
.ax 36 5 1 35,
.lx 37 36 35,
.x 38 (.f 48 [.t 37]) 35,
.x 39 (.un .not (.t 38)) 35,
.o 40 35 39,
.m 41 40,
.ax 42 7 1 41,
.lx 43 42 41,
.x 44 (.f 49 [.t 43]) 41,
.x 45 (.un .not (.t 44)) 41,
.o 46 41 45,
.m 47 46,
.ax 48 8 1 47,
.lx 49 48 47,
.x 50 (.f 50 [.t 49, (.c .nils)]) 47,
.x 51 (.un .not (.t 50)) 47,
.o 52 47 51])
 (.i 52 (.g [.k 2 false]
 (.ret [2]))
 .skip))
 (.join [1] (.g [.c 3 0]
 (.block 0 (.loop [1, 3] [] B11_0)))
 (.join [1] (.g [.c 4 0]
 (.block 2 (.loop [1, 4] [] B11_1)))
 (.join [2] (.reg [.a 85 6 1,
.l 86 85,
.u 87 86,
.v 88 .leq 87 3,
.m 89 88,
.ax 90 6 1 89,
.lx 91 90 89,
.x 92 (.len (.t 91)) 89,
.vx 93 .gtr 92 8 89,
.mx 94 93 89,
.ay 95 6 1 94,
.ly 96 95 94,
.y 97 (.len (.t 96)) 94,
.vy 98 .leq 97 20 94,
.x 99 (.pick (.t 94) (.t 98) (.c (.bool false))) 89,
.o 100 89 99,
.m 2 100])
 (.ret [2])))))))⟩ := by kernel_rfl
def B46_0 : Cd := (.join [1, 5] (.join [1, 5, 31] (.reg [.m 24 5,
.m 25 1,
.u 26 25,
.b 27 .lss 24 26,
.m 28 27,
.my 29 5 28,
.vy 30 .lss 29 6 28,
.e 31 28 30])
 (.i 31 .skip
 (.exit [] 0)))
 (.join [1, 5] (.block 1 (.g [.m 34 1,
.m 35 5,
.r 36 4 34 35,
.a 37 3 36,
.l 38 37,
.u 39 38,
.v 40 .gtr 39 16]
 (.i 40 (.g [.k 4 false]
 (.ret [4]))
 .skip)))
 (.reg [.m 32 5,
.v 33 .add 32 1,
.m 5 33])))
theorem F46 : compF Tryz.prog 46 = some ⟨41, [.tmp 4], (.g [.k 4 false]
 (.join [1] (.join [1, 23] (.reg [.m 6 0,
.u 7 6,
.v 8 .gtr 7 12,
.m 9 8,
.my 10 0 9,
.y 11 (.len (.t 10)) 9,
.vy 12 .leq 11 64 9,
.e 13 9 12,
.m 14 13,
.mx 15 1 14,
.x 16 (.len (.t 15)) 14,
.vx 17 .gtr 16 6 14,
.mx 18 17 14,
.my 19 1 18,
.y 20 (.len (.t 19)) 18,
.vy 21 .leq 20 32 18,
.x 22 (.pick (.t 18) (.t 21) (.c (.bool false))) 14,
.o 23 14 22])
 (.i 23 (.g [.k 4 false]
 (.ret [4]))
 .skip))
 (.join [] (.g [.c 5 0]
 (.block 0 (.loop [1, 5] [] B46_0)))
 (.g [.k 4 true]
 (.ret [4])))))⟩ := by kernel_rfl
def B47_0 : Cd := (.join [0, 3] (.join [0, 3, 11] (.reg [.m 4 3,
.m 5 0,
.u 6 5,
.b 7 .lss 4 6,
.m 8 7,
.my 9 3 8,
.vy 10 .lss 9 60 8,
.e 11 8 10])
 (.i 11 .skip
 (.exit [0] 0)))
 (.join [0, 3] (.block 1 (.join [0, 3, 29] (.reg [.m 14 0,
.m 15 3,
.r 16 2 14 15,
.a 17 1 16,
.l 18 17,
.u 19 18,
.v 20 .gtr 19 40,
.m 21 20,
.my 22 0 21,
.my 23 3 21,
.ry 24 2 22 23 21,
.ay 25 1 24 21,
.ly 26 25 21,
.y 27 (.len (.t 26)) 21,
.vy 28 .leq 27 256 21,
.e 29 21 28])
 (.i 29 (.g [.k 2 false]
 (.ret [2]))
 .skip)))
 (.reg [.m 12 3,
.v 13 .add 12 1,
.m 3 13])))
theorem F47 : compF Tryz.prog 47 = some ⟨33, [.tmp 2], (.g [.k 2 false]
 (.join [0] (.g [.c 3 0]
 (.block 0 (.loop [0, 3] [] B47_0)))
 (.g [.m 30 0,
.u 31 30,
.v 32 .leq 31 60,
.m 2 32]
 (.ret [2]))))⟩ := by kernel_rfl
def B48_0 : Cd := (.join [0, 3] (.g [.m 7 3,
.m 8 0,
.u 9 8,
.b 10 .lss 7 9]
 (.i 10 .skip
 (.exit [] 0)))
 (.join [0, 3] (.block 1 (.g [.m 13 0,
.m 14 3,
.r 15 2 13 14,
.a 16 1 15,
.l 17 16,
.u 18 17,
.v 19 .gtr 18 512]
 (.i 19 (.g [.k 2 false]
 (.ret [2]))
 .skip)))
 (.reg [.m 11 3,
.v 12 .add 11 1,
.m 3 12])))
theorem F48 : compF Tryz.prog 48 = some ⟨20, [.tmp 2], (.g [.k 2 false]
 (.join [0] (.g [.m 4 0,
.u 5 4,
.v 6 .gtr 5 64]
 (.i 6 (.g [.k 2 false]
 (.ret [2]))
 .skip))
 (.join [] (.g [.c 3 0]
 (.block 0 (.loop [0, 3] [] B48_0)))
 (.g [.k 2 true]
 (.ret [2])))))⟩ := by kernel_rfl
def B49_0 : Cd := (.join [0, 3] (.join [0, 3, 11] (.reg [.m 4 3,
.m 5 0,
.u 6 5,
.b 7 .lss 4 6,
.m 8 7,
.my 9 3 8,
.vy 10 .lss 9 40 8,
.e 11 8 10])
 (.i 11 .skip
 (.exit [0] 0)))
 (.join [0, 3] (.block 1 (.join [0, 3, 29] (.reg [.m 14 0,
.m 15 3,
.r 16 4 14 15,
.a 17 3 16,
.l 18 17,
.u 19 18,
.v 20 .gtr 19 30,
.m 21 20,
.my 22 0 21,
.my 23 3 21,
.ry 24 4 22 23 21,
.ay 25 3 24 21,
.ly 26 25 21,
.y 27 (.len (.t 26)) 21,
.vy 28 .leq 27 128 21,
.e 29 21 28])
 (.i 29 (.g [.k 2 false]
 (.ret [2]))
 .skip)))
 (.reg [.m 12 3,
.v 13 .add 12 1,
.m 3 13])))
theorem F49 : compF Tryz.prog 49 = some ⟨33, [.tmp 2], (.g [.k 2 false]
 (.join [0] (.g [.c 3 0]
 (.block 0 (.loop [0, 3] [] B49_0)))
 (.g [.m 30 0,
.u 31 30,
.v 32 .leq 31 40,
.m 2 32]
 (.ret [2]))))⟩ := by kernel_rfl
def B50_0 : Cd := (.join [1, 5] (.join [1, 5, 31] (.reg [.m 24 5,
.m 25 1,
.u 26 25,
.b 27 .lss 24 26,
.m 28 27,
.my 29 5 28,
.vy 30 .lss 29 4 28,
.e 31 28 30])
 (.i 31 .skip
 (.exit [] 0)))
 (.join [1, 5] (.block 1 (.join [1, 5, 49] (.reg [.m 34 1,
.m 35 5,
.r 36 6 34 35,
.a 37 1 36,
.l 38 37,
.u 39 38,
.v 40 .gtr 39 8,
.m 41 40,
.my 42 1 41,
.my 43 5 41,
.ry 44 6 42 43 41,
.ay 45 1 44 41,
.ly 46 45 41,
.y 47 (.len (.t 46)) 41,
.vy 48 .leq 47 256 41,
.e 49 41 48])
 (.i 49 (.g [.k 4 false]
 (.ret [4]))
 .skip)))
 (.reg [.m 32 5,
.v 33 .add 32 1,
.m 5 33])))
theorem F50 : compF Tryz.prog 50 = some ⟨50, [.tmp 4], (.g [.k 4 false]
 (.join [1] (.join [1, 23] (.reg [.m 6 0,
.u 7 6,
.v 8 .gtr 7 4,
.m 9 8,
.my 10 0 9,
.y 11 (.len (.t 10)) 9,
.vy 12 .leq 11 16 9,
.e 13 9 12,
.m 14 13,
.mx 15 1 14,
.x 16 (.len (.t 15)) 14,
.vx 17 .gtr 16 4 14,
.mx 18 17 14,
.my 19 1 18,
.y 20 (.len (.t 19)) 18,
.vy 21 .leq 20 16 18,
.x 22 (.pick (.t 18) (.t 21) (.c (.bool false))) 14,
.o 23 14 22])
 (.i 23 (.g [.k 4 false]
 (.ret [4]))
 .skip))
 (.join [] (.g [.c 5 0]
 (.block 0 (.loop [1, 5] [] B50_0)))
 (.g [.k 4 true]
 (.ret [4])))))⟩ := by kernel_rfl
def B51_0 : Cd := (.join [1, 3] (.join [1, 3, 12] (.reg [.m 4 3,
.a 5 3 1,
.l 6 5,
.u 7 6,
.b 8 .lss 4 7,
.m 9 8,
.my 10 3 9,
.vy 11 .lss 10 40 9,
.e 12 9 11])
 (.i 12 .skip
 (.exit [1] 0)))
 (.join [1, 3] (.block 1 (.g [.a 15 3 1,
.l 16 15,
.m 17 3,
.r 18 10 16 17,
.a 19 9 18,
.l 20 19,
.u 21 20,
.v 22 .gtr 21 40]
 (.i 22 (.g [.k 2 false]
 (.ret [2]))
 .skip)))
 (.reg [.m 13 3,
.v 14 .add 13 1,
.m 3 14])))
theorem F51 : compF Tryz.prog 51 = some ⟨33, [.tmp 2], (.g [.q 1 99 0,
.k 2 false]
 (.z [1] (.join [1] (.g [.c 3 0]
 (.block 0 (.loop [1, 3] [] B51_0)))
 (.join [2] (.reg [.a 23 3 1,
.l 24 23,
.u 25 24,
.v 26 .leq 25 40,
.m 27 26,
.ay 28 0 1 27,
.ly 29 28 27,
.y 30 (.lens (.t 29)) 27,
.vy 31 .leq 30 100 27,
.e 32 27 31,
.m 2 32])
 (.ret [2])))))⟩ := by kernel_rfl
def B52_0 : Cd := (.join [1, 3, 4] (.g [.m 15 4,
.a 16 2 1,
.l 17 16,
.u 18 17,
.b 19 .lss 15 18]
 (.i 19 .skip
 (.exit [] 0)))
 (.join [1, 3, 4] (.block 1 (.g [.m 22 3,
.a 23 2 1,
.l 24 23,
.m 25 4,
.r 26 9 24 25,
.a 27 2 26,
.l 28 27,
.u 29 28,
.b 30 .add 22 29,
.m 3 30]
 (.join [1, 3, 4, 42] (.reg [.a 31 2 1,
.l 32 31,
.m 33 4,
.r 34 9 32 33,
.a 35 2 34,
.l 36 35,
.u 37 36,
.v 38 .gtr 37 20,
.m 39 38,
.mx 40 3 39,
.vx 41 .gtr 40 30 39,
.o 42 39 41])
 (.i 42 (.g [.d 43 3 1,
.f 44 91 43,
.v 45 .neq 44 0,
.m 2 45]
 (.ret [2]))
 .skip))))
 (.reg [.m 20 4,
.v 21 .add 20 1,
.m 4 21])))
theorem F52 : compF Tryz.prog 52 = some ⟨46, [.tmp 2], (.g [.q 1 83 0,
.k 2 false]
 (.z [1] (.join [1] (.g [.d 5 3 1,
.f 6 90 5,
.z 7 6]
 (.i 7 (.g [.k 2 false]
 (.ret [2]))
 .skip))
 (.join [1] (.g [.a 8 2 1,
.l 9 8,
.u 10 9,
.v 11 .gtr 10 10]
 (.i 11 (.g [.d 12 3 1,
.f 13 91 12,
.v 14 .neq 13 0,
.m 2 14]
 (.ret [2]))
 .skip))
 (.g [.c 3 0]
 (.join [] (.g [.c 4 0]
 (.block 0 (.loop [1, 3, 4] [] B52_0)))
 (.g [.k 2 true]
 (.ret [2]))))))))⟩ := by kernel_rfl
def B90_0 : Cd := (.join [1, 3] (.g [.m 8 3,
.a 9 2 1,
.l 10 9,
.u 11 10,
.b 12 .lss 8 11]
 (.i 12 .skip
 (.exit [] 0)))
 (.join [1, 3] (.block 1 (.g [.a 15 2 1,
.l 16 15,
.m 17 3,
.r 18 9 16 17,
.d 19 9 18,
.f 20 129 19,
.z 21 20]
 (.i 21 (.g [.k 2 false]
 (.ret [2]))
 .skip)))
 (.reg [.m 13 3,
.v 14 .add 13 1,
.m 3 14])))
theorem F90 : compF Tryz.prog 90 = some ⟨22, [.tmp 2], (.g [.q 1 83 0,
.k 2 false]
 (.z [1] (.join [1] (.g [.a 4 2 1,
.l 5 4,
.u 6 5,
.v 7 .gtr 6 128]
 (.i 7 (.g [.k 2 false]
 (.ret [2]))
 .skip))
 (.join [] (.g [.c 3 0]
 (.block 0 (.loop [1, 3] [] B90_0)))
 (.g [.k 2 true]
 (.ret [2]))))))⟩ := by kernel_rfl
theorem F129 : compF Tryz.prog 129 = some ⟨30, [.tmp 2], (.g [.q 1 149 0,
.k 2 false]
 (.z [1] (.join [2] (.reg [.a 3 0 1,
.l 4 3,
.s 5 (.lens (.t 4)),
.v 6 .leq 5 40,
.m 7 6,
.ay 8 1 1 7,
.ly 9 8 7,
.y 10 (.lens (.t 9)) 7,
.vy 11 .leq 10 100 7,
.e 12 7 11,
.m 13 12,
.ay 14 7 1 13,
.ly 15 14 13,
.y 16 (.lens (.t 15)) 13,
.vy 17 .leq 16 40 13,
.e 18 13 17,
.m 19 18,
.ay 20 3 1 19,
.ly 21 20 19,
.y 22 (.len (.t 21)) 19,
.vy 23 .leq 22 10 19,
.e 24 19 23,
.m 25 24,
.ay 26 2 1 25,
.ly 27 26 25,
.y 28 (.f 168 [.t 27]) 25,
.e 29 25 28,
.m 2 29])
 (.ret [2]))))⟩ := by kernel_rfl
theorem F168 : compF Tryz.prog 168 = some ⟨6, [.tmp 2], (.g [.k 2 false]
 (.g [.m 3 0,
.u 4 3,
.v 5 .leq 4 300,
.m 2 5]
 (.ret [2])))⟩ := by kernel_rfl
end Go.Proofs.YtflbieghmgobgaaGreatDoor

namespace Go.Proofs.YtflbieghmgobgaaGreatDoor
open Go.Sha
set_option maxRecDepth 100000
variable {g : List (Nat × Obj)} {n : Nat}
def anyN {α : Type} (m : Int) (p : α → Prop) [DecidablePred p] : List α → Nat → Bool
 | [], _ => false
 | q :: r, j => if (j : Int) < m then if p q then true else anyN m p r (j + 1) else false
theorem L45 {l : List (List Pt)} (hl : l.length < 140737488355328) : ∀ r j, l.drop j = r → runL Tryz.prog HH [0, 3] n B45_0 [(0, .sl (l.map Pt.vs)), (3, .int .i64 j)] (stN g n) = lpB (stN g n) [(0, .sl (l.map Pt.vs))] 2 (anyN 40 (fun q : List Pt => 40 < (q.length : Int)) r j) false := by
 refine drop_ind (fun j h => ?_) (fun q r j h hx hd ih => ?_)
 all_goals rw [runL_of B45_0.eq_1]
 ·have h1 : ¬ (j : Int) < l.length := by omega
  push_cast [h1, anyN]
 ·have h1 : (j : Int) < l.length := by omega
  have hw := iw1 (j := j) (by omega)
  push_cast [h1, hw, hx, f89] at ih ⊢
  simp only [ih, anyN, lps, Int.reduceEq, not_false_eq_true]
  all_goals ((repeat' split) <;> simp_all)
theorem f45 {l : List (List Pt)} (hl : l.length < 140737488355328) : ∃ b, ∀ st, run Tryz.prog HH 45 [.sl (l.map Pt.vs)] st = some (.ret (.bool b), st) := by
 refine ⟨if anyN 40 (fun q : List Pt => 40 < (q.length : Int)) l 0 = true then false else decide ((l.length : Int) ≤ 40), fun st => ?_⟩
 rw [run_shut F45 rfl rfl (by simp)]
 have hL0 := fun n => L45 (g := st.x.gl) (n := n) hl _ 0 rfl
 push_cast at hL0
 push_cast [hL0, lpE, lpX, lpI, lpB]
theorem L46 {l : List Prof} (hl : l.length < 140737488355328) : ∀ r j, l.drop j = r → runL Tryz.prog HH [1, 5] n B46_0 [(1, .sl (l.map Prof.v)), (5, .int .i64 j)] (stN g n) = lpB (stN g n) [] 4 (anyN 6 (fun q : Prof => 16 < (q.feats.length : Int)) r j) false := by
 refine drop_ind (fun j h => ?_) (fun q r j h hx hd ih => ?_)
 all_goals rw [runL_of B46_0.eq_1]
 ·have h1 : ¬ (j : Int) < l.length := by omega
  push_cast [h1, anyN, Prof.v]
 ·have h1 : (j : Int) < l.length := by omega
  have hw := iw1 (j := j) (by omega)
  push_cast [h1, hw, hx, Prof.v] at ih ⊢
  simp only [ih, anyN, lps, Int.reduceEq, not_false_eq_true]
theorem f46 {l : List Fixt} {ps : List Prof} (hl : ps.length < 140737488355328) : ∃ b, ∀ st, run Tryz.prog HH 46 [.sl (l.map Fixt.v), .sl (ps.map Prof.v)] st = some (.ret (.bool b), st) := by
 apply Exists.intro
 intro st
 have hL0 := fun n => L46 (g := st.x.gl) (n := n) hl _ 0 rfl
 rw [run_shut F46 rfl rfl (by simp)]
 push_cast at hL0
 push_cast [hL0, lpB]
 exact rfl
theorem L47 {l : List Grp} (hl : l.length < 140737488355328) : ∀ r j, l.drop j = r → runL Tryz.prog HH [0, 3] n B47_0 [(0, .sl (l.map Grp.v)), (3, .int .i64 j)] (stN g n) = lpB (stN g n) [(0, .sl (l.map Grp.v))] 2 (anyN 60 (fun q : Grp => 40 < (q.chans.length : Int) ∧ (q.chans.length : Int) ≤ 256) r j) false := by
 refine drop_ind (fun j h => ?_) (fun q r j h hx hd ih => ?_)
 all_goals rw [runL_of B47_0.eq_1]
 ·have h1 : ¬ (j : Int) < l.length := by omega
  push_cast [h1, anyN, Grp.v]
 ·have h1 : (j : Int) < l.length := by omega
  have hw := iw1 (j := j) (by omega)
  push_cast [h1, hw, hx, Grp.v] at ih ⊢
  simp only [ih, anyN, lps, Int.reduceEq, not_false_eq_true]
theorem f47 {l : List Grp} (hl : l.length < 140737488355328) : ∃ b, ∀ st, run Tryz.prog HH 47 [.sl (l.map Grp.v)] st = some (.ret (.bool b), st) := by
 refine ⟨if anyN 60 (fun q : Grp => 40 < (q.chans.length : Int) ∧ (q.chans.length : Int) ≤ 256) l 0 = true then false else decide ((l.length : Int) ≤ 60), fun st => ?_⟩
 rw [run_shut F47 rfl rfl (by simp)]
 have hL0 := fun n => L47 (g := st.x.gl) (n := n) hl _ 0 rfl
 push_cast at hL0
 push_cast [hL0, lpE, lpX, lpI, lpB]
def anyP {α : Type} (p : α → Prop) [DecidablePred p] : List α → Bool
 | [] => false
 | q :: r => if p q then true else anyP p r
theorem L48 {l : List Pal} (hl : l.length < 140737488355328) : ∀ r j, l.drop j = r → runL Tryz.prog HH [0, 3] n B48_0 [(0, .sl (l.map Pal.v)), (3, .int .i64 j)] (stN g n) = lpB (stN g n) [] 2 (anyP (fun q : Pal => 512 < (q.hues.length : Int)) r) false := by
 refine drop_ind (fun j h => ?_) (fun q r j h hx hd ih => ?_)
 all_goals rw [runL_of B48_0.eq_1]
 ·have h1 : ¬ (j : Int) < l.length := by omega
  push_cast [h1, anyP, Pal.v]
 ·have h1 : (j : Int) < l.length := by omega
  have hw := iw1 (j := j) (by omega)
  push_cast [h1, hw, hx, Pal.v] at ih ⊢
  simp only [ih, anyP, lps, Int.reduceEq, not_false_eq_true]
theorem f48 {l : List Pal} (hl : l.length < 140737488355328) : ∃ b, ∀ st, run Tryz.prog HH 48 [.sl (l.map Pal.v)] st = some (.ret (.bool b), st) := by
 refine ⟨if 64 < (l.length : Int) then false else if anyP (fun q : Pal => 512 < (q.hues.length : Int)) l = true then false else true, fun st => ?_⟩
 rw [run_shut F48 rfl rfl (by simp)]
 have hL0 := fun n => L48 (g := st.x.gl) (n := n) hl _ 0 rfl
 push_cast at hL0
 push_cast [hL0, lpE, lpX, lpI, lpB]
theorem L49 {l : List Sb} (hl : l.length < 140737488355328) : ∀ r j, l.drop j = r → runL Tryz.prog HH [0, 3] n B49_0 [(0, .sl (l.map Sb.v)), (3, .int .i64 j)] (stN g n) = lpB (stN g n) [(0, .sl (l.map Sb.v))] 2 (anyN 40 (fun q : Sb => 30 < (q.gains.length : Int) ∧ (q.gains.length : Int) ≤ 128) r j) false := by
 refine drop_ind (fun j h => ?_) (fun q r j h hx hd ih => ?_)
 all_goals rw [runL_of B49_0.eq_1]
 ·have h1 : ¬ (j : Int) < l.length := by omega
  push_cast [h1, anyN, Sb.v]
 ·have h1 : (j : Int) < l.length := by omega
  have hw := iw1 (j := j) (by omega)
  push_cast [h1, hw, hx, Sb.v] at ih ⊢
  simp only [ih, anyN, lps, Int.reduceEq, not_false_eq_true]
theorem f49 {l : List Sb} (hl : l.length < 140737488355328) : ∃ b, ∀ st, run Tryz.prog HH 49 [.sl (l.map Sb.v)] st = some (.ret (.bool b), st) := by
 refine ⟨if anyN 40 (fun q : Sb => 30 < (q.gains.length : Int) ∧ (q.gains.length : Int) ≤ 128) l 0 = true then false else decide ((l.length : Int) ≤ 40), fun st => ?_⟩
 rw [run_shut F49 rfl rfl (by simp)]
 have hL0 := fun n => L49 (g := st.x.gl) (n := n) hl _ 0 rfl
 push_cast at hL0
 push_cast [hL0, lpE, lpX, lpI, lpB]
theorem f50 {l : List Eff} : ∃ b, ∀ st, run Tryz.prog HH 50 [.sl (l.map Eff.v), .sl []] st = some (.ret (.bool b), st) := by
 refine ⟨if 4 < (l.length : Int) ∧ (l.length : Int) ≤ 16 then false else true, fun st => ?_⟩
 rw [run_shut F50 rfl rfl (by simp)]
 push_cast [runL_of B50_0.eq_1]
theorem L51 {x : Prof} (hl : x.feats.length < 140737488355328) : ∀ r j, x.feats.drop j = r → runL Tryz.prog HH [1, 3] n B51_0 [(1, .ep x.v 0), (3, .int .i64 j)] (stN g n) = lpB (stN g n) [(1, .ep x.v 0)] 2 (anyN 40 (fun q : Ftr => 40 < (q.wheel.length : Int)) r j) false := by
 refine drop_ind (fun j h => ?_) (fun q r j h hx hd ih => ?_)
 all_goals rw [runL_of B51_0.eq_1]
 ·have h1 : ¬ (j : Int) < x.feats.length := by omega
  push_cast [h1, anyN, Prof.v, Ftr.v]
 ·have h1 : (j : Int) < x.feats.length := by omega
  have hw := iw1 (j := j) (by omega)
  push_cast [h1, hw, hx, Prof.v, Ftr.v] at ih ⊢
  simp only [ih, anyN, lps, Int.reduceEq, not_false_eq_true]
def few51 (x : Prof) : Bool := if anyN 40 (fun q : Ftr => 40 < (q.wheel.length : Int)) x.feats 0 = true then false else (decide ((x.feats.length : Int) ≤ 40) && decide ((x.name.length : Int) ≤ 100))
theorem f51 {x : Prof} (hl : x.feats.length < 140737488355328) {st : St} : run Tryz.prog HH 51 [x.v] st = some (.ret (.bool (few51 x)), st) := by
 rw [run_shut F51 rfl rfl (by simp)]
 have hL0 := fun n => L51 (g := st.x.gl) (n := n) hl _ 0 rfl
 push_cast [Prof.v, few51] at hL0
 push_cast [Prof.v, few51, hL0, lpE, lpX, lpI, lpB]
def few129 (x : Cu) : Bool := decide ((x.num.length : Int) ≤ 40) && (decide ((x.label.length : Int) ≤ 100) && (decide ((x.link.length : Int) ≤ 40) && (decide ((x.parts.length : Int) ≤ 10) && decide ((x.moves.length : Int) ≤ 300))))
theorem f129 {x : Cu} {st : St} : run Tryz.prog HH 129 [x.v] st = some (.ret (.bool (few129 x)), st) := by
 rw [run_shut F129 rfl rfl (by simp)]
 push_cast [Cu.v, (fun (a0 : V) (st : St) (h : V.bdL 0 [a0] = true) => run_shut (P := Tryz.prog) (H := HH) (args := [a0]) (st := st) F168 rfl rfl h), few129]
theorem L90 {x : Lst} (hl : x.cues.length < 140737488355328) : ∀ r j, x.cues.drop j = r → runL Tryz.prog HH [1, 3] n B90_0 [(1, .ep x.v 0), (3, .int .i64 j)] (stN g n) = lpB (stN g n) [] 2 (anyP (fun q : Cu => few129 q = false) r) false := by
 refine drop_ind (fun j h => ?_) (fun q r j h hx hd ih => ?_)
 all_goals rw [runL_of B90_0.eq_1]
 ·have h1 : ¬ (j : Int) < x.cues.length := by omega
  push_cast [h1, anyP, Lst.v, Cu.v]
 ·have h1 : (j : Int) < x.cues.length := by omega
  have hw := iw1 (j := j) (by omega)
  push_cast [h1, hw, hx, Lst.v, Cu.v, f129] at ih ⊢
  simp only [ih, anyP, lps, Int.reduceEq, not_false_eq_true]
theorem f90 {x : Lst} (hl : x.cues.length < 140737488355328) : ∃ b, ∀ st, run Tryz.prog HH 90 [x.v] st = some (.ret (.bool b), st) := by
 refine ⟨if 128 < (x.cues.length : Int) then false else if anyP (fun q : Cu => few129 q = false) x.cues = true then false else true, fun st => ?_⟩
 rw [run_shut F90 rfl rfl (by simp)]
 have hL0 := fun n => L90 (g := st.x.gl) (n := n) hl _ 0 rfl
 push_cast [Lst.v] at hL0
 push_cast [Lst.v, hL0, lpE, lpX, lpI, lpB]
def add52 : List Cu → Int → Option Int
 | [], _ => none
 | q :: r, m => if 20 < (q.moves.length : Int) ∨ 30 < IntKind.i64.wrap (m + q.moves.length) then some 1 else add52 r (IntKind.i64.wrap (m + q.moves.length))
theorem L52 {x : Lst} (hx0 : x.ok) : ∀ r j, x.cues.drop j = r → ∀ m, runL Tryz.prog HH [1, 3, 4] n B52_0 [(1, .ep x.v 0), (3, .int .i64 m), (4, .int .i64 j)] (stN g n) = (match add52 r m with | none => some (.exit 0, [], stN g n) | some _ => some (.ret, [(2, .bool (lstR x != 0))], stN g n)) := by
 have hl := hx0.a
 have h91 := fun (st : St) => f91 (st := st) hx0
 refine drop_ind (fun j h m => ?_) (fun q r j h hx hd ih m => ?_)
 all_goals rw [runL_of B52_0.eq_1]
 ·have h1 : ¬ (j : Int) < x.cues.length := by omega
  push_cast [h1, add52, Lst.v]
 ·have h1 : (j : Int) < x.cues.length := by omega
  have hw := iw1 (j := j) (by omega)
  push_cast [Lst.v] at h91
  push_cast [h1, hw, hx, Lst.v, Cu.v, h91] at ih ⊢
  simp only [ih, add52]
  split <;> rfl
theorem f52 {x : Lst} (h : x.ok) : ∃ b, ∀ st, run Tryz.prog HH 52 [x.v] st = some (.ret (.bool b), st) := by
 obtain ⟨b, hb⟩ := f90 h.a
 have h91 := fun (st : St) => f91 (st := st) h
 have h0 := fun g n => L52 (g := g) (n := n) h x.cues 0 rfl 0
 cases h2 : add52 x.cues 0 with
 | none =>
  rw [h2] at h0
  push_cast [Lst.v] at h0 hb h91
  refine ⟨if b = false then false else if 10 < (x.cues.length : Int) then lstR x != 0 else true, fun st => ?_⟩
  rw [run_shut F52 rfl rfl (by simp)]
  push_cast [Lst.v, hb, h91, h0]
 | some k =>
  rw [h2] at h0
  push_cast [Lst.v] at h0 hb h91
  refine ⟨if b = false then false else lstR x != 0, fun st => ?_⟩
  rw [run_shut F52 rfl rfl (by simp)]
  push_cast [Lst.v, hb, h91, h0]
open Classical in
noncomputable def few52 (x : Lst) : Bool := if h : x.ok then (f52 h).choose else false
theorem f52' {x : Lst} (h : x.ok) {st : St} : run Tryz.prog HH 52 [x.v] st = some (.ret (.bool (few52 x)), st) := by
 unfold few52; rw [dif_pos h]; exact (f52 h).choose_spec st
theorem L11_0 {x : Sho} (hx0 : x.ok) : ∀ r j, x.profs.drop j = r → runL Tryz.prog HH [1, 3] n B11_0 [(1, .ep x.v 0), (3, .int .i64 j)] (stN g n) = lpB (stN g n) [(1, .ep x.v 0)] 2 (anyP (fun q => few51 q = false) r) false := by
 have hl := hx0.p.1
 refine drop_ind (fun j h => ?_) (fun q r j h hx hd ih => ?_)
 all_goals rw [runL_of B11_0.eq_1]
 ·have h1 : ¬ (j : Int) < x.profs.length := by omega
  push_cast [h1, anyP, Sho.v, Prof.v]
 ·have h1 : (j : Int) < x.profs.length := by omega
  have hw := iw1 (j := j) (by omega)
  have hq : q.feats.length < 140737488355328 := (hx0.p.2.1 q (mem_at hd)).a
  push_cast [h1, hw, hx, Sho.v, Prof.v, f51 hq] at ih ⊢
  simp only [ih, anyP, lps, Int.reduceEq, not_false_eq_true]
theorem L11_1 {x : Sho} (hx0 : x.ok) : ∀ r j, x.lsts.drop j = r → runL Tryz.prog HH [1, 4] n B11_1 [(1, .ep x.v 0), (4, .int .i64 j)] (stN g n) = if anyN 10 (fun q => few52 q = false) r j = true then some (.ret, [(2, .bool false)], stN g n) else some (.exit 2, [(1, .ep x.v 0)], stN g n) := by
 have hl := hx0.k.1
 refine drop_ind (fun j h => ?_) (fun q r j h hx hd ih => ?_)
 all_goals rw [runL_of B11_1.eq_1]
 ·have h1 : ¬ (j : Int) < x.lsts.length := by omega
  push_cast [h1, anyN, Sho.v, Lst.v]
 ·have h1 : (j : Int) < x.lsts.length := by omega
  have hw := iw1 (j := j) (by omega)
  have hq : q.ok := hx0.k.2 q (mem_at hd)
  push_cast [h1, hw, hx, Sho.v, Lst.v, f52' hq] at ih ⊢
  simp only [ih, anyN, lps, Int.reduceEq, not_false_eq_true]
  all_goals ((repeat' split) <;> simp_all)
theorem f11 {x : Sho} (h : x.ok) : ∃ b, ∀ st, run Tryz.prog HH 11 [x.v] st = some (.ret (.bool b), st) := by
 obtain ⟨b1, h1⟩ := f45 h.c.1
 obtain ⟨b2, h2⟩ := f46 (l := x.fixts) h.p.1
 obtain ⟨b3, h3⟩ := f47 h.g.1
 obtain ⟨b4, h4⟩ := f48 h.l.1
 obtain ⟨b5, h5⟩ := f49 h.s.1
 obtain ⟨b6, h6⟩ := f50 (l := x.effs)
 have k0 := fun g n => L11_0 (g := g) (n := n) h x.profs 0 rfl
 have k1 := fun g n => L11_1 (g := g) (n := n) h x.lsts 0 rfl
 push_cast [Sho.v] at k0 k1
 apply Exists.intro
 intro st
 rw [run_shut F11 rfl rfl (by simp)]
 push_cast [Sho.v, h1, h2, h3, h4, h5, h6, k0, k1, lpB]
 exact rfl
end Go.Proofs.YtflbieghmgobgaaGreatDoor

namespace Go.Proofs.YtflbieghmgobgaaGreatDoor
open Go.Sha
set_option maxRecDepth 10000
theorem F22 : compF Tryz.prog 22 = some ⟨31, [.cell 4 (some 10), .tmp 5, .tmp 6], (.g [.q 2 31 0,
.q 3 44 1,
.s 4 (.alloc 55 [.i 0, .i 0, .i 0, .i 0, .i 0, .i 0, .i 0, .i 0, (.bool false), .nils]),
.k 5 false,
.c 6 0]
 (.z [2, 3] (.join [2, 3, 4] (.g [.d 11 9 2,
.f 12 15 11,
.m 7 12]
 (.g [.m 13 7,
.v 14 .neq 13 0]
 (.i 14 (.g [.s 15 (.build [.i 0, .i 0, .i 0, .i 0, .i 0, .i 0, .i 0, .i 0, (.bool false), .nils] []),
.m 16 7,
.w 10 4 15,
.k 5 false,
.m 6 16]
 (.ret [4, 5, 6]))
 .skip)))
 (.join [2, 3, 4] (.g [.d 17 2 3,
.f 18 67 17,
.m 8 18]
 (.g [.m 19 8,
.v 20 .neq 19 0]
 (.i 20 (.g [.s 21 (.build [.i 0, .i 0, .i 0, .i 0, .i 0, .i 0, .i 0, .i 0, (.bool false), .nils] []),
.m 22 8,
.w 10 4 21,
.k 5 false,
.m 6 22]
 (.ret [4, 5, 6]))
 .skip)))
 (.g [.d 24 9 2,
.d 25 2 3,
.g' 26 68 24 25,
.m 23 26,
.j 27 0 23,
.j 28 1 23,
.s 9 (.alloc 55 [.i 0, .i 0, .i 0, .i 0, .i 0, .i 0, .i 0, .i 0, (.bool false), .nils]),
.w 10 9 27,
.m 10 28]
 (.z [9] (.g [.d 29 10 9,
.m 30 10,
.w 10 4 29,
.m 5 30,
.c 6 0]
 (.ret [4, 5, 6]))))))))⟩ := by kernel_rfl
theorem F24 : compF Tryz.prog 24 = some ⟨21, [.tmp 4, .tmp 5, .tmp 6], (.g [.q 2 31 0,
.q 3 44 1,
.c 4 0,
.k 5 false,
.c 6 0]
 (.z [2, 3] (.g [.d 11 9 2,
.d 12 2 3,
.g' 13 22 11 12,
.m 10 13,
.j 14 0 10,
.j 15 1 10,
.j 16 2 10,
.s 7 (.alloc 55 [.i 0, .i 0, .i 0, .i 0, .i 0, .i 0, .i 0, .i 0, (.bool false), .nils]),
.w 10 7 14,
.m 8 15,
.m 9 16]
 (.z [7] (.g [.a 17 5 7,
.l 18 17,
.m 19 8,
.m 20 9,
.m 4 18,
.m 5 19,
.m 6 20]
 (.ret [4, 5, 6]))))))⟩ := by kernel_rfl
theorem F36 : compF Tryz.prog 36 = some ⟨19, [.tmp 4, .tmp 5], (.g [.q 2 31 0,
.q 3 44 1,
.k 4 false,
.c 5 0]
 (.z [2, 3] (.g [.d 10 9 2,
.d 11 2 3,
.g' 12 22 10 11,
.m 9 12,
.j 13 0 9,
.j 14 1 9,
.j 15 2 9,
.s 6 (.alloc 55 [.i 0, .i 0, .i 0, .i 0, .i 0, .i 0, .i 0, .i 0, (.bool false), .nils]),
.w 10 6 13,
.m 7 14,
.m 8 15]
 (.z [6] (.g [.a 16 8 6,
.l 17 16,
.m 18 8,
.m 4 17,
.m 5 18]
 (.ret [4, 5]))))))⟩ := by kernel_rfl
theorem F34 : compF Tryz.prog 34 = some ⟨25, [.cell 4 (some 10), .tmp 5, .tmp 6], (.g [.q 2 31 0,
.q 3 44 1,
.s 4 (.alloc 55 [.i 0, .i 0, .i 0, .i 0, .i 0, .i 0, .i 0, .i 0, (.bool false), .nils]),
.k 5 false,
.c 6 0]
 (.z [2, 3] (.join [2, 3, 4] (.g [.d 10 9 2,
.d 11 2 3,
.g' 12 74 10 11,
.m 7 12]
 (.g [.m 13 7,
.v 14 .neq 13 0]
 (.i 14 (.g [.s 15 (.build [.i 0, .i 0, .i 0, .i 0, .i 0, .i 0, .i 0, .i 0, (.bool false), .nils] []),
.m 16 7,
.w 10 4 15,
.k 5 false,
.m 6 16]
 (.ret [4, 5, 6]))
 .skip)))
 (.g [.d 18 9 2,
.d 19 2 3,
.g' 20 75 18 19,
.m 17 20,
.j 21 0 17,
.j 22 1 17,
.s 8 (.alloc 55 [.i 0, .i 0, .i 0, .i 0, .i 0, .i 0, .i 0, .i 0, (.bool false), .nils]),
.w 10 8 21,
.m 9 22]
 (.z [8] (.g [.d 23 10 8,
.m 24 9,
.w 10 4 23,
.m 5 24,
.c 6 0]
 (.ret [4, 5, 6])))))))⟩ := by kernel_rfl
theorem F35 : compF Tryz.prog 35 = some ⟨26, [.tmp 4, .tmp 5, .tmp 6], (.g [.q 2 31 0,
.q 3 44 1,
.c 4 0,
.k 5 false,
.c 6 0]
 (.z [2, 3] (.join [2, 3] (.g [.d 10 9 2,
.d 11 2 3,
.g' 12 74 10 11,
.m 7 12]
 (.g [.m 13 7,
.v 14 .neq 13 0]
 (.i 14 (.g [.m 15 7,
.c 4 0,
.k 5 false,
.m 6 15]
 (.ret [4, 5, 6]))
 .skip)))
 (.g [.d 17 9 2,
.d 18 2 3,
.g' 19 75 17 18,
.m 16 19,
.j 20 0 16,
.j 21 1 16,
.s 8 (.alloc 55 [.i 0, .i 0, .i 0, .i 0, .i 0, .i 0, .i 0, .i 0, (.bool false), .nils]),
.w 10 8 20,
.m 9 21]
 (.z [8] (.g [.d 22 9 2,
.d 23 2 3,
.g' 24 76 22 23,
.m 25 9,
.m 4 24,
.m 5 25,
.c 6 0]
 (.ret [4, 5, 6])))))))⟩ := by kernel_rfl
theorem F37 : compF Tryz.prog 37 = some ⟨16, [.tmp 4, .tmp 5], (.g [.q 2 31 0,
.q 3 44 1,
.k 4 false,
.c 5 0]
 (.z [2, 3] (.join [2, 3] (.g [.d 7 9 2,
.d 8 2 3,
.g' 9 74 7 8,
.m 6 9]
 (.g [.m 10 6,
.v 11 .neq 10 0]
 (.i 11 (.g [.m 12 6,
.k 4 false,
.m 5 12]
 (.ret [4, 5]))
 .skip)))
 (.g [.d 13 9 2,
.d 14 2 3,
.g' 15 77 13 14,
.m 4 15,
.c 5 0]
 (.ret [4, 5])))))⟩ := by kernel_rfl
theorem F74 : compF Tryz.prog 74 = some ⟨13, [.tmp 4], (.g [.q 2 31 0,
.q 3 44 1,
.c 4 0]
 (.z [2, 3] (.join [3] (.g [.d 6 9 2,
.f 7 16 6,
.m 5 7]
 (.g [.m 8 5,
.v 9 .neq 8 0]
 (.i 9 (.g [.m 10 5,
.m 4 10]
 (.ret [4]))
 .skip)))
 (.g [.d 11 2 3,
.f 12 21 11,
.m 4 12]
 (.ret [4])))))⟩ := by kernel_rfl
theorem F75 : compF Tryz.prog 75 = some ⟨21, [.cell 4 (some 10), .tmp 5], (.g [.q 2 31 0,
.q 3 44 1,
.s 4 (.alloc 55 [.i 0, .i 0, .i 0, .i 0, .i 0, .i 0, .i 0, .i 0, (.bool false), .nils]),
.k 5 false]
 (.z [2, 3] (.g [.a 10 3 2,
.l 11 10,
.a 12 2 2,
.l 13 12,
.d 14 2 3,
.s 15 (.f 122 [.t 11, .t 13, .t 14]),
.m 9 15,
.j 16 0 9,
.j 17 1 9,
.j 18 2 9,
.s 6 (.alloc 105 [.i 0, .i 0, (.str []), .i 0, .i 0, .i 0, (.str [])]),
.s 7 (.alloc 55 [.i 0, .i 0, .i 0, .i 0, .i 0, .i 0, .i 0, .i 0, (.bool false), .nils]),
.w 7 6 16,
.w 10 7 17,
.m 8 18]
 (.z [6, 7] (.g [.d 19 10 7,
.m 20 8,
.w 10 4 19,
.m 5 20]
 (.ret [4, 5]))))))⟩ := by kernel_rfl
theorem F76 : compF Tryz.prog 76 = some ⟨17, [.tmp 4], (.g [.q 2 31 0,
.q 3 44 1,
.c 4 0]
 (.z [2, 3] (.g [.d 8 9 2,
.d 9 2 3,
.g' 10 75 8 9,
.m 7 10,
.j 11 0 7,
.j 12 1 7,
.s 5 (.alloc 55 [.i 0, .i 0, .i 0, .i 0, .i 0, .i 0, .i 0, .i 0, (.bool false), .nils]),
.w 10 5 11,
.m 6 12]
 (.z [5] (.join [5] (.g [.m 13 6,
.z 14 13]
 (.i 14 (.g [.c 4 0]
 (.ret [4]))
 .skip))
 (.g [.a 15 5 5,
.l 16 15,
.m 4 16]
 (.ret [4])))))))⟩ := by kernel_rfl
theorem F77 : compF Tryz.prog 77 = some ⟨18, [.tmp 4], (.g [.q 2 31 0,
.q 3 44 1,
.k 4 false]
 (.z [2, 3] (.g [.d 8 9 2,
.d 9 2 3,
.g' 10 75 8 9,
.m 7 10,
.j 11 0 7,
.j 12 1 7,
.s 5 (.alloc 55 [.i 0, .i 0, .i 0, .i 0, .i 0, .i 0, .i 0, .i 0, (.bool false), .nils]),
.w 10 5 11,
.m 6 12]
 (.z [5] (.join [4] (.reg [.m 13 6,
.m 14 13,
.ay 15 8 5 14,
.ly 16 15 14,
.e 17 14 16,
.m 4 17])
 (.ret [4]))))))⟩ := by kernel_rfl
theorem F55 : compF Tryz.prog 55 = some ⟨16, [.tmp 4], (.g [.q 2 31 0,
.q 3 105 1,
.s 4 (.mv (.c .nils))]
 (.z [2, 3] (.g [.a 6 2 2,
.l 7 6,
.s 8 (.mkfn (.func 93) [] [.t 3]),
.g' 9 92 7 8,
.m 5 9]
 (.g [.a 10 2 2,
.l 11 10,
.m 12 5,
.r 13 4 11 12,
.a 14 3 13,
.l 15 14,
.m 4 15]
 (.ret [4])))))⟩ := by kernel_rfl
def B92_0 : Cd := (.g [.b 9 .lss 8 7]
 (.join [0, 1, 7, 8] (.i 9 .skip
 (.exit [] 0))
 (.join [0, 1, 7, 8] (.block 1 (.g [.m 10 8,
.m 5 10]
 (.g [.m 11 1,
.m 12 0,
.m 13 5,
.r 14 4 12 13,
.d 15 4 14,
.s 16 (.call (.t 11) [.t 15])]
 (.i 16 (.g [.m 17 5,
.m 4 17]
 (.ret [4]))
 .skip))))
 (.reg [.v 18 .add 8 1,
.m 8 18]))))
theorem F92 : compF Tryz.prog 92 = some ⟨19, [.tmp 4], (.g [.c 4 0]
 (.join [] (.g [.m 6 0,
.u 7 6,
.c 8 0]
 (.block 0 (.loop [0, 1, 7, 8] [] B92_0)))
 (.g [.c 4 (-1)]
 (.ret [4]))))⟩ := by kernel_rfl
theorem F93 : compF Tryz.prog 93 = some ⟨9, [.tmp 3], (.g [.q 2 99 0,
.k 3 false]
 (.z [2] (.g [.a 4 0 2,
.l 5 4,
.a 6 2 1,
.l 7 6,
.b 8 .eql 5 7,
.m 3 8]
 (.ret [3]))))⟩ := by kernel_rfl
def B68_0 : Cd := (.g [.b 39 .lss 38 37]
 (.join [2, 3, 4, 6, 7, 9, 13, 14, 15, 36, 37, 38] (.i 39 .skip
 (.exit [2, 3, 4, 6, 7, 13, 14, 15] 2))
 (.join [2, 3, 4, 6, 7, 9, 13, 14, 15, 36, 37, 38] (.block 3 (.g [.r 40 10 36 38,
.d 41 10 40,
.s 11 (.alloc 55 [.i 0, .i 0, .i 0, .i 0, .i 0, .i 0, .i 0, .i 0, (.bool false), .nils]),
.w 10 11 41]
 (.z [11] (.g [.a 42 0 11,
.l 43 42,
.a 44 1 3,
.l 45 44,
.b 46 .eql 43 45]
 (.i 46 (.sreg 3 [.d 47 10 11,
.a 48 1 9,
.l 49 48,
.w 10 6 47,
.m 7 49])
 .skip)))))
 (.reg [.v 50 .add 38 1,
.m 38 50]))))
def B68_1 : Cd := (.g [.b 16 .lss 15 14]
 (.join [2, 3, 4, 6, 7, 13, 14, 15] (.i 16 .skip
 (.exit [4, 6, 7] 0))
 (.join [2, 3, 4, 6, 7, 13, 14, 15] (.block 1 (.g [.r 17 7 13 15,
.d 18 7 17,
.s 9 (.alloc 105 [.i 0, .i 0, (.str []), .i 0, .i 0, .i 0, (.str [])]),
.w 7 9 18]
 (.z [9] (.join [2, 3, 4, 6, 7, 9, 13, 14, 15] (.join [2, 3, 4, 6, 7, 9, 13, 14, 15, 33] (.reg [.a 19 0 9,
.l 20 19,
.a 21 0 3,
.l 22 21,
.b 23 .neq 20 22,
.m 24 23,
.mx 25 7 24,
.vx 26 .gtr 25 0 24,
.mx 27 26 24,
.ay 28 1 9 27,
.ly 29 28 27,
.my 30 7 27,
.by' 31 .gtr 29 30 27,
.x 32 (.pick (.t 27) (.t 31) (.c (.bool false))) 24,
.o 33 24 32])
 (.i 33 (.exit [2, 3, 4, 6, 7, 13, 14, 15] 1)
 .skip))
 (.g [.d 34 9 2,
.d 35 7 9,
.g' 36 55 34 35,
.u 37 36,
.c 38 0]
 (.block 2 (.loop [2, 3, 4, 6, 7, 9, 13, 14, 15, 36, 37, 38] [] B68_0)))))))
 (.reg [.v 51 .add 15 1,
.m 15 51]))))
theorem F68 : compF Tryz.prog 68 = some ⟨55, [.cell 4 (some 10), .tmp 5], (.g [.q 2 31 0,
.q 3 44 1,
.s 4 (.alloc 55 [.i 0, .i 0, .i 0, .i 0, .i 0, .i 0, .i 0, .i 0, (.bool false), .nils]),
.k 5 false]
 (.z [2, 3] (.g [.s 6 (.alloc 55 [.i 0, .i 0, .i 0, .i 0, .i 0, .i 0, .i 0, .i 0, (.bool false), .nils])]
 (.g [.c 7 0]
 (.join [4, 6, 7] (.g [.a 12 3 2,
.l 13 12,
.u 14 13,
.c 15 0]
 (.block 0 (.loop [2, 3, 4, 6, 7, 13, 14, 15] [] B68_1)))
 (.g [.d 52 10 6,
.m 53 7,
.v 54 .gtr 53 0,
.w 10 4 52,
.m 5 54]
 (.ret [4, 5])))))))⟩ := by kernel_rfl
def B122_0 : Cd := (.join [1, 5, 6, 7, 9, 10, 11, 12] (.g [.m 34 12,
.m 35 11,
.u 36 35,
.b 37 .lss 34 36]
 (.i 37 .skip
 (.exit [1, 5, 6, 7, 9, 10] 2)))
 (.join [1, 5, 6, 7, 9, 10, 11, 12] (.block 3 (.q (.dreg 8 [.m 40 11,
.m 41 12,
.r 42 10 40 41,
.a 43 0 42,
.l 44 43,
.a 45 1 5,
.l 46 45,
.b 47 .eql 44 46])
 (.i 47 (.q (.sreg 8 [.m 48 9,
.m 49 10,
.r 50 7 48 49,
.d 51 7 50,
.m 52 11,
.m 53 12,
.r 54 10 52 53,
.d 55 10 54,
.w 7 6 51,
.w 10 7 55,
.k 8 true])
 (.ret [6, 7, 8]))
 .skip)))
 (.reg [.m 38 12,
.v 39 .add 38 1,
.m 12 39])))
def B122_1 : Cd := (.join [1, 5, 6, 7, 9, 10] (.g [.m 17 10,
.m 18 9,
.u 19 18,
.b 20 .lss 17 19]
 (.i 20 .skip
 (.exit [6, 7] 0)))
 (.join [1, 5, 6, 7, 9, 10] (.block 1 (.g [.m 23 1,
.m 24 1,
.m 25 9,
.m 26 10,
.r 27 7 25 26,
.a 28 2 27,
.l 29 28,
.g' 30 142 24 29,
.r 31 4 23 30,
.a 32 3 31,
.l 33 32,
.m 11 33]
 (.g [.c 12 0]
 (.block 2 (.loop [1, 5, 6, 7, 9, 10, 11, 12] [] B122_0)))))
 (.reg [.m 21 10,
.v 22 .add 21 1,
.m 10 22])))
theorem F122 : compF Tryz.prog 122 = some ⟨58, [.cell 6 (some 7), .cell 7 (some 10), .tmp 8], (.g [.q 5 44 2,
.s 6 (.alloc 105 [.i 0, .i 0, (.str []), .i 0, .i 0, .i 0, (.str [])]),
.s 7 (.alloc 55 [.i 0, .i 0, .i 0, .i 0, .i 0, .i 0, .i 0, .i 0, (.bool false), .nils]),
.k 8 false]
 (.z [5] (.g [.m 13 0,
.a 14 0 5,
.l 15 14,
.g' 16 167 13 15,
.m 9 16]
 (.join [6, 7] (.g [.c 10 0]
 (.block 0 (.loop [1, 5, 6, 7, 9, 10] [] B122_1)))
 (.g [.s 56 (.build [.i 0, .i 0, (.str []), .i 0, .i 0, .i 0, (.str [])] []),
.s 57 (.build [.i 0, .i 0, .i 0, .i 0, .i 0, .i 0, .i 0, .i 0, (.bool false), .nils] []),
.w 7 6 56,
.w 10 7 57,
.k 8 false]
 (.ret [6, 7, 8]))))))⟩ := by kernel_rfl
def B167_0 : Cd := (.join [0, 1, 5, 6, 7] (.g [.m 12 7,
.m 13 0,
.u 14 13,
.b 15 .lss 12 14]
 (.i 15 .skip
 (.exit [0, 1, 5, 6] 2)))
 (.join [0, 1, 5, 6, 7] (.block 3 (.join [0, 1, 5, 6, 7, 33] (.reg [.m 18 0,
.m 19 7,
.r 20 7 18 19,
.a 21 0 20,
.l 22 21,
.m 23 1,
.b 24 .eql 22 23,
.m 25 24,
.my 26 0 25,
.my 27 7 25,
.ry 28 7 26 27 25,
.ay 29 1 28 25,
.ly 30 29 25,
.my 31 6 25,
.by' 32 .eql 30 31 25,
.e 33 25 32])
 (.i 33 (.reg [.m 34 5,
.m 35 0,
.m 36 7,
.r 37 7 35 36,
.d 38 7 37,
.s 39 (.bslice 105 7 [.t 38]),
.s 40 (.append 105 7 72 (.t 34) (.t 39)),
.m 5 40])
 .skip)))
 (.reg [.m 16 7,
.v 17 .add 16 1,
.m 7 17])))
def B167_1 : Cd := (.join [0, 1, 5, 6] (.g [.m 8 6,
.v 9 .leq 8 64]
 (.i 9 .skip
 (.exit [5] 0)))
 (.join [0, 1, 5, 6] (.block 1 (.g [.c 7 0]
 (.block 2 (.loop [0, 1, 5, 6, 7] [(5, (105, 7))] B167_0))))
 (.reg [.m 10 6,
.v 11 .add 10 1,
.m 6 11])))
theorem F167 : compF Tryz.prog 167 = some ⟨42, [.tmp 4], (.g [.s 4 (.mv (.c .nils))]
 (.g [.s 5 (.mv (.c .nils))]
 (.join [5] (.g [.c 6 1]
 (.block 0 (.loop [0, 1, 5, 6] [(5, (105, 7))] B167_1)))
 (.g [.m 41 5,
.m 4 41]
 (.ret [4])))))⟩ := by kernel_rfl
end Go.Proofs.YtflbieghmgobgaaGreatDoor

namespace Go.Proofs.YtflbieghmgobgaaGreatDoor
open Go.Sha
set_option maxRecDepth 100000
variable {g : List (Nat × Obj)} {n : Nat}
theorem f93 {p : Prof} {x : Fixt} {st : St} : run Tryz.prog HH 93 [p.v, .ep x.v 0] st = some (.ret (.bool (p.name == x.prof)), st) := by
 rw [run_shut F93 rfl rfl (by simp)]
 push_cast [Prof.v, Fixt.v]
theorem f92 {l : List Prof} {x : Fixt} (hl : l.length < 140737488355328) {st : St} : run Tryz.prog HH 92 [.sl (l.map Prof.v), .fn (.func 93) [] [.ep x.v 0]] st = some (.ret (.int .i64 (ix (fun p => p.name == x.prof) l 0)), st) :=
 IxF (f := Prof.v) (n := some 4) (fun _ => rfl) (fun _ => rfl) F92 rfl (by simp) hl (fun q _ _ => f93) (fun _ _ => rfl) (fun _ => rfl)
theorem f55 {s : Sho} {x : Fixt} {q : Prof} (hl : s.profs.length < 140737488355328) (hq : pfx s.profs x.prof = some q) {st : St} : run Tryz.prog HH 55 [s.v, x.v] st = some (.ret (.sl (q.feats.map Ftr.v)), st) := by
 obtain ⟨k, k1, k2, k3⟩ := (ix_find (j := 0)).2 q hq
 rw [Nat.zero_add] at k1
 have k4 : (k : Int) < s.profs.length := by omega
 have h92 := fun (st : St) => f92 (x := x) (st := st) hl
 rw [k1] at h92
 push_cast [Fixt.v] at h92
 rw [run_shut F55 rfl rfl (by simp)]
 push_cast [Sho.v, Fixt.v, Prof.v, h92, k3, k4]
def fcV : Option Ftr → List V
 | none => [.i 0, .i 0, .i 0, .i 0, .i 0, .i 0, .i 0, .i 0, .bool false, .nils]
 | some f => f.v.cells
@[push_cast] theorem fc_len {o : Option Ftr} : (fcV o).length = 10 := by cases o <;> rfl
@[push_cast] theorem fc_drop {o : Option Ftr} : (fcV o).drop 10 = [] := by cases o <;> rfl
@[push_cast] theorem fc_bd {o : Option Ftr} : V.bdL n (fcV o) = true := by cases o <;> simp [fcV, V.bdL, V.bd, V.cells, bdL_map']
theorem fc_some {f : Ftr} : fcV (some f) = f.v.cells := rfl
def stF (g : List (Nat × Obj)) (n : Nat) (o : Option Ftr) : St := ⟨n, [(3, fcV o), (2, [.i 0, .i 0, .i 0, .i 0, .i 0, .i 0, .i 0, .i 0, .bool false, .nils])], [], ⟨[], g, []⟩⟩
@[push_cast] theorem stF_eq {o : Option Ftr} : stF g n o = ⟨n, [(3, fcV o), (2, [.i 0, .i 0, .i 0, .i 0, .i 0, .i 0, .i 0, .i 0, .bool false, .nils])], [], ⟨[], g, []⟩⟩ := @_root_.id (_ = _) rfl
def ftL (a pt : Int) : List Ftr → Option Ftr × Int → Option Ftr × Int
 | [], s => s
 | f :: r, s => ftL a pt r (if f.attr = a then (some f, pt) else s)
theorem L68_0 {l : List Ftr} {p : Prm} {x : Fixt} {e2 e13 e14 e15 : V} (hl : l.length < 140737488355328) (b2 : V.bd 5 e2 = true) (b13 : V.bd 5 e13 = true) (b14 : V.bd 5 e14 = true) (b15 : V.bd 5 e15 = true) : ∀ r j, l.drop j = r → ∀ o m,
  runL Tryz.prog HH [2, 3, 4, 6, 7, 9, 13, 14, 15, 36, 37, 38] 5 B68_0 [(2, e2), (3, .ep p.v 0), (4, .ptr 2 0), (6, .ptr 3 0), (7, .int .i64 m), (9, .ep x.v 0), (13, e13), (14, e14), (15, e15), (36, .sl (l.map Ftr.v)), (37, .int .i64 l.length), (38, .int .i64 j)] (stF g 5 o)
   = some (.exit 2, [(2, e2), (3, .ep p.v 0), (4, .ptr 2 0), (6, .ptr 3 0), (7, .int .i64 (ftL p.attr x.part r (o, m)).2), (13, e13), (14, e14), (15, e15)], stF g 5 (ftL p.attr x.part r (o, m)).1) := by
 refine drop_ind (fun j h o m => ?_) (fun q r j h hx hd ih o m => ?_)
 all_goals rw [runL_of B68_0.eq_1]
 ·have h1 : ¬ (j : Int) < l.length := by omega
  push_cast [h1, ftL, Ftr.v]
 ·have h1 : (j : Int) < l.length := by omega
  have hw := iw1 (j := j) (by omega)
  rw [ftL]
  by_cases h2 : q.attr = p.attr
  ·rw [if_pos h2]
   have ih := ih (some q) x.part
   have h3 := eq_true h2
   push_cast [h1, hw, hx, Ftr.v, Prm.v, Fixt.v, fc_some, h3, b2, b13, b14, b15] at ih ⊢
   exact ih
  ·rw [if_neg h2]
   have ih := ih o m
   push_cast [h1, hw, hx, Ftr.v, Prm.v, Fixt.v, h2, b2, b13, b14, b15] at ih ⊢
   exact ih
def ftX (ps : List Prof) (p : Prm) (x : Fixt) (s : Option Ftr × Int) : Option Ftr × Int := if ¬ x.chan = p.chan ∨ 0 < s.2 ∧ s.2 < x.part then s else ftL p.attr x.part (((pfx ps x.prof).map Prof.feats).getD []) s
theorem L68_1 {s : Sho} {p : Prm} (hl : s.fixts.length < 140737488355328) (hp : s.profs.length < 140737488355328) (hq : ∀ q ∈ s.profs, q.feats.length < 140737488355328) (hf : ∀ x ∈ s.fixts, (pfx s.profs x.prof).isSome = true) : ∀ r j, s.fixts.drop j = r → ∀ o m,
  runL Tryz.prog HH [2, 3, 4, 6, 7, 13, 14, 15] 4 B68_1 [(2, .ep s.v 0), (3, .ep p.v 0), (4, .ptr 2 0), (6, .ptr 3 0), (7, .int .i64 m), (13, .sl (s.fixts.map Fixt.v)), (14, .int .i64 s.fixts.length), (15, .int .i64 j)] (stF g 4 o)
   = some (.exit 0, [(4, .ptr 2 0), (6, .ptr 3 0), (7, .int .i64 (r.foldl (fun a x => ftX s.profs p x a) (o, m)).2)], stF g 4 (r.foldl (fun a x => ftX s.profs p x a) (o, m)).1) := by
 refine drop_ind (fun j h o m => ?_) (fun x r j h hx hd ih o m => ?_)
 all_goals rw [runL_of B68_1.eq_1]
 ·have h1 : ¬ (j : Int) < s.fixts.length := by omega
  push_cast [h1, List.foldl_nil, Sho.v, Fixt.v]
 ·have h1 : (j : Int) < s.fixts.length := by omega
  have hw := iw1 (j := j) (by omega)
  obtain ⟨q, hq1⟩ := Option.isSome_iff_exists.1 (hf x (mem_at hd))
  have hq2 := hq q (List.mem_of_find?_eq_some hq1)
  have h55 := fun (st : St) => f55 (st := st) hp hq1
  have h0 := fun m o => L68_0 (g := g) (l := q.feats) (p := p) (x := x) (e2 := .ep s.v 0) (e13 := .sl (s.fixts.map Fixt.v)) (e14 := .int .i64 s.fixts.length) (e15 := .int .i64 j) hq2 (by simp [V.bd, V.bdL, bdL_map']) (by simp [V.bd, V.bdL, bdL_map']) rfl rfl _ 0 rfl o m
  have e : ftX s.profs p x (o, m) = if ¬ x.chan = p.chan ∨ 0 < m ∧ m < x.part then (o, m) else ftL p.attr x.part q.feats (o, m) := by simp only [ftX, hq1]; rfl
  rw [List.foldl_cons, e]
  by_cases h2 : ¬ x.chan = p.chan ∨ 0 < m ∧ m < x.part
  ·rw [if_pos h2]
   have ih := ih o m
   have h3 := eq_true h2
   push_cast [h1, hw, hx, Sho.v, Fixt.v, Prm.v, h3] at ih ⊢
   exact ih
  ·rw [if_neg h2]
   have ih := ih (ftL p.attr x.part q.feats (o, m)).1 (ftL p.attr x.part q.feats (o, m)).2
   have h3 := eq_false h2
   push_cast [Sho.v, Fixt.v, Prm.v] at h55 h0
   push_cast [h1, hw, hx, Sho.v, Fixt.v, Prm.v, h3, h55, h0] at ih ⊢
   exact ih
def ownP (s : Sho) (p : Prm) : Option Ftr × Int := s.fixts.foldl (fun a x => ftX s.profs p x a) (none, 0)
def F0 : Ftr := ⟨0, 0, 0, 0, 0, 0, 0, 0, false, []⟩
theorem f68 {s : Sho} {p : Prm} (hl : s.fixts.length < 140737488355328) (hp : s.profs.length < 140737488355328) (hq : ∀ q ∈ s.profs, q.feats.length < 140737488355328) (hf : ∀ x ∈ s.fixts, (pfx s.profs x.prof).isSome = true) {st : St} : run Tryz.prog HH 68 [s.v, p.v] st = some (.ret (.tup [((ownP s p).1.getD F0).v, .bool (decide (0 < (ownP s p).2))]), st) := by
 have h0 := L68_1 (g := st.x.gl) (p := p) hl hp hq hf _ 0 rfl none 0
 rw [List.drop_zero, show s.fixts.foldl (fun a x => ftX s.profs p x a) (none, 0) = ownP s p from rfl] at h0
 cases ho : (ownP s p).1 with
 | none =>
  rw [ho] at h0
  push_cast [Sho.v, Prm.v, fcV] at h0
  rw [run_shut F68 rfl rfl (by simp)]
  push_cast [Sho.v, Prm.v, h0, F0, Ftr.v]
 | some f =>
  rw [ho] at h0
  push_cast [Sho.v, Prm.v, fcV, Ftr.v] at h0
  rw [run_shut F68 rfl rfl (by simp)]
  push_cast [Sho.v, Prm.v, h0, Ftr.v]
def partK (l : List Fixt) (c k : Int) : List Fixt := l.filter fun x => decide (x.chan = c ∧ x.part = k)
def stA (g : List (Nat × Obj)) (n : Nat) (a : List Fixt) : St := ⟨n + 1, [], [(n, ⟨105, 7, a.map Fixt.v, false, false⟩)], ⟨[], g, []⟩⟩
@[push_cast] theorem stA_eq {a : List Fixt} : stA g n a = ⟨n + 1, [], [(n, ⟨105, 7, a.map Fixt.v, false, false⟩)], ⟨[], g, []⟩⟩ := @_root_.id (_ = _) rfl
theorem L167_0 {l : List Fixt} {c : Int} {k : Int} (hl : l.length < 140737488355328) : ∀ r j, l.drop j = r → ∀ a, a.length + r.length ≤ 1000000 →
  runL Tryz.prog HH [0, 1, 5, 6, 7] (n + 1) B167_0 [(0, .sl (l.map Fixt.v)), (1, .int .i64 c), (5, .osl n a.length), (6, .int .i64 k), (7, .int .i64 j)] (stA g n a)
   = some (.exit 2, [(0, .sl (l.map Fixt.v)), (1, .int .i64 c), (5, .osl n (a ++ partK r c k).length), (6, .int .i64 k)], stA g n (a ++ partK r c k)) := by
 refine drop_ind (fun j h a ha => ?_) (fun q r j h hx hd ih a ha => ?_)
 all_goals rw [runL_of B167_0.eq_1]
 ·have h1 : ¬ (j : Int) < l.length := by omega
  push_cast [h1, partK, List.filter_nil, Fixt.v]
 ·have h1 : (j : Int) < l.length := by omega
  have hw := iw1 (j := j) (by omega)
  by_cases h2 : q.chan = c ∧ q.part = k
  ·have ih := ih (a ++ [q]) (by simp at ha ⊢; omega)
   have h3 := eq_true h2
   have h4 : roomV (a.length + 1) 72 = true := roomV_lit (by simp at ha; omega) (by simp at ha; omega)
   push_cast [h1, hw, hx, Fixt.v, h3, h4, List.map_append] at ih ⊢
   rw [show partK (q :: r) c k = q :: partK r c k by simp [partK, h2]]
   push_cast [List.map_append, Fixt.v]
   exact ih
  ·have ih := ih a (by simp at ha ⊢; omega)
   have h3 := eq_false h2
   rw [show partK (q :: r) c k = partK r c k by unfold partK; rw [List.filter_cons_of_neg (by simpa using h2)]]
   push_cast [h1, hw, hx, Fixt.v, h3] at ih ⊢
   exact ih
def partsF (l : List Fixt) (c : Int) : Nat → Nat → List Fixt
 | _, 0 => []
 | k, m + 1 => partK l c k ++ partsF l c (k + 1) m
theorem partK_le {l : List Fixt} {c k : Int} : (partK l c k).length ≤ l.length := List.length_filter_le ..
theorem L167_1 {l : List Fixt} {c : Int} (hl : l.length ≤ 64) : ∀ (m k : Nat), k + m = 65 → ∀ a, a.length + m * 64 ≤ 10000 →
  runL Tryz.prog HH [0, 1, 5, 6] (n + 1) B167_1 [(0, .sl (l.map Fixt.v)), (1, .int .i64 c), (5, .osl n a.length), (6, .int .i64 k)] (stA g n a)
   = some (.exit 0, [(5, .osl n (a ++ partsF l c k m).length)], stA g n (a ++ partsF l c k m)) := by
 intro m
 induction m with
 | zero =>
  intro k hk a ha
  have h1 : ¬ (k : Int) ≤ 64 := by omega
  rw [runL_of B167_1.eq_1]
  push_cast [h1, partsF]
 | succ m ih =>
  intro k hk a ha
  have h1 : (k : Int) ≤ 64 := by omega
  have hw : IntKind.i64.wrap ((k : Int) + 1) = ((k + 1 : Nat) : Int) := iwrap (by omega) (by omega)
  have hle := partK_le (l := l) (c := c) (k := k)
  have h0 := L167_0 (g := g) (n := n) (l := l) (c := c) (k := k) (by omega) l 0 rfl a (by omega)
  have ih := ih (k + 1) (by omega) (a ++ partK l c k) (by simp; omega)
  rw [runL_of B167_1.eq_1]
  push_cast [Fixt.v] at h0
  push_cast [h1, hw, Fixt.v, h0, partsF] at ih ⊢
  exact ih
theorem f167 {l : List Fixt} {c : Int} (hl : l.length ≤ 64) {st : St} : run Tryz.prog HH 167 [.sl (l.map Fixt.v), .int .i64 c] st = some (.ret (.sl ((partsF l c 1 64).map Fixt.v)), st) := by
 have h0 := L167_1 (g := st.x.gl) (n := 0) (c := c) hl 64 1 rfl [] (by simp)
 rw [run_shut F167 rfl rfl (by simp)]
 push_cast [Fixt.v] at h0
 push_cast [Fixt.v, h0]
def zX : List V := [.i 0, .i 0, .str [], .i 0, .i 0, .i 0, .str []]
def stH (g : List (Nat × Obj)) (f x : List V) : St := ⟨3, [(2, f), (1, x)], [], ⟨[], g, []⟩⟩
@[push_cast] theorem stH_eq {f x : List V} : stH g f x = ⟨3, [(2, f), (1, x)], [], ⟨[], g, []⟩⟩ := @_root_.id (_ = _) rfl
def ffF (a : Int) (l : List Ftr) : Option Ftr := l.find? fun f => decide (f.attr = a)
theorem L122_0 {l : List Ftr} {p : Prm} {xs : List Fixt} {i : Nat} {x : Fixt} {e1 : V} (hl : l.length < 140737488355328) (hi : i < xs.length) (hx0 : ∀ d, xs.getD i d = x) : ∀ r j, l.drop j = r →
  runL Tryz.prog HH [1, 5, 6, 7, 9, 10, 11, 12] 3 B122_0 [(1, e1), (5, .ep p.v 0), (6, .ptr 1 0), (7, .ptr 2 0), (9, .sl (xs.map Fixt.v)), (10, .int .i64 i), (11, .sl (l.map Ftr.v)), (12, .int .i64 j)] (stH g (fcV none) zX)
   = match ffF p.attr r with
    | none => some (.exit 2, [(1, e1), (5, .ep p.v 0), (6, .ptr 1 0), (7, .ptr 2 0), (9, .sl (xs.map Fixt.v)), (10, .int .i64 i)], stH g (fcV none) zX)
    | some f => some (.ret, [(6, .ptr 1 0), (7, .ptr 2 0), (8, .bool true)], stH g f.v.cells x.v.cells) := by
 have hi' : (i : Int) < xs.length := by omega
 refine drop_ind (fun j h => ?_) (fun q r j h hx hd ih => ?_)
 all_goals rw [runL_of B122_0.eq_1]
 ·have h1 : ¬ (j : Int) < l.length := by omega
  rw [ffF]
  push_cast [h1, List.find?_nil, Fixt.v, Ftr.v, Prm.v]
 ·have h1 : (j : Int) < l.length := by omega
  have hw := iw1 (j := j) (by omega)
  by_cases h2 : q.attr = p.attr
  ·have h3 := eq_true h2
   rw [show ffF p.attr (q :: r) = some q by simp [ffF, h2]]
   clear ih
   push_cast [h1, hw, hx, Fixt.v, Ftr.v, Prm.v, h3, fcV, zX, hi', hx0]
  ·have h3 := eq_false h2
   rw [show ffF p.attr (q :: r) = ffF p.attr r by simp [ffF, h2]]
   push_cast [h1, hw, hx, Fixt.v, Ftr.v, Prm.v, h3] at ih ⊢
   exact ih
def havL (ps : List Prof) (a : Int) : List Fixt → Option (Fixt × Ftr)
 | [] => none
 | x :: r => match ffF a (((pfx ps x.prof).map Prof.feats).getD []) with
  | some f => some (x, f)
  | none => havL ps a r
theorem L122_1 {xs : List Fixt} {ps : List Prof} {p : Prm} (hl : xs.length < 140737488355328) (hp : ps.length < 140737488355328) (hq : ∀ q ∈ ps, q.feats.length < 140737488355328) (hf : ∀ x ∈ xs, (pfx ps x.prof).isSome = true) : ∀ r j, xs.drop j = r →
  runL Tryz.prog HH [1, 5, 6, 7, 9, 10] 3 B122_1 [(1, .sl (ps.map Prof.v)), (5, .ep p.v 0), (6, .ptr 1 0), (7, .ptr 2 0), (9, .sl (xs.map Fixt.v)), (10, .int .i64 j)] (stH g (fcV none) zX)
   = match havL ps p.attr r with
    | none => some (.exit 0, [(6, .ptr 1 0), (7, .ptr 2 0)], stH g (fcV none) zX)
    | some y => some (.ret, [(6, .ptr 1 0), (7, .ptr 2 0), (8, .bool true)], stH g y.2.v.cells y.1.v.cells) := by
 refine drop_ind (fun j h => ?_) (fun x r j h hx hd ih => ?_)
 all_goals rw [runL_of B122_1.eq_1]
 ·have h1 : ¬ (j : Int) < xs.length := by omega
  push_cast [h1, havL, Fixt.v, Prm.v]
 ·have h1 : (j : Int) < xs.length := by omega
  have hw := iw1 (j := j) (by omega)
  obtain ⟨q, hq1⟩ := Option.isSome_iff_exists.1 (hf x (mem_at hd))
  have hq2 := hq q (List.mem_of_find?_eq_some hq1)
  obtain ⟨k, k1, k2, k3⟩ := (ix_find (j := 0)).2 q hq1
  rw [Nat.zero_add] at k1
  have k4 : (k : Int) < ps.length := by omega
  have h142 := fun (st : St) => f142 (s := x.prof) (st := st) hp
  rw [k1] at h142
  have h0 := L122_0 (g := g) (p := p) (e1 := .sl (ps.map Prof.v)) hq2 h hx _ 0 rfl
  have e : havL ps p.attr (x :: r) = match ffF p.attr q.feats with
   | some f => some (x, f)
   | none => havL ps p.attr r := by rw [havL, hq1]; rfl
  rw [e]
  cases hff : ffF p.attr q.feats with
  | none =>
   rw [List.drop_zero, hff] at h0
   push_cast [Fixt.v, Prm.v, Prof.v, fcV, zX] at h0
   push_cast [h1, hw, hx, Fixt.v, Prm.v, Prof.v, fcV, zX, h142, k3, k4, h0] at ih ⊢
   exact ih
  | some f =>
   clear ih
   rw [List.drop_zero, hff] at h0
   push_cast [Fixt.v, Prm.v, Prof.v, fcV, zX, Ftr.v] at h0
   push_cast [h1, hw, hx, Fixt.v, Prm.v, Prof.v, fcV, zX, Ftr.v, h142, k3, k4, h0]
def X0 : Fixt := ⟨0, 0, [], 0, 0, 0, []⟩
theorem partsF_mem {l : List Fixt} {c : Int} : ∀ {m k : Nat} {x : Fixt}, x ∈ partsF l c k m → x ∈ l ∧ x.chan = c ∧ k ≤ x.part ∧ x.part < k + m
 | 0, _, _, h => by simp [partsF] at h
 | m + 1, k, x, h => by
  rw [partsF, List.mem_append] at h
  rcases h with h | h
  ·simp only [partK, List.mem_filter, decide_eq_true_eq] at h
   exact ⟨h.1, h.2.1, by omega, by omega⟩
  ·obtain ⟨a, b, c, d⟩ := partsF_mem h
   exact ⟨a, b, by omega, by omega⟩
theorem partsF_len {l : List Fixt} {c : Int} (hl : l.length ≤ 64) : ∀ {m k : Nat}, (partsF l c k m).length ≤ m * 64
 | 0, _ => by simp [partsF]
 | m + 1, k => by
  have := partsF_len (c := c) hl (m := m) (k := k + 1)
  have h2 := partK_le (l := l) (c := c) (k := k)
  rw [partsF, List.length_append]; omega
def havR (fx : List Fixt) (ps : List Prof) (p : Prm) : Option (Fixt × Ftr) := havL ps p.attr (partsF fx p.chan 1 64)
theorem f122 {fx : List Fixt} {ps : List Prof} {p : Prm} (hl : fx.length ≤ 64) (hp : ps.length < 140737488355328) (hq : ∀ q ∈ ps, q.feats.length < 140737488355328) (hf : ∀ x ∈ fx, (pfx ps x.prof).isSome = true) {st : St} :
  run Tryz.prog HH 122 [.sl (fx.map Fixt.v), .sl (ps.map Prof.v), p.v] st = some (.ret (.tup [((havR fx ps p).map (·.1) |>.getD X0).v, ((havR fx ps p).map (·.2) |>.getD F0).v, .bool (havR fx ps p).isSome]), st) := by
 have hlen := partsF_len (c := p.chan) hl (m := 64) (k := 1)
 have h167 := fun (st : St) => f167 (c := p.chan) (st := st) hl
 have h0 := L122_1 (g := st.x.gl) (p := p) (xs := partsF fx p.chan 1 64) (by omega) hp hq (fun x hx => hf x (partsF_mem hx).1) _ 0 rfl
 rw [List.drop_zero, show havL ps p.attr (partsF fx p.chan 1 64) = havR fx ps p from rfl] at h0
 cases hh : havR fx ps p with
 | none =>
  rw [hh] at h0
  push_cast [Fixt.v, Prof.v, Prm.v, fcV, zX] at h0 h167
  rw [run_shut F122 rfl rfl (by simp)]
  push_cast [Fixt.v, Prof.v, Prm.v, h167, h0, X0, F0, Ftr.v]
  rfl
 | some y =>
  rw [hh] at h0
  push_cast [Fixt.v, Prof.v, Prm.v, fcV, zX, Ftr.v] at h0 h167
  rw [run_shut F122 rfl rfl (by simp)]
  push_cast [Fixt.v, Prof.v, Prm.v, h167, h0, Ftr.v]
  rfl
theorem shoC_parts {x : Sho} (h : shoC x = 0) : labC x.title = 0 ∧ cursC x.curves = 0 ∧ profsCR x.profs x.curves = 0 ∧ fixCR x.fixts x.profs = 0 ∧ grpsC x.grps = 0 ∧ palsCR x.pals = 0 ∧ lstsC x.lsts = 0 ∧ subsCR x.subs = 0 ∧ effsC x.effs = 0 := by
 unfold shoC uniC at h
 repeat' split at h
 all_goals first | (rename_i a; exact absurd h a) | skip
 simp_all
theorem fixR_all {ps : List Prof} {l : List Fixt} : ∀ {r : List Fixt} {j : Nat}, l.drop j = r → fixR ps l r j = 0 → ∀ x ∈ r, aloC ps x = 0
 | [], _, _, _, x, hx => by simp at hx
 | q :: r, j, hd, h, x, hx => by
  rw [fixR] at h
  repeat' split at h
  all_goals first | (rename_i a; exact absurd h a) | cases h | skip
  ·rcases List.mem_cons.1 hx with rfl | hx
   ·rename_i a _ _; exact Classical.not_not.1 a
   ·exact fixR_all (drop_succ hd) h x hx
theorem fix_ok {fx : List Fixt} {ps : List Prof} (h : fixCR fx ps = 0) : ps.length ≤ 32 ∧ fx.length ≤ 64 ∧ fixR ps fx fx 0 = 0 ∧ ∀ x ∈ fx, aloC ps x = 0 := by
 unfold fixCR at h
 split at h
 ·cases h
 ·exact ⟨by omega, by omega, h, fixR_all (j := 0) rfl h⟩
def ftrE (s : Sho) (p : Prm) : Int := if ¬ shoC s = 0 then shoC s else prmC 1 p
theorem f22 {s : Sho} {p : Prm} (h : s.ok) {st : St} : run Tryz.prog HH 22 [s.v, p.v] st = some (.ret (.tup [(if ftrE s p = 0 then (ownP s p).1.getD F0 else F0).v, .bool (if ftrE s p = 0 then decide (0 < (ownP s p).2) else false), .int .i64 (ftrE s p)]), st) := by
 have h15 := fun (st : St) => f15 (st := st) h
 have h67 := fun (st : St) => f67 (x := p) (st := st)
 by_cases h1 : shoC s = 0
 ·have hf := fix_ok (shoC_parts h1).2.2.2.1
  have h68 := fun (st : St) => f68 (p := p) (st := st) (by omega) (by omega) (fun q hq => (h.p.2.1 q hq).a) (fun x hx => aloC_some (hf.2.2.2 x hx))
  by_cases h2 : prmC 1 p = 0
  ·push_cast [Sho.v, Prm.v, Ftr.v] at h15 h67 h68
   rw [run_shut F22 rfl rfl (by simp)]
   push_cast [Sho.v, Prm.v, h15, h67, h68, h1, h2, ftrE, F0, Ftr.v]
  ·push_cast [Sho.v, Prm.v] at h15 h67
   rw [run_shut F22 rfl rfl (by simp)]
   push_cast [Sho.v, Prm.v, h15, h67, h1, h2, ftrE, F0, Ftr.v]
 ·push_cast [Sho.v, Prm.v] at h15
  rw [run_shut F22 rfl rfl (by simp)]
  push_cast [Sho.v, Prm.v, h15, h1, ftrE, F0, Ftr.v]
end Go.Proofs.YtflbieghmgobgaaGreatDoor

namespace Go.Proofs.YtflbieghmgobgaaGreatDoor
open Go.Sha
set_option maxRecDepth 100000
variable {g : List (Nat × Obj)} {n : Nat}
def ftrP (s : Sho) (p : Prm) : Ftr := if ftrE s p = 0 then (ownP s p).1.getD F0 else F0
def okP (s : Sho) (p : Prm) : Bool := if ftrE s p = 0 then decide (0 < (ownP s p).2) else false
theorem f22' {s : Sho} {p : Prm} (h : s.ok) {st : St} : run Tryz.prog HH 22 [s.v, p.v] st = some (.ret (.tup [(ftrP s p).v, .bool (okP s p), .int .i64 (ftrE s p)]), st) := f22 h
theorem f24 {s : Sho} {p : Prm} (h : s.ok) {st : St} : run Tryz.prog HH 24 [s.v, p.v] st = some (.ret (.tup [.int .i64 (ftrP s p).home, .bool (okP s p), .int .i64 (ftrE s p)]), st) := by
 have h22 := fun (st : St) => f22' (p := p) (st := st) h
 push_cast [Sho.v, Prm.v, Ftr.v] at h22
 rw [run_shut F24 rfl rfl (by simp)]
 push_cast [Sho.v, Prm.v, Ftr.v, h22]
theorem f36 {s : Sho} {p : Prm} (h : s.ok) {st : St} : run Tryz.prog HH 36 [s.v, p.v] st = some (.ret (.tup [.bool (ftrP s p).snap, .int .i64 (ftrE s p)]), st) := by
 have h22 := fun (st : St) => f22' (p := p) (st := st) h
 push_cast [Sho.v, Prm.v, Ftr.v] at h22
 rw [run_shut F36 rfl rfl (by simp)]
 push_cast [Sho.v, Prm.v, Ftr.v, h22]
theorem f74 {s : Sho} {p : Prm} (h : s.ok) {st : St} : run Tryz.prog HH 74 [s.v, p.v] st = some (.ret (.int .i64 (ftrE s p)), st) := by
 have h16 := fun (st : St) => f16 (st := st) h
 have h21 := fun (st : St) => f21 (x := p) (st := st)
 push_cast [Sho.v, Prm.v] at h16 h21
 rw [run_shut F74 rfl rfl (by simp)]
 push_cast [Sho.v, Prm.v, h16, h21, ftrE]
def ownR (s : Sho) (p : Prm) : Option Ftr := (havR s.fixts s.profs p).map (·.2)
theorem f75 {s : Sho} {p : Prm} (h : s.ok) (hs : shoC s = 0) {st : St} : run Tryz.prog HH 75 [s.v, p.v] st = some (.ret (.tup [((ownR s p).getD F0).v, .bool (ownR s p).isSome]), st) := by
 have hf := fix_ok (shoC_parts hs).2.2.2.1
 have h122 := fun (st : St) => f122 (p := p) (st := st) hf.2.1 (by omega) (fun q hq => (h.p.2.1 q hq).a) (fun x hx => aloC_some (hf.2.2.2 x hx))
 rw [run_shut F75 rfl rfl (by simp)]
 rw [show (havR s.fixts s.profs p).isSome = (ownR s p).isSome by simp [ownR]] at h122
 push_cast [Prm.v, Fixt.v, Prof.v, Ftr.v] at h122
 push_cast [Sho.v, Prm.v, Fixt.v, Prof.v, Ftr.v, h122, ownR]
theorem f76 {s : Sho} {p : Prm} (h : s.ok) (hs : shoC s = 0) {st : St} : run Tryz.prog HH 76 [s.v, p.v] st = some (.ret (.int .i64 ((ownR s p).getD F0).home), st) := by
 have h75 := fun (st : St) => f75 (p := p) (st := st) h hs
 push_cast [Sho.v, Prm.v, Ftr.v] at h75
 rw [run_shut F76 rfl rfl (by simp)]
 push_cast [Sho.v, Prm.v, Ftr.v, h75]
 cases ownR s p <;> simp [F0]
theorem f77 {s : Sho} {p : Prm} (h : s.ok) (hs : shoC s = 0) {st : St} : run Tryz.prog HH 77 [s.v, p.v] st = some (.ret (.bool ((ownR s p).getD F0).snap), st) := by
 have h75 := fun (st : St) => f75 (p := p) (st := st) h hs
 push_cast [Sho.v, Prm.v, Ftr.v] at h75
 rw [run_shut F77 rfl rfl (by simp)]
 push_cast [Sho.v, Prm.v, Ftr.v, h75]
 cases ownR s p <;> simp [F0]
theorem ftrE_0 {s : Sho} {p : Prm} (h : ftrE s p = 0) : shoC s = 0 ∧ prmC 1 p = 0 := by
 unfold ftrE at h
 split at h
 ·rename_i a; exact absurd h a
 ·rename_i a; exact ⟨Classical.not_not.1 a, h⟩
def ftrR (s : Sho) (p : Prm) : Ftr := if ftrE s p = 0 then (ownR s p).getD F0 else F0
def okR (s : Sho) (p : Prm) : Bool := if ftrE s p = 0 then (ownR s p).isSome else false
theorem f34 {s : Sho} {p : Prm} (h : s.ok) {st : St} : run Tryz.prog HH 34 [s.v, p.v] st = some (.ret (.tup [(ftrR s p).v, .bool (okR s p), .int .i64 (ftrE s p)]), st) := by
 have h74 := fun (st : St) => f74 (p := p) (st := st) h
 by_cases h1 : ftrE s p = 0
 ·have h75 := fun (st : St) => f75 (p := p) (st := st) h (ftrE_0 h1).1
  push_cast [Sho.v, Prm.v, Ftr.v] at h74 h75
  rw [run_shut F34 rfl rfl (by simp)]
  push_cast [Sho.v, Prm.v, Ftr.v, h74, h75, h1, ftrR, okR, F0]
 ·push_cast [Sho.v, Prm.v] at h74
  rw [run_shut F34 rfl rfl (by simp)]
  push_cast [Sho.v, Prm.v, Ftr.v, h74, h1, ftrR, okR, F0]
theorem f35 {s : Sho} {p : Prm} (h : s.ok) {st : St} : run Tryz.prog HH 35 [s.v, p.v] st = some (.ret (.tup [.int .i64 (ftrR s p).home, .bool (okR s p), .int .i64 (ftrE s p)]), st) := by
 have h74 := fun (st : St) => f74 (p := p) (st := st) h
 by_cases h1 : ftrE s p = 0
 ·have h75 := fun (st : St) => f75 (p := p) (st := st) h (ftrE_0 h1).1
  have h76 := fun (st : St) => f76 (p := p) (st := st) h (ftrE_0 h1).1
  push_cast [Sho.v, Prm.v, Ftr.v] at h74 h75 h76
  rw [run_shut F35 rfl rfl (by simp)]
  push_cast [Sho.v, Prm.v, Ftr.v, h74, h75, h76, h1, ftrR, okR]
 ·push_cast [Sho.v, Prm.v] at h74
  rw [run_shut F35 rfl rfl (by simp)]
  push_cast [Sho.v, Prm.v, Ftr.v, h74, h1, ftrR, okR, F0]
theorem f37 {s : Sho} {p : Prm} (h : s.ok) {st : St} : run Tryz.prog HH 37 [s.v, p.v] st = some (.ret (.tup [.bool (ftrR s p).snap, .int .i64 (ftrE s p)]), st) := by
 have h74 := fun (st : St) => f74 (p := p) (st := st) h
 by_cases h1 : ftrE s p = 0
 ·have h77 := fun (st : St) => f77 (p := p) (st := st) h (ftrE_0 h1).1
  push_cast [Sho.v, Prm.v] at h74 h77
  rw [run_shut F37 rfl rfl (by simp)]
  push_cast [Sho.v, Prm.v, h74, h77, h1, ftrR]
 ·push_cast [Sho.v, Prm.v] at h74
  rw [run_shut F37 rfl rfl (by simp)]
  push_cast [Sho.v, Prm.v, h74, h1, ftrR, F0]
def AttrD (l : List Ftr) : Prop := l.Pairwise fun a b => ¬ a.attr = b.attr
theorem featsR_D {foot c : Int} {l : List Ftr} : ∀ {r : List Ftr} {j : Nat}, l.drop j = r → featsR foot c l r j = 0 → AttrD (l.take j) → AttrD l
 | [], j, hd, _, h => by
  have : l.length ≤ j := List.drop_eq_nil_iff.1 hd
  rwa [List.take_of_length_le this] at h
 | q :: r, j, hd, h0, h => by
  rw [featsR] at h0
  split at h0
  ·rename_i h1
   refine featsR_D (drop_succ hd) h0 ?_
   rw [take_snoc hd]
   refine List.pairwise_append.2 ⟨h, List.pairwise_singleton .., fun a ha b hb => ?_⟩
   rw [List.mem_singleton.1 hb]
   intro e
   have k : ((l.take j).any fun z => z.attr == q.attr) = true := List.any_eq_true.2 ⟨a, ha, by simp [e]⟩
   unfold featR at h1
   by_cases c1 : q.attr < 0 ∨ 15 ≤ q.attr
   ·rw [if_pos c1] at h1; cases h1
   ·rw [if_neg c1, if_pos k] at h1; cases h1
  ·rename_i h1; exact absurd h0 h1
theorem profsR_all {l : List Prof} {m : List (List Pt)} : ∀ {r : List Prof} {j : Nat}, l.drop j = r → profsR l m r j = 0 → ∀ q ∈ r, profR q m = 0
 | [], _, _, _, x, hx => by simp at hx
 | q :: r, j, hd, h, x, hx => by
  rw [profsR] at h
  repeat' split at h
  all_goals first | (rename_i a; exact absurd h a) | cases h | skip
  rcases List.mem_cons.1 hx with rfl | hx
  ·rename_i a _; exact Classical.not_not.1 a
  ·exact profsR_all (drop_succ hd) h x hx
theorem prof_D {s : Sho} (hs : shoC s = 0) {q : Prof} (hq : q ∈ s.profs) : AttrD q.feats := by
 have h := (shoC_parts hs).2.2.1
 unfold profsCR at h
 split at h
 ·cases h
 ·have := profsR_all (j := 0) rfl h q hq
  unfold profR at this
  repeat' split at this
  all_goals first | (rename_i a; exact absurd this a) | cases this | skip
  exact featsR_D (j := 0) rfl this List.Pairwise.nil
theorem ftL_eq {a pt : Int} : ∀ {l : List Ftr} {s : Option Ftr × Int}, AttrD l → ftL a pt l s = match ffF a l with
  | some f => (some f, pt)
  | none => s
 | [], _, _ => rfl
 | f :: r, s, h => by
  have h1 := List.pairwise_cons.1 h
  rw [ftL, ftL_eq h1.2]
  by_cases e : f.attr = a
  ·have : ffF a r = none := List.find?_eq_none.2 fun g hg => by
    have := h1.1 g hg; simp only [decide_eq_true_eq]; intro e2; exact this (by omega)
   rw [this, if_pos e, show ffF a (f :: r) = some f by simp [ffF, e]]
  ·rw [if_neg e, show ffF a (f :: r) = ffF a r by simp [ffF, e]]
def hasG (ps : List Prof) (p : Prm) (x : Fixt) : Option Ftr := if x.chan = p.chan then ffF p.attr (((pfx ps x.prof).map Prof.feats).getD []) else none
def Least (ps : List Prof) (p : Prm) (l : List Fixt) (o : Option Ftr) (m : Int) : Prop :=
 (o = none ∧ m = 0 ∧ ∀ x ∈ l, hasG ps p x = none) ∨ ∃ x ∈ l, 0 < x.part ∧ hasG ps p x = o ∧ o ≠ none ∧ m = x.part ∧ ∀ y ∈ l, hasG ps p y ≠ none → x.part ≤ y.part
theorem ftX_least {ps : List Prof} {p : Prm} (hD : ∀ q ∈ ps, AttrD q.feats) {l : List Fixt} {x : Fixt} {o : Option Ftr} {m : Int} (hx : 1 ≤ x.part) (h : Least ps p l o m) : Least ps p (l ++ [x]) (ftX ps p x (o, m)).1 (ftX ps p x (o, m)).2 := by
 have hd : AttrD (((pfx ps x.prof).map Prof.feats).getD []) := by
  cases e : pfx ps x.prof with
  | none => exact List.Pairwise.nil
  | some q => exact hD q (List.mem_of_find?_eq_some e)
 unfold ftX
 by_cases h1 : ¬ x.chan = p.chan ∨ 0 < m ∧ m < x.part
 ·rw [if_pos h1]
  rcases h with ⟨a, b, c⟩ | ⟨z, z1, z2, z3, z4, z5, z6⟩
  ·refine .inl ⟨a, b, fun y hy => ?_⟩
   rcases List.mem_append.1 hy with hy | hy
   ·exact c y hy
   ·rw [List.mem_singleton.1 hy, hasG, if_neg]
    rcases h1 with h1 | h1
    ·exact h1
    ·omega
  ·refine .inr ⟨z, List.mem_append_left _ z1, z2, z3, z4, z5, fun y hy hn => ?_⟩
   rcases List.mem_append.1 hy with hy | hy
   ·exact z6 y hy hn
   ·rw [List.mem_singleton.1 hy] at hn ⊢
    rcases h1 with h1 | h1
    ·exact absurd (by rw [hasG, if_neg h1]) hn
    ·have h1 : 0 < m ∧ m < x.part := h1
     omega
 ·rw [if_neg h1, ftL_eq hd]
  have hc : x.chan = p.chan := Classical.byContradiction fun e => h1 (.inl e)
  cases hf : ffF p.attr (((pfx ps x.prof).map Prof.feats).getD []) with
  | none =>
   have hn : hasG ps p x = none := by rw [hasG, if_pos hc, hf]
   rcases h with ⟨a, b, c⟩ | ⟨z, z1, z2, z3, z4, z5, z6⟩
   ·refine .inl ⟨a, b, fun y hy => ?_⟩
    rcases List.mem_append.1 hy with hy | hy
    ·exact c y hy
    ·rw [List.mem_singleton.1 hy]; exact hn
   ·refine .inr ⟨z, List.mem_append_left _ z1, z2, z3, z4, z5, fun y hy hy2 => ?_⟩
    rcases List.mem_append.1 hy with hy | hy
    ·exact z6 y hy hy2
    ·rw [List.mem_singleton.1 hy] at hy2; exact absurd hn hy2
  | some f =>
   have hn : hasG ps p x = some f := by rw [hasG, if_pos hc, hf]
   refine .inr ⟨x, by simp, by omega, hn, by simp, rfl, fun y hy hy2 => ?_⟩
   rcases List.mem_append.1 hy with hy | hy
   ·rcases h with ⟨a, b, c⟩ | ⟨z, z1, z2, z3, z4, z5, z6⟩
    ·exact absurd (c y hy) hy2
    ·have := z6 y hy hy2
     have h1 : ¬ (¬ x.chan = p.chan ∨ 0 < m ∧ m < x.part) := h1
     omega
   ·rw [List.mem_singleton.1 hy]; exact Int.le_refl _
theorem fold_least {ps : List Prof} {p : Prm} (hD : ∀ q ∈ ps, AttrD q.feats) : ∀ {r l : List Fixt} {a : Option Ftr × Int}, (∀ x ∈ r, 1 ≤ x.part) → Least ps p l a.1 a.2 → Least ps p (l ++ r) (r.foldl (fun a x => ftX ps p x a) a).1 (r.foldl (fun a x => ftX ps p x a) a).2
 | [], l, a, _, h => by simpa using h
 | x :: r, l, a, hx, h => by
  have := fold_least hD (r := r) (l := l ++ [x]) (a := ftX ps p x a) (fun y hy => hx y (List.mem_cons_of_mem _ hy)) (ftX_least hD (hx x (List.mem_cons_self ..)) h)
  simpa using this
theorem havL_app {ps : List Prof} {a : Int} : ∀ {l m : List Fixt}, havL ps a (l ++ m) = (havL ps a l).or (havL ps a m)
 | [], m => rfl
 | x :: r, m => by
  rw [List.cons_append, havL, havL]
  cases ffF a (((pfx ps x.prof).map Prof.feats).getD []) with
  | none => exact havL_app
  | some f => rfl
theorem havL_some {ps : List Prof} {a : Int} : ∀ {l : List Fixt} {y : Fixt × Ftr}, havL ps a l = some y → y.1 ∈ l ∧ ffF a (((pfx ps y.1.prof).map Prof.feats).getD []) = some y.2
 | [], y, h => by cases h
 | x :: r, y, h => by
  rw [havL] at h
  split at h
  ·rename_i f hf; cases h; exact ⟨List.mem_cons_self .., hf⟩
  ·obtain ⟨a, b⟩ := havL_some h; exact ⟨List.mem_cons_of_mem _ a, b⟩
theorem havL_none {ps : List Prof} {a : Int} : ∀ {l : List Fixt}, havL ps a l = none → ∀ x ∈ l, ffF a (((pfx ps x.prof).map Prof.feats).getD []) = none
 | [], _, x, h => by simp at h
 | z :: r, h, x, hx => by
  rw [havL] at h
  split at h
  ·cases h
  ·rename_i hf
   rcases List.mem_cons.1 hx with rfl | hx
   ·exact hf
   ·exact havL_none h x hx
theorem hav_least {ps : List Prof} {p : Prm} {l : List Fixt} : ∀ {m k : Nat}, (∀ y, havL ps p.attr (partsF l p.chan k m) = some y → y.1 ∈ l ∧ hasG ps p y.1 = some y.2 ∧ ∀ z ∈ l, hasG ps p z ≠ none → k ≤ z.part → y.1.part ≤ z.part) ∧
  (havL ps p.attr (partsF l p.chan k m) = none → ∀ z ∈ l, hasG ps p z ≠ none → k ≤ z.part → z.part < k + m → False)
 | 0, k => ⟨fun y h => (by cases h), fun _ z _ _ _ _ => (by omega)⟩
 | m + 1, k => by
  obtain ⟨i1, i2⟩ := hav_least (ps := ps) (p := p) (l := l) (m := m) (k := k + 1)
  rw [partsF, havL_app]
  have key : ∀ z ∈ l, hasG ps p z ≠ none → z.part = (k : Int) → z ∈ partK l p.chan k ∧ ffF p.attr (((pfx ps z.prof).map Prof.feats).getD []) ≠ none := fun z hz hn hk => by
   unfold hasG at hn
   by_cases hc : z.chan = p.chan
   ·rw [if_pos hc] at hn
    exact ⟨List.mem_filter.2 ⟨hz, by simp [hc, hk]⟩, hn⟩
   ·rw [if_neg hc] at hn; exact absurd rfl hn
  cases h1 : havL ps p.attr (partK l p.chan k) with
  | some y =>
   refine ⟨fun y' e => ?_, fun e => by cases e⟩
   have e : y = y' := by simpa using e
   subst e
   obtain ⟨a, b⟩ := havL_some h1
   simp only [partK, List.mem_filter, decide_eq_true_eq] at a
   exact ⟨a.1, by rw [hasG, if_pos a.2.1, b], fun z hz hn hk => by omega⟩
  | none =>
   rw [Option.none_or]
   have no : ∀ z ∈ l, hasG ps p z ≠ none → z.part = (k : Int) → False := fun z hz hn hk => by
    obtain ⟨a, b⟩ := key z hz hn hk
    exact b (havL_none h1 z a)
   refine ⟨fun y e => ?_, fun e z hz hn hk hlt => ?_⟩
   ·obtain ⟨a, b, c⟩ := i1 y e
    exact ⟨a, b, fun z hz hn hk => c z hz hn (by have : ¬ z.part = (k : Int) := no z hz hn; omega)⟩
   ·exact i2 e z hz hn (by have : ¬ z.part = (k : Int) := no z hz hn; omega) (by omega)
theorem fixR_D {ps : List Prof} {l : List Fixt} : ∀ {r : List Fixt} {j : Nat}, l.drop j = r → fixR ps l r j = 0 → (l.take j).Pairwise (fun x y => ¬ (x.chan = y.chan ∧ x.part = y.part)) → l.Pairwise fun x y => ¬ (x.chan = y.chan ∧ x.part = y.part)
 | [], j, hd, _, h => by
  have : l.length ≤ j := List.drop_eq_nil_iff.1 hd
  rwa [List.take_of_length_le this] at h
 | q :: r, j, hd, h0, h => by
  rw [fixR] at h0
  repeat' split at h0
  all_goals first | (rename_i a; exact absurd h0 a) | cases h0 | skip
  refine fixR_D (drop_succ hd) h0 ?_
  rw [take_snoc hd]
  refine List.pairwise_append.2 ⟨h, List.pairwise_singleton .., fun a ha b hb => ?_⟩
  rw [List.mem_singleton.1 hb]
  intro e
  rename_i k _
  exact k (List.any_eq_true.2 ⟨a, ha, by simp [e]⟩)
theorem same_part {l : List Fixt} (h : l.Pairwise fun x y => ¬ (x.chan = y.chan ∧ x.part = y.part)) : ∀ {x y : Fixt}, x ∈ l → y ∈ l → x.chan = y.chan → x.part = y.part → x = y := by
 induction l with
 | nil => intro x y hx; simp at hx
 | cons z r ih =>
  intro x y hx hy hc hp
  have h1 := List.pairwise_cons.1 h
  rcases List.mem_cons.1 hx with e1 | e1 <;> rcases List.mem_cons.1 hy with e2 | e2
  ·rw [e1, e2]
  ·exact absurd ⟨by rw [← e1]; exact hc, by rw [← e1]; exact hp⟩ (h1.1 y e2)
  ·exact absurd ⟨by rw [← e2]; exact hc.symm, by rw [← e2]; exact hp.symm⟩ (h1.1 x e1)
  ·exact ih h1.2 e1 e2 hc hp
theorem hasG_chan {ps : List Prof} {p : Prm} {x : Fixt} (h : hasG ps p x ≠ none) : x.chan = p.chan := by
 unfold hasG at h; split at h
 ·assumption
 ·exact absurd rfl h
theorem own_eq {s : Sho} {p : Prm} (hs : shoC s = 0) : (ownP s p).1 = ownR s p ∧ decide (0 < (ownP s p).2) = (ownR s p).isSome := by
 have hf := fix_ok (shoC_parts hs).2.2.2.1
 have hpart : ∀ x ∈ s.fixts, 1 ≤ x.part ∧ x.part ≤ 64 := fun x hx => by
  have := rng_ok (aloC_ok (hf.2.2.2 x hx)).1; omega
 have hL := fold_least (ps := s.profs) (p := p) (fun q hq => prof_D hs hq) (r := s.fixts) (l := []) (a := (none, 0)) (fun x hx => (hpart x hx).1) (.inl ⟨rfl, rfl, by simp⟩)
 rw [List.nil_append] at hL
 have hD := fixR_D (j := 0) rfl hf.2.2.1 (by simp)
 obtain ⟨j1, j2⟩ := hav_least (ps := s.profs) (p := p) (l := s.fixts) (m := 64) (k := 1)
 change Least s.profs p s.fixts (ownP s p).1 (ownP s p).2 at hL
 unfold ownR havR
 rcases hL with ⟨a, b, c⟩ | ⟨x, x1, x2, x3, x4, x5, x6⟩
 ·have : havL s.profs p.attr (partsF s.fixts p.chan 1 64) = none := by
   cases e : havL s.profs p.attr (partsF s.fixts p.chan 1 64) with
   | none => rfl
   | some y =>
    obtain ⟨k1, k2, _⟩ := j1 y e
    rw [c _ k1] at k2; cases k2
  rw [this, a, b]; exact ⟨rfl, rfl⟩
 ·cases e : havL s.profs p.attr (partsF s.fixts p.chan 1 64) with
  | none => exact (j2 e x x1 (by rw [x3]; exact x4) (by have := hpart x x1; omega) (by have := hpart x x1; omega)).elim
  | some y =>
   obtain ⟨k1, k2, k3⟩ := j1 y e
   have h1 := k3 x x1 (by rw [x3]; exact x4) (by have := hpart x x1; omega)
   have h2 := x6 y.1 k1 (by rw [k2]; simp)
   have hc1 := hasG_chan (x := y.1) (by rw [k2]; simp)
   have hc2 := hasG_chan (x := x) (by rw [x3]; exact x4)
   have hxy := same_part hD x1 k1 (by omega) (by omega)
   subst hxy
   refine ⟨by rw [← x3, k2]; rfl, ?_⟩
   rw [x5]; simp; omega
theorem ftr_eq {s : Sho} {p : Prm} : ftrP s p = ftrR s p ∧ okP s p = okR s p := by
 unfold ftrP ftrR okP okR
 by_cases h : ftrE s p = 0
 ·obtain ⟨a, b⟩ := own_eq (p := p) (ftrE_0 h).1
  rw [if_pos h, if_pos h, if_pos h, if_pos h, a, b]; exact ⟨rfl, rfl⟩
 ·rw [if_neg h, if_neg h, if_neg h, if_neg h]; exact ⟨rfl, rfl⟩
end Go.Proofs.YtflbieghmgobgaaGreatDoor

namespace Go.Proofs.YtflbieghmgobgaaGreatDoor
open Go.Sha
set_option maxRecDepth 100000
def ftsX (ps : List Prof) (x : Fixt) : List Ftr := ((pfx ps x.prof).map Prof.feats).getD []
def prmsX (ps : List Prof) (x : Fixt) : List Prm := (ftsX ps x).map fun f => ⟨x.chan, f.attr⟩
def insK (a : List Prm) (p : Prm) : List Prm := if p ∈ a then a else a ++ [p]
def keyP (s : Sho) : List Prm := s.fixts.foldl (fun a x => (prmsX s.profs x).foldl insK a) []
def leP (p q : Prm) : Bool := !befP q p
def parP (s : Sho) : List Prm := (keyP s).mergeSort leP
theorem insK_fold : ∀ {r a : List Prm}, a.Nodup → (r.foldl insK a).Nodup ∧ ∀ p, p ∈ r.foldl insK a ↔ p ∈ a ∨ p ∈ r
 | [], a, h => ⟨h, fun p => by simp⟩
 | q :: r, a, h => by
  have h2 : (insK a q).Nodup ∧ ∀ p, p ∈ insK a q ↔ p ∈ a ∨ p = q := by
   unfold insK
   split
   ·rename_i hq
    exact ⟨h, fun p => ⟨.inl, fun e => e.elim (fun e => e) fun e => e ▸ hq⟩⟩
   ·rename_i hq
    refine ⟨List.nodup_append.2 ⟨h, List.nodup_cons.2 ⟨by simp, List.nodup_nil⟩, fun x hx y hy e => ?_⟩, fun p => by simp⟩
    rw [List.mem_singleton] at hy; subst hy; subst e; exact hq hx
  obtain ⟨a1, a2⟩ := insK_fold (r := r) h2.1
  exact ⟨a1, fun p => by rw [List.foldl_cons, a2, h2.2, List.mem_cons, or_assoc]⟩
theorem keyP_fold {ps : List Prof} : ∀ {r : List Fixt} {a : List Prm}, a.Nodup → (r.foldl (fun a x => (prmsX ps x).foldl insK a) a).Nodup ∧ ∀ p, p ∈ r.foldl (fun a x => (prmsX ps x).foldl insK a) a ↔ p ∈ a ∨ ∃ x ∈ r, p ∈ prmsX ps x
 | [], a, h => ⟨h, fun p => by simp⟩
 | x :: r, a, h => by
  obtain ⟨b1, b2⟩ := insK_fold (r := prmsX ps x) h
  obtain ⟨a1, a2⟩ := keyP_fold (r := r) b1
  exact ⟨a1, fun p => by rw [List.foldl_cons, a2, b2]; simp [or_assoc]⟩
theorem keyP_ok {s : Sho} : (keyP s).Nodup ∧ ∀ p, p ∈ keyP s ↔ ∃ x ∈ s.fixts, p ∈ prmsX s.profs x := by
 obtain ⟨a, b⟩ := keyP_fold (ps := s.profs) (r := s.fixts) (a := []) List.nodup_nil
 exact ⟨a, fun p => by rw [keyP, b]; simp⟩
theorem befP_iff {p q : Prm} : befP p q = true ↔ p.chan < q.chan ∨ p.chan = q.chan ∧ p.attr < q.attr := by
 simp only [befP, Bool.or_eq_true, Bool.and_eq_true, decide_eq_true_eq]
theorem leP_total {p q : Prm} : (leP p q || leP q p) = true := by
 cases h1 : befP q p <;> cases h2 : befP p q <;> simp [leP, h1, h2]
 rw [befP_iff] at h1 h2; omega
theorem leP_trans {a b c : Prm} (h1 : leP a b = true) (h2 : leP b c = true) : leP a c = true := by
 simp only [leP, Bool.not_eq_true', ← Bool.not_eq_true, befP_iff] at h1 h2 ⊢
 omega
theorem leP_anti {a b : Prm} (h1 : leP a b = true) (h2 : leP b a = true) : a = b := by
 simp only [leP, Bool.not_eq_true', ← Bool.not_eq_true, befP_iff] at h1 h2
 cases a; cases b; simp only at h1 h2; congr <;> omega
theorem sort_eq {l m : List Prm} (hp : l.Perm m) (hs : m.Pairwise fun a b => leP a b = true) : l.mergeSort leP = m :=
 List.Perm.eq_of_pairwise (le := fun a b => leP a b = true) (fun a b _ _ h1 h2 => leP_anti h1 h2) (List.pairwise_mergeSort (le := leP) (fun _ _ _ => leP_trans) (fun _ _ => leP_total) l) hs ((List.mergeSort_perm l leP).trans hp)
theorem sort_perm {l m : List Prm} (hp : l.Perm m) : l.mergeSort leP = m.mergeSort leP :=
 sort_eq (hp.trans (List.mergeSort_perm m leP).symm) (List.pairwise_mergeSort (le := leP) (fun _ _ _ => leP_trans) (fun _ _ => leP_total) m)
theorem parP_ok {s : Sho} : (parP s).Pairwise (fun a b => befP a b = true) ∧ ∀ p, p ∈ parP s ↔ ∃ x ∈ s.fixts, p ∈ prmsX s.profs x := by
 have hp := List.mergeSort_perm (keyP s) leP
 refine ⟨?_, fun p => by rw [parP, hp.mem_iff, keyP_ok.2]⟩
 have h1 := List.pairwise_mergeSort (le := leP) (fun _ _ _ => leP_trans) (fun _ _ => leP_total) (keyP s)
 have h2 : (parP s).Nodup := hp.nodup_iff.2 keyP_ok.1
 refine (List.pairwise_and_iff.2 ⟨h1, h2⟩).imp fun {a b} h => ?_
 simp only [leP, Bool.not_eq_true', ← Bool.not_eq_true, befP_iff] at h ⊢
 have : ¬ (a.chan = b.chan ∧ a.attr = b.attr) := fun e => h.2 (by cases a; cases b; simp_all)
 omega
def putR (n : Int) : List Int → List Int
 | [] => [n]
 | x :: r => if x < n then x :: putR n r else if x = n then x :: r else n :: x :: r
theorem putR_ok {n : Int} : ∀ {l : List Int}, l.Pairwise (· < ·) → (putR n l).Pairwise (· < ·) ∧ ∀ x, x ∈ putR n l ↔ x = n ∨ x ∈ l
 | [], _ => ⟨by simp [putR], fun x => by simp [putR]⟩
 | y :: r, h => by
  rw [List.pairwise_cons] at h
  obtain ⟨a, b⟩ := putR_ok (n := n) h.2
  rw [putR]
  split
  ·rename_i h1
   refine ⟨List.pairwise_cons.2 ⟨fun x hx => ?_, a⟩, fun x => by rw [List.mem_cons, b]; simp [or_left_comm]⟩
   rcases (b x).1 hx with rfl | hx
   ·exact h1
   ·exact h.1 x hx
  ·split
   ·rename_i h1 h2
    exact ⟨List.pairwise_cons.2 h, fun x => by subst h2; simp⟩
   ·rename_i h1 h2
    refine ⟨List.pairwise_cons.2 ⟨fun x hx => ?_, List.pairwise_cons.2 h⟩, fun x => by simp⟩
    rcases List.mem_cons.1 hx with rfl | hx
    ·omega
    ·have := h.1 x hx; omega
def givX (ps : List Prof) (c : Int) (a : List Int) (x : Fixt) : List Int := if x.chan = c then (ftsX ps x).foldl (fun a f => putR f.attr a) a else a
def givR (s : Sho) (c : Int) : List Int := s.fixts.foldl (givX s.profs c) []
theorem givF_ok : ∀ {l : List Ftr} {a : List Int}, a.Pairwise (· < ·) → (l.foldl (fun a f => putR f.attr a) a).Pairwise (· < ·) ∧ ∀ x, x ∈ l.foldl (fun a f => putR f.attr a) a ↔ x ∈ a ∨ ∃ f ∈ l, f.attr = x
 | [], a, h => ⟨h, fun x => by simp⟩
 | f :: r, a, h => by
  obtain ⟨b1, b2⟩ := putR_ok (n := f.attr) h
  obtain ⟨a1, a2⟩ := givF_ok (l := r) b1
  exact ⟨a1, fun x => by rw [List.foldl_cons, a2, b2]; simp [or_left_comm, or_assoc, eq_comm (a := x)]⟩
theorem givL_ok {ps : List Prof} {c : Int} : ∀ {l : List Fixt} {a : List Int}, a.Pairwise (· < ·) → (l.foldl (givX ps c) a).Pairwise (· < ·) ∧ ∀ y, y ∈ l.foldl (givX ps c) a ↔ y ∈ a ∨ ∃ x ∈ l, x.chan = c ∧ ∃ f ∈ ftsX ps x, f.attr = y
 | [], a, h => ⟨h, fun x => by simp⟩
 | x :: r, a, h => by
  by_cases hx : x.chan = c
  ·obtain ⟨b1, b2⟩ := givF_ok (l := ftsX ps x) h
   obtain ⟨a1, a2⟩ := givL_ok (ps := ps) (c := c) (l := r) b1
   rw [List.foldl_cons, givX, if_pos hx]
   exact ⟨a1, fun y => by rw [a2, b2]; simp [hx, or_assoc]⟩
  ·obtain ⟨a1, a2⟩ := givL_ok (ps := ps) (c := c) (l := r) h
   rw [List.foldl_cons, givX, if_neg hx]
   exact ⟨a1, fun y => by rw [a2]; simp [hx]⟩
theorem givR_ok {s : Sho} {c : Int} : (givR s c).Pairwise (· < ·) ∧ ∀ y, y ∈ givR s c ↔ ∃ x ∈ s.fixts, x.chan = c ∧ ∃ f ∈ ftsX s.profs x, f.attr = y := by
 obtain ⟨a, b⟩ := givL_ok (ps := s.profs) (c := c) (l := s.fixts) (a := []) List.Pairwise.nil
 exact ⟨a, fun y => by rw [givR, b]; simp⟩
def patC (s : Sho) : Nat → Nat → List Prm
 | _, 0 => []
 | k, m + 1 => (givR s k).map (fun a => (⟨k, a⟩ : Prm)) ++ patC s (k + 1) m
theorem patC_ok {s : Sho} : ∀ {m k : Nat}, (patC s k m).Pairwise (fun a b => befP a b = true) ∧ ∀ p, p ∈ patC s k m ↔ (k : Int) ≤ p.chan ∧ p.chan < k + m ∧ p.attr ∈ givR s p.chan
 | 0, k => ⟨List.Pairwise.nil, fun p => by simp [patC]; omega⟩
 | m + 1, k => by
  obtain ⟨a, b⟩ := patC_ok (s := s) (m := m) (k := k + 1)
  rw [patC]
  refine ⟨List.pairwise_append.2 ⟨?_, a, fun x hx y hy => ?_⟩, fun p => ?_⟩
  ·rw [List.pairwise_map]
   exact givR_ok.1.imp fun {x y} (h : x < y) => befP_iff (p := ⟨k, x⟩) (q := ⟨k, y⟩) |>.2 (.inr ⟨rfl, h⟩)
  ·obtain ⟨z, _, rfl⟩ := List.mem_map.1 hx
   have := (b y).1 hy
   exact befP_iff.2 (.inl (by have := this.1; dsimp only; omega))
  ·rw [List.mem_append, b]
   constructor
   ·rintro (h | ⟨h1, h2, h3⟩)
    ·obtain ⟨z, hz, rfl⟩ := List.mem_map.1 h
     exact ⟨by dsimp only; omega, by dsimp only; omega, hz⟩
    ·exact ⟨by omega, by omega, h3⟩
   ·rintro ⟨h1, h2, h3⟩
    by_cases h : p.chan = k
    ·left
     rw [h] at h3
     exact List.mem_map.2 ⟨p.attr, h3, by cases p; simp_all⟩
    ·right; exact ⟨by omega, by omega, h3⟩
theorem par_eq {s : Sho} (h : ∀ x ∈ s.fixts, 1 ≤ x.chan ∧ x.chan ≤ 999) : parP s = patC s 1 999 := by
 obtain ⟨a1, a2⟩ := parP_ok (s := s)
 obtain ⟨b1, b2⟩ := patC_ok (s := s) (m := 999) (k := 1)
 have nd : ∀ {l : List Prm}, l.Pairwise (fun a b => befP a b = true) → l.Nodup := fun h => h.imp fun {a b} h e => by
  subst e; rw [befP_iff] at h; omega
 have le : ∀ {l : List Prm}, l.Pairwise (fun a b => befP a b = true) → l.Pairwise (fun a b => leP a b = true) := fun h => h.imp fun {a b} h => by
  simp only [leP, Bool.not_eq_true', ← Bool.not_eq_true]; rw [befP_iff] at h ⊢; omega
 refine List.Perm.eq_of_pairwise (le := fun a b => leP a b = true) (fun a b _ _ h1 h2 => leP_anti h1 h2) (le a1) (le b1) ((List.perm_ext_iff_of_nodup (nd a1) (nd b1)).2 fun p => ?_)
 rw [a2, b2, givR_ok.2]
 constructor
 ·rintro ⟨x, hx, hp⟩
  obtain ⟨f, hf, rfl⟩ := List.mem_map.1 hp
  have := h x hx
  exact ⟨by dsimp only; omega, by dsimp only; omega, x, hx, rfl, f, hf, rfl⟩
 ·rintro ⟨_, _, x, hx, h1, f, hf, h2⟩
  exact ⟨x, hx, List.mem_map.2 ⟨f, hf, by cases p; simp_all⟩⟩
end Go.Proofs.YtflbieghmgobgaaGreatDoor

namespace Go.Proofs.YtflbieghmgobgaaGreatDoor
open Go.Sha
set_option maxRecDepth 10000
def B13_0 : Cd := (.g [.b 30 .lss 29 28]
 (.join [1, 5, 7, 19, 20, 21, 27, 28, 29] (.i 30 .skip
 (.exit [1, 5, 19, 20, 21] 2))
 (.join [1, 5, 7, 19, 20, 21, 27, 28, 29] (.block 3 (.g [.r 31 10 27 29,
.d 32 10 31,
.s 9 (.alloc 55 [.i 0, .i 0, .i 0, .i 0, .i 0, .i 0, .i 0, .i 0, (.bool false), .nils]),
.w 10 9 32]
 (.z [9] (.reg [.m 33 5,
.a 34 0 7,
.l 35 34,
.a 36 0 9,
.l 37 36,
.s 38 (.build [.i 0, .i 0] [(0, 1, (.t 35)), (1, 1, (.t 37))]),
.n (.act (.mset (.a [.i, .i])) [.t 33, .t 38, (.c (.bool true))])]))))
 (.reg [.v 39 .add 29 1,
.m 29 39]))))
def B13_1 : Cd := (.g [.b 22 .lss 21 20]
 (.join [1, 5, 19, 20, 21] (.i 22 .skip
 (.exit [5] 0))
 (.join [1, 5, 19, 20, 21] (.block 1 (.g [.r 23 7 19 21,
.d 24 7 23,
.s 7 (.alloc 105 [.i 0, .i 0, (.str []), .i 0, .i 0, .i 0, (.str [])]),
.w 7 7 24]
 (.z [7] (.g [.d 25 9 1,
.d 26 7 7,
.g' 27 55 25 26,
.u 28 27,
.c 29 0]
 (.block 2 (.loop [1, 5, 7, 19, 20, 21, 27, 28, 29] [] B13_0))))))
 (.reg [.v 40 .add 21 1,
.m 21 40]))))
def B13_2 : Cd := (.g [.s 43 (.nxt (.t 42)),
.j 44 0 43]
 (.join [10, 42] (.i 44 .skip
 (.exit [10] 4))
 (.block 5 (.g [.s 45 (.act .ent [.t 42]),
.j 46 0 45,
.s 11 (.alloc 44 [.i 0, .i 0]),
.w 2 11 46]
 (.z [11] (.reg [.m 47 10,
.d 48 2 11,
.s 49 (.bslice 44 2 [.t 48]),
.s 50 (.append 44 2 16 (.t 47) (.t 49)),
.m 10 50]))))))
theorem F13 : compF Tryz.prog 13 = some ⟨54, [.tmp 2, .tmp 3], (.g [.q 1 31 0,
.s 2 (.mv (.c .nils)),
.c 3 0]
 (.z [1] (.join [1] (.g [.d 12 9 1,
.f 13 15 12,
.m 4 13]
 (.g [.m 14 4,
.v 15 .neq 14 0]
 (.i 15 (.g [.m 16 4,
.s 2 (.mv (.c .nils)),
.m 3 16]
 (.ret [2, 3]))
 .skip)))
 (.g [.s 17 (.act .mkmap []),
.m 5 17]
 (.join [5] (.g [.a 18 3 1,
.l 19 18,
.u 20 19,
.c 21 0]
 (.block 0 (.loop [1, 5, 19, 20, 21] [] B13_1)))
 (.g [.s 10 (.mv (.c .nils))]
 (.join [10] (.g [.m 41 5,
.s 42 (.act .rng [.t 41])]
 (.block 4 (.loop [10, 42] [(10, (44, 2))] B13_2)))
 (.g [.m 51 10,
.s 52 (.f 56 [.t 51, (.c (.fn (.func 57) [] []))])]
 (.g [.m 53 10,
.m 2 53,
.c 3 0]
 (.ret [2, 3]))))))))))⟩ := by kernel_rfl
theorem F14 : compF Tryz.prog 14 = some ⟨12, [.tmp 2, .tmp 3], (.g [.q 1 31 0,
.s 2 (.mv (.c .nils)),
.c 3 0]
 (.z [1] (.join [1] (.g [.d 5 9 1,
.f 6 16 5,
.m 4 6]
 (.g [.m 7 4,
.v 8 .neq 7 0]
 (.i 8 (.g [.m 9 4,
.s 2 (.mv (.c .nils)),
.m 3 9]
 (.ret [2, 3]))
 .skip)))
 (.g [.d 10 9 1,
.f 11 58 10,
.m 2 11,
.c 3 0]
 (.ret [2, 3])))))⟩ := by kernel_rfl
def B58_0 : Cd := (.join [1, 3, 4, 5, 6] (.g [.m 17 6,
.m 18 5,
.u 19 18,
.b 20 .lss 17 19]
 (.i 20 .skip
 (.exit [1, 3, 4] 2)))
 (.join [1, 3, 4, 5, 6] (.block 3 (.reg [.m 23 3,
.m 24 4,
.m 25 5,
.m 26 6,
.r 27 1 25 26,
.l 28 27,
.s 29 (.build [.i 0, .i 0] [(0, 1, (.t 24)), (1, 1, (.t 28))]),
.s 30 (.bslice 44 2 [.t 29]),
.s 31 (.append 44 2 16 (.t 23) (.t 30)),
.m 3 31]))
 (.reg [.m 21 6,
.v 22 .add 21 1,
.m 6 22])))
def B58_1 : Cd := (.join [1, 3, 4] (.g [.m 7 4,
.v 8 .leq 7 999]
 (.i 8 .skip
 (.exit [3] 0)))
 (.join [1, 3, 4] (.block 1 (.g [.a 11 3 1,
.l 12 11,
.a 13 2 1,
.l 14 13,
.m 15 4,
.s 16 (.f 96 [.t 12, .t 14, .t 15]),
.m 5 16]
 (.g [.c 6 0]
 (.block 2 (.loop [1, 3, 4, 5, 6] [(3, (44, 2))] B58_0)))))
 (.reg [.m 9 4,
.v 10 .add 9 1,
.m 4 10])))
theorem F58 : compF Tryz.prog 58 = some ⟨33, [.tmp 2], (.g [.q 1 31 0,
.s 2 (.mv (.c .nils))]
 (.z [1] (.g [.s 3 (.mv (.c .nils))]
 (.join [3] (.g [.c 4 1]
 (.block 0 (.loop [1, 3, 4] [(3, (44, 2))] B58_1)))
 (.g [.m 32 3,
.m 2 32]
 (.ret [2]))))))⟩ := by kernel_rfl
def B96_0 : Cd := (.join [0, 1, 2, 7, 8, 9, 10] (.g [.m 35 10,
.m 36 9,
.u 37 36,
.b 38 .lss 35 37]
 (.i 38 .skip
 (.exit [0, 1, 2, 7, 8] 2)))
 (.join [0, 1, 2, 7, 8, 9, 10] (.block 3 (.reg [.m 41 7,
.m 42 9,
.m 43 10,
.r 44 10 42 43,
.a 45 0 44,
.l 46 45,
.g' 47 143 41 46,
.m 7 47]))
 (.reg [.m 39 10,
.v 40 .add 39 1,
.m 10 40])))
def B96_1 : Cd := (.join [0, 1, 2, 7, 8] (.g [.m 11 8,
.m 12 0,
.u 13 12,
.b 14 .lss 11 13]
 (.i 14 .skip
 (.exit [7] 0)))
 (.join [0, 1, 2, 7, 8] (.block 1 (.join [0, 1, 2, 7, 8] (.g [.m 17 0,
.m 18 8,
.r 19 7 17 18,
.a 20 0 19,
.l 21 20,
.m 22 2,
.b 23 .neq 21 22]
 (.i 23 (.exit [0, 1, 2, 7, 8] 1)
 .skip))
 (.g [.m 24 1,
.m 25 1,
.m 26 0,
.m 27 8,
.r 28 7 26 27,
.a 29 2 28,
.l 30 29,
.g' 31 142 25 30,
.r 32 4 24 31,
.a 33 3 32,
.l 34 33,
.m 9 34]
 (.g [.c 10 0]
 (.block 2 (.loop [0, 1, 2, 7, 8, 9, 10] [] B96_0))))))
 (.reg [.m 15 8,
.v 16 .add 15 1,
.m 8 16])))
theorem F96 : compF Tryz.prog 96 = some ⟨49, [.tmp 6], (.g [.s 6 (.mv (.c .nils))]
 (.g [.s 7 (.mv (.c .nils))]
 (.join [7] (.g [.c 8 0]
 (.block 0 (.loop [0, 1, 2, 7, 8] [] B96_1)))
 (.g [.m 48 7,
.m 6 48]
 (.ret [6])))))⟩ := by kernel_rfl
def B143_0 : Cd := (.join [0, 1, 5, 6] (.join [0, 1, 5, 6, 18] (.reg [.m 7 6,
.m 8 0,
.u 9 8,
.b 10 .lss 7 9,
.m 11 10,
.my 12 0 11,
.my 13 6 11,
.ry 14 1 12 13 11,
.ly 15 14 11,
.my 16 1 11,
.by' 17 .lss 15 16 11,
.e 18 11 17])
 (.i 18 .skip
 (.exit [0, 1, 5, 6] 0)))
 (.block 1 (.g [.m 19 5,
.m 20 0,
.m 21 6,
.r 22 1 20 21,
.l 23 22,
.s 24 (.bslice 3 1 [.t 23]),
.s 25 (.append 3 1 8 (.t 19) (.t 24)),
.m 5 25]
 (.reg [.m 26 6,
.v 27 .add 26 1,
.m 6 27]))))
theorem F143 : compF Tryz.prog 143 = some ⟨49, [.tmp 4], (.g [.s 4 (.mv (.c .nils))]
 (.g [.s 5 (.mv (.c .nils))]
 (.g [.c 6 0]
 (.join [0, 1, 5, 6] (.block 0 (.loop [0, 1, 5, 6] [(5, (3, 1))] B143_0))
 (.join [0, 5, 6] (.join [0, 1, 5, 6, 39] (.reg [.m 28 6,
.m 29 0,
.u 30 29,
.b 31 .eql 28 30,
.m 32 31,
.mx 33 0 32,
.mx 34 6 32,
.x 35 (.iadr 1 (.t 33) (.t 34)) 32,
.lx 36 35 32,
.mx 37 1 32,
.bx 38 .neq 36 37 32,
.o 39 32 38])
 (.i 39 (.reg [.m 40 5,
.m 41 1,
.s 42 (.bslice 3 1 [.t 41]),
.s 43 (.append 3 1 8 (.t 40) (.t 42)),
.m 5 43])
 .skip))
 (.g [.m 44 5,
.m 45 0,
.m 46 6,
.s 47 (.slice 1 (.t 45) (some (.t 46)) none none),
.s 48 (.append 3 1 8 (.t 44) (.t 47)),
.m 4 48]
 (.ret [4])))))))⟩ := by kernel_rfl
end Go.Proofs.YtflbieghmgobgaaGreatDoor

namespace Go.Proofs.YtflbieghmgobgaaGreatDoor
open Go.Sha
set_option maxRecDepth 100000
variable {g : List (Nat × Obj)} {n : Nat}
def stI (g : List (Nat × Obj)) (n : Nat) (a : List Int) : St := ⟨n + 1, [], [(n, ⟨3, 1, a.map (V.int .i64), false, false⟩)], ⟨[], g, []⟩⟩
@[push_cast] theorem stI_eq {a : List Int} : stI g n a = ⟨n + 1, [], [(n, ⟨3, 1, a.map (V.int .i64), false, false⟩)], ⟨[], g, []⟩⟩ := @_root_.id (_ = _) rfl
theorem L143 {l : List Int} {v : Int} (hl : l.length ≤ 1000000) : ∀ r j, l.drop j = r → ∀ a, a.length + r.length ≤ 1000000 →
  runL Tryz.prog HH [0, 1, 5, 6] (n + 1) B143_0 [(0, .sl (l.map (V.int .i64))), (1, .int .i64 v), (5, .osl n a.length), (6, .int .i64 j)] (stI g n a)
   = some (.exit 0, [(0, .sl (l.map (V.int .i64))), (1, .int .i64 v), (5, .osl n (a ++ r.takeWhile fun x => decide (x < v)).length), (6, .int .i64 (j + (r.takeWhile fun x => decide (x < v)).length : Nat))], stI g n (a ++ r.takeWhile fun x => decide (x < v))) := by
 refine drop_ind (fun j h a ha => ?_) (fun q r j h hx hd ih a ha => ?_)
 all_goals rw [runL_of B143_0.eq_1]
 ·have h1 : ¬ (j : Int) < l.length := by omega
  push_cast [h1, List.takeWhile_nil, List.length_nil]
 ·have h1 : (j : Int) < l.length := by omega
  have hw := iw1 (j := j) (by omega)
  by_cases h2 : q < v
  ·have ih := ih (a ++ [q]) (by simp at ha ⊢; omega)
   have h3 := eq_true h2
   have h4 : roomV (a.length + 1) 8 = true := roomV_lit (by simp at ha; omega) (by simp at ha; omega)
   rw [List.takeWhile_cons_of_pos (by simpa using h2)]
   push_cast [h1, hw, hx, h3, h4, List.map_append] at ih ⊢
   rw [ih]
   simp only [Int.add_assoc, Int.add_comm 1, List.append_assoc, List.cons_append, List.nil_append]
  ·have h3 := eq_false h2
   rw [List.takeWhile_cons_of_neg (by simpa using h2)]
   clear ih
   push_cast [h1, hw, hx, h3, List.length_nil]
theorem putR_tw {v : Int} : ∀ {l : List Int}, putR v l = l.takeWhile (fun x => decide (x < v)) ++ match l.dropWhile (fun x => decide (x < v)) with
  | [] => [v]
  | y :: r => if y = v then y :: r else v :: y :: r
 | [] => rfl
 | x :: r => by
  rw [putR]
  by_cases h : x < v
  ·rw [if_pos h, List.takeWhile_cons_of_pos (by simpa using h), List.dropWhile_cons_of_pos (by simpa using h), putR_tw (l := r)]; rfl
  ·rw [if_neg h, List.takeWhile_cons_of_neg (by simpa using h), List.dropWhile_cons_of_neg (by simpa using h)]; rfl
theorem mapO_map {α : Type} {F : V → Option V} {f : α → V} : ∀ {l : List α}, (∀ x, F (f x) = some (f x)) → mapO F (l.map f) = some (l.map f)
 | [], _ => rfl
 | x :: l, h => by rw [List.map_cons, mapO, h, mapO_map h]
theorem bdI {l : List Int} {v : Int} : V.bdL 0 [.sl (l.map (V.int .i64)), .int .i64 v] = true := by
 have := bdL_map' (n := 0) (f := V.int .i64) (l := l)
 simp only [V.bdL, V.bd, this, all_true, Bool.and_self]
theorem f143 {l : List Int} {v : Int} (hl : l.length ≤ 100000) {st : St} : run Tryz.prog HH 143 [.sl (l.map (V.int .i64)), .int .i64 v] st = some (.ret (.sl ((putR v l).map (V.int .i64))), st) := by
 have h0 := L143 (g := st.x.gl) (n := 0) (l := l) (v := v) (by omega) l 0 rfl [] (by simp; omega)
 have e := putR_tw (v := v) (l := l)
 have hd := List.takeWhile_append_dropWhile (p := fun x => decide (x < v)) (l := l)
 rw [List.nil_append, Nat.zero_add] at h0
 generalize l.takeWhile (fun x => decide (x < v)) = a at *
 generalize l.dropWhile (fun x => decide (x < v)) = d at *
 subst hd
 rw [List.length_append] at hl
 have r1 : roomV (a.length + 1) 8 = true := roomV_lit (by omega) (by omega)
 cases d with
 | nil =>
  rw [List.append_nil] at *
  push_cast [List.length_nil] at h0
  rw [run_shut F143 rfl rfl bdI]
  push_cast [h0, r1, e, List.take_length, List.drop_length, List.map_append]
  exact dn_eq (by omega) rfl
 | cons y r =>
  rw [List.length_cons] at hl
  have h1 : ¬ (a.length : Int) = a.length + (r.length + 1) := by omega
  have r2 : roomV (a.length + (r.length + 1)) 8 = true := roomV_lit (by omega) (by omega)
  have r3 : roomV (a.length + 1 + (r.length + 1)) 8 = true := roomV_lit (by omega) (by omega)
  have h2 : (a.length : Int) < a.length + (r.length + 1) := by omega
  have h5 : List.drop a.length (List.take (a.length + (r.length + 1)) (a ++ y :: r)) = y :: r := by rw [List.take_of_length_le (by simp), List.drop_left]
  push_cast [List.length_nil, List.length_append, List.length_cons] at h0
  rw [run_shut F143 rfl rfl bdI]
  have e : putR v (a ++ y :: r) = a ++ (if y = v then y :: r else v :: y :: r) := e
  by_cases hy : y = v
  ·rw [if_pos hy] at e
   have hy := eq_true hy
   push_cast [h0, r1, r2, r3, e, h1, h2, hy, h5, mapO_map, getD_app, List.length_append, List.length_cons]
   exact dn_eq ⟨by omega, by simp [V.cells]⟩ (by simp)
  ·rw [if_neg hy] at e
   have hy := eq_false hy
   have h6 : a.length + (r.length + 1 + 1) = a.length + 1 + (r.length + 1) := by omega
   push_cast [h0, r1, r2, r3, e, h1, h2, hy, h5, h6, mapO_map, getD_app, List.length_append, List.length_cons]
   exact dn_eq ⟨by omega, by simp [V.cells]⟩ (by simp)
theorem putR_len {v : Int} : ∀ {l : List Int}, (putR v l).length ≤ l.length + 1
 | [] => by simp [putR]
 | x :: r => by
  have := putR_len (v := v) (l := r)
  rw [putR]; split <;> (try split) <;> simp <;> omega
theorem putR_ne {v : Int} {l : List Int} : putR v l ≠ [] := by
 cases l with
 | nil => simp [putR]
 | cons x r => rw [putR]; split <;> (try split) <;> simp
def nI : List Int → V
 | [] => .nils
 | a :: r => .sl ((a :: r).map (V.int .i64))
@[push_cast] theorem nI_nil : nI [] = .nils := @_root_.id (_ = _) rfl
theorem nI_ne {l : List Int} (h : l ≠ []) : nI l = .sl (l.map (V.int .i64)) := by cases l <;> first | exact absurd rfl h | rfl
theorem nI_put {v : Int} {l : List Int} : nI (putR v l) = .sl ((putR v l).map (V.int .i64)) := nI_ne putR_ne
@[push_cast] theorem nI_snap {l : List Int} {st : St} : snapA st (nI l) = some (.sl (l.map (V.int .i64))) := by cases l <;> rfl
@[push_cast] theorem nI_shut {l : List Int} {st : St} : shutV st (nI l) = .sl (l.map (V.int .i64)) := by cases l <;> rfl
theorem L96_0 {l : List Ftr} {e0 e1 e2 e8 : V} (hl : l.length < 140737488355328) (b0 : V.bd n e0 = true) (b1 : V.bd n e1 = true) (b2 : V.bd n e2 = true) (b8 : V.bd n e8 = true) : ∀ r j, l.drop j = r → ∀ a, a.length + r.length ≤ 100000 →
  runL Tryz.prog HH [0, 1, 2, 7, 8, 9, 10] n B96_0 [(0, e0), (1, e1), (2, e2), (7, nI a), (8, e8), (9, .sl (l.map Ftr.v)), (10, .int .i64 j)] (stN g n)
   = some (.exit 2, [(0, e0), (1, e1), (2, e2), (7, nI (r.foldl (fun a f => putR f.attr a) a)), (8, e8)], stN g n) := by
 refine drop_ind (fun j h a ha => ?_) (fun q r j h hx hd ih a ha => ?_)
 all_goals rw [runL_of B96_0.eq_1]
 ·have h1 : ¬ (j : Int) < l.length := by omega
  push_cast [h1, List.foldl_nil, Ftr.v]
 ·have h1 : (j : Int) < l.length := by omega
  have hw := iw1 (j := j) (by omega)
  have hp := putR_len (v := q.attr) (l := a)
  have h143 := fun (st : St) => f143 (l := a) (v := q.attr) (st := st) (by simp at ha; omega)
  have ih := ih (putR q.attr a) (by simp at ha; omega)
  push_cast [h1, hw, hx, Ftr.v, h143, nI_put, List.foldl_cons, b0, b1, b2, b8] at ih ⊢
  exact ih
theorem foldF_len : ∀ {l : List Ftr} {a : List Int}, (l.foldl (fun a f => putR f.attr a) a).length ≤ a.length + l.length
 | [], a => by simp
 | f :: r, a => by
  have := foldF_len (l := r) (a := putR f.attr a)
  have := putR_len (v := f.attr) (l := a)
  simp only [List.foldl_cons, List.length_cons]; omega
theorem L96_1 {xs : List Fixt} {ps : List Prof} {c : Int} (hl : xs.length ≤ 64) (hp : ps.length < 140737488355328) (hq : ∀ q ∈ ps, q.feats.length ≤ 16) (hf : ∀ x ∈ xs, (pfx ps x.prof).isSome = true) : ∀ r j, xs.drop j = r → ∀ a, a.length + 16 * r.length ≤ 2000 →
  runL Tryz.prog HH [0, 1, 2, 7, 8] n B96_1 [(0, .sl (xs.map Fixt.v)), (1, .sl (ps.map Prof.v)), (2, .int .i64 c), (7, nI a), (8, .int .i64 j)] (stN g n)
   = some (.exit 0, [(7, nI (r.foldl (givX ps c) a))], stN g n) := by
 refine drop_ind (fun j h a ha => ?_) (fun x r j h hx hd ih a ha => ?_)
 all_goals rw [runL_of B96_1.eq_1]
 ·have h1 : ¬ (j : Int) < xs.length := by omega
  push_cast [h1, List.foldl_nil, Fixt.v, Prof.v]
 ·have h1 : (j : Int) < xs.length := by omega
  have hw := iw1 (j := j) (by omega)
  rw [List.length_cons] at ha
  rw [List.foldl_cons, givX]
  by_cases hc : x.chan = c
  ·obtain ⟨q, hq1⟩ := Option.isSome_iff_exists.1 (hf x (mem_at hd))
   have hq2 := hq q (List.mem_of_find?_eq_some hq1)
   obtain ⟨k, k1, k2, k3⟩ := (ix_find (j := 0)).2 q hq1
   rw [Nat.zero_add] at k1
   have k4 : (k : Int) < ps.length := by omega
   have h142 := fun (st : St) => f142 (s := x.prof) (st := st) hp
   rw [k1] at h142
   have h0 := L96_0 (g := g) (n := n) (l := q.feats) (e0 := .sl (xs.map Fixt.v)) (e1 := .sl (ps.map Prof.v)) (e2 := .int .i64 c) (e8 := .int .i64 j) (by omega) (by simp [V.bd, bdL_map', V.bdL]) (by simp [V.bd, bdL_map', V.bdL]) rfl rfl _ 0 rfl a (by simp; omega)
   have hlen := foldF_len (l := q.feats) (a := a)
   rw [if_pos hc, show ftsX ps x = q.feats by simp [ftsX, hq1]]
   have ih := ih (q.feats.foldl (fun a f => putR f.attr a) a) (by omega)
   have h3 := eq_true hc
   push_cast [Fixt.v, Prof.v, Ftr.v] at h0 h142
   push_cast [h1, hw, hx, Fixt.v, Prof.v, Ftr.v, h3, h142, k3, k4, h0] at ih ⊢
   exact ih
  ·rw [if_neg hc]
   have ih := ih a (by omega)
   have h3 := eq_false hc
   push_cast [h1, hw, hx, Fixt.v, Prof.v, h3] at ih ⊢
   exact ih
theorem prof_len {s : Sho} (hs : shoC s = 0) {q : Prof} (hq : q ∈ s.profs) : q.feats.length ≤ 16 := by
 have h := (shoC_parts hs).2.2.1
 unfold profsCR at h
 split at h
 ·cases h
 ·have := profsR_all (j := 0) rfl h q hq
  unfold profR at this
  repeat' split at this
  all_goals first | (rename_i a; exact absurd this a) | cases this | omega
theorem f96 {s : Sho} {c : Int} (h : s.ok) (hs : shoC s = 0) {st : St} : run Tryz.prog HH 96 [.sl (s.fixts.map Fixt.v), .sl (s.profs.map Prof.v), .int .i64 c] st = some (.ret (.sl ((givR s c).map (V.int .i64))), st) := by
 have hf := fix_ok (shoC_parts hs).2.2.2.1
 have h0 := fun n => L96_1 (g := st.x.gl) (n := n) (c := c) hf.2.1 (by omega) (fun q hq => prof_len hs hq) (fun x hx => aloC_some (hf.2.2.2 x hx)) _ 0 rfl [] (by simp; omega)
 rw [List.drop_zero, show s.fixts.foldl (givX s.profs c) [] = givR s c from rfl] at h0
 push_cast [Fixt.v, Prof.v] at h0
 rw [run_shut F96 rfl rfl (by simp)]
 push_cast [Fixt.v, Prof.v, h0]
theorem givL_len {ps : List Prof} {c : Int} (hq : ∀ q ∈ ps, q.feats.length ≤ 16) : ∀ {l : List Fixt} {a : List Int}, (l.foldl (givX ps c) a).length ≤ a.length + 16 * l.length
 | [], a => by simp
 | x :: r, a => by
  have h1 := givL_len hq (c := c) (l := r) (a := givX ps c a x)
  have h2 : (givX ps c a x).length ≤ a.length + 16 := by
   unfold givX
   split
   ·have := foldF_len (l := ftsX ps x) (a := a)
    have : (ftsX ps x).length ≤ 16 := by
     unfold ftsX
     cases e : pfx ps x.prof with
     | none => simp
     | some q => exact hq q (List.mem_of_find?_eq_some e)
    omega
   ·omega
  simp only [List.foldl_cons, List.length_cons]; omega
theorem givR_len {s : Sho} {c : Int} (hs : shoC s = 0) : (givR s c).length ≤ 1024 := by
 have := givL_len (fun q hq => prof_len hs hq) (c := c) (l := s.fixts) (a := [])
 have := (fix_ok (shoC_parts hs).2.2.2.1).2.1
 unfold givR; simp only [List.length_nil] at *; omega
def stQ (g : List (Nat × Obj)) (n : Nat) (a : List Prm) : St := ⟨n + 1, [], [(n, ⟨44, 2, a.map Prm.v, false, false⟩)], ⟨[], g, []⟩⟩
@[push_cast] theorem stQ_eq {a : List Prm} : stQ g n a = ⟨n + 1, [], [(n, ⟨44, 2, a.map Prm.v, false, false⟩)], ⟨[], g, []⟩⟩ := @_root_.id (_ = _) rfl
theorem L58_0 {l : List Int} {c : Int} {e1 : V} (hl : l.length ≤ 1024) (b1 : V.bd (n + 1) e1 = true) : ∀ r j, l.drop j = r → ∀ a, a.length + r.length ≤ 10000000 →
  runL Tryz.prog HH [1, 3, 4, 5, 6] (n + 1) B58_0 [(1, e1), (3, .osl n a.length), (4, .int .i64 c), (5, .sl (l.map (V.int .i64))), (6, .int .i64 j)] (stQ g n a)
   = some (.exit 2, [(1, e1), (3, .osl n (a ++ r.map fun x => (⟨c, x⟩ : Prm)).length), (4, .int .i64 c)], stQ g n (a ++ r.map fun x => (⟨c, x⟩ : Prm))) := by
 refine drop_ind (fun j h a ha => ?_) (fun q r j h hx hd ih a ha => ?_)
 all_goals rw [runL_of B58_0.eq_1]
 ·have h1 : ¬ (j : Int) < l.length := by omega
  push_cast [h1, List.map_nil, Prm.v]
 ·have h1 : (j : Int) < l.length := by omega
  have hw := iw1 (j := j) (by omega)
  have ih := ih (a ++ [⟨c, q⟩]) (by simp at ha ⊢; omega)
  have h4 : roomV (a.length + 1) 16 = true := roomV_lit (by simp at ha; omega) (by simp at ha; omega)
  push_cast [h1, hw, hx, h4, Prm.v, List.map_append, b1] at ih ⊢
  rw [ih]
theorem L58_1 {s : Sho} (h : s.ok) (hs : shoC s = 0) : ∀ (m k : Nat), k + m = 1000 → ∀ a, a.length + m * 1024 ≤ 2000000 →
  runL Tryz.prog HH [1, 3, 4] (n + 1) B58_1 [(1, .ep s.v 0), (3, .osl n a.length), (4, .int .i64 k)] (stQ g n a)
   = some (.exit 0, [(3, .osl n (a ++ patC s k m).length)], stQ g n (a ++ patC s k m)) := by
 intro m
 induction m with
 | zero =>
  intro k hk a ha
  have h1 : ¬ (k : Int) ≤ 999 := by omega
  rw [runL_of B58_1.eq_1]
  push_cast [h1, patC, Prm.v, Sho.v]
 | succ m ih =>
  intro k hk a ha
  have h1 : (k : Int) ≤ 999 := by omega
  have hw : IntKind.i64.wrap ((k : Int) + 1) = ((k + 1 : Nat) : Int) := iwrap (by omega) (by omega)
  have hle := givR_len (c := k) hs
  have h96 := fun (st : St) => f96 (c := k) (st := st) h hs
  have h0 := L58_0 (g := g) (n := n) (l := givR s k) (c := k) (e1 := .ep s.v 0) hle (by simp [V.bd, bdL_map', V.bdL]) _ 0 rfl a (by simp; omega)
  have ih := ih (k + 1) (by omega) (a ++ (givR s k).map fun x => (⟨k, x⟩ : Prm)) (by simp; omega)
  rw [runL_of B58_1.eq_1]
  push_cast [Sho.v, Prm.v] at h0 h96
  push_cast [h1, hw, Sho.v, Prm.v, h96, h0, patC] at ih ⊢
  exact ih
theorem f58 {s : Sho} (h : s.ok) (hs : shoC s = 0) {st : St} : run Tryz.prog HH 58 [s.v] st = some (.ret (.sl ((patC s 1 999).map Prm.v)), st) := by
 have h0 := L58_1 (g := st.x.gl) (n := 1) h hs 999 1 rfl [] (by simp)
 rw [run_shut F58 rfl rfl (by simp)]
 push_cast [Sho.v, Prm.v] at h0
 push_cast [Sho.v, Prm.v, h0]
def parS (s : Sho) : List Prm := if shoC s = 0 then parP s else []
theorem fix_chan {s : Sho} (hs : shoC s = 0) : ∀ x ∈ s.fixts, 1 ≤ x.chan ∧ x.chan ≤ 999 := fun x hx => by
 have := rng_ok (aloC_ok ((fix_ok (shoC_parts hs).2.2.2.1).2.2.2 x hx)).1; omega
theorem f14 {s : Sho} (h : s.ok) {st : St} : run Tryz.prog HH 14 [s.v] st = some (.ret (.tup [.sl ((parS s).map Prm.v), .int .i64 (shoC s)]), st) := by
 have h16 := fun (st : St) => f16 (st := st) h
 rw [run_shut F14 rfl rfl (by simp)]
 by_cases hs : shoC s = 0
 ·have h58 := fun (st : St) => f58 (st := st) h hs
  rw [← par_eq (fix_chan hs)] at h58
  push_cast [Sho.v, Prm.v] at h16 h58
  push_cast [Sho.v, Prm.v, h16, h58, hs, parS]
 ·push_cast [Sho.v, Prm.v] at h16
  push_cast [Sho.v, Prm.v, h16, hs, parS, List.map_nil]
end Go.Proofs.YtflbieghmgobgaaGreatDoor

namespace Go.Proofs.YtflbieghmgobgaaGreatDoor
open Go.Sha
set_option maxRecDepth 100000
variable {g : List (Nat × Obj)} {n : Nat}
def esP (a : List Prm) : List (V × V) := a.map fun p => (p.v, .bool true)
theorem same_prm {p q : Prm} : sameV p.v q.v = some (decide (p = q)) := by
 cases p; cases q
 rw [show ∀ a b c d : Int, sameV (Prm.v ⟨a, b⟩) (Prm.v ⟨c, d⟩) = some ((a == c) && ((b == d) && true)) from fun a b c d => rfl]
 simp only [Prm.mk.injEq, Bool.and_true, Option.some.injEq]
 rw [Bool.eq_iff_iff]; simp
theorem find_esP {p : Prm} : ∀ {a : List Prm} {i : Nat}, (p ∉ a → findV p.v (esP a) i = some none) ∧ (p ∈ a → ∃ j, a[j]? = some p ∧ findV p.v (esP a) i = some (some (i + j, .bool true)))
 | [], i => ⟨fun _ => rfl, fun h => by simp at h⟩
 | q :: r, i => by
  obtain ⟨i1, i2⟩ := find_esP (p := p) (a := r) (i := i + 1)
  have e : findV p.v (esP (q :: r)) i = match (some (decide (p = q)) : Option Bool) with
   | some true => some (some (i, .bool true))
   | some false => findV p.v (esP r) (i + 1)
   | none => none := by rw [← same_prm]; rfl
  rw [e]
  by_cases h : p = q
  ·subst h
   simp only [decide_true]
   exact ⟨fun h => absurd (List.mem_cons_self ..) h, fun _ => ⟨0, rfl, rfl⟩⟩
  ·simp only [decide_eq_false h]
   refine ⟨fun h' => i1 fun h2 => h' (List.mem_cons_of_mem _ h2), fun h' => ?_⟩
   obtain ⟨j, j1, j2⟩ := i2 ((List.mem_cons.1 h').resolve_left h)
   exact ⟨j + 1, j1, by rw [j2, show i + 1 + j = i + (j + 1) by omega]⟩
theorem mset_esP {st : St} {i : Nat} {a : List Prm} {p : Prm} : msetB st i (esP a) p.v (.bool true) (findV p.v (esP a) 0) = some (.und, ⟨st.nx, st.mem, st.arr, ⟨updO st.x.obj i (.map (esP (insK a p))), st.x.gl, st.x.ty⟩⟩) := by
 by_cases h : p ∈ a
 ·obtain ⟨j, j1, j2⟩ := (find_esP (i := 0)).2 h
  rw [j2, insK, if_pos h, Nat.zero_add]
  have e : (esP a).set j (p.v, .bool true) = esP a := by
   have hj := (List.getElem?_eq_some_iff.1 j1).1
   apply List.ext_getElem?
   intro k
   rw [List.getElem?_set]
   split
   ·rename_i e; subst e
    rw [esP, List.getElem?_map, j1, List.length_map, if_pos hj]; rfl
   ·rfl
  simp only [msetB, putM, e]
 ·rw [(find_esP (i := 0)).1 h, insK, if_neg h]
  simp [msetB, putM, esP]
@[push_cast] theorem esP_all {a : List Prm} : ((esP a).all fun p => p.1.bd n && p.2.bd n) = true := by simp [esP, V.bd, V.bdL]
@[push_cast] theorem esP_len {a : List Prm} : (esP a).length = a.length := by simp [esP]
@[push_cast] theorem esP_nil : esP [] = [] := @_root_.id (_ = _) rfl
def stZ (g : List (Nat × Obj)) (n : Nat) (a : List Prm) : St := ⟨n, [], [], ⟨[(1, .map (esP a))], g, []⟩⟩
@[push_cast] theorem stZ_eq {a : List Prm} : stZ g n a = ⟨n, [], [], ⟨[(1, .map (esP a))], g, []⟩⟩ := @_root_.id (_ = _) rfl
theorem L13_0 {l : List Ftr} {x : Fixt} {e1 e19 e20 e21 : V} (hl : l.length < 140737488355328) (b1 : V.bd 3 e1 = true) (b19 : V.bd 3 e19 = true) (b20 : V.bd 3 e20 = true) (b21 : V.bd 3 e21 = true) : ∀ r j, l.drop j = r → ∀ a,
  runL Tryz.prog HH [1, 5, 7, 19, 20, 21, 27, 28, 29] 3 B13_0 [(1, e1), (5, .mp 1), (7, .ep x.v 0), (19, e19), (20, e20), (21, e21), (27, .sl (l.map Ftr.v)), (28, .int .i64 l.length), (29, .int .i64 j)] (stZ g 3 a)
   = some (.exit 2, [(1, e1), (5, .mp 1), (19, e19), (20, e20), (21, e21)], stZ g 3 ((r.map fun f => (⟨x.chan, f.attr⟩ : Prm)).foldl insK a)) := by
 refine drop_ind (fun j h a => ?_) (fun q r j h hx hd ih a => ?_)
 all_goals rw [runL_of B13_0.eq_1]
 ·have h1 : ¬ (j : Int) < l.length := by omega
  push_cast [h1, List.foldl_nil, List.map_nil, Ftr.v, Fixt.v]
 ·have h1 : (j : Int) < l.length := by omega
  have hw := iw1 (j := j) (by omega)
  have hm := fun (st : St) (i : Nat) => mset_esP (st := st) (i := i) (a := a) (p := ⟨x.chan, q.attr⟩)
  have ih := ih (insK a ⟨x.chan, q.attr⟩)
  push_cast [Prm.v] at hm
  push_cast [h1, hw, hx, Ftr.v, Fixt.v, List.foldl_cons, List.map_cons, b1, b19, b20, b21, hm] at ih ⊢
  exact dn_eq rfl ih
theorem L13_1 {s : Sho} (h0 : s.ok) (hs : shoC s = 0) : ∀ r j, s.fixts.drop j = r → ∀ a,
  runL Tryz.prog HH [1, 5, 19, 20, 21] 2 B13_1 [(1, .ep s.v 0), (5, .mp 1), (19, .sl (s.fixts.map Fixt.v)), (20, .int .i64 s.fixts.length), (21, .int .i64 j)] (stZ g 2 a)
   = some (.exit 0, [(5, .mp 1)], stZ g 2 (r.foldl (fun a x => (prmsX s.profs x).foldl insK a) a)) := by
 have hl := h0.f.1
 have hf := fix_ok (shoC_parts hs).2.2.2.1
 refine drop_ind (fun j h a => ?_) (fun x r j h hx hd ih a => ?_)
 all_goals rw [runL_of B13_1.eq_1]
 ·have h1 : ¬ (j : Int) < s.fixts.length := by omega
  push_cast [h1, List.foldl_nil, Sho.v, Fixt.v]
 ·have h1 : (j : Int) < s.fixts.length := by omega
  have hw := iw1 (j := j) (by omega)
  obtain ⟨q, hq1⟩ := Option.isSome_iff_exists.1 (aloC_some (hf.2.2.2 x (mem_at hd)))
  have hq2 := prof_len hs (List.mem_of_find?_eq_some hq1)
  have h55 := fun (st : St) => f55 (st := st) h0.p.1 hq1
  have h0 := L13_0 (g := g) (l := q.feats) (x := x) (e1 := .ep s.v 0) (e19 := .sl (s.fixts.map Fixt.v)) (e20 := .int .i64 s.fixts.length) (e21 := .int .i64 j) (by omega) (by simp [V.bd, V.bdL, bdL_map']) (by simp [V.bd, V.bdL, bdL_map']) rfl rfl _ 0 rfl a
  have e : prmsX s.profs x = q.feats.map fun f => (⟨x.chan, f.attr⟩ : Prm) := by simp [prmsX, ftsX, hq1]
  rw [List.drop_zero, ← e] at h0
  have ih := ih ((prmsX s.profs x).foldl insK a)
  push_cast [Sho.v, Fixt.v, Ftr.v] at h55 h0
  push_cast [h1, hw, hx, Sho.v, Fixt.v, Ftr.v, h55, h0, List.foldl_cons] at ih ⊢
  exact ih
theorem featsR_attr {foot c : Int} {l : List Ftr} : ∀ {r : List Ftr} {j : Nat}, l.drop j = r → featsR foot c l r j = 0 → ∀ q ∈ r, 0 ≤ q.attr ∧ q.attr ≤ 14
 | [], _, _, _, x, hx => by simp at hx
 | q :: r, j, hd, h0, x, hx => by
  rw [featsR] at h0
  split at h0
  ·rename_i h1
   rcases List.mem_cons.1 hx with rfl | hx
   ·unfold featR at h1
    by_cases c1 : x.attr < 0 ∨ 15 ≤ x.attr
    ·rw [if_pos c1] at h1; cases h1
    ·omega
   ·exact featsR_attr (drop_succ hd) h0 x hx
  ·rename_i h1; exact absurd h0 h1
theorem prof_attr {s : Sho} (hs : shoC s = 0) {q : Prof} (hq : q ∈ s.profs) : ∀ f ∈ q.feats, 0 ≤ f.attr ∧ f.attr ≤ 14 := by
 have h := (shoC_parts hs).2.2.1
 unfold profsCR at h
 split at h
 ·cases h
 ·have := profsR_all (j := 0) rfl h q hq
  unfold profR at this
  repeat' split at this
  all_goals first | (rename_i a; exact absurd this a) | cases this | skip
  exact featsR_attr (j := 0) rfl this
theorem keyP_rng {s : Sho} (hs : shoC s = 0) : ∀ p ∈ keyP s, (1 ≤ p.chan ∧ p.chan ≤ 999) ∧ 0 ≤ p.attr ∧ p.attr ≤ 14 := fun p hp => by
 obtain ⟨x, hx, hp⟩ := (keyP_ok.2 p).1 hp
 obtain ⟨f, hf, rfl⟩ := List.mem_map.1 hp
 refine ⟨fix_chan hs x hx, ?_⟩
 unfold ftsX at hf
 cases e : pfx s.profs x.prof with
 | none => rw [e] at hf; simp at hf
 | some q => rw [e] at hf; exact prof_attr hs (List.mem_of_find?_eq_some e) f hf
theorem keyP_len {s : Sho} (hs : shoC s = 0) : (keyP s).length ≤ 20000 := by
 have h1 := keyP_rng hs
 have h2 : (keyP s).Perm (patC s 1 999) := (List.mergeSort_perm (keyP s) leP).symm.trans (by rw [← par_eq (fix_chan hs)]; exact .refl _)
 have h3 : (keyP s).length ≤ 64 * 16 := by
  have : ∀ (r : List Fixt) (a : List Prm), (∀ x ∈ r, (ftsX s.profs x).length ≤ 16) → (r.foldl (fun a x => (prmsX s.profs x).foldl insK a) a).length ≤ a.length + r.length * 16 := by
   intro r
   induction r with
   | nil => intro a _; simp
   | cons x r ih =>
    intro a hx
    have k1 := ih ((prmsX s.profs x).foldl insK a) (fun y hy => hx y (List.mem_cons_of_mem _ hy))
    have k2 : ∀ (l a : List Prm), (l.foldl insK a).length ≤ a.length + l.length := by
     intro l
     induction l with
     | nil => intro a; simp
     | cons p l ih => intro a; have := ih (insK a p); have : (insK a p).length ≤ a.length + 1 := by { unfold insK; split <;> simp }; simp only [List.foldl_cons, List.length_cons]; omega
    have k3 := k2 (prmsX s.profs x) a
    have k4 := hx x (List.mem_cons_self ..)
    have k5 : (prmsX s.profs x).length = (ftsX s.profs x).length := by simp [prmsX]
    simp only [List.foldl_cons, List.length_cons]; omega
  have h4 := this s.fixts [] fun x _ => by
   unfold ftsX
   cases e : pfx s.profs x.prof with
   | none => simp
   | some q => exact prof_len hs (List.mem_of_find?_eq_some e)
  have := (fix_ok (shoC_parts hs).2.2.2.1).2.1
  unfold keyP; simp only [List.length_nil] at *; omega
 omega
def pre13 : Cd := (.g [.s 1 (.box 31 (.t 0)),
.s 2 (.mv (.c .nils)),
.s 3 (.mv (.i 0))]
 (.z [1] (.join [1] (.g [.s 12 (.load (some 9) (.t 1)),
.s 13 (.f 15 [(.t 12)]),
.s 4 (.m 13)]
 (.g [.s 14 (.m 4),
.s 15 (.bin .neq (.t 14) (.i 0))]
 (.i 15 (.g [.s 16 (.m 4),
.s 2 (.mv (.c .nils)),
.s 3 (.m 16)]
 (.ret [2, 3]))
 .skip)))
 (.g [.s 17 (.act .mkmap []),
.s 5 (.m 17)]
 (.join [5] (.g [.s 18 (.a 3 1),
.s 19 (.l 18),
.s 20 (.len (.t 19)),
.s 21 (.mv (.i 0))]
 (.block 0 (.loop [1, 5, 19, 20, 21] [] B13_1)))
 (.g [.s 10 (.mv (.c .nils))] .skip))))))
def post13 : Cd := (.g [.s 51 (.m 10),
.s 52 (.f 56 [(.t 51), (.c (.fn (.func 57) [] []))])]
 (.g [.s 53 (.m 10),
.s 2 (.m 53),
.s 3 (.mv (.i 0))]
 (.ret [2, 3])))
def mid13 : Cd := (.join [10] (.g [.s 41 (.m 5),
.s 42 (.act .rng [(.t 41)])]
 (.block 4 (.loop [10, 42] [(10, (44, 2))] B13_2))) post13)
theorem run_pre {s : Sho} (h : s.ok) (hs : shoC s = 0) : runC Tryz.prog HH pre13 (argEnv 0 [s.v]) (stN g 0) = some (.normal, [(10, .nils), (5, .mp 1)], stZ g 2 (keyP s)) := by
 have h15 := fun (st : St) => f15 (st := st) h
 have h0 := L13_1 (g := g) h hs _ 0 rfl []
 rw [List.drop_zero, show s.fixts.foldl (fun a x => (prmsX s.profs x).foldl insK a) [] = keyP s from rfl] at h0
 rw [pre13]
 push_cast [Sho.v, Fixt.v] at h15 h0
 push_cast [Sho.v, Fixt.v, h15, h0, hs]
def seeP (s : Sho) (l : List Nat) : List Prm := l.map fun j => (keyP s).getD j default
def stY (g : List (Nat × Obj)) (s : Sho) (seen : List Nat) : St := ⟨4, [], [(3, ⟨44, 2, (seeP s seen).map Prm.v, true, false⟩)], ⟨[(2, .iter 1 (esP (keyP s)).length seen), (1, .map (esP (keyP s)))], g, []⟩⟩
theorem es_get {a : List Prm} {j : Nat} {kv : V × V} (h : (esP a)[j]? = some kv) : kv = ((a.getD j default).v, .bool true) ∧ j < a.length := by
 rw [esP, List.getElem?_map] at h
 obtain ⟨p, hp, rfl⟩ := Option.map_eq_some_iff.1 h
 exact ⟨by rw [List.getD_eq_getElem?_getD, hp]; rfl, (List.getElem?_eq_some_iff.1 hp).1⟩
def k13 : Cd := (.join [10, 42] (.i 44 .skip (.exit [10] 4)) (.block 5 (.g [.s 45 (.act .ent [(.t 42)]),
.s 46 (.ext 0 (.t 45)),
.s 11 (.alloc 44 [(.i 0), (.i 0)]),
.n (.store 2 (.t 11) (.t 46))]
 (.z [11] (.reg [.s 47 (.m 10),
.s 48 (.load (some 2) (.t 11)),
.s 49 (.bslice 44 2 [(.t 48)]),
.s 50 (.append 44 2 16 (.t 47) (.t 49)),
.s 10 (.m 50)])))))
theorem run_end {s : Sho} {seen : List Nat} : runC Tryz.prog HH k13 ((44, .bool false) :: (43, .tup [.bool false]) :: [(10, .osl 3 seen.length), (42, .ptr 2 0)]) (stY g s seen) = some (.exit 4, [(10, .osl 3 seen.length)], stY g s seen) := by
 rw [k13, stY]
 push_cast
theorem run_step {s : Sho} {seen : List Nat} {j : Nat} (hj : j < (keyP s).length) (hlen : seen.length < 100000) : ∃ e2 s2, runC Tryz.prog HH k13 ((44, .bool true) :: (43, .tup [.bool true, ((keyP s).getD j default).v, .bool true]) :: [(10, .osl 3 seen.length), (42, .ptr 2 0)]) ⟨4, [], [(3, ⟨44, 2, (seeP s seen).map Prm.v, true, false⟩)], ⟨[(2, .iter 1 (esP (keyP s)).length (seen ++ [j])), (1, .map (esP (keyP s)))], g, []⟩⟩ = some (.normal, e2, s2)
  ∧ WeakEnv 4 e2 [(10, .osl 3 (seen ++ [j]).length), (42, .ptr 2 0)] ∧ Weak 4 s2 (stY g s (seen ++ [j])) := by
 have he : (esP (keyP s))[j]? = some (((keyP s).getD j default).v, .bool true) := by
  rw [esP, List.getElem?_map, List.getElem?_eq_getElem hj, List.getD_eq_getElem?_getD, List.getElem?_eq_getElem hj]; rfl
 have hE : actV .ent [.ptr 2 0] ⟨4, [], [(3, ⟨44, 2, (seeP s seen).map Prm.v, true, false⟩)], ⟨[(2, .iter 1 (esP (keyP s)).length (seen ++ [j])), (1, .map (esP (keyP s)))], g, []⟩⟩ = some (.tup [((keyP s).getD j default).v, .bool true], ⟨4, [], [(3, ⟨44, 2, (seeP s seen).map Prm.v, true, false⟩)], ⟨[(2, .iter 1 (esP (keyP s)).length (seen ++ [j])), (1, .map (esP (keyP s)))], g, []⟩⟩) := by
  simp [actV, entV, Sha.look, he]
 have h4 : roomV (seen.length + 1) 16 = true := roomV_lit (by omega) (by omega)
 have hs : (seeP s seen).length = seen.length := by simp [seeP]
 have hn : seeP s (seen ++ [j]) = seeP s seen ++ [(keyP s).getD j default] := by simp [seeP]
 generalize (keyP s).getD j default = p at *
 refine ⟨[(10, .osl 3 (seen.length + 1)), (50, .osl 3 (seen.length + 1)), (49, .osl 5 1), (48, p.v), (47, .osl 3 seen.length), (11, .ep p.v 0), (11, .ptr 4 0), (46, p.v), (45, .tup [p.v, .bool true]), (10, .osl 3 seen.length), (42, .ptr 2 0)],
  ⟨6, [], [(5, ⟨44, 2, [p.v], false, false⟩), (3, ⟨44, 2, (seeP s seen).map Prm.v ++ [p.v], true, false⟩)], ⟨[(2, .iter 1 (keyP s).length (seen ++ [j])), (1, .map (esP (keyP s)))], g, []⟩⟩, ?_, fun i v hv => ?_, ?_⟩
 ·rw [k13]
  push_cast [Prm.v] at hE
  push_cast [hE, Prm.v, h4, hs]
 ·simp only [Sha.look] at hv
  split at hv
  ·rename_i e; subst e; cases hv; exact ⟨rfl, by simp [Sha.look]⟩
  ·split at hv
   ·rename_i e; subst e; cases hv; exact ⟨rfl, by simp [Sha.look]⟩
   ·cases hv
 ·have e : stY g s (seen ++ [j]) = cutS 4 ⟨6, [], [(5, ⟨44, 2, [p.v], false, false⟩), (3, ⟨44, 2, (seeP s seen).map Prm.v ++ [p.v], true, false⟩)], ⟨[(2, .iter 1 (keyP s).length (seen ++ [j])), (1, .map (esP (keyP s)))], g, []⟩⟩ := by
   rw [stY, hn]
   simp [cutS, keepL, esP]
  rw [e]
  refine cutS_weak ?_
  push_cast [cutB, belowL, Prm.v, Ob.bd]
def stX (g : List (Nat × Obj)) (s : Sho) (seen : List Nat) : St := ⟨4, [], [(3, ⟨44, 2, ((seeP s seen).map Prm.v).mergeSort leV, true, false⟩)], ⟨[(2, .iter 1 (esP (keyP s)).length seen), (1, .map (esP (keyP s)))], g, []⟩⟩
theorem ok_prm {p : Prm} (h : (1 ≤ p.chan ∧ p.chan ≤ 999) ∧ 0 ≤ p.attr ∧ p.attr ≤ 14) : okPV p.v = true := by
 simp only [Prm.v, okPV, Bool.and_eq_true, decide_eq_true_eq]; omega
theorem seeP_perm {s : Sho} {seen : List Nat} (h : seen.Perm (List.range (keyP s).length)) : (seeP s seen).Perm (keyP s) := by
 refine (h.map _).trans ?_
 have : (List.range (keyP s).length).map (fun j => (keyP s).getD j default) = keyP s := by
  apply List.ext_getElem?
  intro i
  rw [List.getElem?_map]
  by_cases hi : i < (keyP s).length
  ·rw [List.getElem?_range hi, Option.map_some, List.getD_eq_getElem?_getD, List.getElem?_eq_getElem hi]; rfl
  ·rw [List.getElem?_eq_none (by simpa using hi), List.getElem?_eq_none (by omega)]; rfl
 rw [this]
theorem see_sort {s : Sho} {seen : List Nat} (h : seen.Perm (List.range (keyP s).length)) : ((seeP s seen).map Prm.v).mergeSort leV = (parP s).map Prm.v := by
 rw [← List.map_mergeSort (r := leP) (f := Prm.v) (fun a _ b _ => by cases a; cases b; rfl), sort_perm (seeP_perm h)]; rfl
theorem run_post {s : Sho} (hs : shoC s = 0) {seen : List Nat} (h : seen.Perm (List.range (keyP s).length)) : runC Tryz.prog HH post13 [(10, .osl 3 seen.length)] (stY g s seen) = some (.ret, [(2, .osl 3 seen.length), (3, .int .i64 0)], stX g s seen) := by
 have hp := seeP_perm h
 have h56 : run Tryz.prog HH 56 [.osl 3 seen.length, .fn (.func 57) [] []] (stY g s seen) = some (.ret (.tup []), stX g s seen) := by
  refine run_H ?_
  have hl := h.length_eq
  have := keyP_len hs
  rw [List.length_range] at hl
  have hc : ((seeP s seen).map Prm.v).length = seen.length ∧ seen.length ≤ 100000000 ∧ 2 = 2 ∧ true = true ∧ ((seeP s seen).map Prm.v).all okPV = true := by
   refine ⟨by simp [seeP], by omega, rfl, rfl, ?_⟩
   rw [List.all_map, List.all_eq_true]
   intro p hpm
   exact ok_prm (keyP_rng hs p (hp.mem_iff.1 hpm))
  show (if ((seeP s seen).map Prm.v).length = seen.length ∧ seen.length ≤ 100000000 ∧ 2 = 2 ∧ true = true ∧ ((seeP s seen).map Prm.v).all okPV = true then _ else _) = _
  rw [if_pos hc]; rfl
 rw [post13]
 rw [stY, stX] at *
 push_cast at h56
 push_cast [h56]
theorem mixed : Tryz.prog.follows .mixedOrders = true := by kernel_rfl
theorem v13 (hH : ESound Tryz.prog HH) {s : Sho} (h : s.ok) {st : St} : VCalls Tryz.prog 13 [s.v] st (fun x y => x = .ret (.tup [.sl ((parS s).map Prm.v), .int .i64 (shoC s)]) ∧ y = st) := by
 by_cases hs : shoC s = 0
 ·refine VCalls_shutW (by simp) (VCalls_WD F13 (Nat.le_of_ble_eq_true rfl) fun N => ?_)
  show WD _ ⟨N, []⟩ (pre13.put mid13) (argEnv 0 [s.v]) (stN st.x.gl 0) _
  refine WD.run mixed hH (run_pre h hs) ?_
  show WD _ _ mid13 _ _ _
  refine WD.join (WD.seq (WD.ev mixed hH (x := .normal) (e := [(42, .ptr 2 0), (41, .mp 1), (10, .nils), (5, .mp 1)]) (s := ⟨3, [], [], ⟨[(2, .iter 1 (esP (keyP s)).length []), (1, .map (esP (keyP s)))], st.x.gl, []⟩⟩) ?_ ?_))
  ·have hR : actV .rng [.mp 1] ⟨2, [], [], ⟨[(1, .map (esP (keyP s)))], st.x.gl, []⟩⟩ = some (.ptr 2 0, ⟨3, [], [], ⟨[(2, .iter 1 (esP (keyP s)).length []), (1, .map (esP (keyP s)))], st.x.gl, []⟩⟩) := rfl
   push_cast at hR
   push_cast [hR]
  ·show WD _ _ (.block 4 _) _ _ _
   refine WD.block (WD.ownW rfl ?_)
   show WD _ _ (.loop [10, 42] [] (.seq (.reg [⟨some 43, .nxt (.t 42), none⟩, ⟨some 44, .ext 0 (.t 43), none⟩]) k13)) _ _ _
   refine WD.rng (it := 2) (mp := 1) (es := esP (keyP s)) (fun seen e z => e = [(10, .osl 3 seen.length), (42, .ptr 2 0)] ∧ z = stY st.x.gl s seen ∧ seen.length ≤ 20000) 4 (by decide) ?_ ?_ (Nat.le_refl _) ?_ ?_
   ·rintro seen e z ⟨rfl, rfl, _⟩
    exact ⟨rfl, rfl, rfl, rfl⟩
   ·refine ⟨_, _, ⟨rfl, rfl, by simp⟩, fun i v hv => ?_, ?_⟩
    ·simp only [Sha.look] at hv
     split at hv
     ·rename_i e; subst e; cases hv; exact ⟨rfl, by simp [Sha.look]⟩
     ·split at hv
      ·rename_i e; subst e; cases hv; exact ⟨rfl, by simp [Sha.look]⟩
      ·cases hv
    ·have e : stY st.x.gl s [] = cutS 4 ⟨4, [], [(3, ⟨44, 2, [], true, false⟩)], ⟨[(2, .iter 1 (esP (keyP s)).length []), (1, .map (esP (keyP s)))], st.x.gl, []⟩⟩ := rfl
     rw [e]
     refine cutS_weak ?_
     push_cast [cutB, belowL, Prm.v, Ob.bd]
   ·rintro seen e z ⟨rfl, rfl, _⟩ hp
    rw [esP_len] at hp
    refine WD.ev mixed hH run_end ?_
    show WD _ _ post13 [(10, .osl 3 seen.length)] (stY st.x.gl s seen) _
    refine WD.ev mixed hH (run_post hs hp) ⟨.ret (.tup [.osl 3 seen.length, .int .i64 0]), stX st.x.gl s seen, rfl, ?_⟩
    have e := see_sort hp
    have hlen : (parP s).length = seen.length := by rw [parP, List.length_mergeSort, ← (seeP_perm hp).length_eq]; simp [seeP]
    rw [stX, parS, if_pos hs, hs, e]
    push_cast [hlen, Prm.v]
   ·rintro seen j e z kv ⟨rfl, rfl, hl⟩ hj hn hlt2
    have := keyP_len hs
    rw [esP_len] at hlt2
    obtain ⟨rfl, hlt⟩ := es_get hj
    obtain ⟨e2, s2, a1, a2, a3⟩ := run_step (g := st.x.gl) (s := s) (seen := seen) hlt (by omega)
    exact WD.ev mixed hH a1 ⟨_, _, ⟨rfl, rfl, by rw [List.length_append, List.length_singleton]; omega⟩, a2, a3⟩
 ·refine (run_sound mixed hH) 13 _ _ _ _ ?_
  have h15 := fun (st : St) => f15 (st := st) h
  push_cast [Sho.v, Prm.v] at h15
  rw [run_shut F13 rfl rfl (by simp)]
  push_cast [Sho.v, Prm.v, h15, hs, parS, List.map_nil]
end Go.Proofs.YtflbieghmgobgaaGreatDoor

namespace Go.Proofs.YtflbieghmgobgaaGreatDoor
open Go.Sha
set_option maxRecDepth 10000
theorem F18 : compF Tryz.prog 18 = some ⟨43, [.tmp 6, .tmp 7], (.g [.q 3 31 0,
.q 4 44 1,
.q 5 46 2,
.c 6 0,
.c 7 0]
 (.z [3, 4, 5] (.join [3, 4, 5] (.g [.d 13 9 3,
.f 14 15 13,
.m 8 14]
 (.g [.m 15 8,
.v 16 .neq 15 0]
 (.i 16 (.g [.m 17 8,
.c 6 0,
.m 7 17]
 (.ret [6, 7]))
 .skip)))
 (.join [3, 4, 5] (.g [.d 18 2 5,
.f 19 66 18,
.m 9 19]
 (.g [.m 20 9,
.v 21 .neq 20 0]
 (.i 21 (.g [.m 22 9,
.c 6 0,
.m 7 22]
 (.ret [6, 7]))
 .skip)))
 (.join [3, 4, 5] (.g [.d 23 2 4,
.f 24 67 23,
.m 10 24]
 (.g [.m 25 10,
.v 26 .neq 25 0]
 (.i 26 (.g [.m 27 10,
.c 6 0,
.m 7 27]
 (.ret [6, 7]))
 .skip)))
 (.g [.d 29 9 3,
.d 30 2 4,
.g' 31 68 29 30,
.m 28 31,
.j 32 0 28,
.j 33 1 28,
.s 11 (.alloc 55 [.i 0, .i 0, .i 0, .i 0, .i 0, .i 0, .i 0, .i 0, (.bool false), .nils]),
.w 10 11 32,
.m 12 33]
 (.z [11] (.g [.a 34 5 3,
.l 35 34,
.d 36 2 5,
.d 37 2 4,
.a 38 5 11,
.l 39 38,
.s 40 (.f 69 [.t 35, .t 36, .t 37, .t 39]),
.j 41 0 40,
.j 42 1 40,
.m 6 41,
.m 7 42]
 (.ret [6, 7])))))))))⟩ := by kernel_rfl
theorem F19 : compF Tryz.prog 19 = some ⟨30, [.tmp 6, .tmp 7], (.g [.q 3 31 0,
.q 4 44 1,
.q 5 46 2,
.c 6 0,
.c 7 0]
 (.z [3, 4, 5] (.join [3, 4, 5] (.g [.d 11 9 3,
.f 12 16 11,
.m 8 12]
 (.g [.m 13 8,
.v 14 .neq 13 0]
 (.i 14 (.g [.m 15 8,
.c 6 0,
.m 7 15]
 (.ret [6, 7]))
 .skip)))
 (.join [3, 4, 5] (.g [.d 16 2 5,
.f 17 31 16,
.m 9 17]
 (.g [.m 18 9,
.v 19 .neq 18 0]
 (.i 19 (.g [.m 20 9,
.c 6 0,
.m 7 20]
 (.ret [6, 7]))
 .skip)))
 (.join [3, 4, 5] (.g [.d 21 2 4,
.f 22 21 21,
.m 10 22]
 (.g [.m 23 10,
.v 24 .neq 23 0]
 (.i 24 (.g [.m 25 10,
.c 6 0,
.m 7 25]
 (.ret [6, 7]))
 .skip)))
 (.g [.d 26 9 3,
.d 27 2 4,
.d 28 2 5,
.s 29 (.f 70 [.t 26, .t 27, .t 28]),
.m 6 29,
.c 7 0]
 (.ret [6, 7])))))))⟩ := by kernel_rfl
def B69_0 : Cd := (.g [.b 23 .lss 22 21]
 (.join [0, 3, 5, 6, 20, 21, 22] (.i 23 .skip
 (.exit [0, 3, 5, 6] 0))
 (.join [0, 3, 5, 6, 20, 21, 22] (.block 1 (.g [.r 24 1 20 22,
.l 25 24,
.m 11 25]
 (.g [.m 26 11,
.v 27 .neq 26 0]
 (.i 27 (.g [.m 28 11,
.c 8 0,
.m 9 28]
 (.ret [8, 9]))
 .skip))))
 (.reg [.v 29 .add 22 1,
.m 22 29]))))
theorem F69 : compF Tryz.prog 69 = some ⟨49, [.tmp 8, .tmp 9], (.g [.q 5 46 1,
.q 6 44 2,
.c 8 0,
.c 9 0]
 (.z [5, 6] (.join [0, 3, 5, 6] (.join [0, 3, 5, 6, 20, 21, 22] (.greg [[], [], [], [], [], [], [false, false, false, false, false, false], [], [true]] [.m 14 0,
.f 15 104 14,
.d 16 2 5,
.f 17 66 16,
.d 18 2 6,
.s 19 (.f 119 [.t 18, .i 1]),
.s 20 (.bslice 35 1 [.t 15, .t 17, .t 19]),
.u 21 20,
.c 22 0])
 (.block 0 (.loop [0, 3, 5, 6, 20, 21, 22] [] B69_0)))
 (.join [0, 3, 5, 6] (.g [.m 30 3,
.f 31 118 30,
.z 32 31]
 (.i 32 (.g [.c 8 0,
.c 9 2]
 (.ret [8, 9]))
 .skip))
 (.join [0, 3, 5, 6] (.g [.a 33 0 5,
.l 34 33,
.v 35 .eql 34 0]
 (.i 35 (.g [.a 36 1 5,
.l 37 36,
.m 8 37,
.c 9 0]
 (.ret [8, 9]))
 .skip))
 (.join [3] (.g [.m 39 0,
.a 40 0 5,
.l 41 40,
.d 42 2 6,
.s 43 (.f 120 [.t 39, .t 41, .t 42]),
.m 38 43,
.j 44 0 38,
.j 45 1 38,
.m 12 44,
.m 13 45]
 (.g [.m 46 13]
 (.i 46 (.g [.m 47 12,
.m 8 47,
.c 9 0]
 (.ret [8, 9]))
 .skip)))
 (.g [.m 48 3,
.m 8 48,
.c 9 0]
 (.ret [8, 9]))))))))⟩ := by kernel_rfl
theorem F70 : compF Tryz.prog 70 = some ⟨15, [.tmp 6], (.g [.q 3 31 0,
.q 4 44 1,
.q 5 46 2,
.c 6 0]
 (.z [3, 4, 5] (.q (.dreg 9 [.a 7 5 3,
.l 8 7,
.d 9 2 5,
.d 10 2 4,
.d 11 9 3,
.d 12 2 4,
.g' 13 76 11 12,
.s 14 (.f 121 [.t 8, .t 9, .t 10, .t 13]),
.m 6 14])
 (.ret [6]))))⟩ := by kernel_rfl
def B120_0 : Cd := (.g [.b 29 .lss 28 27]
 (.join [0, 8, 26, 27, 28] (.i 29 .skip
 (.exit [] 0))
 (.join [0, 8, 26, 27, 28] (.block 1 (.g [.r 30 2 26 28,
.d 31 2 30,
.s 11 (.alloc 44 [.i 0, .i 0]),
.w 2 11 31]
 (.z [11] (.q (.dreg 12 [.m 33 0,
.m 34 8,
.r 35 2 33 34,
.a 36 1 35,
.l 37 36,
.d 38 2 11,
.s 39 (.f 162 [.t 37, .t 38, (.c (.fn (.func 163) [] []))]),
.m 32 39,
.j 40 0 32,
.j 41 1 32,
.m 12 40,
.m 13 41])
 (.g [.m 42 13]
 (.i 42 (.g [.m 43 0,
.m 44 8,
.r 45 2 43 44,
.a 46 1 45,
.l 47 46,
.m 48 12,
.r 49 3 47 48,
.a 50 2 49,
.l 51 50,
.m 6 51,
.k 7 true]
 (.ret [6, 7]))
 .skip))))))
 (.reg [.v 52 .add 28 1,
.m 28 52]))))
theorem F120 : compF Tryz.prog 120 = some ⟨53, [.tmp 6, .tmp 7], (.g [.q 5 44 2,
.c 6 0,
.k 7 false]
 (.z [5] (.g [.m 15 0,
.m 16 1,
.g' 17 161 15 16,
.m 14 17,
.j 18 0 14,
.j 19 1 14,
.m 8 18,
.m 9 19]
 (.join [0, 5, 8] (.g [.m 20 9,
.z 21 20]
 (.i 21 (.g [.c 6 0,
.k 7 false]
 (.ret [6, 7]))
 .skip))
 (.join [] (.g [.d 22 2 5,
.a 23 1 5,
.l 24 23,
.s 25 (.build [.i 0, .i 0] [(1, 1, (.t 24))]),
.s 26 (.bslice 44 2 [.t 22, .t 25]),
.u 27 26,
.c 28 0]
 (.block 0 (.loop [0, 8, 26, 27, 28] [] B120_0)))
 (.g [.c 6 0,
.k 7 false]
 (.ret [6, 7])))))))⟩ := by kernel_rfl
theorem F121 : compF Tryz.prog 121 = some ⟨27, [.tmp 8], (.g [.q 5 46 1,
.q 6 44 2,
.c 8 0]
 (.z [5, 6] (.join [0, 3, 5, 6] (.g [.a 11 0 5,
.l 12 11,
.v 13 .eql 12 0]
 (.i 13 (.g [.a 14 1 5,
.l 15 14,
.m 8 15]
 (.ret [8]))
 .skip))
 (.g [.m 17 0,
.a 18 0 5,
.l 19 18,
.d 20 2 6,
.s 21 (.f 166 [.t 17, .t 19, .t 20]),
.m 16 21,
.j 22 0 16,
.j 23 1 16,
.m 9 22,
.m 10 23]
 (.join [3] (.g [.m 24 10]
 (.i 24 (.g [.m 25 9,
.m 8 25]
 (.ret [8]))
 .skip))
 (.g [.m 26 3,
.m 8 26]
 (.ret [8])))))))⟩ := by kernel_rfl
theorem F161 : compF Tryz.prog 161 = some ⟨11, [.tmp 4, .tmp 5], (.g [.c 4 0,
.k 5 false]
 (.g [.m 6 0,
.m 7 1,
.s 8 (.f 206 [.t 6, .t 7, (.c (.fn (.func 207) [] []))]),
.j 9 0 8,
.j 10 1 8,
.m 4 9,
.m 5 10]
 (.ret [4, 5])))⟩ := by kernel_rfl
def B162_0 : Cd := (.join [0, 2, 4, 8, 9, 10] (.g [.m 15 9,
.m 16 10,
.b 17 .lss 15 16]
 (.i 17 .skip
 (.exit [0, 2, 4, 8, 9] 0)))
 (.block 1 (.g [.m 18 9,
.m 19 10,
.b 20 .add 18 19,
.s 21 (.cvi .u64 (.t 20)),
.s 22 (.bin .shr (.t 21) (.c (.int .u64 1))),
.s 23 (.cvi .i64 (.t 22)),
.m 11 23]
 (.q (.dreg 8 [.m 24 2,
.m 25 0,
.m 26 11,
.r 27 3 25 26,
.d 28 3 27,
.d 29 2 4,
.s 30 (.call (.t 24) [.t 28, .t 29]),
.v 31 .lss 30 0])
 (.i 31 (.reg [.m 32 11,
.v 33 .add 32 1,
.m 9 33])
 (.reg [.m 34 11,
.m 10 34]))))))
theorem F162 : compF Tryz.prog 162 = some ⟨49, [.tmp 6, .tmp 7], (.g [.q 4 44 1,
.c 6 0,
.k 7 false]
 (.z [4] (.g [.m 12 0,
.u 13 12,
.m 8 13]
 (.g [.m 14 8,
.c 9 0,
.m 10 14]
 (.join [0, 2, 4, 8, 9] (.block 0 (.loop [0, 2, 4, 8, 9, 10] [] B162_0))
 (.join [6, 7] (.dreg 16 [.m 35 9,
.m 36 9,
.m 37 8,
.b 38 .lss 36 37,
.m 39 38,
.my 40 2 39,
.my 41 0 39,
.my 42 9 39,
.ry 43 3 41 42 39,
.y 44 (.load (some 3) (.t 43)) 39,
.y 45 (.load (some 2) (.t 4)) 39,
.y 46 (.call (.t 40) [.t 44, .t 45]) 39,
.vy 47 .eql 46 0 39,
.e 48 39 47,
.m 6 35,
.m 7 48])
 (.ret [6, 7])))))))⟩ := by kernel_rfl
theorem F163 : compF Tryz.prog 163 = some ⟨9, [.tmp 4], (.g [.q 2 151 0,
.q 3 44 1,
.c 4 0]
 (.z [2, 3] (.q (.dreg 5 [.d 5 3 2,
.f 6 165 5,
.d 7 2 3,
.g' 8 164 6 7,
.m 4 8])
 (.ret [4]))))⟩ := by kernel_rfl
theorem F166 : compF Tryz.prog 166 = some ⟨41, [.tmp 6, .tmp 7], (.g [.q 5 44 2,
.c 6 0,
.k 7 false]
 (.z [5] (.g [.m 11 0,
.m 12 1,
.g' 13 208 11 12,
.m 8 13]
 (.join [0, 5, 8] (.g [.m 14 8,
.v 15 .lss 14 0]
 (.i 15 (.g [.c 6 0,
.k 7 false]
 (.ret [6, 7]))
 .skip))
 (.q (.dreg 15 [.m 17 0,
.m 18 8,
.r 19 2 17 18,
.a 20 1 19,
.l 21 20,
.a 22 0 5,
.l 23 22,
.a 24 1 5,
.l 25 24,
.s 26 (.f 209 [.t 21, .t 23, .t 25]),
.m 16 26,
.j 27 0 16,
.j 28 1 16,
.m 9 27,
.m 10 28])
 (.join [0, 5, 8] (.g [.m 29 10]
 (.i 29 (.g [.m 30 9,
.m 6 30,
.k 7 true]
 (.ret [6, 7]))
 .skip))
 (.q (.dreg 12 [.m 31 0,
.m 32 8,
.r 33 2 31 32,
.a 34 1 33,
.l 35 34,
.a 36 1 5,
.l 37 36,
.s 38 (.f 209 [.t 35, .i 0, .t 37]),
.j 39 0 38,
.j 40 1 38,
.m 6 39,
.m 7 40])
 (.ret [6, 7]))))))))⟩ := by kernel_rfl
def B206_0 : Cd := (.join [0, 1, 2, 8, 9, 10] (.g [.m 15 9,
.m 16 10,
.b 17 .lss 15 16]
 (.i 17 .skip
 (.exit [0, 1, 2, 8, 9] 0)))
 (.block 1 (.g [.m 18 9,
.m 19 10,
.b 20 .add 18 19,
.s 21 (.cvi .u64 (.t 20)),
.s 22 (.bin .shr (.t 21) (.c (.int .u64 1))),
.s 23 (.cvi .i64 (.t 22)),
.m 11 23]
 (.g [.m 24 2,
.m 25 0,
.m 26 11,
.r 27 2 25 26,
.d 28 2 27,
.m 29 1,
.s 30 (.call (.t 24) [.t 28, .t 29]),
.v 31 .lss 30 0]
 (.i 31 (.reg [.m 32 11,
.v 33 .add 32 1,
.m 9 33])
 (.reg [.m 34 11,
.m 10 34]))))))
theorem F206 : compF Tryz.prog 206 = some ⟨49, [.tmp 6, .tmp 7], (.g [.c 6 0,
.k 7 false]
 (.g [.m 12 0,
.u 13 12,
.m 8 13]
 (.g [.m 14 8,
.c 9 0,
.m 10 14]
 (.join [0, 1, 2, 8, 9] (.block 0 (.loop [0, 1, 2, 8, 9, 10] [] B206_0))
 (.join [6, 7] (.reg [.m 35 9,
.m 36 9,
.m 37 8,
.b 38 .lss 36 37,
.m 39 38,
.my 40 2 39,
.my 41 0 39,
.my 42 9 39,
.ry 43 2 41 42 39,
.y 44 (.load (some 2) (.t 43)) 39,
.my 45 1 39,
.y 46 (.call (.t 40) [.t 44, .t 45]) 39,
.vy 47 .eql 46 0 39,
.e 48 39 47,
.m 6 35,
.m 7 48])
 (.ret [6, 7]))))))⟩ := by kernel_rfl
theorem F207 : compF Tryz.prog 207 = some ⟨9, [.tmp 4], (.g [.q 2 67 0,
.c 4 0]
 (.z [2] (.g [.a 5 0 2,
.l 6 5,
.m 7 1,
.b 8 .sub 6 7,
.m 4 8]
 (.ret [4]))))⟩ := by kernel_rfl
def B208_0 : Cd := (.join [0, 1, 5] (.g [.m 6 5,
.m 7 0,
.u 8 7,
.b 9 .lss 6 8]
 (.i 9 .skip
 (.exit [] 0)))
 (.join [0, 1, 5] (.block 1 (.g [.m 12 0,
.m 13 5,
.r 14 2 12 13,
.a 15 0 14,
.l 16 15,
.m 17 1,
.b 18 .eql 16 17]
 (.i 18 (.g [.m 19 5,
.m 4 19]
 (.ret [4]))
 .skip)))
 (.reg [.m 10 5,
.v 11 .add 10 1,
.m 5 11])))
theorem F208 : compF Tryz.prog 208 = some ⟨20, [.tmp 4], (.g [.c 4 0]
 (.join [] (.g [.c 5 0]
 (.block 0 (.loop [0, 1, 5] [] B208_0)))
 (.g [.c 4 (-1)]
 (.ret [4]))))⟩ := by kernel_rfl
def B209_0 : Cd := (.join [0, 1, 2, 8] (.g [.m 9 8,
.m 10 0,
.u 11 10,
.b 12 .lss 9 11]
 (.i 12 .skip
 (.exit [] 0)))
 (.join [0, 1, 2, 8] (.block 1 (.join [0, 1, 2, 8, 30] (.reg [.m 15 0,
.m 16 8,
.r 17 3 15 16,
.a 18 0 17,
.l 19 18,
.m 20 1,
.b 21 .eql 19 20,
.m 22 21,
.my 23 0 22,
.my 24 8 22,
.ry 25 3 23 24 22,
.ay 26 1 25 22,
.ly 27 26 22,
.my 28 2 22,
.by' 29 .eql 27 28 22,
.e 30 22 29])
 (.i 30 (.g [.m 31 0,
.m 32 8,
.r 33 3 31 32,
.a 34 2 33,
.l 35 34,
.m 6 35,
.k 7 true]
 (.ret [6, 7]))
 .skip)))
 (.reg [.m 13 8,
.v 14 .add 13 1,
.m 8 14])))
theorem F209 : compF Tryz.prog 209 = some ⟨36, [.tmp 6, .tmp 7], (.g [.c 6 0,
.k 7 false]
 (.join [] (.g [.c 8 0]
 (.block 0 (.loop [0, 1, 2, 8] [] B209_0)))
 (.g [.c 6 0,
.k 7 false]
 (.ret [6, 7]))))⟩ := by kernel_rfl
end Go.Proofs.YtflbieghmgobgaaGreatDoor

namespace Go.Proofs.YtflbieghmgobgaaGreatDoor
open Go.Sha
set_option maxRecDepth 100000
variable {g : List (Nat × Obj)} {n : Nat}
def bsI (c : Nat → Int) (i j : Nat) : Nat := if h : i < j then if c ((i + j) / 2) < 0 then bsI c ((i + j) / 2 + 1) j else bsI c i ((i + j) / 2) else i
termination_by j - i
theorem bsI_ok {c : Nat → Int} {N : Nat} (hm : ∀ a b, a < b → b < N → c b ≤ 0 → c a < 0) : ∀ {i j : Nat}, i ≤ j → j ≤ N → (∀ k < i, c k < 0) → (∀ k, j ≤ k → k < N → 0 ≤ c k) → i ≤ bsI c i j ∧ bsI c i j ≤ j ∧ (∀ k < bsI c i j, c k < 0) ∧ ∀ k, bsI c i j ≤ k → k < N → 0 ≤ c k := by
 intro i j
 induction i, j using bsI.induct c with
 | case1 i j h h2 ih =>
  intro hij hj h3 h4
  rw [bsI, dif_pos h, if_pos h2]
  have := ih (by omega) hj (fun k hk => by
   rcases Nat.lt_or_ge k ((i + j) / 2) with e | e
   ·exact hm k ((i + j) / 2) e (by omega) (by omega)
   ·rw [show k = (i + j) / 2 by omega]; exact h2) h4
  exact ⟨by omega, this.2.1, this.2.2.1, this.2.2.2⟩
 | case2 i j h h2 ih =>
  intro hij hj h3 h4
  rw [bsI, dif_pos h, if_neg h2]
  have := ih (by omega) (by omega) h3 (fun k hk hk2 => by
   rcases Nat.lt_or_ge ((i + j) / 2) k with e | e
   ·apply Classical.byContradiction; intro e2
    exact h2 (hm ((i + j) / 2) k e hk2 (by omega))
   ·rw [show k = (i + j) / 2 by omega]; omega)
  exact ⟨this.1, by omega, this.2.2.1, this.2.2.2⟩
 | case3 i j h =>
  intro hij hj h3 h4
  rw [bsI, dif_neg h]
  exact ⟨Nat.le_refl _, hij, h3, fun k hk hk2 => h4 k (by omega) hk2⟩
theorem bs_find {α : Type} [Inhabited α] {l : List α} {c : α → Int} (hs : l.Pairwise fun a b => c b ≤ 0 → c a < 0) :
  let r := bsI (fun k => c (l.getD k default)) 0 l.length
  r ≤ l.length ∧ (∀ x, l.find? (fun x => decide (c x = 0)) = some x → r < l.length ∧ (∀ d, l.getD r d = x) ∧ c x = 0) ∧ (l.find? (fun x => decide (c x = 0)) = none → ¬ (r < l.length ∧ c (l.getD r default) = 0)) := by
 intro r
 have hg : ∀ k d, k < l.length → l.getD k d ∈ l ∧ l[k]? = some (l.getD k d) := fun k d hk => by
  rw [List.getD_eq_getElem?_getD, List.getElem?_eq_getElem hk]; exact ⟨List.getElem_mem hk, rfl⟩
 have hm : ∀ a b, a < b → b < l.length → c (l.getD b default) ≤ 0 → c (l.getD a default) < 0 := fun a b hab hb h => by
  have h1 := (hg a default (by omega)).2
  have h2 := (hg b default hb).2
  rw [List.getElem?_eq_getElem (by omega)] at h1 h2
  have := List.pairwise_iff_getElem.1 hs a b (by omega) hb hab
  rw [Option.some.inj h1, Option.some.inj h2] at this
  exact this h
 obtain ⟨_, r1, r2, r3⟩ := bsI_ok (c := fun k => c (l.getD k default)) hm (i := 0) (j := l.length) (by omega) (Nat.le_refl _) (fun k hk => by omega) (fun k h1 h2 => by omega)
 refine ⟨r1, fun x hx => ?_, fun hx h => ?_⟩
 ·have h0 : c x = 0 := by simpa using List.find?_some hx
  obtain ⟨k, hk⟩ := List.mem_iff_getElem?.1 (List.mem_of_find?_eq_some hx)
  have hkl := (List.getElem?_eq_some_iff.1 hk).1
  have hkx : ∀ d, l.getD k d = x := fun d => by rw [List.getD_eq_getElem?_getD, hk]; rfl
  have e1 : r ≤ k := by
   apply Classical.byContradiction; intro e
   have := r2 k (by omega); rw [hkx] at this; omega
  have e2 : r = k := by
   apply Classical.byContradiction; intro e
   have a := hm r k (by omega) hkl (by rw [hkx]; omega)
   have b := r3 r (Nat.le_refl _) (by omega)
   omega
  rw [e2]; exact ⟨hkl, hkx, h0⟩
 ·have := List.find?_eq_none.1 hx _ (hg r default h.1).1
  rw [decide_eq_true_eq] at this; exact this h.2
theorem f207 {x : Pal} {v : Int} {st : St} : run Tryz.prog HH 207 [x.v, .int .i64 v] st = some (.ret (.int .i64 (IntKind.i64.wrap (x.num - v))), st) := by
 rw [run_shut F207 rfl rfl (by simp)]
 push_cast [Pal.v]
theorem halfI {i j : Nat} (h : i + j < 4611686018427387904) : IntKind.i64.wrap ((IntKind.u64.wrap (IntKind.i64.wrap ((i : Int) + j))).fdiv (2 ^ min 1 IntKind.u64.bits)) = (((i + j) / 2 : Nat) : Int) := by
 have w1 : IntKind.i64.wrap ((i : Int) + j) = ((i + j : Nat) : Int) := by rw [← Int.natCast_add]; exact iwrap (by omega) (by omega)
 have w2 : IntKind.u64.wrap ((i + j : Nat) : Int) = ((i + j : Nat) : Int) := by
  unfold IntKind.wrap; simp [IntKind.bits, IntKind.signed]; omega
 rw [w1, w2, show (2 ^ min 1 IntKind.u64.bits : Int) = 2 from rfl, Int.fdiv_eq_ediv_of_nonneg _ (by omega), show (((i + j : Nat) : Int) / 2) = (((i + j) / 2 : Nat) : Int) by simp]
 exact iwrap (by omega) (by omega)
theorem L206 {l : List Pal} {v : Int} (hl : l.length < 140737488355328) : ∀ i j, i ≤ j → j ≤ l.length → runL Tryz.prog HH [0, 1, 2, 8, 9, 10] n B206_0 [(0, .sl (l.map Pal.v)), (1, .int .i64 v), (2, .fn (.func 207) [] []), (8, .int .i64 l.length), (9, .int .i64 i), (10, .int .i64 j)] (stN g n)
  = some (.exit 0, [(0, .sl (l.map Pal.v)), (1, .int .i64 v), (2, .fn (.func 207) [] []), (8, .int .i64 l.length), (9, .int .i64 (bsI (fun k => IntKind.i64.wrap ((l.getD k default).num - v)) i j))], stN g n) := by
 intro i j
 induction i, j using bsI.induct (fun k => IntKind.i64.wrap ((l.getD k default).num - v)) with
 | case1 i j h h2 ih =>
  intro hij hj
  have ih := ih (by omega) hj
  rw [bsI, dif_pos h, if_pos h2, runL_of B206_0.eq_1]
  have h1 : (i : Int) < j := by omega
  have h3 := halfI (i := i) (j := j) (by omega)
  have h4 : (((i + j) / 2 : Nat) : Int) < l.length := by omega
  have h5 : IntKind.i64.wrap ((((i + j) / 2 : Nat) : Int) + 1) = (((i + j) / 2 + 1 : Nat) : Int) := iwrap (by omega) (by omega)
  have h207 := fun (st : St) => f207 (x := l.getD ((i + j) / 2) default) (v := v) (st := st)
  generalize hk : (i + j) / 2 = k at *
  push_cast [Pal.v] at ih h207
  push_cast [h1, h3, h4, h5, h207, Pal.v, h2]
  exact ih
 | case2 i j h h2 ih =>
  intro hij hj
  have ih := ih (by omega) (by omega)
  rw [bsI, dif_pos h, if_neg h2, runL_of B206_0.eq_1]
  have h1 : (i : Int) < j := by omega
  have h3 := halfI (i := i) (j := j) (by omega)
  have h4 : (((i + j) / 2 : Nat) : Int) < l.length := by omega
  have h207 := fun (st : St) => f207 (x := l.getD ((i + j) / 2) default) (v := v) (st := st)
  generalize hk : (i + j) / 2 = k at *
  push_cast [Pal.v] at ih h207
  push_cast [h1, h3, h4, h207, Pal.v, h2]
  exact ih
 | case3 i j h =>
  intro hij hj
  rw [bsI, dif_neg h, runL_of B206_0.eq_1]
  have h1 : ¬ (i : Int) < j := by omega
  push_cast [h1, Pal.v]
def bsP (l : List Pal) (v : Int) : Nat := bsI (fun k => IntKind.i64.wrap ((l.getD k default).num - v)) 0 l.length
theorem f206 {l : List Pal} {v : Int} (hl : l.length < 140737488355328) {st : St} : run Tryz.prog HH 206 [.sl (l.map Pal.v), .int .i64 v, .fn (.func 207) [] []] st = some (.ret (.tup [.int .i64 (bsP l v), .bool (decide ((bsP l v : Int) < l.length) && IntKind.i64.wrap ((l.getD (bsP l v) default).num - v) == 0)]), st) := by
 have h0 := fun n => L206 (g := st.x.gl) (n := n) (v := v) hl 0 l.length (by omega) (Nat.le_refl _)
 have h207 := fun (st : St) => f207 (x := l.getD (bsP l v) default) (v := v) (st := st)
 rw [run_shut F206 rfl rfl (by simp)]
 rw [show bsI (fun k => IntKind.i64.wrap ((l.getD k default).num - v)) 0 l.length = bsP l v from rfl] at h0
 push_cast [Pal.v] at h0 h207
 push_cast [Pal.v, h0, h207]
 exact dn_eq (by omega) rfl
theorem f163 {x : Hue} {q : Prm} {st : St} : run Tryz.prog HH 163 [x.v, q.v] st = some (.ret (.int .i64 (cmpP x.p q)), st) := by
 have h := fun (st : St) => f165 (x := x) (st := st)
 have h2 := fun (st : St) => f164 (x := x.p) (y := q) (st := st)
 push_cast [Hue.v, Prm.v, Hue.p] at h h2
 rw [run_shut F163 rfl rfl (by simp)]
 push_cast [Hue.v, Prm.v, h, h2]
theorem L162 {l : List Hue} {q : Prm} (hl : l.length < 140737488355328) : ∀ i j, i ≤ j → j ≤ l.length → runL Tryz.prog HH [0, 2, 4, 8, 9, 10] n B162_0 [(0, .sl (l.map Hue.v)), (2, .fn (.func 163) [] []), (4, .ep q.v 0), (8, .int .i64 l.length), (9, .int .i64 i), (10, .int .i64 j)] (stN g n)
  = some (.exit 0, [(0, .sl (l.map Hue.v)), (2, .fn (.func 163) [] []), (4, .ep q.v 0), (8, .int .i64 l.length), (9, .int .i64 (bsI (fun k => cmpP (l.getD k default).p q) i j))], stN g n) := by
 intro i j
 induction i, j using bsI.induct (fun k => cmpP (l.getD k default).p q) with
 | case1 i j h h2 ih =>
  intro hij hj
  have ih := ih (by omega) hj
  rw [bsI, dif_pos h, if_pos h2, runL_of B162_0.eq_1]
  have h1 : (i : Int) < j := by omega
  have h3 := halfI (i := i) (j := j) (by omega)
  have h4 : (((i + j) / 2 : Nat) : Int) < l.length := by omega
  have h5 : IntKind.i64.wrap ((((i + j) / 2 : Nat) : Int) + 1) = (((i + j) / 2 + 1 : Nat) : Int) := iwrap (by omega) (by omega)
  have h163 := fun (st : St) => f163 (x := l.getD ((i + j) / 2) default) (q := q) (st := st)
  generalize hk : (i + j) / 2 = k at *
  push_cast [Hue.v, Prm.v] at ih h163
  push_cast [h1, h3, h4, h5, h163, Hue.v, Prm.v, h2]
  exact ih
 | case2 i j h h2 ih =>
  intro hij hj
  have ih := ih (by omega) (by omega)
  rw [bsI, dif_pos h, if_neg h2, runL_of B162_0.eq_1]
  have h1 : (i : Int) < j := by omega
  have h3 := halfI (i := i) (j := j) (by omega)
  have h4 : (((i + j) / 2 : Nat) : Int) < l.length := by omega
  have h163 := fun (st : St) => f163 (x := l.getD ((i + j) / 2) default) (q := q) (st := st)
  generalize hk : (i + j) / 2 = k at *
  push_cast [Hue.v, Prm.v] at ih h163
  push_cast [h1, h3, h4, h163, Hue.v, Prm.v, h2]
  exact ih
 | case3 i j h =>
  intro hij hj
  rw [bsI, dif_neg h, runL_of B162_0.eq_1]
  have h1 : ¬ (i : Int) < j := by omega
  push_cast [h1, Hue.v, Prm.v]
def bsH (l : List Hue) (q : Prm) : Nat := bsI (fun k => cmpP (l.getD k default).p q) 0 l.length
theorem f162 {l : List Hue} {q : Prm} (hl : l.length < 140737488355328) {st : St} : run Tryz.prog HH 162 [.sl (l.map Hue.v), q.v, .fn (.func 163) [] []] st = some (.ret (.tup [.int .i64 (bsH l q), .bool (decide ((bsH l q : Int) < l.length) && cmpP (l.getD (bsH l q) default).p q == 0)]), st) := by
 have h0 := fun n => L162 (g := st.x.gl) (n := n) (q := q) hl 0 l.length (by omega) (Nat.le_refl _)
 have h163 := fun (st : St) => f163 (x := l.getD (bsH l q) default) (q := q) (st := st)
 rw [run_shut F162 rfl rfl (by simp)]
 rw [show bsI (fun k => cmpP (l.getD k default).p q) 0 l.length = bsH l q from rfl] at h0
 push_cast [Hue.v, Prm.v] at h0 h163
 push_cast [Hue.v, Prm.v, h0, h163]
 exact dn_eq (by omega) rfl
theorem palsR_all {l : List Pal} : ∀ {r : List Pal} {j : Nat}, l.drop j = r → palsR l r j = 0 → (∀ q ∈ r, 1 ≤ q.num ∧ q.num ≤ 1048576 ∧ hueLR q.hues = 0) ∧ ((l.take j).Pairwise (fun a b => a.num < b.num) → l.Pairwise fun a b => a.num < b.num)
 | [], j, hd, _ => by
  have : l.length ≤ j := List.drop_eq_nil_iff.1 hd
  rw [List.take_of_length_le this]; exact ⟨by simp, fun h => h⟩
 | q :: r, j, hd, h => by
  rw [palsR] at h
  split at h
  ·cases h
  ·rename_i h1
   split at h
   ·cases h
   ·rename_i h2
    split at h
    ·rename_i h3
     obtain ⟨a, b⟩ := palsR_all (drop_succ hd) h
     refine ⟨fun x hx => ?_, fun hp => b ?_⟩
     ·rcases List.mem_cons.1 hx with rfl | hx
      ·exact ⟨by omega, by omega, h3⟩
      ·exact a x hx
     ·rw [take_snoc hd]
      refine List.pairwise_append.2 ⟨hp, List.pairwise_singleton .., fun y hy z hz => ?_⟩
      rw [List.mem_singleton.1 hz]
      obtain ⟨k, hk⟩ := List.mem_iff_getElem?.1 hy
      have hj := drop_le hd
      rw [List.getElem?_take] at hk
      split at hk
      ·rename_i hkj
       have e : l.getD (j - 1) default = l[j - 1] := by rw [List.getD_eq_getElem?_getD, List.getElem?_eq_getElem (by omega)]; rfl
       rw [e] at h2
       rcases Nat.lt_or_ge k (j - 1) with hk2 | hk2
       ·have hm := List.pairwise_iff_getElem.1 hp k (j - 1) (by simp; omega) (by simp; omega) hk2
        rw [List.getElem_take, List.getElem_take] at hm
        rw [List.getElem?_eq_getElem (by omega)] at hk
        rw [← Option.some.inj hk]; omega
       ·have : k = j - 1 := by omega
        subst this
        rw [List.getElem?_eq_getElem (by omega)] at hk
        rw [← Option.some.inj hk]; omega
      ·cases hk
    ·rename_i h3; exact absurd h h3
theorem huesR_all {l : List Hue} : ∀ {r : List Hue} {j : Nat}, l.drop j = r → huesR l r j = 0 → (∀ q ∈ r, prmC 0 q.p = 0 ∧ lvl q.lev) ∧ ((l.take j).Pairwise (fun a b => befP a.p b.p = true) → l.Pairwise fun a b => befP a.p b.p = true)
 | [], j, hd, _ => by
  have : l.length ≤ j := List.drop_eq_nil_iff.1 hd
  rw [List.take_of_length_le this]; exact ⟨by simp, fun h => h⟩
 | q :: r, j, hd, h => by
  rw [huesR] at h
  split at h
  ·cases h
  ·rename_i h1
   split at h
   ·cases h
   ·rename_i h2
    obtain ⟨a, b⟩ := huesR_all (drop_succ hd) h
    refine ⟨fun x hx => ?_, fun hp => b ?_⟩
    ·rcases List.mem_cons.1 hx with rfl | hx
     ·refine ⟨?_, Classical.byContradiction fun e => h1 (.inr (.inr (.inr (.inr e))))⟩
      unfold prmC; rw [if_neg]; simp only [Hue.p]; omega
     ·exact a x hx
    ·rw [take_snoc hd]
     refine List.pairwise_append.2 ⟨hp, List.pairwise_singleton .., fun y hy z hz => ?_⟩
     rw [List.mem_singleton.1 hz]
     obtain ⟨k, hk⟩ := List.mem_iff_getElem?.1 hy
     have hj := drop_le hd
     rw [List.getElem?_take] at hk
     split at hk
     ·rename_i hkj
      have e : l.getD (j - 1) default = l[j - 1] := by rw [List.getD_eq_getElem?_getD, List.getElem?_eq_getElem (by omega)]; rfl
      have h3 : befP l[j - 1].p q.p = true := by
       rw [← e]; cases hb : befP (l.getD (j - 1) default).p q.p with
       | true => rfl
       | false => exact absurd ⟨by omega, hb⟩ h2
      rcases Nat.lt_or_ge k (j - 1) with hk2 | hk2
      ·have hm := List.pairwise_iff_getElem.1 hp k (j - 1) (by simp; omega) (by simp; omega) hk2
       rw [List.getElem_take, List.getElem_take] at hm
       rw [List.getElem?_eq_getElem (by omega)] at hk
       rw [← Option.some.inj hk]
       simp only [befP, Bool.or_eq_true, Bool.and_eq_true, decide_eq_true_eq] at hm h3 ⊢
       omega
      ·have : k = j - 1 := by omega
       subst this
       rw [List.getElem?_eq_getElem (by omega)] at hk
       rw [← Option.some.inj hk]; exact h3
     ·cases hk
theorem pals_ok {l : List Pal} (h : palsCR l = 0) : (∀ q ∈ l, 1 ≤ q.num ∧ q.num ≤ 1048576 ∧ hueLR q.hues = 0) ∧ l.Pairwise fun a b => a.num < b.num := by
 unfold palsCR at h
 split at h
 ·cases h
 ·obtain ⟨a, b⟩ := palsR_all (j := 0) rfl h
  exact ⟨a, b List.Pairwise.nil⟩
theorem hues_ok {l : List Hue} (h : hueLR l = 0) : (∀ q ∈ l, prmC 0 q.p = 0 ∧ lvl q.lev) ∧ l.Pairwise fun a b => befP a.p b.p = true := by
 unfold hueLR at h
 split at h
 ·cases h
 ·obtain ⟨a, b⟩ := huesR_all (j := 0) rfl h
  exact ⟨a, b List.Pairwise.nil⟩
end Go.Proofs.YtflbieghmgobgaaGreatDoor

namespace Go.Proofs.YtflbieghmgobgaaGreatDoor
open Go.Sha
set_option maxRecDepth 100000
variable {g : List (Nat × Obj)} {n : Nat}
def palF (l : List Pal) (v : Int) : Option Pal := l.find? fun x => decide (x.num = v)
def hueF (l : List Hue) (c a : Int) : Option Hue := l.find? fun x => decide (x.chan = c ∧ x.attr = a)
theorem pals_len {l : List Pal} (h : palsCR l = 0) : l.length ≤ 32 := by
 unfold palsCR at h; split at h
 ·cases h
 ·omega
theorem hues_len {l : List Hue} (h : hueLR l = 0) : l.length ≤ 256 := by
 unfold hueLR at h; split at h
 ·cases h
 ·omega
theorem find_congr {α : Type} {p q : α → Bool} : ∀ {l : List α}, (∀ x ∈ l, p x = q x) → l.find? p = l.find? q
 | [], _ => rfl
 | x :: r, h => by
  rw [List.find?_cons, List.find?_cons, h x (List.mem_cons_self ..), find_congr (l := r) fun y hy => h y (List.mem_cons_of_mem _ hy)]
theorem f161 {l : List Pal} {v : Int} (h : palsCR l = 0) (hv : -1 ≤ v ∧ v ≤ 1048576) :
  (∀ x, palF l v = some x → ∃ k : Nat, k < l.length ∧ (∀ d, l.getD k d = x) ∧ ∀ st, run Tryz.prog HH 161 [.sl (l.map Pal.v), .int .i64 v] st = some (.ret (.tup [.int .i64 k, .bool true]), st)) ∧
  (palF l v = none → ∃ k : Nat, ∀ st, run Tryz.prog HH 161 [.sl (l.map Pal.v), .int .i64 v] st = some (.ret (.tup [.int .i64 k, .bool false]), st)) := by
 obtain ⟨h1, h2⟩ := pals_ok h
 have hl := pals_len h
 have w : ∀ x ∈ l, IntKind.i64.wrap (x.num - v) = x.num - v := fun x hx => by have := h1 x hx; exact iwrap (by omega) (by omega)
 have hp : l.Pairwise fun a b => IntKind.i64.wrap (b.num - v) ≤ 0 → IntKind.i64.wrap (a.num - v) < 0 :=
  (List.Pairwise.and_mem.1 h2).imp fun {a b} ⟨ha, hb, hab⟩ hc => by rw [w b hb] at hc; rw [w a ha]; omega
 have hf : palF l v = l.find? fun x => decide (IntKind.i64.wrap (x.num - v) = 0) := find_congr fun x hx => by
  rw [w x hx]; exact decide_eq_decide.2 (by omega)
 obtain ⟨r1, r2, r3⟩ := bs_find (c := fun x : Pal => IntKind.i64.wrap (x.num - v)) hp
 have h206 := fun (st : St) => f206 (l := l) (v := v) (st := st) (by omega)
 change bsP l v ≤ l.length at r1
 rw [hf]
 refine ⟨fun x hx => ⟨bsP l v, (r2 x hx).1, (r2 x hx).2.1, fun st => ?_⟩, fun hx => ⟨bsP l v, fun st => ?_⟩⟩
 ·have e : (decide ((bsP l v : Int) < l.length) && IntKind.i64.wrap ((l.getD (bsP l v) default).num - v) == 0) = true := by
   have a := (r2 x hx).1; have b := (r2 x hx).2.1 default; have c := (r2 x hx).2.2
   change bsP l v < l.length at a
   change l.getD (bsP l v) default = x at b
   rw [b]
   simp only [Bool.and_eq_true, decide_eq_true_eq, beq_iff_eq]
   exact ⟨by omega, c⟩
  rw [e] at h206
  rw [run_shut F161 rfl rfl (by simp)]
  push_cast [Pal.v, h206]
 ·have e : (decide ((bsP l v : Int) < l.length) && IntKind.i64.wrap ((l.getD (bsP l v) default).num - v) == 0) = false := by
   have a := r3 hx
   rw [Bool.eq_false_iff]; intro e
   simp only [Bool.and_eq_true, decide_eq_true_eq, beq_iff_eq] at e
   exact a ⟨by have := e.1; change bsP l v < l.length; omega, e.2⟩
  rw [e] at h206
  rw [run_shut F161 rfl rfl (by simp)]
  push_cast [Pal.v, h206]
theorem f162' {l : List Hue} {q : Prm} (h : hueLR l = 0) (hq : prmC 0 q = 0) :
  (∀ x, hueF l q.chan q.attr = some x → ∃ k : Nat, k < l.length ∧ (∀ d, l.getD k d = x) ∧ ∀ st, run Tryz.prog HH 162 [.sl (l.map Hue.v), q.v, .fn (.func 163) [] []] st = some (.ret (.tup [.int .i64 k, .bool true]), st)) ∧
  (hueF l q.chan q.attr = none → ∃ k : Nat, ∀ st, run Tryz.prog HH 162 [.sl (l.map Hue.v), q.v, .fn (.func 163) [] []] st = some (.ret (.tup [.int .i64 k, .bool false]), st)) := by
 obtain ⟨h1, h2⟩ := hues_ok h
 have hl := hues_len h
 have hq' := prmC_ok hq
 have w : ∀ x ∈ l, cmpP x.p q = if ¬ x.chan = q.chan then x.chan - q.chan else x.attr - q.attr := fun x hx => by
  have := prmC_ok (h1 x hx).1
  simp only [Hue.p] at this
  have w1 : IntKind.i64.wrap (x.chan - q.chan) = x.chan - q.chan := iwrap (by omega) (by omega)
  have w2 : IntKind.i64.wrap (x.attr - q.attr) = x.attr - q.attr := iwrap (by omega) (by omega)
  simp only [cmpP, Hue.p, w1, w2]
 have hp : l.Pairwise fun a b => cmpP b.p q ≤ 0 → cmpP a.p q < 0 :=
  (List.Pairwise.and_mem.1 h2).imp fun {a b} ⟨ha, hb, hab⟩ hc => by
   rw [w b hb] at hc; rw [w a ha]
   simp only [befP, Hue.p, Bool.or_eq_true, Bool.and_eq_true, decide_eq_true_eq] at hab
   split at hc <;> split <;> omega
 have hf : hueF l q.chan q.attr = l.find? fun x => decide (cmpP x.p q = 0) := find_congr fun x hx => by
  rw [w x hx]; refine decide_eq_decide.2 ?_; split <;> omega
 obtain ⟨r1, r2, r3⟩ := bs_find (c := fun x : Hue => cmpP x.p q) hp
 have h162 := fun (st : St) => f162 (l := l) (q := q) (st := st) (by omega)
 rw [hf]
 refine ⟨fun x hx => ⟨bsH l q, (r2 x hx).1, (r2 x hx).2.1, fun st => ?_⟩, fun hx => ⟨bsH l q, fun st => ?_⟩⟩
 ·rw [h162]
  have a := (r2 x hx).1; have b := (r2 x hx).2.1 default; have c := (r2 x hx).2.2
  change bsH l q < l.length at a
  change l.getD (bsH l q) default = x at b
  rw [b, show (decide ((bsH l q : Int) < l.length) && cmpP x.p q == 0) = true by simp only [Bool.and_eq_true, decide_eq_true_eq, beq_iff_eq]; exact ⟨by omega, c⟩]
 ·rw [h162]
  have a := r3 hx
  rw [show (decide ((bsH l q : Int) < l.length) && cmpP (l.getD (bsH l q) default).p q == 0) = false by
   rw [Bool.eq_false_iff]; intro e
   simp only [Bool.and_eq_true, decide_eq_true_eq, beq_iff_eq] at e
   exact a ⟨by have := e.1; change bsH l q < l.length; omega, e.2⟩]
def hueV (l : List Pal) (v : Int) (p : Prm) : Option Int := (palF l v).bind fun x => ((hueF x.hues p.chan p.attr).or (hueF x.hues 0 p.attr)).map Hue.lev
theorem f120 {l : List Pal} {v : Int} {p : Prm} (h : palsCR l = 0) (hv : -1 ≤ v ∧ v ≤ 1048576) (hp : prmC 1 p = 0) {st : St} : run Tryz.prog HH 120 [.sl (l.map Pal.v), .int .i64 v, p.v] st = some (.ret (.tup [.int .i64 ((hueV l v p).getD 0), .bool (hueV l v p).isSome]), st) := by
 obtain ⟨s1, s2⟩ := f161 h hv
 have hp' := prmC_ok hp
 cases hx : palF l v with
 | none =>
  obtain ⟨k, h161⟩ := s2 hx
  rw [run_shut F120 rfl rfl (by simp)]
  push_cast [Pal.v, Prm.v, h161, hueV, hx, Option.bind_none, Option.isSome_none]
 | some x =>
  obtain ⟨k, k1, k2, h161⟩ := s1 x hx
  have k3 : (k : Int) < l.length := by omega
  have hh := ((pals_ok h).1 x (List.mem_of_find?_eq_some hx)).2.2
  obtain ⟨t1, t2⟩ := f162' (q := p) hh (by unfold prmC; rw [if_neg (by omega)])
  obtain ⟨u1, u2⟩ := f162' (q := ⟨0, p.attr⟩) hh (by unfold prmC; rw [if_neg (by simp only; omega)])
  have e : hueV l v p = ((hueF x.hues p.chan p.attr).or (hueF x.hues 0 p.attr)).map Hue.lev := by rw [hueV, hx]; rfl
  rw [e]
  cases hy : hueF x.hues p.chan p.attr with
  | some y =>
   obtain ⟨i, i1, i2, h162⟩ := t1 y hy
   have i3 : (i : Int) < x.hues.length := by omega
   push_cast [Pal.v, Prm.v, Hue.v] at h161 h162
   rw [run_shut F120 rfl rfl (by simp)]
   push_cast [Pal.v, Prm.v, Hue.v, h161, h162, k2, k3, i2, i3, runL_of B120_0.eq_1, Option.some_or, Option.isSome_some]
  | none =>
   obtain ⟨i, h162⟩ := t2 hy
   cases hz : hueF x.hues 0 p.attr with
   | some y =>
    obtain ⟨j, j1, j2, h162'⟩ := u1 y hz
    have j3 : (j : Int) < x.hues.length := by omega
    push_cast [Pal.v, Prm.v, Hue.v] at h161 h162 h162'
    rw [run_shut F120 rfl rfl (by simp)]
    push_cast [Pal.v, Prm.v, Hue.v, h161, h162, h162', k2, k3, j2, j3, runL_of B120_0.eq_1, Option.none_or, Option.isSome_some]
   | none =>
    obtain ⟨j, h162'⟩ := u2 hz
    push_cast [Pal.v, Prm.v, Hue.v] at h161 h162 h162'
    rw [run_shut F120 rfl rfl (by simp)]
    push_cast [Pal.v, Prm.v, Hue.v, h161, h162, h162', k2, k3, runL_of B120_0.eq_1, Option.none_or, Option.isSome_none]
def lvV (l : List Pal) (v : Val) (p : Prm) (home : Int) : Int := if v.pal = 0 then v.lev else (hueV l v.pal p).getD home
theorem valC_ok {v : Val} (h : valC v = 0) : v.pal = 0 ∧ lvl v.lev ∨ -1 ≤ v.pal ∧ ¬ v.pal = 0 ∧ v.pal ≤ 1048576 ∧ v.lev = 0 := by
 unfold valC at h; split at h
 ·assumption
 ·omega
theorem f69 {l : List Pal} {v : Val} {p : Prm} {home : Int} (hb : ∀ q ∈ l, q.hues.length < 140737488355328) (h : palsCR l = 0) (hv : valC v = 0) (hp : prmC 1 p = 0) (hh : lvl home) {st : St} : run Tryz.prog HH 69 [.sl (l.map Pal.v), v.v, p.v, .int .i64 home] st = some (.ret (.tup [.int .i64 (lvV l v p home), .int .i64 0]), st) := by
 have hl := pals_len h
 have h104 := fun (st : St) => f104 (l := l) (st := st) (by omega) hb
 rw [palsC_eq, h] at h104
 have h66 := fun (st : St) => f66 (x := v) (st := st)
 have h119 := fun (st : St) => f119 (x := p) (c := 1) (st := st)
 have h118 := fun (st : St) => f118 (v := home) (st := st)
 rw [hv] at h66; rw [hp] at h119; rw [decide_eq_true hh] at h118
 have hv' := valC_ok hv
 by_cases h1 : v.pal = 0
 ·have h1' := eq_true h1
  push_cast [Pal.v, Val.v, Prm.v] at h104 h66 h119
  rw [run_shut F69 rfl rfl (by simp)]
  push_cast [Pal.v, Val.v, Prm.v, h104, h66, h119, h118, runL_of B69_0.eq_1, h1', lvV]
 ·have h120 := fun (st : St) => f120 (st := st) h (v := v.pal) (by omega) hp
  cases hx : hueV l v.pal p with
  | none =>
   rw [hx] at h120
   push_cast [Pal.v, Val.v, Prm.v, Option.isSome_none] at h104 h66 h119 h120
   rw [run_shut F69 rfl rfl (by simp)]
   push_cast [Pal.v, Val.v, Prm.v, h104, h66, h119, h118, h120, runL_of B69_0.eq_1, h1, lvV, hx]
  | some y =>
   rw [hx] at h120
   push_cast [Pal.v, Val.v, Prm.v, Option.isSome_some] at h104 h66 h119 h120
   rw [run_shut F69 rfl rfl (by simp)]
   push_cast [Pal.v, Val.v, Prm.v, h104, h66, h119, h118, h120, runL_of B69_0.eq_1, h1, lvV, hx]
theorem L208 {l : List Pal} {v : Int} (hl : l.length < 140737488355328) : ∀ r j, l.drop j = r → runL Tryz.prog HH [0, 1, 5] n B208_0 [(0, .sl (l.map Pal.v)), (1, .int .i64 v), (5, .int .i64 j)] (stN g n) = lpI (stN g n) [] 4 (ix (fun x => x.num == v) r j) := by
 refine drop_ind (fun j h => ?_) (fun q r j h hx hd ih => ?_)
 all_goals rw [runL_of B208_0.eq_1]
 ·have h1 : ¬ (j : Int) < l.length := by omega
  push_cast [h1, ix, Pal.v]
 ·have h1 : (j : Int) < l.length := by omega
  have hw := iw1 (j := j) (by omega)
  push_cast [h1, hw, hx, Pal.v] at ih ⊢
  simp only [ih, ix, lps, Int.reduceEq, not_false_eq_true]
  all_goals ((repeat' split) <;> simp_all)
theorem f208 {l : List Pal} {v : Int} (hl : l.length < 140737488355328) {st : St} : run Tryz.prog HH 208 [.sl (l.map Pal.v), .int .i64 v] st = some (.ret (.int .i64 (ix (fun x => x.num == v) l 0)), st) := by
 rw [run_shut F208 rfl rfl (by simp)]
 have hL0 := fun n => L208 (g := st.x.gl) (n := n) (v := v) hl l 0 rfl
 push_cast at hL0
 push_cast [hL0, lpE, lpX, lpI, lpB]
theorem L209 {l : List Hue} {c a : Int} (hl : l.length < 140737488355328) : ∀ r j, l.drop j = r → runL Tryz.prog HH [0, 1, 2, 8] n B209_0 [(0, .sl (l.map Hue.v)), (1, .int .i64 c), (2, .int .i64 a), (8, .int .i64 j)] (stN g n)
  = match hueF r c a with
   | none => some (.exit 0, [], stN g n)
   | some y => some (.ret, [(6, .int .i64 y.lev), (7, .bool true)], stN g n) := by
 refine drop_ind (fun j h => ?_) (fun q r j h hx hd ih => ?_)
 all_goals rw [runL_of B209_0.eq_1]
 ·have h1 : ¬ (j : Int) < l.length := by omega
  rw [show hueF [] c a = none from rfl]
  push_cast [h1, Hue.v]
 ·have h1 : (j : Int) < l.length := by omega
  have hw := iw1 (j := j) (by omega)
  by_cases h2 : q.chan = c ∧ q.attr = a
  ·have h3 := eq_true h2
   rw [show hueF (q :: r) c a = some q by simp [hueF, h2]]
   clear ih
   push_cast [h1, hw, hx, Hue.v, h3]
  ·have h3 := eq_false h2
   rw [show hueF (q :: r) c a = hueF r c a by unfold hueF; rw [List.find?_cons_of_neg (by simpa using h2)]]
   push_cast [h1, hw, hx, Hue.v, h3] at ih ⊢
   exact ih
theorem f209 {l : List Hue} {c a : Int} (hl : l.length < 140737488355328) {st : St} : run Tryz.prog HH 209 [.sl (l.map Hue.v), .int .i64 c, .int .i64 a] st = some (.ret (.tup [.int .i64 ((hueF l c a).map Hue.lev |>.getD 0), .bool (hueF l c a).isSome]), st) := by
 have h0 := fun n => L209 (g := st.x.gl) (n := n) (c := c) (a := a) hl l 0 rfl
 cases hy : hueF l c a with
 | none =>
  rw [hy] at h0
  push_cast at h0
  rw [run_shut F209 rfl rfl (by simp)]
  push_cast [h0, Option.isSome_none]
 | some y =>
  rw [hy] at h0
  push_cast at h0
  rw [run_shut F209 rfl rfl (by simp)]
  push_cast [h0, Option.isSome_some]
theorem f166 {l : List Pal} {v : Int} {p : Prm} (hl : l.length < 140737488355328) (hb : ∀ q ∈ l, q.hues.length < 140737488355328) {st : St} : run Tryz.prog HH 166 [.sl (l.map Pal.v), .int .i64 v, p.v] st = some (.ret (.tup [.int .i64 ((hueV l v p).getD 0), .bool (hueV l v p).isSome]), st) := by
 have h208 := fun (st : St) => f208 (v := v) (st := st) hl
 have e0 : palF l v = l.find? fun x => x.num == v := rfl
 cases hx : palF l v with
 | none =>
  rw [(ix_find (j := 0)).1 (e0 ▸ hx)] at h208
  rw [run_shut F166 rfl rfl (by simp)]
  push_cast [Prm.v, Pal.v, h208, hueV, hx, Option.bind_none, Option.isSome_none]
 | some x =>
  obtain ⟨k, k1, k2, k3⟩ := (ix_find (j := 0)).2 x (e0 ▸ hx)
  rw [Nat.zero_add] at k1
  rw [k1] at h208
  have k4 : (k : Int) < l.length := by omega
  have k5 : ¬ (k : Int) < 0 := by omega
  have h209 := fun (st : St) (c : Int) => f209 (c := c) (a := p.attr) (st := st) (hb x (List.mem_of_find?_eq_some hx))
  have e : hueV l v p = ((hueF x.hues p.chan p.attr).or (hueF x.hues 0 p.attr)).map Hue.lev := by rw [hueV, hx]; rfl
  rw [e]
  cases hy : hueF x.hues p.chan p.attr with
  | some y =>
   rw [run_shut F166 rfl rfl (by simp)]
   push_cast [Prm.v, Pal.v, Hue.v, h208, h209, k3, k4, k5, hy, Option.some_or, Option.isSome_some]
  | none =>
   rw [run_shut F166 rfl rfl (by simp)]
   push_cast [Prm.v, Pal.v, Hue.v, h208, h209, k3, k4, k5, hy, Option.none_or, Option.isSome_none]
   cases hueF x.hues 0 p.attr <;> rfl
theorem f121 {l : List Pal} {v : Val} {p : Prm} {home : Int} (hl : l.length < 140737488355328) (hb : ∀ q ∈ l, q.hues.length < 140737488355328) {st : St} : run Tryz.prog HH 121 [.sl (l.map Pal.v), v.v, p.v, .int .i64 home] st = some (.ret (.int .i64 (lvV l v p home)), st) := by
 have h166 := fun (st : St) => f166 (v := v.pal) (p := p) (st := st) hl hb
 cases hx : hueV l v.pal p with
 | none =>
  rw [hx] at h166
  push_cast [Prm.v, Option.isSome_none] at h166
  rw [run_shut F121 rfl rfl (by simp)]
  push_cast [Prm.v, Pal.v, Val.v, h166, lvV, hx]
 | some y =>
  rw [hx] at h166
  push_cast [Prm.v, Option.isSome_some] at h166
  rw [run_shut F121 rfl rfl (by simp)]
  push_cast [Prm.v, Pal.v, Val.v, h166, lvV, hx]
theorem f70 {s : Sho} {p : Prm} {v : Val} (h : s.ok) (hs : shoC s = 0) {st : St} : run Tryz.prog HH 70 [s.v, p.v, v.v] st = some (.ret (.int .i64 (lvV s.pals v p ((ownR s p).getD F0).home)), st) := by
 have h76 := fun (st : St) => f76 (p := p) (st := st) h hs
 have h121 := fun (st : St) => f121 (v := v) (p := p) (home := ((ownR s p).getD F0).home) (st := st) h.l.1 h.l.2
 push_cast [Sho.v, Prm.v, Val.v, Pal.v] at h76 h121
 rw [run_shut F70 rfl rfl (by simp)]
 push_cast [Sho.v, Prm.v, Val.v, Pal.v, h76, h121]
theorem featsR_all {foot c : Int} {l : List Ftr} : ∀ {r : List Ftr} {j : Nat}, l.drop j = r → featsR foot c l r j = 0 → ∀ q ∈ r, ∃ b, featR foot c q b = 0
 | [], _, _, _, x, hx => by simp at hx
 | q :: r, j, hd, h, x, hx => by
  rw [featsR] at h
  split at h
  ·rename_i h1
   rcases List.mem_cons.1 hx with rfl | hx
   ·exact ⟨_, h1⟩
   ·exact featsR_all (drop_succ hd) h x hx
  ·rename_i h1; exact absurd h h1
theorem featR_home {foot c : Int} {q : Ftr} {b : List Ftr} (h : featR foot c q b = 0) : lvl q.home ∧ (q.attr < 0 ∨ 15 ≤ q.attr → False) := by
 unfold featR at h
 by_cases c1 : q.attr < 0 ∨ 15 ≤ q.attr
 ·rw [if_pos c1] at h; cases h
 ·refine ⟨?_, c1⟩
  have key : innR c q = 0 → lvl q.home := fun h => by
   unfold innR insR at h
   split at h
   ·cases h
   ·by_cases a : ¬ lvl q.home ∨ q.low < 0 ∨ q.high < q.low ∨ (if q.bits = 8 then 255 else 65535) < q.high
    ·rw [if_pos a] at h; cases h
    ·exact Classical.byContradiction fun e => a (.inl e)
  rw [if_neg c1] at h
  split at h
  ·cases h
  ·split at h
   ·cases h
   ·split at h
    ·cases h
    ·split at h
     ·cases h
     ·split at h
      ·cases h
      ·exact key h
theorem prof_feat {s : Sho} (hs : shoC s = 0) {q : Prof} (hq : q ∈ s.profs) {f : Ftr} (hf : f ∈ q.feats) : lvl f.home ∧ (f.attr < 0 ∨ 15 ≤ f.attr → False) := by
 have h := (shoC_parts hs).2.2.1
 unfold profsCR at h
 split at h
 ·cases h
 ·have := profsR_all (j := 0) rfl h q hq
  unfold profR at this
  repeat' split at this
  all_goals first | (rename_i a; exact absurd this a) | cases this | skip
  obtain ⟨b, hb⟩ := featsR_all (j := 0) rfl this f hf
  exact featR_home hb
theorem own_in {s : Sho} {p : Prm} {f : Ftr} (h : ownR s p = some f) : f.attr = p.attr ∧ ∃ x ∈ s.fixts, x.chan = p.chan ∧ ∃ q, pfx s.profs x.prof = some q ∧ q ∈ s.profs ∧ f ∈ q.feats := by
 obtain ⟨y, hy, rfl⟩ := Option.map_eq_some_iff.1 h
 obtain ⟨a, b⟩ := havL_some hy
 obtain ⟨c1, c2, _⟩ := partsF_mem a
 cases hq : pfx s.profs y.1.prof with
 | none => rw [hq] at b; cases b
 | some q =>
  rw [hq] at b
  have hb := List.find?_some b
  rw [decide_eq_true_eq] at hb
  exact ⟨hb, y.1, c1, c2, q, hq, List.mem_of_find?_eq_some hq, List.mem_of_find?_eq_some b⟩
theorem own_home {s : Sho} {p : Prm} (hs : shoC s = 0) : lvl ((ownR s p).getD F0).home := by
 cases h : ownR s p with
 | none => decide
 | some f =>
  obtain ⟨_, x, _, _, q, _, h1, h2⟩ := own_in h
  exact (prof_feat hs h1 h2).1
def levE (s : Sho) (p : Prm) (v : Val) : Int := if ¬ shoC s = 0 then shoC s else if ¬ valC v = 0 then valC v else prmC 1 p
def levV (s : Sho) (p : Prm) (v : Val) : Int := if levE s p v = 0 then lvV s.pals v p ((ownR s p).getD F0).home else 0
theorem f18 {s : Sho} {p : Prm} {v : Val} (h : s.ok) {st : St} : run Tryz.prog HH 18 [s.v, p.v, v.v] st = some (.ret (.tup [.int .i64 (levV s p v), .int .i64 (levE s p v)]), st) := by
 have h15 := fun (st : St) => f15 (st := st) h
 have h66 := fun (st : St) => f66 (x := v) (st := st)
 have h67 := fun (st : St) => f67 (x := p) (st := st)
 by_cases h1 : shoC s = 0
 ·have hf := fix_ok (shoC_parts h1).2.2.2.1
  have hp := (shoC_parts h1).2.2.2.2.2.1
  have h68 := fun (st : St) => f68 (p := p) (st := st) (by omega) (by omega) (fun q hq => (h.p.2.1 q hq).a) (fun x hx => aloC_some (hf.2.2.2 x hx))
  rw [(own_eq (p := p) h1).1] at h68
  by_cases h2 : valC v = 0
  ·by_cases h3 : prmC 1 p = 0
   ·have h69 := fun (st : St) => f69 (st := st) h.l.2 hp h2 h3 (own_home (p := p) h1)
    push_cast [Sho.v, Prm.v, Val.v, Ftr.v, Pal.v] at h15 h66 h67 h68 h69
    rw [run_shut F18 rfl rfl (by simp)]
    push_cast [Sho.v, Prm.v, Val.v, Ftr.v, Pal.v, h15, h66, h67, h68, h69, h1, h2, h3, levV, levE]
   ·push_cast [Sho.v, Prm.v, Val.v] at h15 h66 h67
    rw [run_shut F18 rfl rfl (by simp)]
    push_cast [Sho.v, Prm.v, Val.v, h15, h66, h67, h1, h2, h3, levV, levE]
  ·push_cast [Sho.v, Val.v] at h15 h66
   rw [run_shut F18 rfl rfl (by simp)]
   push_cast [Sho.v, Prm.v, Val.v, h15, h66, h1, h2, levV, levE]
 ·push_cast [Sho.v] at h15
  rw [run_shut F18 rfl rfl (by simp)]
  push_cast [Sho.v, Prm.v, Val.v, h15, h1, levV, levE]
theorem f19 {s : Sho} {p : Prm} {v : Val} (h : s.ok) {st : St} : run Tryz.prog HH 19 [s.v, p.v, v.v] st = some (.ret (.tup [.int .i64 (levV s p v), .int .i64 (levE s p v)]), st) := by
 have h16 := fun (st : St) => f16 (st := st) h
 have h31 := fun (st : St) => f31 (x := v) (st := st)
 have h21 := fun (st : St) => f21 (x := p) (st := st)
 by_cases h1 : shoC s = 0
 ·have h70 := fun (st : St) => f70 (p := p) (v := v) (st := st) h h1
  push_cast [Sho.v, Prm.v, Val.v] at h16 h31 h21 h70
  rw [run_shut F19 rfl rfl (by simp)]
  push_cast [Sho.v, Prm.v, Val.v, h16, h31, h21, h70, h1, levV, levE]
  by_cases h2 : valC v = 0 <;> by_cases h3 : prmC 1 p = 0 <;> simp [h2, h3]
 ·push_cast [Sho.v] at h16
  rw [run_shut F19 rfl rfl (by simp)]
  push_cast [Sho.v, Prm.v, Val.v, h16, h1, levV, levE]
end Go.Proofs.YtflbieghmgobgaaGreatDoor

namespace Go.Proofs.YtflbieghmgobgaaGreatDoor
open Go.Sha
set_option maxRecDepth 10000
theorem F39 : compF Tryz.prog 39 = some ⟨13, [.tmp 4, .tmp 5], (.g [.q 2 31 0,
.c 4 0,
.c 5 0]
 (.z [2] (.g [.d 6 9 2,
.a 7 6 2,
.l 8 7,
.m 9 1,
.s 10 (.f 79 [.t 6, .t 8, .t 9, (.c (.fn (.func 80) [] []))]),
.j 11 0 10,
.j 12 1 10,
.m 4 11,
.m 5 12]
 (.ret [4, 5]))))⟩ := by kernel_rfl
theorem F40 : compF Tryz.prog 40 = some ⟨13, [.tmp 4, .tmp 5], (.g [.q 2 31 0,
.c 4 0,
.c 5 0]
 (.z [2] (.q (.dreg 9 [.d 6 9 2,
.d 7 9 2,
.m 8 1,
.g' 9 82 7 8,
.g' 10 81 6 9,
.j 11 0 10,
.j 12 1 10,
.m 4 11,
.m 5 12])
 (.ret [4, 5]))))⟩ := by kernel_rfl
theorem F41 : compF Tryz.prog 41 = some ⟨13, [.tmp 4, .tmp 5], (.g [.q 2 31 0,
.c 4 0,
.c 5 0]
 (.z [2] (.g [.d 6 9 2,
.a 7 7 2,
.l 8 7,
.m 9 1,
.s 10 (.f 83 [.t 6, .t 8, .t 9, (.c (.fn (.func 84) [] []))]),
.j 11 0 10,
.j 12 1 10,
.m 4 11,
.m 5 12]
 (.ret [4, 5]))))⟩ := by kernel_rfl
theorem F42 : compF Tryz.prog 42 = some ⟨13, [.tmp 4, .tmp 5], (.g [.q 2 31 0,
.c 4 0,
.c 5 0]
 (.z [2] (.q (.dreg 9 [.d 6 9 2,
.d 7 9 2,
.m 8 1,
.g' 9 85 7 8,
.g' 10 81 6 9,
.j 11 0 10,
.j 12 1 10,
.m 4 11,
.m 5 12])
 (.ret [4, 5]))))⟩ := by kernel_rfl
theorem F43 : compF Tryz.prog 43 = some ⟨13, [.tmp 4, .tmp 5], (.g [.q 2 31 0,
.c 4 0,
.c 5 0]
 (.z [2] (.g [.d 6 9 2,
.a 7 8 2,
.l 8 7,
.m 9 1,
.s 10 (.f 86 [.t 6, .t 8, .t 9, (.c (.fn (.func 87) [] []))]),
.j 11 0 10,
.j 12 1 10,
.m 4 11,
.m 5 12]
 (.ret [4, 5]))))⟩ := by kernel_rfl
theorem F44 : compF Tryz.prog 44 = some ⟨13, [.tmp 4, .tmp 5], (.g [.q 2 31 0,
.c 4 0,
.c 5 0]
 (.z [2] (.q (.dreg 9 [.d 6 9 2,
.d 7 9 2,
.m 8 1,
.g' 9 88 7 8,
.g' 10 81 6 9,
.j 11 0 10,
.j 12 1 10,
.m 4 11,
.m 5 12])
 (.ret [4, 5]))))⟩ := by kernel_rfl
theorem F79 : compF Tryz.prog 79 = some ⟨23, [.tmp 8, .tmp 9], (.g [.q 4 31 0,
.q 6 3 2,
.q 7 131 3,
.c 8 0,
.c 9 0]
 (.z [4, 6, 7] (.join [1, 6, 7] (.g [.d 12 9 4,
.f 13 15 12,
.m 10 13]
 (.g [.m 14 10,
.v 15 .neq 14 0]
 (.i 15 (.g [.m 16 10,
.c 8 0,
.m 9 16]
 (.ret [8, 9]))
 .skip)))
 (.g [.m 17 1,
.s 18 (.mkfn (.func 124) [] [.t 7, .t 6]),
.g' 19 123 17 18,
.m 11 19]
 (.join [11] (.g [.m 20 11,
.v 21 .lss 20 0]
 (.i 21 (.g [.c 8 0,
.c 9 6]
 (.ret [8, 9]))
 .skip))
 (.g [.m 22 11,
.m 8 22,
.c 9 0]
 (.ret [8, 9])))))))⟩ := by kernel_rfl
theorem F80 : compF Tryz.prog 80 = some ⟨5, [.tmp 2], (.g [.q 1 83 0,
.c 2 0]
 (.z [1] (.g [.a 3 0 1,
.l 4 3,
.m 2 4]
 (.ret [2]))))⟩ := by kernel_rfl
theorem F81 : compF Tryz.prog 81 = some ⟨15, [.tmp 4, .tmp 5], (.g [.q 2 31 0,
.c 4 0,
.c 5 0]
 (.z [2] (.join [1] (.g [.d 7 9 2,
.f 8 16 7,
.m 6 8]
 (.g [.m 9 6,
.v 10 .neq 9 0]
 (.i 10 (.g [.m 11 6,
.c 4 0,
.m 5 11]
 (.ret [4, 5]))
 .skip)))
 (.join [1] (.g [.m 12 1,
.v 13 .lss 12 0]
 (.i 13 (.g [.c 4 0,
.c 5 6]
 (.ret [4, 5]))
 .skip))
 (.g [.m 14 1,
.m 4 14,
.c 5 0]
 (.ret [4, 5]))))))⟩ := by kernel_rfl
def B82_0 : Cd := (.join [1, 2, 5] (.g [.m 6 5,
.a 7 6 2,
.l 8 7,
.u 9 8,
.b 10 .lss 6 9]
 (.i 10 .skip
 (.exit [] 0)))
 (.join [1, 2, 5] (.block 1 (.g [.a 13 6 2,
.l 14 13,
.m 15 5,
.r 16 3 14 15,
.a 17 0 16,
.l 18 17,
.m 19 1,
.b 20 .eql 18 19]
 (.i 20 (.g [.m 21 5,
.m 4 21]
 (.ret [4]))
 .skip)))
 (.reg [.m 11 5,
.v 12 .add 11 1,
.m 5 12])))
theorem F82 : compF Tryz.prog 82 = some ⟨22, [.tmp 4], (.g [.q 2 31 0,
.c 4 0]
 (.z [2] (.join [] (.g [.c 5 0]
 (.block 0 (.loop [1, 2, 5] [] B82_0)))
 (.g [.c 4 (-1)]
 (.ret [4])))))⟩ := by kernel_rfl
theorem F83 : compF Tryz.prog 83 = some ⟨23, [.tmp 8, .tmp 9], (.g [.q 4 31 0,
.q 6 3 2,
.q 7 134 3,
.c 8 0,
.c 9 0]
 (.z [4, 6, 7] (.join [1, 6, 7] (.g [.d 12 9 4,
.f 13 15 12,
.m 10 13]
 (.g [.m 14 10,
.v 15 .neq 14 0]
 (.i 15 (.g [.m 16 10,
.c 8 0,
.m 9 16]
 (.ret [8, 9]))
 .skip)))
 (.g [.m 17 1,
.s 18 (.mkfn (.func 126) [] [.t 7, .t 6]),
.g' 19 125 17 18,
.m 11 19]
 (.join [11] (.g [.m 20 11,
.v 21 .lss 20 0]
 (.i 21 (.g [.c 8 0,
.c 9 6]
 (.ret [8, 9]))
 .skip))
 (.g [.m 22 11,
.m 8 22,
.c 9 0]
 (.ret [8, 9])))))))⟩ := by kernel_rfl
theorem F84 : compF Tryz.prog 84 = some ⟨5, [.tmp 2], (.g [.q 1 86 0,
.c 2 0]
 (.z [1] (.g [.a 3 0 1,
.l 4 3,
.m 2 4]
 (.ret [2]))))⟩ := by kernel_rfl
def B85_0 : Cd := (.join [1, 2, 5] (.g [.m 6 5,
.a 7 7 2,
.l 8 7,
.u 9 8,
.b 10 .lss 6 9]
 (.i 10 .skip
 (.exit [] 0)))
 (.join [1, 2, 5] (.block 1 (.g [.a 13 7 2,
.l 14 13,
.m 15 5,
.r 16 4 14 15,
.a 17 0 16,
.l 18 17,
.m 19 1,
.b 20 .eql 18 19]
 (.i 20 (.g [.m 21 5,
.m 4 21]
 (.ret [4]))
 .skip)))
 (.reg [.m 11 5,
.v 12 .add 11 1,
.m 5 12])))
theorem F85 : compF Tryz.prog 85 = some ⟨22, [.tmp 4], (.g [.q 2 31 0,
.c 4 0]
 (.z [2] (.join [] (.g [.c 5 0]
 (.block 0 (.loop [1, 2, 5] [] B85_0)))
 (.g [.c 4 (-1)]
 (.ret [4])))))⟩ := by kernel_rfl
theorem F86 : compF Tryz.prog 86 = some ⟨23, [.tmp 8, .tmp 9], (.g [.q 4 31 0,
.q 6 3 2,
.q 7 136 3,
.c 8 0,
.c 9 0]
 (.z [4, 6, 7] (.join [1, 6, 7] (.g [.d 12 9 4,
.f 13 15 12,
.m 10 13]
 (.g [.m 14 10,
.v 15 .neq 14 0]
 (.i 15 (.g [.m 16 10,
.c 8 0,
.m 9 16]
 (.ret [8, 9]))
 .skip)))
 (.g [.m 17 1,
.s 18 (.mkfn (.func 128) [] [.t 7, .t 6]),
.g' 19 127 17 18,
.m 11 19]
 (.join [11] (.g [.m 20 11,
.v 21 .lss 20 0]
 (.i 21 (.g [.c 8 0,
.c 9 6]
 (.ret [8, 9]))
 .skip))
 (.g [.m 22 11,
.m 8 22,
.c 9 0]
 (.ret [8, 9])))))))⟩ := by kernel_rfl
theorem F87 : compF Tryz.prog 87 = some ⟨5, [.tmp 2], (.g [.q 1 89 0,
.c 2 0]
 (.z [1] (.g [.a 3 0 1,
.l 4 3,
.m 2 4]
 (.ret [2]))))⟩ := by kernel_rfl
def B88_0 : Cd := (.join [1, 2, 5] (.g [.m 6 5,
.a 7 8 2,
.l 8 7,
.u 9 8,
.b 10 .lss 6 9]
 (.i 10 .skip
 (.exit [] 0)))
 (.join [1, 2, 5] (.block 1 (.g [.a 13 8 2,
.l 14 13,
.m 15 5,
.r 16 6 14 15,
.a 17 0 16,
.l 18 17,
.m 19 1,
.b 20 .eql 18 19]
 (.i 20 (.g [.m 21 5,
.m 4 21]
 (.ret [4]))
 .skip)))
 (.reg [.m 11 5,
.v 12 .add 11 1,
.m 5 12])))
theorem F88 : compF Tryz.prog 88 = some ⟨22, [.tmp 4], (.g [.q 2 31 0,
.c 4 0]
 (.z [2] (.join [] (.g [.c 5 0]
 (.block 0 (.loop [1, 2, 5] [] B88_0)))
 (.g [.c 4 (-1)]
 (.ret [4])))))⟩ := by kernel_rfl
def B123_0 : Cd := (.g [.b 9 .lss 8 7]
 (.join [0, 1, 7, 8] (.i 9 .skip
 (.exit [] 0))
 (.join [0, 1, 7, 8] (.block 1 (.g [.m 10 8,
.m 5 10]
 (.g [.m 11 1,
.m 12 0,
.m 13 5,
.r 14 3 12 13,
.d 15 3 14,
.s 16 (.call (.t 11) [.t 15])]
 (.i 16 (.g [.m 17 5,
.m 4 17]
 (.ret [4]))
 .skip))))
 (.reg [.v 18 .add 8 1,
.m 8 18]))))
theorem F123 : compF Tryz.prog 123 = some ⟨19, [.tmp 4], (.g [.c 4 0]
 (.join [] (.g [.m 6 0,
.u 7 6,
.c 8 0]
 (.block 0 (.loop [0, 1, 7, 8] [] B123_0)))
 (.g [.c 4 (-1)]
 (.ret [4]))))⟩ := by kernel_rfl
theorem F124 : compF Tryz.prog 124 = some ⟨10, [.tmp 4], (.g [.q 3 83 0,
.k 4 false]
 (.z [3] (.q (.dreg 6 [.l 5 1,
.d 6 3 3,
.s 7 (.call (.t 5) [.t 6]),
.l 8 2,
.b 9 .eql 7 8,
.m 4 9])
 (.ret [4]))))⟩ := by kernel_rfl
def B125_0 : Cd := (.g [.b 9 .lss 8 7]
 (.join [0, 1, 7, 8] (.i 9 .skip
 (.exit [] 0))
 (.join [0, 1, 7, 8] (.block 1 (.g [.m 10 8,
.m 5 10]
 (.g [.m 11 1,
.m 12 0,
.m 13 5,
.r 14 4 12 13,
.d 15 4 14,
.s 16 (.call (.t 11) [.t 15])]
 (.i 16 (.g [.m 17 5,
.m 4 17]
 (.ret [4]))
 .skip))))
 (.reg [.v 18 .add 8 1,
.m 8 18]))))
theorem F125 : compF Tryz.prog 125 = some ⟨19, [.tmp 4], (.g [.c 4 0]
 (.join [] (.g [.m 6 0,
.u 7 6,
.c 8 0]
 (.block 0 (.loop [0, 1, 7, 8] [] B125_0)))
 (.g [.c 4 (-1)]
 (.ret [4]))))⟩ := by kernel_rfl
theorem F126 : compF Tryz.prog 126 = some ⟨10, [.tmp 4], (.g [.q 3 86 0,
.k 4 false]
 (.z [3] (.q (.dreg 6 [.l 5 1,
.d 6 4 3,
.s 7 (.call (.t 5) [.t 6]),
.l 8 2,
.b 9 .eql 7 8,
.m 4 9])
 (.ret [4]))))⟩ := by kernel_rfl
def B127_0 : Cd := (.g [.b 9 .lss 8 7]
 (.join [0, 1, 7, 8] (.i 9 .skip
 (.exit [] 0))
 (.join [0, 1, 7, 8] (.block 1 (.g [.m 10 8,
.m 5 10]
 (.g [.m 11 1,
.m 12 0,
.m 13 5,
.r 14 6 12 13,
.d 15 6 14,
.s 16 (.call (.t 11) [.t 15])]
 (.i 16 (.g [.m 17 5,
.m 4 17]
 (.ret [4]))
 .skip))))
 (.reg [.v 18 .add 8 1,
.m 8 18]))))
theorem F127 : compF Tryz.prog 127 = some ⟨19, [.tmp 4], (.g [.c 4 0]
 (.join [] (.g [.m 6 0,
.u 7 6,
.c 8 0]
 (.block 0 (.loop [0, 1, 7, 8] [] B127_0)))
 (.g [.c 4 (-1)]
 (.ret [4]))))⟩ := by kernel_rfl
theorem F128 : compF Tryz.prog 128 = some ⟨10, [.tmp 4], (.g [.q 3 89 0,
.k 4 false]
 (.z [3] (.q (.dreg 6 [.l 5 1,
.d 6 6 3,
.s 7 (.call (.t 5) [.t 6]),
.l 8 2,
.b 9 .eql 7 8,
.m 4 9])
 (.ret [4]))))⟩ := by kernel_rfl
end Go.Proofs.YtflbieghmgobgaaGreatDoor

namespace Go.Proofs.YtflbieghmgobgaaGreatDoor
open Go.Sha
set_option maxRecDepth 100000
variable {g : List (Nat × Obj)} {n : Nat}
def fndI' (c i : Int) : Int := if ¬ c = 0 then 0 else if i < 0 then 0 else i
def fndE (c i : Int) : Int := if ¬ c = 0 then c else if i < 0 then 6 else 0
theorem f81 {s : Sho} {i : Int} (h : s.ok) {st : St} : run Tryz.prog HH 81 [s.v, .int .i64 i] st = some (.ret (.tup [.int .i64 (fndI' (shoC s) i), .int .i64 (fndE (shoC s) i)]), st) := by
 have h16 := fun (st : St) => f16 (st := st) h
 push_cast [Sho.v] at h16
 rw [run_shut F81 rfl rfl (by simp)]
 push_cast [Sho.v, h16, fndI', fndE]
theorem f80 {x : Lst} {st : St} : run Tryz.prog HH 80 [x.v] st = some (.ret (.int .i64 x.num), st) := by
 rw [run_shut F80 rfl rfl (by simp)]
 push_cast [Lst.v]
theorem f124 {x : Lst} {v : Int} {st : St} : run Tryz.prog HH 124 [x.v, .ep (.agg [.fn (.func 80) [] []]) 0, .ep (.agg [.int .i64 v]) 0] st = some (.ret (.bool (x.num == v)), st) := by
 have h := fun (st : St) => f80 (x := x) (st := st)
 push_cast [Lst.v] at h
 rw [run_shut F124 rfl rfl (by simp)]
 push_cast [Lst.v, h]
theorem f123 {l : List Lst} {v : Int} (hl : l.length < 140737488355328) {st : St} : run Tryz.prog HH 123 [.sl (l.map Lst.v), .fn (.func 124) [] [.ep (.agg [.fn (.func 80) [] []]) 0, .ep (.agg [.int .i64 v]) 0]] st = some (.ret (.int .i64 (ix (fun x => x.num == v) l 0)), st) :=
 IxF (f := Lst.v) (n := some 3) (fun _ => rfl) (fun _ => rfl) F123 rfl (by simp) hl (fun q _ _ => f124) (fun _ _ => rfl) (fun _ => rfl)
theorem f79 {s : Sho} {v : Int} (h : s.ok) {st : St} : run Tryz.prog HH 79 [s.v, .sl (s.lsts.map Lst.v), .int .i64 v, .fn (.func 80) [] []] st = some (.ret (.tup [.int .i64 (fndI' (shoC s) (ix (fun x => x.num == v) s.lsts 0)), .int .i64 (fndE (shoC s) (ix (fun x => x.num == v) s.lsts 0))]), st) := by
 have h15 := fun (st : St) => f15 (st := st) h
 have hi := fun (st : St) => f123 (v := v) (st := st) h.k.1
 push_cast [Sho.v] at h15
 rw [run_shut F79 rfl rfl (by simp)]
 push_cast [Sho.v, h15, hi, fndI', fndE]
theorem f39 {s : Sho} {v : Int} (h : s.ok) {st : St} : run Tryz.prog HH 39 [s.v, .int .i64 v] st = some (.ret (.tup [.int .i64 (fndI' (shoC s) (ix (fun x => x.num == v) s.lsts 0)), .int .i64 (fndE (shoC s) (ix (fun x => x.num == v) s.lsts 0))]), st) := by
 have h1 := fun (st : St) => f79 (v := v) (st := st) h
 push_cast [Sho.v] at h1
 rw [run_shut F39 rfl rfl (by simp)]
 push_cast [Sho.v, h1]
theorem L82 {s : Sho} {v : Int} (h0 : s.ok) : ∀ r j, s.lsts.drop j = r → runL Tryz.prog HH [1, 2, 5] n B82_0 [(1, .int .i64 v), (2, .ep s.v 0), (5, .int .i64 j)] (stN g n) = lpI (stN g n) [] 4 (ix (fun x => x.num == v) r j) := by
 have hl := h0.k.1
 refine drop_ind (fun j h => ?_) (fun q r j h hx hd ih => ?_)
 all_goals rw [runL_of B82_0.eq_1]
 ·have h1 : ¬ (j : Int) < s.lsts.length := by omega
  push_cast [h1, ix, Sho.v, Lst.v]
 ·have h1 : (j : Int) < s.lsts.length := by omega
  have hw := iw1 (j := j) (by omega)
  push_cast [h1, hw, hx, Sho.v, Lst.v] at ih ⊢
  simp only [ih, ix, lps, Int.reduceEq, not_false_eq_true]
  all_goals ((repeat' split) <;> simp_all)
theorem f82 {s : Sho} {v : Int} (h : s.ok) {st : St} : run Tryz.prog HH 82 [s.v, .int .i64 v] st = some (.ret (.int .i64 (ix (fun x => x.num == v) s.lsts 0)), st) := by
 rw [run_shut F82 rfl rfl (by simp)]
 have hL0 := fun n => L82 (g := st.x.gl) (n := n) (v := v) h _ 0 rfl
 push_cast [Sho.v] at hL0
 push_cast [Sho.v, hL0, lpE, lpX, lpI, lpB]
theorem f40 {s : Sho} {v : Int} (h : s.ok) {st : St} : run Tryz.prog HH 40 [s.v, .int .i64 v] st = some (.ret (.tup [.int .i64 (fndI' (shoC s) (ix (fun x => x.num == v) s.lsts 0)), .int .i64 (fndE (shoC s) (ix (fun x => x.num == v) s.lsts 0))]), st) := by
 have h1 := fun (st : St) => f82 (v := v) (st := st) h
 have h2 := fun (st : St) (i : Int) => f81 (i := i) (st := st) h
 push_cast [Sho.v] at h1 h2
 rw [run_shut F40 rfl rfl (by simp)]
 push_cast [Sho.v, h1, h2]
theorem f84 {x : Sb} {st : St} : run Tryz.prog HH 84 [x.v] st = some (.ret (.int .i64 x.num), st) := by
 rw [run_shut F84 rfl rfl (by simp)]
 push_cast [Sb.v]
theorem f126 {x : Sb} {v : Int} {st : St} : run Tryz.prog HH 126 [x.v, .ep (.agg [.fn (.func 84) [] []]) 0, .ep (.agg [.int .i64 v]) 0] st = some (.ret (.bool (x.num == v)), st) := by
 have h := fun (st : St) => f84 (x := x) (st := st)
 push_cast [Sb.v] at h
 rw [run_shut F126 rfl rfl (by simp)]
 push_cast [Sb.v, h]
theorem f125 {l : List Sb} {v : Int} (hl : l.length < 140737488355328) {st : St} : run Tryz.prog HH 125 [.sl (l.map Sb.v), .fn (.func 126) [] [.ep (.agg [.fn (.func 84) [] []]) 0, .ep (.agg [.int .i64 v]) 0]] st = some (.ret (.int .i64 (ix (fun x => x.num == v) l 0)), st) :=
 IxF (f := Sb.v) (n := some 4) (fun _ => rfl) (fun _ => rfl) F125 rfl (by simp) hl (fun q _ _ => f126) (fun _ _ => rfl) (fun _ => rfl)
theorem f83 {s : Sho} {v : Int} (h : s.ok) {st : St} : run Tryz.prog HH 83 [s.v, .sl (s.subs.map Sb.v), .int .i64 v, .fn (.func 84) [] []] st = some (.ret (.tup [.int .i64 (fndI' (shoC s) (ix (fun x => x.num == v) s.subs 0)), .int .i64 (fndE (shoC s) (ix (fun x => x.num == v) s.subs 0))]), st) := by
 have h15 := fun (st : St) => f15 (st := st) h
 have hi := fun (st : St) => f125 (v := v) (st := st) h.s.1
 push_cast [Sho.v] at h15
 rw [run_shut F83 rfl rfl (by simp)]
 push_cast [Sho.v, h15, hi, fndI', fndE]
theorem f41 {s : Sho} {v : Int} (h : s.ok) {st : St} : run Tryz.prog HH 41 [s.v, .int .i64 v] st = some (.ret (.tup [.int .i64 (fndI' (shoC s) (ix (fun x => x.num == v) s.subs 0)), .int .i64 (fndE (shoC s) (ix (fun x => x.num == v) s.subs 0))]), st) := by
 have h1 := fun (st : St) => f83 (v := v) (st := st) h
 push_cast [Sho.v] at h1
 rw [run_shut F41 rfl rfl (by simp)]
 push_cast [Sho.v, h1]
theorem L85 {s : Sho} {v : Int} (h0 : s.ok) : ∀ r j, s.subs.drop j = r → runL Tryz.prog HH [1, 2, 5] n B85_0 [(1, .int .i64 v), (2, .ep s.v 0), (5, .int .i64 j)] (stN g n) = lpI (stN g n) [] 4 (ix (fun x => x.num == v) r j) := by
 have hl := h0.s.1
 refine drop_ind (fun j h => ?_) (fun q r j h hx hd ih => ?_)
 all_goals rw [runL_of B85_0.eq_1]
 ·have h1 : ¬ (j : Int) < s.subs.length := by omega
  push_cast [h1, ix, Sho.v, Sb.v]
 ·have h1 : (j : Int) < s.subs.length := by omega
  have hw := iw1 (j := j) (by omega)
  push_cast [h1, hw, hx, Sho.v, Sb.v] at ih ⊢
  simp only [ih, ix, lps, Int.reduceEq, not_false_eq_true]
  all_goals ((repeat' split) <;> simp_all)
theorem f85 {s : Sho} {v : Int} (h : s.ok) {st : St} : run Tryz.prog HH 85 [s.v, .int .i64 v] st = some (.ret (.int .i64 (ix (fun x => x.num == v) s.subs 0)), st) := by
 rw [run_shut F85 rfl rfl (by simp)]
 have hL0 := fun n => L85 (g := st.x.gl) (n := n) (v := v) h _ 0 rfl
 push_cast [Sho.v] at hL0
 push_cast [Sho.v, hL0, lpE, lpX, lpI, lpB]
theorem f42 {s : Sho} {v : Int} (h : s.ok) {st : St} : run Tryz.prog HH 42 [s.v, .int .i64 v] st = some (.ret (.tup [.int .i64 (fndI' (shoC s) (ix (fun x => x.num == v) s.subs 0)), .int .i64 (fndE (shoC s) (ix (fun x => x.num == v) s.subs 0))]), st) := by
 have h1 := fun (st : St) => f85 (v := v) (st := st) h
 have h2 := fun (st : St) (i : Int) => f81 (i := i) (st := st) h
 push_cast [Sho.v] at h1 h2
 rw [run_shut F42 rfl rfl (by simp)]
 push_cast [Sho.v, h1, h2]
theorem f87 {x : Eff} {st : St} : run Tryz.prog HH 87 [x.v] st = some (.ret (.int .i64 x.num), st) := by
 rw [run_shut F87 rfl rfl (by simp)]
 push_cast [Eff.v]
theorem f128 {x : Eff} {v : Int} {st : St} : run Tryz.prog HH 128 [x.v, .ep (.agg [.fn (.func 87) [] []]) 0, .ep (.agg [.int .i64 v]) 0] st = some (.ret (.bool (x.num == v)), st) := by
 have h := fun (st : St) => f87 (x := x) (st := st)
 push_cast [Eff.v] at h
 rw [run_shut F128 rfl rfl (by simp)]
 push_cast [Eff.v, h]
theorem f127 {l : List Eff} {v : Int} (hl : l.length < 140737488355328) {st : St} : run Tryz.prog HH 127 [.sl (l.map Eff.v), .fn (.func 128) [] [.ep (.agg [.fn (.func 87) [] []]) 0, .ep (.agg [.int .i64 v]) 0]] st = some (.ret (.int .i64 (ix (fun x => x.num == v) l 0)), st) :=
 IxF (f := Eff.v) (n := some 6) (fun _ => rfl) (fun _ => rfl) F127 rfl (by simp) hl (fun q _ _ => f128) (fun _ _ => rfl) (fun _ => rfl)
theorem f86 {s : Sho} {v : Int} (h : s.ok) {st : St} : run Tryz.prog HH 86 [s.v, .sl (s.effs.map Eff.v), .int .i64 v, .fn (.func 87) [] []] st = some (.ret (.tup [.int .i64 (fndI' (shoC s) (ix (fun x => x.num == v) s.effs 0)), .int .i64 (fndE (shoC s) (ix (fun x => x.num == v) s.effs 0))]), st) := by
 have h15 := fun (st : St) => f15 (st := st) h
 have hi := fun (st : St) => f127 (v := v) (st := st) h.e.1
 push_cast [Sho.v] at h15
 rw [run_shut F86 rfl rfl (by simp)]
 push_cast [Sho.v, h15, hi, fndI', fndE]
theorem f43 {s : Sho} {v : Int} (h : s.ok) {st : St} : run Tryz.prog HH 43 [s.v, .int .i64 v] st = some (.ret (.tup [.int .i64 (fndI' (shoC s) (ix (fun x => x.num == v) s.effs 0)), .int .i64 (fndE (shoC s) (ix (fun x => x.num == v) s.effs 0))]), st) := by
 have h1 := fun (st : St) => f86 (v := v) (st := st) h
 push_cast [Sho.v] at h1
 rw [run_shut F43 rfl rfl (by simp)]
 push_cast [Sho.v, h1]
theorem L88 {s : Sho} {v : Int} (h0 : s.ok) : ∀ r j, s.effs.drop j = r → runL Tryz.prog HH [1, 2, 5] n B88_0 [(1, .int .i64 v), (2, .ep s.v 0), (5, .int .i64 j)] (stN g n) = lpI (stN g n) [] 4 (ix (fun x => x.num == v) r j) := by
 have hl := h0.e.1
 refine drop_ind (fun j h => ?_) (fun q r j h hx hd ih => ?_)
 all_goals rw [runL_of B88_0.eq_1]
 ·have h1 : ¬ (j : Int) < s.effs.length := by omega
  push_cast [h1, ix, Sho.v, Eff.v]
 ·have h1 : (j : Int) < s.effs.length := by omega
  have hw := iw1 (j := j) (by omega)
  push_cast [h1, hw, hx, Sho.v, Eff.v] at ih ⊢
  simp only [ih, ix, lps, Int.reduceEq, not_false_eq_true]
  all_goals ((repeat' split) <;> simp_all)
theorem f88 {s : Sho} {v : Int} (h : s.ok) {st : St} : run Tryz.prog HH 88 [s.v, .int .i64 v] st = some (.ret (.int .i64 (ix (fun x => x.num == v) s.effs 0)), st) := by
 rw [run_shut F88 rfl rfl (by simp)]
 have hL0 := fun n => L88 (g := st.x.gl) (n := n) (v := v) h _ 0 rfl
 push_cast [Sho.v] at hL0
 push_cast [Sho.v, hL0, lpE, lpX, lpI, lpB]
theorem f44 {s : Sho} {v : Int} (h : s.ok) {st : St} : run Tryz.prog HH 44 [s.v, .int .i64 v] st = some (.ret (.tup [.int .i64 (fndI' (shoC s) (ix (fun x => x.num == v) s.effs 0)), .int .i64 (fndE (shoC s) (ix (fun x => x.num == v) s.effs 0))]), st) := by
 have h1 := fun (st : St) => f88 (v := v) (st := st) h
 have h2 := fun (st : St) (i : Int) => f81 (i := i) (st := st) h
 push_cast [Sho.v] at h1 h2
 rw [run_shut F44 rfl rfl (by simp)]
 push_cast [Sho.v, h1, h2]
end Go.Proofs.YtflbieghmgobgaaGreatDoor

namespace Go.Proofs.YtflbieghmgobgaaGreatDoor
open Go.Sha
set_option maxRecDepth 10000
theorem F3 : compF Tryz.prog 3 = some ⟨39, [.tmp 2], (.g [.q 1 31 0,
.k 2 false]
 (.z [1] (.join [1] (.g [.d 7 9 1,
.f 8 11 7,
.z 9 8]
 (.i 9 (.g [.s 10 (.f 12 []),
.m 2 10]
 (.ret [2]))
 .skip))
 (.g [.d 12 9 1,
.f 13 13 12,
.m 11 13,
.j 14 0 11,
.j 15 1 11,
.m 3 14,
.m 4 15]
 (.g [.d 17 9 1,
.f 18 14 17,
.m 16 18,
.j 19 0 16,
.j 20 1 16,
.m 5 19,
.m 6 20]
 (.join [2] (.dreg 19 [.d 21 9 1,
.f 22 15 21,
.d 23 9 1,
.f 24 16 23,
.b 25 .eql 22 24,
.m 26 25,
.my 27 3 26,
.my 28 5 26,
.y 29 (.f 17 [.t 27, .t 28]) 26,
.e 30 26 29,
.m 31 30,
.my 32 4 31,
.my 33 6 31,
.by' 34 .eql 32 33 31,
.e 35 31 34,
.m 36 35,
.y 37 (.f 12 []) 36,
.e 38 36 37,
.m 2 38])
 (.ret [2])))))))⟩ := by kernel_rfl
theorem F4 : compF Tryz.prog 4 = some ⟨40, [.tmp 6], (.g [.q 3 31 0,
.q 4 44 1,
.q 5 46 2,
.k 6 false]
 (.z [3, 4, 5] (.join [3, 4, 5] (.g [.d 11 9 3,
.f 12 11 11,
.z 13 12]
 (.i 13 (.g [.s 14 (.f 12 []),
.m 6 14]
 (.ret [6]))
 .skip))
 (.g [.d 16 9 3,
.d 17 2 4,
.d 18 2 5,
.s 19 (.f 18 [.t 16, .t 17, .t 18]),
.m 15 19,
.j 20 0 15,
.j 21 1 15,
.m 7 20,
.m 8 21]
 (.g [.d 23 9 3,
.d 24 2 4,
.d 25 2 5,
.s 26 (.f 19 [.t 23, .t 24, .t 25]),
.m 22 26,
.j 27 0 22,
.j 28 1 22,
.m 9 27,
.m 10 28]
 (.join [6] (.reg [.m 29 7,
.m 30 9,
.b 31 .eql 29 30,
.m 32 31,
.my 33 8 32,
.my 34 10 32,
.by' 35 .eql 33 34 32,
.e 36 32 35,
.m 37 36,
.y 38 (.f 12 []) 37,
.e 39 37 38,
.m 6 39])
 (.ret [6])))))))⟩ := by kernel_rfl
def B5_0 : Cd := (.g [.b 54 .lss 53 52]
 (.join [2, 5, 51, 52, 53] (.i 54 .skip
 (.exit [] 0))
 (.join [2, 5, 51, 52, 53] (.block 1 (.g [.m 55 53,
.r 56 2 51 53,
.d 57 2 56,
.s 10 (.alloc 44 [.i 0, .i 0]),
.m 9 55,
.w 2 10 57]
 (.z [10] (.g [.d 59 9 2,
.d 60 2 10,
.g' 61 22 59 60,
.m 58 61,
.j 62 0 58,
.j 63 1 58,
.j 64 2 58,
.s 11 (.alloc 55 [.i 0, .i 0, .i 0, .i 0, .i 0, .i 0, .i 0, .i 0, (.bool false), .nils]),
.w 10 11 62,
.m 12 63,
.m 13 64]
 (.z [11] (.g [.d 66 9 2,
.d 67 2 10,
.g' 68 24 66 67,
.m 65 68,
.j 69 0 65,
.j 70 1 65,
.j 71 2 65,
.m 14 69,
.m 15 70,
.m 16 71]
 (.g [.d 73 9 2,
.d 74 2 10,
.s 75 (.build [.i 0, .i 0] [(0, 1, (.i (-1)))]),
.s 76 (.f 18 [.t 73, .t 74, .t 75]),
.m 72 76,
.j 77 0 72,
.j 78 1 72,
.m 17 77,
.m 18 78]
 (.join [2, 5, 9, 10, 51, 52, 53] (.join [2, 5, 9, 10, 51, 52, 53, 118] (.reg [.m 79 13,
.m 80 16,
.b 81 .add 79 80,
.m 82 18,
.b 83 .add 81 82,
.v 84 .neq 83 0,
.m 85 84,
.mx 86 12 85,
.x 87 (.un .not (.t 86)) 85,
.o 88 85 87,
.m 89 88,
.mx 90 15 89,
.x 91 (.un .not (.t 90)) 89,
.o 92 89 91,
.m 93 92,
.mx 94 14 93,
.ax 95 5 11 93,
.lx 96 95 93,
.bx 97 .neq 94 96 93,
.o 98 93 97,
.m 99 98,
.ax 100 0 11 99,
.lx 101 100 99,
.ax 102 1 10 99,
.lx 103 102 99,
.bx 104 .neq 101 103 99,
.o 105 99 104,
.m 106 105,
.mx 107 14 106,
.vx 108 .lss 107 0 106,
.o 109 106 108,
.m 110 109,
.mx 111 14 110,
.vx 112 .gtr 111 65535 110,
.o 113 110 112,
.m 114 113,
.mx 115 17 114,
.mx 116 14 114,
.bx 117 .neq 115 116 114,
.o 118 114 117])
 (.i 118 (.g [.k 4 false]
 (.ret [4]))
 .skip))
 (.join [2, 5, 51, 52, 53, 153] (.dreg 35 [.m 119 9,
.v 120 .gtr 119 0,
.m 121 120,
.my 122 5 121,
.my 123 9 121,
.vy 124 .sub 123 1 121,
.ry 125 2 122 124 121,
.ay 126 0 125 121,
.ly 127 126 121,
.ay 128 0 10 121,
.ly 129 128 121,
.by' 130 .gtr 127 129 121,
.my 131 130 121,
.mx 132 5 131,
.mx 133 9 131,
.vx 134 .sub 133 1 131,
.x 135 (.iadr 2 (.t 132) (.t 134)) 131,
.ax 136 0 135 131,
.lx 137 136 131,
.ax 138 0 10 131,
.lx 139 138 131,
.bx 140 .eql 137 139 131,
.mx 141 140 131,
.my 142 5 141,
.my 143 9 141,
.vy 144 .sub 143 1 141,
.ry 145 2 142 144 141,
.ay 146 1 145 141,
.ly 147 146 141,
.ay 148 1 10 141,
.ly 149 148 141,
.by' 150 .geq 147 149 141,
.x 151 (.pick (.t 141) (.t 150) (.c (.bool false))) 131,
.y 152 (.pick (.t 131) (.c (.bool true)) (.t 151)) 121,
.e 153 121 152])
 (.i 153 (.g [.k 4 false]
 (.ret [4]))
 .skip))))))))))
 (.reg [.v 154 .add 53 1,
.m 53 154]))))
theorem F5 : compF Tryz.prog 5 = some ⟨156, [.tmp 4], (.g [.q 2 31 0,
.q 3 44 1,
.k 4 false]
 (.z [2, 3] (.join [2, 3] (.join [2, 3, 26] (.reg [.d 19 9 2,
.f 20 20 19,
.z 21 20,
.m 22 21,
.x 23 (.load (some 2) (.t 3)) 22,
.x 24 (.f 21 [.t 23]) 22,
.vx 25 .neq 24 0 22,
.o 26 22 25])
 (.i 26 (.g [.s 27 (.f 12 []),
.m 4 27]
 (.ret [4]))
 .skip))
 (.g [.d 29 9 2,
.f 30 13 29,
.m 28 30,
.j 31 0 28,
.j 32 1 28,
.m 5 31,
.m 6 32]
 (.join [2, 3, 5] (.g [.m 33 6,
.v 34 .neq 33 0]
 (.i 34 (.g [.k 4 false]
 (.ret [4]))
 .skip))
 (.g [.d 36 9 2,
.d 37 2 3,
.g' 38 22 36 37,
.m 35 38,
.j 39 0 35,
.j 40 1 35,
.j 41 2 35,
.s 7 (.alloc 55 [.i 0, .i 0, .i 0, .i 0, .i 0, .i 0, .i 0, .i 0, (.bool false), .nils]),
.w 10 7 39,
.m 8 40,
.m 6 41]
 (.z [7] (.join [2, 5] (.join [2, 5, 50] (.reg [.m 42 6,
.v 43 .neq 42 0,
.m 44 43,
.mx 45 8 44,
.mx 46 5 44,
.x 47 (.load (some 2) (.t 3)) 44,
.x 48 (.f 23 [.t 46, .t 47]) 44,
.x 49 (.eqb true (.t 45) (.t 48)) 44,
.o 50 44 49])
 (.i 50 (.g [.k 4 false]
 (.ret [4]))
 .skip))
 (.join [] (.g [.m 51 5,
.u 52 51,
.c 53 0]
 (.block 0 (.loop [2, 5, 51, 52, 53] [] B5_0)))
 (.g [.s 155 (.f 12 []),
.m 4 155]
 (.ret [4])))))))))))⟩ := by kernel_rfl
def B6_0 : Cd := (.g [.b 31 .lss 30 29]
 (.join [1, 4, 5, 28, 29, 30] (.i 31 .skip
 (.exit [1, 4, 5] 0))
 (.join [1, 4, 5, 28, 29, 30] (.block 1 (.g [.r 32 1 28 30,
.l 33 32,
.m 7 33]
 (.g [.m 34 7,
.s 35 (.call (.t 34) [])]
 (.g [.d 36 9 1,
.f 37 15 36,
.v 38 .neq 37 0]
 (.i 38 (.g [.k 2 false]
 (.ret [2]))
 .skip)))))
 (.reg [.v 39 .add 30 1,
.m 30 39]))))
theorem F6 : compF Tryz.prog 6 = some ⟨77, [.tmp 2], (.g [.q 1 31 0,
.k 2 false]
 (.join [1] (.g [.d 12 9 1,
.f 13 20 12,
.z 14 13]
 (.i 14 (.g [.s 15 (.f 12 []),
.m 2 15]
 (.ret [2]))
 .skip))
 (.g [.s 16 (.mkfn (.func 25) [] [.t 1]),
.s 17 (.mkfn (.func 26) [] [.t 1]),
.s 18 (.mkfn (.func 27) [] [.t 1]),
.s 19 (.mkfn (.func 28) [] [.t 1]),
.s 20 (.mkfn (.func 29) [] [.t 1]),
.s 21 (.mkfn (.func 30) [] [.t 1]),
.s 22 (.bslice 1 1 [.t 16, .t 17, .t 18, .t 19, .t 20, .t 21]),
.m 3 22]
 (.g [.d 24 9 1,
.f 25 13 24,
.m 23 25,
.j 26 0 23,
.j 27 1 23,
.m 4 26,
.m 5 27]
 (.join [1, 4, 5] (.g [.m 28 3,
.u 29 28,
.c 30 0]
 (.block 0 (.loop [1, 4, 5, 28, 29, 30] [] B6_0)))
 (.g [.d 41 9 1,
.f 42 13 41,
.m 40 42,
.j 43 0 40,
.j 44 1 40,
.m 8 43,
.m 9 44]
 (.g [.a 45 3 1,
.n (.store 1 (.t 45) (.c .nils))]
 (.g [.d 47 9 1,
.f 48 13 47,
.m 46 48,
.j 49 0 46,
.j 50 1 46,
.m 10 49,
.m 11 50]
 (.g [.a 51 2 1,
.n (.store 1 (.t 51) (.c .nils)),
.a 52 1 1,
.n (.store 1 (.t 52) (.c .nils))]
 (.join [2] (.reg [.m 53 5,
.m 54 9,
.b 55 .add 53 54,
.m 56 11,
.b 57 .add 55 56,
.v 58 .eql 57 0,
.m 59 58,
.my 60 4 59,
.my 61 8 59,
.y 62 (.f 17 [.t 60, .t 61]) 59,
.e 63 59 62,
.m 64 63,
.my 65 10 64,
.y 66 (.len (.t 65)) 64,
.vy 67 .eql 66 0 64,
.e 68 64 67,
.m 69 68,
.y 70 (.load (some 9) (.t 1)) 69,
.y 71 (.f 15 [.t 70]) 69,
.vy 72 .eql 71 0 69,
.e 73 69 72,
.m 74 73,
.y 75 (.f 12 []) 74,
.e 76 74 75,
.m 2 76])
 (.ret [2])))))))))))⟩ := by kernel_rfl
theorem F7 : compF Tryz.prog 7 = some ⟨116, [.tmp 6], (.g [.q 3 31 0,
.q 4 44 1,
.q 5 46 2,
.k 6 false]
 (.z [4, 5] (.join [3, 4, 5] (.join [3, 4, 5, 26] (.reg [.d 14 9 3,
.f 15 20 14,
.z 16 15,
.m 17 16,
.x 18 (.load (some 2) (.t 4)) 17,
.x 19 (.f 21 [.t 18]) 17,
.vx 20 .neq 19 0 17,
.o 21 17 20,
.m 22 21,
.x 23 (.load (some 2) (.t 5)) 22,
.x 24 (.f 31 [.t 23]) 22,
.vx 25 .neq 24 0 22,
.o 26 22 25])
 (.i 26 (.g [.s 27 (.f 12 []),
.m 6 27]
 (.ret [6]))
 .skip))
 (.g [.d 29 9 3,
.d 30 2 4,
.d 31 2 5,
.s 32 (.f 18 [.t 29, .t 30, .t 31]),
.m 28 32,
.j 33 0 28,
.j 34 1 28,
.m 7 33,
.m 8 34]
 (.g [.d 36 9 3,
.d 37 2 4,
.g' 38 24 36 37,
.m 35 38,
.j 39 0 35,
.j 40 1 35,
.j 41 2 35,
.m 9 39,
.m 10 40,
.m 11 41]
 (.join [3, 4, 5, 7, 9] (.join [3, 4, 5, 7, 9, 66] (.reg [.m 42 8,
.v 43 .neq 42 0,
.m 44 43,
.mx 45 11 44,
.vx 46 .neq 45 0 44,
.o 47 44 46,
.m 48 47,
.mx 49 7 48,
.vx 50 .lss 49 0 48,
.o 51 48 50,
.m 52 51,
.mx 53 7 52,
.vx 54 .gtr 53 65535 52,
.o 55 52 54,
.m 56 55,
.ax 57 0 5 56,
.lx 58 57 56,
.vx 59 .eql 58 0 56,
.mx 60 59 56,
.my 61 7 60,
.ay 62 1 5 60,
.ly 63 62 60,
.by' 64 .neq 61 63 60,
.x 65 (.pick (.t 60) (.t 64) (.c (.bool false))) 56,
.o 66 56 65])
 (.i 66 (.g [.k 6 false]
 (.ret [6]))
 .skip))
 (.g [.a 67 5 3,
.l 68 67,
.s 69 (.mkfn (.func 33) [] [.t 5]),
.g' 70 32 68 69,
.m 12 70]
 (.join [3, 4, 5, 7, 9] (.join [3, 4, 5, 7, 9, 82] (.reg [.a 71 0 5,
.l 72 71,
.v 73 .neq 72 0,
.m 74 73,
.my 75 12 74,
.y 76 (.un .not (.t 75)) 74,
.e 77 74 76,
.m 78 77,
.my 79 7 78,
.my 80 9 78,
.by' 81 .neq 79 80 78,
.e 82 78 81])
 (.i 82 (.g [.k 6 false]
 (.ret [6]))
 .skip))
 (.g [.a 83 5 3,
.n (.store 1 (.t 83) (.c .nils))]
 (.g [.d 85 9 3,
.d 86 2 4,
.d 87 2 5,
.s 88 (.f 18 [.t 85, .t 86, .t 87]),
.m 84 88,
.j 89 0 84,
.j 90 1 84,
.m 13 89,
.m 8 90]
 (.join [6] (.reg [.m 91 8,
.v 92 .eql 91 0,
.m 93 92,
.ay 94 0 5 93,
.ly 95 94 93,
.vy 96 .eql 95 0 93,
.my 97 96 93,
.my 98 13 97,
.my 99 7 97,
.by' 100 .eql 98 99 97,
.y 101 (.pick (.t 97) (.t 100) (.c (.bool false))) 93,
.my 102 101 93,
.ax 103 0 5 102,
.lx 104 103 102,
.vx 105 .neq 104 0 102,
.mx 106 105 102,
.my 107 13 106,
.my 108 9 106,
.by' 109 .eql 107 108 106,
.x 110 (.pick (.t 106) (.t 109) (.c (.bool false))) 102,
.y 111 (.pick (.t 102) (.c (.bool true)) (.t 110)) 93,
.e 112 93 111,
.m 113 112,
.y 114 (.f 12 []) 113,
.e 115 113 114,
.m 6 115])
 (.ret [6]))))))))))))⟩ := by kernel_rfl
theorem F8 : compF Tryz.prog 8 = some ⟨106, [.tmp 4], (.g [.q 2 31 0,
.q 3 44 1,
.k 4 false]
 (.z [2, 3] (.join [2, 3] (.g [.d 21 9 2,
.f 22 11 21,
.z 23 22]
 (.i 23 (.g [.s 24 (.f 12 []),
.m 4 24]
 (.ret [4]))
 .skip))
 (.g [.d 26 9 2,
.d 27 2 3,
.g' 28 22 26 27,
.m 25 28,
.j 29 0 25,
.j 30 1 25,
.j 31 2 25,
.s 5 (.alloc 55 [.i 0, .i 0, .i 0, .i 0, .i 0, .i 0, .i 0, .i 0, (.bool false), .nils]),
.w 10 5 29,
.m 6 30,
.m 7 31]
 (.z [5] (.g [.d 33 9 2,
.d 34 2 3,
.g' 35 34 33 34,
.m 32 35,
.j 36 0 32,
.j 37 1 32,
.j 38 2 32,
.s 8 (.alloc 55 [.i 0, .i 0, .i 0, .i 0, .i 0, .i 0, .i 0, .i 0, (.bool false), .nils]),
.w 10 8 36,
.m 9 37,
.m 10 38]
 (.z [8] (.g [.d 40 9 2,
.d 41 2 3,
.g' 42 24 40 41,
.m 39 42,
.j 43 0 39,
.j 44 1 39,
.j 45 2 39,
.m 11 43,
.m 12 44,
.m 13 45]
 (.g [.d 47 9 2,
.d 48 2 3,
.g' 49 35 47 48,
.m 46 49,
.j 50 0 46,
.j 51 1 46,
.j 52 2 46,
.m 14 50,
.m 15 51,
.m 16 52]
 (.g [.d 54 9 2,
.d 55 2 3,
.g' 56 36 54 55,
.m 53 56,
.j 57 0 53,
.j 58 1 53,
.m 17 57,
.m 18 58]
 (.g [.d 60 9 2,
.d 61 2 3,
.g' 62 37 60 61,
.m 59 62,
.j 63 0 59,
.j 64 1 59,
.m 19 63,
.m 20 64]
 (.join [4] (.reg [.d 65 10 5,
.d 66 10 8,
.g' 67 38 65 66,
.m 68 67,
.my 69 6 68,
.my 70 9 68,
.y 71 (.eqb false (.t 69) (.t 70)) 68,
.e 72 68 71,
.m 73 72,
.my 74 7 73,
.my 75 10 73,
.by' 76 .eql 74 75 73,
.e 77 73 76,
.m 78 77,
.my 79 11 78,
.my 80 14 78,
.by' 81 .eql 79 80 78,
.e 82 78 81,
.m 83 82,
.my 84 12 83,
.my 85 15 83,
.y 86 (.eqb false (.t 84) (.t 85)) 83,
.e 87 83 86,
.m 88 87,
.my 89 13 88,
.my 90 16 88,
.by' 91 .eql 89 90 88,
.e 92 88 91,
.m 93 92,
.my 94 17 93,
.my 95 19 93,
.y 96 (.eqb false (.t 94) (.t 95)) 93,
.e 97 93 96,
.m 98 97,
.my 99 18 98,
.my 100 20 98,
.by' 101 .eql 99 100 98,
.e 102 98 101,
.m 103 102,
.y 104 (.f 12 []) 103,
.e 105 103 104,
.m 4 105])
 (.ret [4])))))))))))))⟩ := by kernel_rfl
theorem F9 : compF Tryz.prog 9 = some ⟨88, [.tmp 4], (.g [.q 2 31 0,
.k 4 false]
 (.z [2] (.join [1, 2] (.g [.d 17 9 2,
.f 18 11 17,
.z 19 18]
 (.i 19 (.g [.s 20 (.f 12 []),
.m 4 20]
 (.ret [4]))
 .skip))
 (.g [.d 22 9 2,
.m 23 1,
.g' 24 39 22 23,
.m 21 24,
.j 25 0 21,
.j 26 1 21,
.m 5 25,
.m 6 26]
 (.g [.d 28 9 2,
.m 29 1,
.g' 30 40 28 29,
.m 27 30,
.j 31 0 27,
.j 32 1 27,
.m 7 31,
.m 8 32]
 (.g [.d 34 9 2,
.m 35 1,
.g' 36 41 34 35,
.m 33 36,
.j 37 0 33,
.j 38 1 33,
.m 9 37,
.m 10 38]
 (.g [.d 40 9 2,
.m 41 1,
.g' 42 42 40 41,
.m 39 42,
.j 43 0 39,
.j 44 1 39,
.m 11 43,
.m 12 44]
 (.g [.d 46 9 2,
.m 47 1,
.g' 48 43 46 47,
.m 45 48,
.j 49 0 45,
.j 50 1 45,
.m 13 49,
.m 14 50]
 (.g [.d 52 9 2,
.m 53 1,
.g' 54 44 52 53,
.m 51 54,
.j 55 0 51,
.j 56 1 51,
.m 15 55,
.m 16 56]
 (.join [4] (.reg [.m 57 5,
.m 58 7,
.b 59 .eql 57 58,
.m 60 59,
.my 61 6 60,
.my 62 8 60,
.by' 63 .eql 61 62 60,
.e 64 60 63,
.m 65 64,
.my 66 9 65,
.my 67 11 65,
.by' 68 .eql 66 67 65,
.e 69 65 68,
.m 70 69,
.my 71 10 70,
.my 72 12 70,
.by' 73 .eql 71 72 70,
.e 74 70 73,
.m 75 74,
.my 76 13 75,
.my 77 15 75,
.by' 78 .eql 76 77 75,
.e 79 75 78,
.m 80 79,
.my 81 14 80,
.my 82 16 80,
.by' 83 .eql 81 82 80,
.e 84 80 83,
.m 85 84,
.y 86 (.f 12 []) 85,
.e 87 85 86,
.m 4 87])
 (.ret [4])))))))))))⟩ := by kernel_rfl
def B10_0 : Cd := (.g [.b 29 .lss 28 27]
 (.join [1, 2, 5, 26, 27, 28] (.i 29 .skip
 (.exit [1, 2, 5] 0))
 (.join [1, 2, 5, 26, 27, 28] (.block 1 (.g [.m 30 28,
.r 31 3 26 28,
.d 32 3 31,
.s 7 (.alloc 83 [.i 0, .i 0, .nils]),
.m 6 30,
.w 3 7 32]
 (.z [7] (.g [.d 34 9 2,
.a 35 0 7,
.l 36 35,
.g' 37 39 34 36,
.m 33 37,
.j 38 0 33,
.j 39 1 33,
.m 8 38,
.m 9 39]
 (.join [1, 2, 5, 7, 26, 27, 28] (.join [1, 2, 5, 7, 26, 27, 28, 46] (.reg [.m 40 9,
.v 41 .neq 40 0,
.m 42 41,
.mx 43 8 42,
.mx 44 6 42,
.bx 45 .neq 43 44 42,
.o 46 42 45])
 (.i 46 (.g [.k 4 false]
 (.ret [4]))
 .skip))
 (.reg [.m 47 5,
.m 48 47,
.ax 49 0 7 48,
.lx 50 49 48,
.mx 51 1 48,
.bx 52 .eql 50 51 48,
.o 53 48 52,
.m 5 53]))))))
 (.reg [.v 54 .add 28 1,
.m 28 54]))))
def B10_1 : Cd := (.g [.b 69 .lss 68 67]
 (.join [2, 66, 67, 68] (.i 69 .skip
 (.exit [2] 2))
 (.join [2, 66, 67, 68] (.block 3 (.g [.m 70 68,
.r 71 4 66 68,
.d 72 4 71,
.s 13 (.alloc 86 [.i 0, .i 0, (.bool false), .nils]),
.m 12 70,
.w 4 13 72]
 (.z [13] (.g [.d 74 9 2,
.a 75 0 13,
.l 76 75,
.g' 77 41 74 76,
.m 73 77,
.j 78 0 73,
.j 79 1 73,
.m 14 78,
.m 15 79]
 (.join [2, 66, 67, 68, 86] (.reg [.m 80 15,
.v 81 .neq 80 0,
.m 82 81,
.mx 83 14 82,
.mx 84 12 82,
.bx 85 .neq 83 84 82,
.o 86 82 85])
 (.i 86 (.g [.k 4 false]
 (.ret [4]))
 .skip))))))
 (.reg [.v 87 .add 68 1,
.m 68 87]))))
def B10_2 : Cd := (.g [.b 92 .lss 91 90]
 (.join [2, 89, 90, 91] (.i 92 .skip
 (.exit [2] 4))
 (.join [2, 89, 90, 91] (.block 5 (.g [.m 93 91,
.r 94 6 89 91,
.d 95 6 94,
.s 17 (.alloc 89 [.i 0, .i 0, .nils, .i 0, .i 0, .i 0]),
.m 16 93,
.w 6 17 95]
 (.z [17] (.g [.d 97 9 2,
.a 98 0 17,
.l 99 98,
.g' 100 43 97 99,
.m 96 100,
.j 101 0 96,
.j 102 1 96,
.m 18 101,
.m 19 102]
 (.join [2, 89, 90, 91, 109] (.reg [.m 103 19,
.v 104 .neq 103 0,
.m 105 104,
.mx 106 18 105,
.mx 107 16 105,
.bx 108 .neq 106 107 105,
.o 109 105 108])
 (.i 109 (.g [.k 4 false]
 (.ret [4]))
 .skip))))))
 (.reg [.v 110 .add 91 1,
.m 91 110]))))
theorem F10 : compF Tryz.prog 10 = some ⟨141, [.tmp 4], (.g [.q 2 31 0,
.k 4 false]
 (.join [1, 2] (.g [.d 21 9 2,
.f 22 20 21,
.z 23 22]
 (.i 23 (.g [.s 24 (.f 12 []),
.m 4 24]
 (.ret [4]))
 .skip))
 (.g [.k 5 false]
 (.join [1, 2, 5] (.g [.a 25 6 2,
.l 26 25,
.u 27 26,
.c 28 0]
 (.block 0 (.loop [1, 2, 5, 26, 27, 28] [] B10_0)))
 (.g [.d 56 9 2,
.m 57 1,
.g' 58 39 56 57,
.m 55 58,
.j 59 0 55,
.j 60 1 55,
.m 10 59,
.m 11 60]
 (.join [2] (.g [.m 61 5,
.m 62 11,
.v 63 .eql 62 0,
.s 64 (.eqb true (.t 61) (.t 63))]
 (.i 64 (.g [.k 4 false]
 (.ret [4]))
 .skip))
 (.join [2] (.g [.a 65 7 2,
.l 66 65,
.u 67 66,
.c 68 0]
 (.block 2 (.loop [2, 66, 67, 68] [] B10_1)))
 (.join [2] (.g [.a 88 8 2,
.l 89 88,
.u 90 89,
.c 91 0]
 (.block 4 (.loop [2, 89, 90, 91] [] B10_2)))
 (.join [] (.g [.a 111 6 2,
.l 112 111,
.u 113 112,
.m 20 113]
 (.join [2, 20, 119] (.reg [.m 114 20,
.v 115 .gtr 114 0,
.m 116 115,
.my 117 20 116,
.vy 118 .lss 117 8 116,
.e 119 116 118])
 (.i 119 (.join [2] (.greg [[], [], [], [], [], [], [], [], [], [], [], [false, false, false, false, false, false, true, true, true, true, true], [false, false, false, false, false, false, false, false, false, false, false, false], [], [false, false, false, false, false, false, false, false, false, false, false, false, false, false]] [.a 120 6 2,
.l 121 120,
.m 122 20,
.m 123 20,
.s 124 (.slice 3 (.t 121) none (some (.t 122)) (some (.t 123))),
.a 125 6 2,
.l 126 125,
.m 127 20,
.v 128 .sub 127 1,
.r 129 3 126 128,
.d 130 3 129,
.s 131 (.bslice 83 3 [.t 130]),
.s 132 (.append 83 3 40 (.t 124) (.t 131)),
.a 133 6 2,
.w 1 133 132])
 (.join [4] (.reg [.d 134 9 2,
.f 135 15 134,
.v 136 .eql 135 9,
.m 137 136,
.y 138 (.f 12 []) 137,
.e 139 137 138,
.m 4 139])
 (.ret [4])))
 .skip)))
 (.g [.s 140 (.f 12 []),
.m 4 140]
 (.ret [4])))))))))))⟩ := by kernel_rfl
theorem F12 : compF Tryz.prog 12 = some ⟨129, [.tmp 0], (.g [.k 0 false]
 (.g [.s 20 (.f 53 []),
.s 1 (.alloc 31 [(.str []), .nils, .nils, .nils, .nils, .nils, .nils, .nils, .nils]),
.w 9 1 20]
 (.z [1] (.g [.d 22 9 1,
.f 23 13 22,
.m 21 23,
.j 24 0 21,
.j 25 1 21,
.m 2 24,
.m 3 25]
 (.q (.dreg 10 [.d 27 9 1,
.s 28 (.f 54 [.i 2]),
.g' 29 24 27 28,
.m 26 29,
.j 30 0 26,
.j 31 1 26,
.j 32 2 26,
.m 4 30,
.m 5 31,
.m 6 32])
 (.g [.d 34 9 1,
.s 35 (.build [.i 0, .i 0] [(0, 1, (.i 2)), (1, 1, (.i 2))]),
.g' 36 24 34 35,
.m 33 36,
.j 37 0 33,
.j 38 1 33,
.j 39 2 33,
.m 7 37,
.m 8 38,
.m 9 39]
 (.q (.dreg 9 [.d 41 9 1,
.s 42 (.f 54 [.i 1]),
.s 43 (.build [.i 0, .i 0] [(0, 1, (.i 5))]),
.s 44 (.f 18 [.t 41, .t 42, .t 43]),
.m 40 44,
.j 45 0 40,
.j 46 1 40,
.m 10 45,
.m 11 46])
 (.g [.d 48 9 1,
.s 49 (.build [.i 0, .i 0] [(0, 1, (.i 1))]),
.s 50 (.build [.i 0, .i 0] [(0, 1, (.i 5))]),
.s 51 (.f 18 [.t 48, .t 49, .t 50]),
.m 47 51,
.j 52 0 47,
.j 53 1 47,
.m 12 52,
.m 13 53]
 (.q (.dreg 9 [.d 55 9 1,
.s 56 (.f 54 [.i 1]),
.s 57 (.build [.i 0, .i 0] [(0, 1, (.i 6))]),
.s 58 (.f 18 [.t 55, .t 56, .t 57]),
.m 54 58,
.j 59 0 54,
.j 60 1 54,
.m 14 59,
.m 15 60])
 (.g [.d 62 9 1,
.s 63 (.f 39 [.t 62, .i 7]),
.m 61 63,
.j 64 0 61,
.j 65 1 61,
.m 16 64,
.m 17 65]
 (.g [.d 67 9 1,
.s 68 (.f 39 [.t 67, .i 8]),
.m 66 68,
.j 69 0 66,
.j 70 1 66,
.m 18 69,
.m 19 70]
 (.join [0] (.reg [.m 71 3,
.m 72 6,
.b 73 .add 71 72,
.m 74 9,
.b 75 .add 73 74,
.m 76 11,
.b 77 .add 75 76,
.m 78 13,
.b 79 .add 77 78,
.m 80 15,
.b 81 .add 79 80,
.m 82 17,
.b 83 .add 81 82,
.v 84 .eql 83 0,
.m 85 84,
.my 86 2 85,
.y 87 (.build [.i 0, .i 0] [(0, 1, (.i 1))]) 85,
.y 88 (.f 54 [.i 1]) 85,
.y 89 (.build [.i 0, .i 0] [(0, 1, (.i 2))]) 85,
.y 90 (.f 54 [.i 2]) 85,
.y 91 (.bslice 44 2 [.t 87, .t 88, .t 89, .t 90]) 85,
.y 92 (.f 17 [.t 86, .t 91]) 85,
.e 93 85 92,
.m 94 93,
.my 95 4 94,
.vy 96 .eql 95 32768 94,
.e 97 94 96,
.m 98 97,
.my 99 5 98,
.e 100 98 99,
.m 101 100,
.my 102 7 101,
.vy 103 .eql 102 0 101,
.e 104 101 103,
.m 105 104,
.my 106 8 105,
.y 107 (.un .not (.t 106)) 105,
.e 108 105 107,
.m 109 108,
.my 110 10 109,
.vy 111 .eql 110 100 109,
.e 112 109 111,
.m 113 112,
.my 114 12 113,
.vy 115 .eql 114 0 113,
.e 116 113 115,
.m 117 116,
.my 118 14 117,
.vy 119 .eql 118 32768 117,
.e 120 117 119,
.m 121 120,
.my 122 16 121,
.vy 123 .eql 122 0 121,
.e 124 121 123,
.m 125 124,
.my 126 19 125,
.vy 127 .eql 126 6 125,
.e 128 125 127,
.m 0 128])
 (.ret [0])))))))))))))⟩ := by kernel_rfl
def B17_0 : Cd := (.g [.b 14 .lss 13 12]
 (.join [0, 1, 12, 13] (.i 14 .skip
 (.exit [] 0))
 (.join [0, 1, 12, 13] (.block 1 (.g [.m 15 13,
.m 5 15]
 (.q (.dreg 9 [.m 16 0,
.m 17 5,
.r 18 2 16 17,
.d 19 2 18,
.m 20 1,
.m 21 5,
.r 22 2 20 21,
.d 23 2 22,
.s 24 (.eqs true [.i, .i] (.t 19) (.t 23))])
 (.i 24 (.g [.k 4 false]
 (.ret [4]))
 .skip))))
 (.reg [.v 25 .add 13 1,
.m 13 25]))))
theorem F17 : compF Tryz.prog 17 = some ⟨26, [.tmp 4], (.g [.k 4 false]
 (.join [0, 1] (.g [.m 6 0,
.u 7 6,
.m 8 1,
.u 9 8,
.b 10 .neq 7 9]
 (.i 10 (.g [.k 4 false]
 (.ret [4]))
 .skip))
 (.join [] (.g [.m 11 0,
.u 12 11,
.c 13 0]
 (.block 0 (.loop [0, 1, 12, 13] [] B17_0)))
 (.g [.k 4 true]
 (.ret [4])))))⟩ := by kernel_rfl
theorem F20 : compF Tryz.prog 20 = some ⟨10, [.tmp 2], (.g [.q 1 31 0,
.k 2 false]
 (.z [1] (.join [2] (.reg [.d 3 9 1,
.f 4 11 3,
.m 5 4,
.y 6 (.load (some 9) (.t 1)) 5,
.y 7 (.f 16 [.t 6]) 5,
.vy 8 .eql 7 0 5,
.e 9 5 8,
.m 2 9])
 (.ret [2]))))⟩ := by kernel_rfl
theorem F23 : compF Tryz.prog 23 = some ⟨9, [.tmp 4], (.g [.q 3 44 1,
.k 4 false]
 (.z [3] (.g [.m 5 0,
.d 6 2 3,
.g' 7 71 5 6,
.v 8 .geq 7 0,
.m 4 8]
 (.ret [4]))))⟩ := by kernel_rfl
theorem F25 : compF Tryz.prog 25 = some ⟨2, [], (.reg [.a 1 8 0,
.n (.store 1 (.t 1) (.c .nils))])⟩ := by kernel_rfl
theorem F26 : compF Tryz.prog 26 = some ⟨2, [], (.reg [.a 1 7 0,
.n (.store 1 (.t 1) (.c .nils))])⟩ := by kernel_rfl
theorem F27 : compF Tryz.prog 27 = some ⟨2, [], (.reg [.a 1 6 0,
.n (.store 1 (.t 1) (.c .nils))])⟩ := by kernel_rfl
theorem F28 : compF Tryz.prog 28 = some ⟨2, [], (.reg [.a 1 5 0,
.n (.store 1 (.t 1) (.c .nils))])⟩ := by kernel_rfl
theorem F29 : compF Tryz.prog 29 = some ⟨2, [], (.reg [.a 1 4 0,
.n (.store 1 (.t 1) (.c .nils))])⟩ := by kernel_rfl
theorem F30 : compF Tryz.prog 30 = some ⟨2, [], (.reg [.a 1 0 0,
.n (.store 1 (.t 1) (.w []))])⟩ := by kernel_rfl
theorem F32 : compF Tryz.prog 32 = some ⟨9, [.tmp 4], (.g [.k 4 false]
 (.g [.m 5 0,
.m 6 1,
.g' 7 73 5 6,
.v 8 .geq 7 0,
.m 4 8]
 (.ret [4])))⟩ := by kernel_rfl
theorem F33 : compF Tryz.prog 33 = some ⟨9, [.tmp 3], (.g [.q 2 67 0,
.k 3 false]
 (.z [2] (.g [.a 4 0 2,
.l 5 4,
.a 6 0 1,
.l 7 6,
.b 8 .eql 5 7,
.m 3 8]
 (.ret [3]))))⟩ := by kernel_rfl
theorem F38 : compF Tryz.prog 38 = some ⟨73, [.tmp 4], (.g [.q 2 55 0,
.q 3 55 1,
.k 4 false]
 (.z [2, 3] (.join [4] (.reg [.a 5 0 2,
.l 6 5,
.a 7 0 3,
.l 8 7,
.b 9 .eql 6 8,
.m 10 9,
.ay 11 1 2 10,
.ly 12 11 10,
.ay 13 1 3 10,
.ly 14 13 10,
.by' 15 .eql 12 14 10,
.e 16 10 15,
.m 17 16,
.ay 18 2 2 17,
.ly 19 18 17,
.ay 20 2 3 17,
.ly 21 20 17,
.by' 22 .eql 19 21 17,
.e 23 17 22,
.m 24 23,
.ay 25 3 2 24,
.ly 26 25 24,
.ay 27 3 3 24,
.ly 28 27 24,
.by' 29 .eql 26 28 24,
.e 30 24 29,
.m 31 30,
.ay 32 4 2 31,
.ly 33 32 31,
.ay 34 4 3 31,
.ly 35 34 31,
.by' 36 .eql 33 35 31,
.e 37 31 36,
.m 38 37,
.ay 39 5 2 38,
.ly 40 39 38,
.ay 41 5 3 38,
.ly 42 41 38,
.by' 43 .eql 40 42 38,
.e 44 38 43,
.m 45 44,
.ay 46 6 2 45,
.ly 47 46 45,
.ay 48 6 3 45,
.ly 49 48 45,
.by' 50 .eql 47 49 45,
.e 51 45 50,
.m 52 51,
.ay 53 7 2 52,
.ly 54 53 52,
.ay 55 7 3 52,
.ly 56 55 52,
.by' 57 .eql 54 56 52,
.e 58 52 57,
.m 59 58,
.ay 60 8 2 59,
.ly 61 60 59,
.ay 62 8 3 59,
.ly 63 62 59,
.y 64 (.eqb false (.t 61) (.t 63)) 59,
.e 65 59 64,
.m 66 65,
.ay 67 9 2 66,
.ly 68 67 66,
.ay 69 9 3 66,
.ly 70 69 66,
.y 71 (.f 78 [.t 68, .t 70]) 66,
.e 72 66 71,
.m 4 72])
 (.ret [4]))))⟩ := by kernel_rfl
theorem F53 : compF Tryz.prog 53 = some ⟨18, [.cell 0 (some 9)], (.g [.s 0 (.alloc 31 [(.str []), .nils, .nils, .nils, .nils, .nils, .nils, .nils, .nils])]
 (.g [.s 2 (.build [.i 0, .i 0, .i 0, .i 0, .i 0, .i 0, .i 0, .i 0, (.bool false), .nils] [(1, 1, (.i 8)), (7, 1, (.i 255))]),
.s 3 (.build [.i 0, .i 0, .i 0, .i 0, .i 0, .i 0, .i 0, .i 0, (.bool false), .nils] [(0, 1, (.i 1)), (1, 1, (.i 16)), (2, 1, (.i 1)), (3, 1, (.i 2)), (5, 1, (.i 32768)), (7, 1, (.i 65535))]),
.s 4 (.bslice 55 10 [.t 2, .t 3]),
.s 5 (.build [(.str []), .i 0, .i 0, .nils] [(0, 1, (.w [115, 112, 111, 116])), (1, 1, (.i 3)), (3, 1, (.t 4))]),
.s 1 (.alloc 99 [(.str []), .i 0, .i 0, .nils]),
.w 4 1 5]
 (.z [1] (.g [.d 6 4 1,
.s 7 (.bslice 99 4 [.t 6]),
.s 8 (.build [.i 0, .i 0, (.str []), .i 0, .i 0, .i 0, (.str [])] [(0, 1, (.i 1)), (1, 1, (.i 1)), (2, 1, (.w [115, 112, 111, 116])), (3, 1, (.i 1)), (4, 1, (.i 1)), (5, 1, (.i 1))]),
.s 9 (.build [.i 0, .i 0, (.str []), .i 0, .i 0, .i 0, (.str [])] [(0, 1, (.i 2)), (1, 1, (.i 1)), (2, 1, (.w [115, 112, 111, 116])), (3, 1, (.i 1)), (4, 1, (.i 4)), (5, 1, (.i 1))]),
.s 10 (.bslice 105 7 [.t 8, .t 9]),
.s 11 (.build [.i 0, .i 0, .i 0] [(1, 1, (.i 1)), (2, 1, (.i 100))]),
.s 12 (.bslice 151 3 [.t 11]),
.s 13 (.build [.i 0, .nils] [(0, 1, (.i 5)), (1, 1, (.t 12))]),
.s 14 (.bslice 67 2 [.t 13]),
.s 15 (.build [.i 0, .i 0, .nils] [(0, 1, (.i 7))]),
.s 16 (.bslice 83 3 [.t 15]),
.s 17 (.build [(.str []), .nils, .nils, .nils, .nils, .nils, .nils, .nils, .nils] [(2, 1, (.t 7)), (3, 1, (.t 10)), (5, 1, (.t 14)), (6, 1, (.t 16))]),
.w 9 0 17]
 (.ret [0])))))⟩ := by kernel_rfl
theorem F54 : compF Tryz.prog 54 = some ⟨5, [.cell 2 (some 2)], (.g [.s 2 (.alloc 44 [.i 0, .i 0])]
 (.g [.m 3 0,
.s 4 (.build [.i 0, .i 0] [(0, 1, (.t 3)), (1, 1, (.i 1))]),
.w 2 2 4]
 (.ret [2])))⟩ := by kernel_rfl
def B78_0 : Cd := (.join [0, 1, 5] (.g [.m 11 5,
.m 12 0,
.u 13 12,
.b 14 .lss 11 13]
 (.i 14 .skip
 (.exit [] 0)))
 (.join [0, 1, 5] (.block 1 (.q (.dreg 9 [.m 17 0,
.m 18 5,
.r 19 3 17 18,
.d 20 3 19,
.m 21 1,
.m 22 5,
.r 23 3 21 22,
.d 24 3 23,
.s 25 (.eqs true [.s, .i, .i] (.t 20) (.t 24))])
 (.i 25 (.g [.k 4 false]
 (.ret [4]))
 .skip)))
 (.reg [.m 15 5,
.v 16 .add 15 1,
.m 5 16])))
theorem F78 : compF Tryz.prog 78 = some ⟨26, [.tmp 4], (.g [.k 4 false]
 (.join [0, 1] (.g [.m 6 0,
.u 7 6,
.m 8 1,
.u 9 8,
.b 10 .neq 7 9]
 (.i 10 (.g [.k 4 false]
 (.ret [4]))
 .skip))
 (.join [] (.g [.c 5 0]
 (.block 0 (.loop [0, 1, 5] [] B78_0)))
 (.g [.k 4 true]
 (.ret [4])))))⟩ := by kernel_rfl
def B71_0 : Cd := (.g [.b 9 .lss 8 7]
 (.join [0, 3, 7, 8] (.i 9 .skip
 (.exit [] 0))
 (.join [0, 3, 7, 8] (.block 1 (.g [.m 10 8,
.m 5 10]
 (.q (.dreg 6 [.d 11 2 3,
.m 12 0,
.m 13 5,
.r 14 2 12 13,
.d 15 2 14,
.s 16 (.eqs false [.i, .i] (.t 11) (.t 15))])
 (.i 16 (.g [.m 17 5,
.m 4 17]
 (.ret [4]))
 .skip))))
 (.reg [.v 18 .add 8 1,
.m 8 18]))))
theorem F71 : compF Tryz.prog 71 = some ⟨19, [.tmp 4], (.g [.q 3 44 1,
.c 4 0]
 (.z [3] (.join [] (.g [.m 6 0,
.u 7 6,
.c 8 0]
 (.block 0 (.loop [0, 3, 7, 8] [] B71_0)))
 (.g [.c 4 (-1)]
 (.ret [4])))))⟩ := by kernel_rfl
def B73_0 : Cd := (.g [.b 9 .lss 8 7]
 (.join [0, 1, 7, 8] (.i 9 .skip
 (.exit [] 0))
 (.join [0, 1, 7, 8] (.block 1 (.g [.m 10 8,
.m 5 10]
 (.g [.m 11 1,
.m 12 0,
.m 13 5,
.r 14 2 12 13,
.d 15 2 14,
.s 16 (.call (.t 11) [.t 15])]
 (.i 16 (.g [.m 17 5,
.m 4 17]
 (.ret [4]))
 .skip))))
 (.reg [.v 18 .add 8 1,
.m 8 18]))))
theorem F73 : compF Tryz.prog 73 = some ⟨19, [.tmp 4], (.g [.c 4 0]
 (.join [] (.g [.m 6 0,
.u 7 6,
.c 8 0]
 (.block 0 (.loop [0, 1, 7, 8] [] B73_0)))
 (.g [.c 4 (-1)]
 (.ret [4]))))⟩ := by kernel_rfl
end Go.Proofs.YtflbieghmgobgaaGreatDoor

namespace Go.Proofs.YtflbieghmgobgaaGreatDoor
open Go.Sha
set_option maxRecDepth 100000
variable {g : List (Nat × Obj)} {n : Nat}
theorem L17 {l : List Prm} (hl : l.length < 140737488355328) : ∀ r j, l.drop j = r → runL Tryz.prog HH [0, 1, 12, 13] n B17_0 [(0, .sl (l.map Prm.v)), (1, .sl (l.map Prm.v)), (12, .int .i64 l.length), (13, .int .i64 j)] (stN g n) = some (.exit 0, [], stN g n) := by
 refine drop_ind (fun j h => ?_) (fun q r j h hx hd ih => ?_)
 all_goals rw [runL_of B17_0.eq_1]
 ·have h1 : ¬ (j : Int) < l.length := by omega
  push_cast [h1, Prm.v]
 ·have h1 : (j : Int) < l.length := by omega
  have hw := iw1 (j := j) (by omega)
  push_cast [h1, hw, hx, Prm.v] at ih ⊢
  simp only [ih, lps, Int.reduceEq, not_false_eq_true]
  all_goals ((repeat' split) <;> simp_all)
theorem f17 {l : List Prm} (hl : l.length < 140737488355328) {st : St} : run Tryz.prog HH 17 [.sl (l.map Prm.v), .sl (l.map Prm.v)] st = some (.ret (.bool true), st) := by
 rw [run_shut F17 rfl rfl (by simp)]
 have hL0 := fun n => L17 (g := st.x.gl) (n := n) hl _ 0 rfl
 push_cast [Prm.v] at hL0
 push_cast [Prm.v, hL0, lpE, lpX, lpI, lpB]
theorem L71 {l : List Prm} {p : Prm} (hl : l.length < 140737488355328) : ∀ r j, l.drop j = r → runL Tryz.prog HH [0, 3, 7, 8] n B71_0 [(0, .sl (l.map Prm.v)), (3, .ep p.v 0), (7, .int .i64 l.length), (8, .int .i64 j)] (stN g n) = lpI (stN g n) [] 4 (ix (fun q => p == q) r j) := by
 refine drop_ind (fun j h => ?_) (fun q r j h hx hd ih => ?_)
 all_goals rw [runL_of B71_0.eq_1]
 ·have h1 : ¬ (j : Int) < l.length := by omega
  push_cast [h1, ix, Prm.v]
 ·have h1 : (j : Int) < l.length := by omega
  have hw := iw1 (j := j) (by omega)
  have e : (p == q) = (p.chan == q.chan && p.attr == q.attr) := by cases p; cases q; rw [Bool.eq_iff_iff]; simp
  push_cast [h1, hw, hx, Prm.v] at ih ⊢
  simp only [ih, ix, e]
  cases h2 : (p.chan == q.chan && p.attr == q.attr) <;> simp_all [lpI]
theorem f71 {l : List Prm} {p : Prm} (hl : l.length < 140737488355328) {st : St} : run Tryz.prog HH 71 [.sl (l.map Prm.v), p.v] st = some (.ret (.int .i64 (ix (fun q => p == q) l 0)), st) := by
 rw [run_shut F71 rfl rfl (by simp)]
 have hL0 := fun n => L71 (g := st.x.gl) (n := n) (p := p) hl _ 0 rfl
 push_cast [Prm.v] at hL0
 push_cast [Prm.v, hL0, lpE, lpX, lpI, lpB]
theorem f23 {l : List Prm} {p : Prm} (hl : l.length < 140737488355328) {st : St} : run Tryz.prog HH 23 [.sl (l.map Prm.v), p.v] st = some (.ret (.bool (l.contains p)), st) := by
 have h := fun (st : St) => f71 (p := p) (st := st) hl
 have e : decide (0 ≤ ix (fun q => p == q) l 0) = l.contains p := by
  rw [Bool.eq_iff_iff, decide_eq_true_eq, ix_ge, List.contains_eq_any_beq]
 push_cast [Prm.v] at h
 rw [run_shut F23 rfl rfl (by simp)]
 push_cast [Prm.v, h, e]
theorem f33 {x : Pal} {v : Val} {st : St} : run Tryz.prog HH 33 [x.v, .ep v.v 0] st = some (.ret (.bool (x.num == v.pal)), st) := by
 rw [run_shut F33 rfl rfl (by simp)]
 push_cast [Pal.v, Val.v]
theorem f73 {l : List Pal} {v : Val} (hl : l.length < 140737488355328) {st : St} : run Tryz.prog HH 73 [.sl (l.map Pal.v), .fn (.func 33) [] [.ep v.v 0]] st = some (.ret (.int .i64 (ix (fun x => x.num == v.pal) l 0)), st) :=
 IxF (f := Pal.v) (n := some 2) (fun _ => rfl) (fun _ => rfl) F73 rfl (by simp) hl (fun q _ _ => f33) (fun _ _ => rfl) (fun _ => rfl)
theorem f32 {l : List Pal} {v : Val} (hl : l.length < 140737488355328) {st : St} : run Tryz.prog HH 32 [.sl (l.map Pal.v), .fn (.func 33) [] [.ep v.v 0]] st = some (.ret (.bool (l.any fun x => x.num == v.pal)), st) := by
 have h := fun (st : St) => f73 (v := v) (st := st) hl
 have e : decide (0 ≤ ix (fun x : Pal => x.num == v.pal) l 0) = l.any fun x => x.num == v.pal := by
  rw [Bool.eq_iff_iff, decide_eq_true_eq, ix_ge]
 push_cast [Pal.v, Val.v] at h
 rw [run_shut F32 rfl rfl (by simp)]
 push_cast [Pal.v, Val.v, h, e]
theorem L78 {l : List Slt} (hl : l.length < 140737488355328) : ∀ r j, l.drop j = r → runL Tryz.prog HH [0, 1, 5] n B78_0 [(0, .sl (l.map Slt.v)), (1, .sl (l.map Slt.v)), (5, .int .i64 j)] (stN g n) = some (.exit 0, [], stN g n) := by
 refine drop_ind (fun j h => ?_) (fun q r j h hx hd ih => ?_)
 all_goals rw [runL_of B78_0.eq_1]
 ·have h1 : ¬ (j : Int) < l.length := by omega
  push_cast [h1, Slt.v]
 ·have h1 : (j : Int) < l.length := by omega
  have hw := iw1 (j := j) (by omega)
  push_cast [h1, hw, hx, Slt.v] at ih ⊢
  simp only [ih, lps, Int.reduceEq, not_false_eq_true]
  all_goals ((repeat' split) <;> simp_all)
theorem f78 {l : List Slt} (hl : l.length < 140737488355328) {st : St} : run Tryz.prog HH 78 [.sl (l.map Slt.v), .sl (l.map Slt.v)] st = some (.ret (.bool true), st) := by
 rw [run_shut F78 rfl rfl (by simp)]
 have hL0 := fun n => L78 (g := st.x.gl) (n := n) hl _ 0 rfl
 push_cast [Slt.v] at hL0
 push_cast [Slt.v, hL0, lpE, lpX, lpI, lpB]
theorem f38 {x : Ftr} (hl : x.wheel.length < 140737488355328) {st : St} : run Tryz.prog HH 38 [x.v, x.v] st = some (.ret (.bool true), st) := by
 have h := fun (st : St) => f78 (st := st) hl
 rw [run_shut F38 rfl rfl (by simp)]
 push_cast [Ftr.v, Slt.v, h]
def theatre : Sho := ⟨[], [], [⟨[115, 112, 111, 116], 3, 0, [⟨0, 8, 0, 0, 0, 0, 0, 255, false, []⟩, ⟨1, 16, 1, 2, 0, 32768, 0, 65535, false, []⟩]⟩], [⟨1, 1, [115, 112, 111, 116], 1, 1, 1, []⟩, ⟨2, 1, [115, 112, 111, 116], 1, 4, 1, []⟩], [], [⟨5, [⟨0, 1, 100⟩]⟩], [⟨7, 0, []⟩], [], []⟩
theorem f53 {st : St} : run Tryz.prog HH 53 [] st = some (.ret theatre.v, st) := by
 rw [run_shut F53 rfl rfl (by simp)]
 push_cast [theatre, Sho.v, Prof.v, Ftr.v, Fixt.v, Pal.v, Hue.v, Lst.v, List.map_nil]
theorem f54 {c : Int} {st : St} : run Tryz.prog HH 54 [.int .i64 c] st = some (.ret (Prm.v ⟨c, 1⟩), st) := by
 rw [run_shut F54 rfl rfl (by simp)]
 push_cast [Prm.v]
theorem th_C : shoC theatre = 0 := by kernel_rfl
theorem th_par : parS theatre = [⟨1, 0⟩, ⟨1, 1⟩, ⟨2, 0⟩, ⟨2, 1⟩] := by
 rw [parS, if_pos th_C, par_eq (fix_chan th_C)]; kernel_rfl
end Go.Proofs.YtflbieghmgobgaaGreatDoor

