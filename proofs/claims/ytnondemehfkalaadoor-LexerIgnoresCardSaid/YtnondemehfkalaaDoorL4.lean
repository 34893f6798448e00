/- made, lower. -/
import Derived.Test.YtnondemehfkalaaDoorL3
set_option linter.unusedSimpArgs false
set_option linter.unusedVariables false
namespace Go.Proofs.YtnondemehfkalaaDoor
open Go.Sha

/-- A token. -/
structure Tok where
  k : Int
  t : List UInt8
  a : Int
  deriving DecidableEq

def tkV (x : Tok) : V := .agg [.int .i64 x.k, .str x.t, .int .i64 x.a]
theorem cells_tkV {x : Tok} : (tkV x).cells = [.int .i64 x.k, .str x.t, .int .i64 x.a] := @_root_.id (_ = _) rfl
theorem bdL_tk {n : Nat} {l : List Tok} : V.bdL n (l.map tkV) = true := bdL_map fun _ _ => rfl
theorem all_tk {l : List Tok} : (l.map tkV).all (fun x => x.cells.length == 3) = true := by simp [tkV, V.cells]

def tokV (k : Int) (t : List UInt8) (a : Nat) : V := .agg [.int .i64 k, .str t, .int .i64 (a : Int)]
theorem app_tk {l : List Tok} {k : Int} {t : List UInt8} {a : Int} : l.map tkV ++ [.agg [.int .i64 k, .str t, .int .i64 a]] = (l ++ [Tok.mk k t a]).map tkV := by simp [tkV]

theorem made_v {st : St} {p q id : Nat} {s : List UInt8} {a i : Nat} (k : Int) (hp : Sha.look st.mem p = some [.ptr id 0]) (hq : Sha.look st.mem q = some [.int .i64 (a : Int)]) (hm : Sha.look st.mem id = some [.str s, .int .i64 (i : Int)]) (ha : a ≤ i) (hi : i ≤ s.length) :
    VRet Tryd.prog 25 [.int .i64 k, .ptr p 0, .ptr q 0] st (.tup [tokV k ((s.take i).drop a) a, .bool true]) st := by
  refine VCalls_of F25_ok mixed (Nat.le_of_ble_eq_true rfl) (fun hwf => ?_)
  have hp' := (hwf.mem _ _ hp).1
  have hq' := (hwf.mem _ _ hq).1
  have hm' := (hwf.mem _ _ hm).1
  have e1 : (st.nx = p) = False := eq_false (by omega)
  have e2 : (st.nx = q) = False := eq_false (by omega)
  have e3 : (st.nx = id) = False := eq_false (by omega)
  (repeat' first | ((first | refine go rfl rfl ?_ | (refine Fk.by_ ?_ ?_ <;> intro hc <;> try simp only [hc]) | refine storeK_eq rfl ?_ | with_reducible refine And.intro ?_ ?_ | fail) <;> try simp only [hp, hq, hm, e1, e2, e3, ha, hi, push_cast, reduceIte, Nat.reduceEqDiff, reduceCtorEq, Nat.reduceAdd, Nat.reduceLeDiff, Nat.reduceBEq]))
  refine finB (hwf) (by simp only [F25, push_cast, reduceIte, Nat.reduceEqDiff, reduceCtorEq, Nat.reduceAdd, Nat.reduceLeDiff, Nat.reduceBEq]; exact rfl) (by first | exact .inl rfl | (right; simp only [F25, push_cast, reduceIte, Nat.reduceEqDiff, reduceCtorEq, Nat.reduceAdd, Nat.reduceLeDiff, Nat.reduceBEq]; try rfl)) (by first | rfl | assumption) (by simp) (by simp) (by (repeat first | exact (hwf).subm | exact (hwf).suba | refine Sub.drop (by simp) ?_)) (by (repeat first | exact (hwf).subm | exact (hwf).suba | refine Sub.drop (by simp) ?_)) (by (repeat first | exact (hwf).subx | refine ExSub.drop (by simp) ?_))

def lowB (b : UInt8) : UInt8 := if 65 ≤ b.toNat ∧ b.toNat ≤ 90 then b + 32 else b
def lowN (s : List UInt8) (j : Nat) : List UInt8 := (s.take j).map lowB ++ s.drop j
theorem lowN_length {s : List UInt8} {j : Nat} : (lowN s j).length = s.length := by simp [lowN]; omega
theorem lowN_get {s : List UInt8} {j : Nat} (h : j < s.length) : (lowN s j)[j]? = s[j]? := by
  unfold lowN
  have e : ((s.take j).map lowB).length = j := by simp; omega
  rw [List.getElem?_append_right (by omega), e]
  simp
theorem lowN_set {s : List UInt8} {j : Nat} {b : UInt8} (h : s[j]? = some b) : lowN s (j + 1) = (lowN s j).set j (lowB b) := by
  obtain ⟨hlt, e⟩ := List.getElem?_eq_some_iff.1 h
  unfold lowN
  have e1 : ((s.take j).map lowB).length = j := by simp; omega
  rw [List.take_add_one, h, List.set_append_right _ _ (by omega), e1, List.drop_eq_getElem_cons hlt]
  simp only [Option.toList_some, List.map_append, List.map_cons, List.map_nil, Nat.sub_self, List.set_cons_zero, List.append_assoc, List.singleton_append]
theorem set_self {α : Type} {l : List α} {i : Nat} {a : α} (h : l[i]? = some a) : l.set i a = l := by
  obtain ⟨hl, rfl⟩ := List.getElem?_eq_some_iff.1 h
  exact List.set_getElem_self hl
theorem lowN_zero {s : List UInt8} : lowN s 0 = s := by simp [lowN]
theorem lowN_all {s : List UInt8} : lowN s s.length = s.map lowB := by simp [lowN]
theorem lowB_up {b : UInt8} (h1 : 65 ≤ b.toNat) (h2 : b.toNat ≤ 90) : bV (lowB b) = .int .u8 (IntKind.u8.wrap (IntKind.u8.wrap ((b.toNat : Int) + 97) - 65)) := by
  have e : lowB b = b + 32 := if_pos ⟨h1, h2⟩
  rw [e, bV]
  congr 1
  simp only [IntKind.wrap, IntKind.bits, IntKind.signed, UInt8.toNat_add]
  simp
  omega
theorem lowB_no {b : UInt8} (h : ¬ (65 ≤ b.toNat ∧ b.toNat ≤ 90)) : lowB b = b := if_neg h

theorem lower_v (s : List UInt8) (st : St) (hs : s.length ≤ 140737488355328) : VRet Tryd.prog 29 [.str s] st (.str (s.map lowB)) st := by
  refine VCalls_of F29_ok mixed (Nat.le_of_ble_eq_true rfl) (fun hwf => ?_)
  have hml : (s.length ≤ maxLen) = True := eq_true (by unfold maxLen; omega)
  (repeat' first | ((first | refine go rfl rfl ?_ | (refine Fk.by_ ?_ ?_ <;> intro hc <;> try simp only [hc]) | refine storeK_eq rfl ?_ | with_reducible refine And.intro ?_ ?_ | fail) <;> try simp only [hml, push_cast, reduceIte, Nat.reduceEqDiff, reduceCtorEq, Nat.reduceAdd, Nat.reduceLeDiff, Nat.reduceBEq]))
  refine WT_loop rfl (fun n e z => ∃ j : Nat, n = s.length - j ∧ j ≤ s.length ∧ e = [(10, .int .i64 (j : Int)), (9, .int .i64 (s.length : Int)), (8, .osl st.nx s.length), (3, .osl st.nx s.length)] ∧
      z = ⟨st.nx + 1, st.mem, (st.nx, ⟨5, 1, (lowN s j).map bV, true, true⟩) :: st.arr, st.x⟩) (st.nx + 1) (Nat.le_refl _) (by rintro _ _ _ ⟨j, _, _, _, rfl⟩; rfl)
    ⟨_, _, _, ⟨0, rfl, Nat.zero_le _, rfl, rfl⟩, ?_, ?_⟩ ?_
  · simp only [Int.ofNat_zero]
    refine .cons rfl rfl (.cons rfl rfl (.cons ?_ rfl (.cons ?_ rfl .nil))) <;> simp [V.bd]
  · rw [lowN_zero]; exact .refl (hwf.newA bdL_bV)
  rintro n e z ⟨j, rfl, hj, rfl, rfl⟩
  have hw : j < s.length → IntKind.i64.wrap ((j : Int) + 1) = (j : Int) + 1 := fun h => wrap64 (by omega) (by omega)
  rcases Nat.lt_or_ge j s.length with hlt | hge
  · obtain ⟨b, hb⟩ : ∃ b, s[j]? = some b := ⟨_, List.getElem?_eq_getElem hlt⟩
    have h1 : decide ((j : Int) < (s.length : Int)) = true := by simp; omega
    have hg : (lowN s j)[j]? = some b := by rw [lowN_get hlt, hb]
    (repeat' first | ((first | refine go rfl rfl ?_ | (refine Fk.by_ ?_ ?_ <;> intro hc <;> try simp only [hc]) | refine storeK_eq rfl ?_ | with_reducible refine And.intro ?_ ?_ | fail) <;> try simp only [h1, hg, hlt, hw hlt, lowN_length, push_cast, reduceIte, Nat.reduceEqDiff, reduceCtorEq, Nat.reduceAdd, Nat.reduceLeDiff, Nat.reduceBEq]))
    case refine_1.refine_1 hc1 =>
      have e : (List.map bV (lowN s j)).set j (.int .u8 (IntKind.u8.wrap (IntKind.u8.wrap ((b.toNat : Int) + 97) - 65))) = (lowN s (j + 1)).map bV := by
        rw [lowN_set hb, List.map_set, lowB_up (by have := of_decide_eq_true hc1; omega) (by have := of_decide_eq_true hc; omega)]
      rw [e]
      exact ⟨_, _, _, by omega, ⟨j + 1, rfl, by omega, rfl, rfl⟩, (by repeat first | exact .nil | refine .cons (by first | rfl | (simp [V.bd, V.bdL]; try first | omega | assumption)) (by first | rfl | simp only [push_cast, reduceIte, Nat.reduceEqDiff, reduceCtorEq, Nat.reduceAdd, Nat.reduceLeDiff, Nat.reduceBEq]) ?_), .refl (hwf.newA bdL_bV)⟩
    all_goals
      have e : (List.map bV (lowN s j)) = (lowN s (j + 1)).map bV := by
        rw [lowN_set hb, lowB_no (by have := of_decide_eq_false ‹_›; omega)]
        congr 1
        exact (set_self hg).symm
      rw [e]
      exact ⟨_, _, _, by omega, ⟨j + 1, rfl, by omega, rfl, rfl⟩, (by repeat first | exact .nil | refine .cons (by first | rfl | (simp [V.bd, V.bdL]; try first | omega | assumption)) (by first | rfl | simp only [push_cast, reduceIte, Nat.reduceEqDiff, reduceCtorEq, Nat.reduceAdd, Nat.reduceLeDiff, Nat.reduceBEq]) ?_), .refl (hwf.newA bdL_bV)⟩
  · have h1 : decide ((j : Int) < (s.length : Int)) = false := by simp; omega
    have hj' : j = s.length := by omega
    subst hj'
    rw [lowN_all]
    (repeat' first | ((first | refine go rfl rfl ?_ | (refine Fk.by_ ?_ ?_ <;> intro hc <;> try simp only [hc]) | refine storeK_eq rfl ?_ | with_reducible refine And.intro ?_ ?_ | fail) <;> try simp only [h1, push_cast, reduceIte, Nat.reduceEqDiff, reduceCtorEq, Nat.reduceAdd, Nat.reduceLeDiff, Nat.reduceBEq]))
    refine finB (hwf) (by simp only [F29, push_cast, reduceIte, Nat.reduceEqDiff, reduceCtorEq, Nat.reduceAdd, Nat.reduceLeDiff, Nat.reduceBEq]; exact rfl) (by first | exact .inl rfl | (right; simp only [F29, push_cast, reduceIte, Nat.reduceEqDiff, reduceCtorEq, Nat.reduceAdd, Nat.reduceLeDiff, Nat.reduceBEq]; try rfl)) (by first | rfl | assumption) (by simp) (by simp) (by (repeat first | exact (hwf).subm | exact (hwf).suba | refine Sub.drop (by simp) ?_)) (by (repeat first | exact (hwf).subm | exact (hwf).suba | refine Sub.drop (by simp) ?_)) (by (repeat first | exact (hwf).subx | refine ExSub.drop (by simp) ?_))
end Go.Proofs.YtnondemehfkalaaDoor
