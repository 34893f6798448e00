/- The lexer's token. -/
import Derived.Test.YtnondemehfkalaaDoorL4
set_option linter.unusedSimpArgs false
set_option linter.unusedVariables false
namespace Go.Proofs.YtnondemehfkalaaDoor
open Go.Sha

def letB (b : UInt8) : Bool := isLet b.toNat
def digB (b : UInt8) : Bool := isDig b.toNat
def wrdB (b : UInt8) : Bool := isWrd b.toNat
def plnB (b : UInt8) : Bool := isPln b.toNat
def sgnB (b : UInt8) : Bool := isSgn b.toNat
def isB (n : Int) (b : UInt8) : Bool := (b.toNat : Int) == n
theorem c42 (b : UInt8) (st : St) : VRet Tryd.prog 27 [.int .u8 b.toNat] st (.bool (letB b)) st := isLetter_v _ _
theorem c43 (b : UInt8) (st : St) : VRet Tryd.prog 28 [.int .u8 b.toNat] st (.bool (wrdB b)) st := isWord_v _ _
theorem c46 (b : UInt8) (st : St) : VRet Tryd.prog 32 [.int .u8 b.toNat] st (.bool (digB b)) st := isDigit_v _ _
theorem c27 (b : UInt8) (st : St) : VRet Tryd.prog 30 [.int .u8 b.toNat] st (.bool (plnB b)) st := isPlain_v _ _
theorem c48 (b : UInt8) (st : St) : VRet Tryd.prog 34 [.int .u8 b.toNat] st (.bool (sgnB b)) st := isSign_v _ _
theorem c39 (b : UInt8) (st : St) : VRet Tryd.prog 24 [.int .u8 b.toNat] st (.bool (isB 32 b)) st := blank_v _ _
theorem c45 (b : UInt8) (st : St) : VRet Tryd.prog 31 [.int .u8 b.toNat] st (.bool (isB 34 b)) st := quote_v _ _
theorem c47 (b : UInt8) (st : St) : VRet Tryd.prog 33 [.int .u8 b.toNat] st (.bool (isB 46 b)) st := dot_v _ _

theorem le_runTo {ok : UInt8 → Bool} {s : List UInt8} {i : Nat} : i ≤ runTo ok s i := Nat.le_add_right _ _
theorem atIs_lt {ok : UInt8 → Bool} {s : List UInt8} {i : Nat} (h : atIs ok s i = true) : i < s.length := by
  unfold atIs at h
  cases e : s[i]? with
  | none => rw [e] at h; cases h
  | some b => exact (List.getElem?_eq_some_iff.1 e).1

/-- The token that begins at a: its kind, its text, its end. -/
def lexAt (s : List UInt8) (a : Nat) : Option (Int × List UInt8 × Nat) :=
  if a = s.length then some (3, [], a)
  else if atIs letB s a then some (0, ((s.take (runTo wrdB s a)).drop a).map lowB, runTo wrdB s a)
  else if atIs (isB 34) s a then
    if atIs (isB 34) s (runTo plnB s (a + 1)) then some (0, (s.take (runTo plnB s (a + 1) + 1)).drop a, runTo plnB s (a + 1) + 1) else none
  else if atIs digB s a then
    if atIs (isB 46) s (runTo digB s a) && atIs digB s (runTo digB s a + 1) then some (1, (s.take (runTo digB s (runTo digB s a + 1))).drop a, runTo digB s (runTo digB s a + 1))
    else some (1, (s.take (runTo digB s a)).drop a, runTo digB s a)
  else if atIs sgnB s a then some (2, (s.take (a + 1)).drop a, a + 1)
  else none

def tokR (s : List UInt8) (i : Nat) : V × Nat := match lexAt s (runTo (isB 32) s i) with
  | some (k, t, e) => (.tup [tokV k t (runTo (isB 32) s i), .bool true], e)
  | none => (.tup [tokV 0 [] 0, .bool false], runTo (isB 32) s i)

theorem cells_tokV {k : Int} {t : List UInt8} {a : Nat} : (tokV k t a).cells = [.int .i64 k, .str t, .int .i64 (a : Int)] := @_root_.id (_ = _) rfl

theorem token_v {st : St} {id : Nat} {s : List UInt8} {i : Nat} (hm : Sha.look st.mem id = some [.str s, .int .i64 (i : Int)]) (hi : i ≤ s.length) (hs : s.length < 140737488355328) :
    VRet Tryd.prog 13 [.ptr id 0] st (tokR s i).1 (st.put id [.str s, .int .i64 (((tokR s i).2 : Nat) : Int)]) := by
  refine VCalls_of F13_ok mixed (Nat.le_of_ble_eq_true rfl) (fun hwf => ?_)
  have hid := (hwf.mem _ _ hm).1
  have e3 : ∀ n, (st.nx + n = id) = False := fun n => eq_false (by omega)
  have e4 : (st.nx = id) = False := eq_false (by omega)
  obtain ⟨R, hR⟩ : ∃ R, tokR s i = R := ⟨_, rfl⟩
  rw [hR]
  obtain ⟨a, ha⟩ : ∃ a, runTo (isB 32) s i = a := ⟨_, rfl⟩
  have hal : a ≤ s.length := by rw [← ha]; exact runTo_le hi
  have hN : lexAt s a = none → R = (.tup [tokV 0 [] 0, .bool false], a) := fun h => by rw [← hR, tokR, ha, h]
  have hS : ∀ k t e, lexAt s a = some (k, t, e) → R = (.tup [tokV k t a, .bool true], e) := fun k t e h => by rw [← hR, tokR, ha, h]
  unfold lexAt at hN hS
  obtain ⟨a1, ha1⟩ : ∃ a1, a + 1 = a1 := ⟨_, rfl⟩
  obtain ⟨b, hb⟩ : ∃ b, runTo wrdB s a = b := ⟨_, rfl⟩
  have hbl : b ≤ s.length := by rw [← hb]; exact runTo_le hal
  have hab : a ≤ b := by rw [← hb]; exact le_runTo
  obtain ⟨q, hq⟩ : ∃ q, runTo plnB s a1 = q := ⟨_, rfl⟩
  obtain ⟨q1, hq1⟩ : ∃ q1, q + 1 = q1 := ⟨_, rfl⟩
  have haq : a1 ≤ q := by rw [← hq]; exact le_runTo
  obtain ⟨d, hd⟩ : ∃ d, runTo digB s a = d := ⟨_, rfl⟩
  obtain ⟨d1, hd1⟩ : ∃ d1, d + 1 = d1 := ⟨_, rfl⟩
  have hdl : d ≤ s.length := by rw [← hd]; exact runTo_le hal
  have had : a ≤ d := by rw [← hd]; exact le_runTo
  obtain ⟨c, hdc⟩ : ∃ c, runTo digB s d1 = c := ⟨_, rfl⟩
  have hdc1 : d1 ≤ c := by rw [← hdc]; exact le_runTo
  rw [hb, ha1, hq, hq1, hd, hd1, hdc] at hN hS
  have hlk : ∀ n : Int, Sha.look (updM st.mem id [.str s, .int .i64 n]) id = some [.str s, .int .i64 n] := fun n => look_upd hm
  rcases Nat.lt_or_ge a s.length with hlt | hge
  · obtain ⟨x, hx⟩ : ∃ x, s[a]? = some x := ⟨_, List.getElem?_eq_getElem hlt⟩
    rw [if_neg (by omega)] at hN hS
    have h0 : ((a : Int) == (s.length : Int)) = false := by simp; omega
    have hql : q ≤ s.length := by rw [← hq]; exact runTo_le (by omega)
    have hdc2 : d < s.length → c ≤ s.length := fun h => by rw [← hdc]; exact runTo_le (by omega)
    have hw1 : IntKind.i64.wrap ((a : Int) + 1) = (a1 : Int) := by rw [wrap64 (by omega) (by omega)]; omega
    have hw2 : IntKind.i64.wrap ((q : Int) + 1) = (q1 : Int) := by rw [wrap64 (by omega) (by omega)]; omega
    have hw3 : IntKind.i64.wrap ((d : Int) + 1) = (d1 : Int) := by rw [wrap64 (by omega) (by omega)]; omega
    have hll : ∀ x y, ((s.take x).drop y).length ≤ 140737488355328 := fun x y => by simp only [List.length_drop, List.length_take]; omega
    have hx2 : ((x.toNat : Int) == 34) = atIs (isB 34) s a := by simp [atIs, hx, isB]
    (repeat' first | ((first | refine go rfl rfl ?_ | refine Cl.by_ (by (first | apply skip_v c39 | apply is_v (n := 0) c42 | apply is_v (n := 0) c45 | apply is_v (n := 0) c46 | apply is_v (n := 0) c47 | apply is_v (n := 0) c48 | apply is_v (n := 1) c46 | apply skip_v c43 | apply skip_v c27 | apply skip_v c46 | apply made_v _ | refine lower_v _ _ (hll _ _)) <;> first | omega | (have h9 := atIs_lt hc; omega) | (simp only [cells_tokV, hm, ha, hb, hq, hd, hd1, hdc, e3, e4, hlk, h0, hx, hw1, hw2, hw3, hx2, push_cast, reduceIte, Nat.reduceEqDiff, reduceCtorEq, Nat.reduceAdd, Nat.reduceLeDiff, Nat.reduceBEq]; done) | (simp only [cells_tokV, hm, ha, hb, hq, hd, hd1, hdc, e3, e4, hlk, h0, hx, hw1, hw2, hw3, hx2, push_cast, reduceIte, Nat.reduceEqDiff, reduceCtorEq, Nat.reduceAdd, Nat.reduceLeDiff, Nat.reduceBEq]; exact rfl) | fail) ?_ | (refine Fk.by_ ?_ ?_ <;> intro hc <;> try simp only [hc]) | refine storeK_eq rfl ?_ | with_reducible refine And.intro ?_ ?_ | fail) <;> try simp only [cells_tokV, hm, ha, hb, hq, hd, hd1, hdc, e3, e4, hlk, h0, hx, hw1, hw2, hw3, hx2, push_cast, reduceIte, Nat.reduceEqDiff, reduceCtorEq, Nat.reduceAdd, Nat.reduceLeDiff, Nat.reduceBEq]))
    all_goals
      simp [*, -List.map_take, -List.map_drop] at hS hN
      try rw [hS]
      try rw [hN]
      refine finB ((hwf.put rfl)) (by simp only [F13, cells_tokV, e3, e4, hlk, push_cast, reduceIte, Nat.reduceEqDiff, reduceCtorEq, Nat.reduceAdd, Nat.reduceLeDiff, Nat.reduceBEq]; exact rfl) (by first | exact .inl rfl | (right; simp only [F13, cells_tokV, e3, e4, hlk, push_cast, reduceIte, Nat.reduceEqDiff, reduceCtorEq, Nat.reduceAdd, Nat.reduceLeDiff, Nat.reduceBEq]; try rfl)) (by first | rfl | assumption) (by simp) (by simp) (by (repeat first | exact ((hwf.put rfl)).subm | exact ((hwf.put rfl)).suba | refine Sub.drop (by simp) ?_)) (by (repeat first | exact ((hwf.put rfl)).subm | exact ((hwf.put rfl)).suba | refine Sub.drop (by simp) ?_)) (by (repeat first | exact ((hwf.put rfl)).subx | refine ExSub.drop (by simp) ?_))
  · have hae : a = s.length := by omega
    have h0 : ((a : Int) == (s.length : Int)) = true := by simp [hae]
    have hR2 : R = (.tup [tokV 3 [] a, .bool true], a) := hS _ _ _ (if_pos hae)
    rw [hR2]
    have hem : (s.take a).drop a = [] := List.drop_eq_nil_of_le (by simp; omega)
    (repeat' first | ((first | refine go rfl rfl ?_ | refine Cl.by_ (by (first | apply skip_v c39 | apply made_v _) <;> first | omega | (simp only [cells_tokV, hm, ha, e3, e4, hlk, h0, hem, push_cast, reduceIte, Nat.reduceEqDiff, reduceCtorEq, Nat.reduceAdd, Nat.reduceLeDiff, Nat.reduceBEq]; done) | (simp only [cells_tokV, hm, ha, e3, e4, hlk, h0, hem, push_cast, reduceIte, Nat.reduceEqDiff, reduceCtorEq, Nat.reduceAdd, Nat.reduceLeDiff, Nat.reduceBEq]; exact rfl) | fail) ?_ | (refine Fk.by_ ?_ ?_ <;> intro hc <;> try simp only [hc]) | refine storeK_eq rfl ?_ | with_reducible refine And.intro ?_ ?_ | fail) <;> try simp only [cells_tokV, hm, ha, e3, e4, hlk, h0, hem, push_cast, reduceIte, Nat.reduceEqDiff, reduceCtorEq, Nat.reduceAdd, Nat.reduceLeDiff, Nat.reduceBEq]))
    refine finB ((hwf.put rfl)) (by simp only [F13, cells_tokV, e3, e4, hlk, push_cast, reduceIte, Nat.reduceEqDiff, reduceCtorEq, Nat.reduceAdd, Nat.reduceLeDiff, Nat.reduceBEq]; exact rfl) (by first | exact .inl rfl | (right; simp only [F13, cells_tokV, e3, e4, hlk, push_cast, reduceIte, Nat.reduceEqDiff, reduceCtorEq, Nat.reduceAdd, Nat.reduceLeDiff, Nat.reduceBEq]; try rfl)) (by first | rfl | assumption) (by simp) (by simp) (by (repeat first | exact ((hwf.put rfl)).subm | exact ((hwf.put rfl)).suba | refine Sub.drop (by simp) ?_)) (by (repeat first | exact ((hwf.put rfl)).subm | exact ((hwf.put rfl)).suba | refine Sub.drop (by simp) ?_)) (by (repeat first | exact ((hwf.put rfl)).subx | refine ExSub.drop (by simp) ?_))
end Go.Proofs.YtnondemehfkalaaDoor
