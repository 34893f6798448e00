/- lexer.Scan. -/
import Derived.Test.YtnondemehfkalaaDoorL5
set_option linter.unusedSimpArgs false
set_option linter.unusedVariables false
namespace Go.Proofs.YtnondemehfkalaaDoor
open Go.Sha

theorem runTo_bd {ok : UInt8 → Bool} {s : List UInt8} {i : Nat} (h : i ≤ s.length) : i ≤ runTo ok s i ∧ runTo ok s i ≤ s.length := ⟨le_runTo, runTo_le h⟩
theorem runTo_lt {ok : UInt8 → Bool} {s : List UInt8} {i : Nat} (h : atIs ok s i = true) : i < runTo ok s i := by
  have := (runTo_go h).1
  have := le_runTo (ok := ok) (s := s) (i := i + 1)
  omega
theorem letB_wrdB {s : List UInt8} {i : Nat} (h : atIs letB s i = true) : atIs wrdB s i = true := by
  unfold atIs at h ⊢
  cases hb : s[i]? with
  | none => rw [hb] at h; exact h
  | some b =>
    rw [hb] at h
    simp only [letB, wrdB, isWrd] at h ⊢
    rw [h]; rfl

theorem lexAt_bd {s : List UInt8} {a : Nat} (ha : a ≤ s.length) {k : Int} {t : List UInt8} {e : Nat} (h : lexAt s a = some (k, t, e)) : a ≤ e ∧ e ≤ s.length ∧ (k ≠ 3 → a < e) := by
  unfold lexAt at h
  split at h
  · cases h; exact ⟨Nat.le_refl _, ha, fun h => absurd rfl h⟩
  · split at h
    · rename_i h1 h2
      cases h
      have := runTo_bd (ok := wrdB) ha
      exact ⟨this.1, this.2, fun _ => runTo_lt (letB_wrdB h2)⟩
    · split at h
      · rename_i h1 h2 h3
        have hl := atIs_lt h3
        have := runTo_bd (ok := plnB) (s := s) (i := a + 1) (by omega)
        split at h
        · rename_i h4
          have := atIs_lt h4
          cases h
          exact ⟨by omega, by omega, fun _ => by omega⟩
        · cases h
      · split at h
        · rename_i h1 h2 h3 h4
          have := runTo_bd (ok := digB) ha
          have := runTo_lt h4
          split at h
          · rename_i h5
            simp only [Bool.and_eq_true] at h5
            have h6 := atIs_lt h5.2
            have := runTo_bd (ok := digB) (s := s) (i := runTo digB s a + 1) (by omega)
            cases h
            exact ⟨by omega, by omega, fun _ => by omega⟩
          · cases h
            exact ⟨by omega, by omega, fun _ => by omega⟩
        · split at h
          · rename_i h5
            have := atIs_lt h5
            cases h
            exact ⟨by omega, by omega, fun _ => by omega⟩
          · cases h

/-- The tokens from a place on, behind others: all of them, or the place and the number of the error. -/
def scanG : Nat → List UInt8 → Nat → List Tok → List Tok × Nat × Int
  | 0, _, _, _ => ([], 0, 4)
  | f + 1, s, i, acc => match lexAt s (runTo (isB 32) s i) with
    | none => ([], runTo (isB 32) s i, 4)
    | some (k, t, e) => if acc.length = 256 then ([], runTo (isB 32) s i, 5)
      else if k = 3 then (acc ++ [⟨k, t, (runTo (isB 32) s i : Nat)⟩], 0, 0)
      else scanG f s e (acc ++ [⟨k, t, (runTo (isB 32) s i : Nat)⟩])

def scanR (s : List UInt8) : List Tok × Nat × Int := if 4096 < s.length then ([], 0, 13) else scanG (s.length + 1) s 0 []
def scanV (r : List Tok × Nat × Int) : V := .tup [.sl (r.1.map tkV), .int .i64 (r.2.1 : Int), .int .i64 r.2.2]

theorem scan_v (s : List UInt8) (st : St) : VRet Tryd.prog 5 [.str s] st (scanV (scanR s)) st := by
  refine VCalls_of F5_ok mixed (Nat.le_of_ble_eq_true rfl) (fun hwf => ?_)
  by_cases hl : 4096 < s.length
  · have hR : scanR s = ([], 0, 13) := if_pos hl
    have h0 : decide ((4096 : Int) < (s.length : Int)) = true := by simp; omega
    rw [hR]
    (repeat' first | ((first | refine go rfl rfl ?_ | (refine Fk.by_ ?_ ?_ <;> intro hc <;> try simp only [hc]) | refine storeK_eq rfl ?_ | with_reducible refine And.intro ?_ ?_ | fail) <;> try simp only [h0, push_cast, reduceIte, Nat.reduceEqDiff, reduceCtorEq, Nat.reduceAdd, Nat.reduceLeDiff, Nat.reduceBEq]))
    refine finB (hwf) (by simp only [F5, scanV, push_cast, reduceIte, Nat.reduceEqDiff, reduceCtorEq, Nat.reduceAdd, Nat.reduceLeDiff, Nat.reduceBEq]; exact rfl) (by first | exact .inl rfl | (right; simp only [F5, scanV, push_cast, reduceIte, Nat.reduceEqDiff, reduceCtorEq, Nat.reduceAdd, Nat.reduceLeDiff, Nat.reduceBEq]; try rfl)) (by first | rfl | assumption) (by simp) (by simp) (by (repeat first | exact (hwf).subm | exact (hwf).suba | refine Sub.drop (by simp) ?_)) (by (repeat first | exact (hwf).subm | exact (hwf).suba | refine Sub.drop (by simp) ?_)) (by (repeat first | exact (hwf).subx | refine ExSub.drop (by simp) ?_))
  · have hR : scanR s = scanG (s.length + 1) s 0 [] := if_neg hl
    have hs : s.length < 140737488355328 := by omega
    have h0 : decide ((4096 : Int) < (s.length : Int)) = false := by simp; omega
    obtain ⟨R, hRR⟩ : ∃ R, scanR s = R := ⟨_, rfl⟩
    rw [hRR]
    rw [hRR] at hR
    (repeat' first | ((first | refine go rfl rfl ?_ | (refine Fk.by_ ?_ ?_ <;> intro hc <;> try simp only [hc]) | refine storeK_eq rfl ?_ | with_reducible refine And.intro ?_ ?_ | fail) <;> try simp only [h0, push_cast, reduceIte, Nat.reduceEqDiff, reduceCtorEq, Nat.reduceAdd, Nat.reduceLeDiff, Nat.reduceBEq]))
    refine WT_own 32 3 (t := 6) rfl ?_
    refine WT_loop rfl (fun n e z => ∃ f i acc, n = s.length - i ∧ i ≤ s.length ∧ s.length - i < f ∧ acc.length ≤ 256 ∧ R = scanG f s i acc ∧ e = [(5, .ptr st.nx 0), (6, .osl (st.nx + 1) acc.length)] ∧
      z = ⟨st.nx + 2, (st.nx, [.str s, .int .i64 (i : Int)]) :: st.mem, (st.nx + 1, ⟨32, 3, acc.map tkV, false, false⟩) :: st.arr, st.x⟩) (st.nx + 2) (Nat.le_refl _) (by rintro _ _ _ ⟨_, _, _, _, _, _, _, _, _, rfl⟩; rfl)
      ⟨_, _, _, ⟨s.length + 1, 0, [], rfl, Nat.zero_le _, by omega, by simp, hR, rfl, rfl⟩, (by repeat first | exact .nil | refine .cons (by first | rfl | (simp [V.bd, V.bdL]; try first | omega | assumption)) (by first | rfl | simp only [push_cast, reduceIte, Nat.reduceEqDiff, reduceCtorEq, Nat.reduceAdd, Nat.reduceLeDiff, Nat.reduceBEq]) ?_), .refl ((hwf.new rfl).newA rfl)⟩ ?_
    rintro n e z ⟨f, i, acc, rfl, hi, hf, hac, hR, rfl, rfl⟩
    cases f with
    | zero => omega
    | succ f =>
    rw [scanG] at hR
    obtain ⟨a, ha⟩ : ∃ a, runTo (isB 32) s i = a := ⟨_, rfl⟩
    have hal : a ≤ s.length := by rw [← ha]; exact runTo_le hi
    rw [ha] at hR
    have hm : Sha.look ((st.nx, [V.str s, .int .i64 (i : Int)]) :: st.mem) st.nx = some [.str s, .int .i64 (i : Int)] := by simp [Sha.look]
    cases h : lexAt s a with
    | none =>
      have ht : tokR s i = (.tup [tokV 0 [] 0, .bool false], a) := by rw [tokR, ha, h]
      rw [h] at hR
      subst hR
      (repeat' first | ((first | refine go rfl rfl ?_ | refine Cl.by_ (by (first | refine token_v (i := i) hm hi hs)) ?_ | (refine Fk.by_ ?_ ?_ <;> intro hc <;> try simp only [hc]) | refine storeK_eq rfl ?_ | with_reducible refine And.intro ?_ ?_ | fail) <;> try simp only [ht, cells_tokV, push_cast, reduceIte, Nat.reduceEqDiff, reduceCtorEq, Nat.reduceAdd, Nat.reduceLeDiff, Nat.reduceBEq]))
      refine finB (hwf) (by simp only [F5, scanV, push_cast, reduceIte, Nat.reduceEqDiff, reduceCtorEq, Nat.reduceAdd, Nat.reduceLeDiff, Nat.reduceBEq]; exact rfl) (by first | exact .inl rfl | (right; simp only [F5, scanV, push_cast, reduceIte, Nat.reduceEqDiff, reduceCtorEq, Nat.reduceAdd, Nat.reduceLeDiff, Nat.reduceBEq]; try rfl)) (by first | rfl | assumption) (by simp) (by simp) (by (repeat first | exact (hwf).subm | exact (hwf).suba | refine Sub.drop (by simp) ?_)) (by (repeat first | exact (hwf).subm | exact (hwf).suba | refine Sub.drop (by simp) ?_)) (by (repeat first | exact (hwf).subx | refine ExSub.drop (by simp) ?_))
    | some r =>
      obtain ⟨k, t, e⟩ := r
      have ht : tokR s i = (.tup [tokV k t a, .bool true], e) := by rw [tokR, ha, h]
      simp only [h] at hR
      by_cases hn : acc.length = 256
      · rw [if_pos hn] at hR
        subst hR
        have h1 : ((acc.length : Int) == 256) = true := by simp; omega
        (repeat' first | ((first | refine go rfl rfl ?_ | refine Cl.by_ (by (first | refine token_v (i := i) hm hi hs)) ?_ | (refine Fk.by_ ?_ ?_ <;> intro hc <;> try simp only [hc]) | refine storeK_eq rfl ?_ | with_reducible refine And.intro ?_ ?_ | fail) <;> try simp only [ht, cells_tokV, h1, push_cast, reduceIte, Nat.reduceEqDiff, reduceCtorEq, Nat.reduceAdd, Nat.reduceLeDiff, Nat.reduceBEq]))
        refine finB (hwf) (by simp only [F5, scanV, push_cast, reduceIte, Nat.reduceEqDiff, reduceCtorEq, Nat.reduceAdd, Nat.reduceLeDiff, Nat.reduceBEq]; exact rfl) (by first | exact .inl rfl | (right; simp only [F5, scanV, push_cast, reduceIte, Nat.reduceEqDiff, reduceCtorEq, Nat.reduceAdd, Nat.reduceLeDiff, Nat.reduceBEq]; try rfl)) (by first | rfl | assumption) (by simp) (by simp) (by (repeat first | exact (hwf).subm | exact (hwf).suba | refine Sub.drop (by simp) ?_)) (by (repeat first | exact (hwf).subm | exact (hwf).suba | refine Sub.drop (by simp) ?_)) (by (repeat first | exact (hwf).subx | refine ExSub.drop (by simp) ?_))
      · rw [if_neg hn] at hR
        have h1 : ((acc.length : Int) == 256) = false := by simp; omega
        by_cases hk : k = 3
        · rw [if_pos hk] at hR
          subst hR
          have h2 : (k == 3) = true := by simp [hk]
          have hrm : roomV (acc.length + 1) 32 = true := by simp [roomV, maxLen]; omega
          have hbr : V.bd st.nx (scanV (acc ++ [⟨k, t, (a : Int)⟩], 0, 0)) = true := by
            simp only [scanV, V.bd, V.bdL, bdL_tk]; rfl
          (repeat' first | ((first | refine go rfl rfl ?_ | refine Cl.by_ (by (first | refine token_v (i := i) hm hi hs)) ?_ | (refine Fk.by_ ?_ ?_ <;> intro hc <;> try simp only [hc]) | refine storeK_eq rfl ?_ | with_reducible refine And.intro ?_ ?_ | fail) <;> try simp only [ht, cells_tokV, app_tk, h1, h2, hrm, push_cast, reduceIte, Nat.reduceEqDiff, reduceCtorEq, Nat.reduceAdd, Nat.reduceLeDiff, Nat.reduceBEq]))
          refine finB (hwf) (by simp only [F5, scanV, push_cast, reduceIte, Nat.reduceEqDiff, reduceCtorEq, Nat.reduceAdd, Nat.reduceLeDiff, Nat.reduceBEq]; exact rfl) (by first | exact .inl rfl | (right; simp only [F5, scanV, push_cast, reduceIte, Nat.reduceEqDiff, reduceCtorEq, Nat.reduceAdd, Nat.reduceLeDiff, Nat.reduceBEq]; try rfl)) (by first | rfl | assumption) (by simp) (by simp) (by (repeat first | exact (hwf).subm | exact (hwf).suba | refine Sub.drop (by simp) ?_)) (by (repeat first | exact (hwf).subm | exact (hwf).suba | refine Sub.drop (by simp) ?_)) (by (repeat first | exact (hwf).subx | refine ExSub.drop (by simp) ?_))
        · rw [if_neg hk] at hR
          have h2 : (k == 3) = false := by simp [hk]
          have hrm : roomV (acc.length + 1) 32 = true := by simp [roomV, maxLen]; omega
          (repeat' first | ((first | refine go rfl rfl ?_ | refine Cl.by_ (by (first | refine token_v (i := i) hm hi hs)) ?_ | (refine Fk.by_ ?_ ?_ <;> intro hc <;> try simp only [hc]) | refine storeK_eq rfl ?_ | with_reducible refine And.intro ?_ ?_ | fail) <;> try simp only [ht, cells_tokV, app_tk, h1, h2, hrm, push_cast, reduceIte, Nat.reduceEqDiff, reduceCtorEq, Nat.reduceAdd, Nat.reduceLeDiff, Nat.reduceBEq]))
          obtain ⟨g1, g2, g3⟩ := lexAt_bd hal h
          have := g3 hk
          have := le_runTo (ok := isB 32) (s := s) (i := i)
          refine ⟨_, _, _, by omega, ⟨f, e, acc ++ [⟨k, t, (a : Int)⟩], rfl, by omega, by omega, by simp; omega, hR, rfl, rfl⟩, (by repeat first | exact .nil | refine .cons (by first | rfl | (simp [V.bd, V.bdL]; try first | omega | assumption)) (by first | rfl | simp only [push_cast, reduceIte, Nat.reduceEqDiff, reduceCtorEq, Nat.reduceAdd, Nat.reduceLeDiff, Nat.reduceBEq]) ?_), Weak.wf rfl (by simp) (by (repeat first | exact ((hwf.new rfl).newA (bdL_tk)).subm | exact ((hwf.new rfl).newA (bdL_tk)).suba | refine Sub.drop (by simp) ?_)) (by (repeat first | exact ((hwf.new rfl).newA (bdL_tk)).subm | exact ((hwf.new rfl).newA (bdL_tk)).suba | refine Sub.drop (by simp) ?_)) (by (repeat first | exact ((hwf.new rfl).newA (bdL_tk)).subx | refine ExSub.drop (by simp) ?_)) ((hwf.new rfl).newA (bdL_tk))⟩
end Go.Proofs.YtnondemehfkalaaDoor
