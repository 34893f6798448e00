/- LexerIgnores: the walk. -/
import Derived.Test.YtnondemehfkalaaDoorI1
import Derived.Test.YtnondemehfkalaaDoorB1
import Derived.Test.YtnondemehfkalaaDoorL17
set_option linter.unusedSimpArgs false
set_option linter.unusedVariables false
namespace Go.Proofs.YtnondemehfkalaaDoor
open Go.Sha Go.RowKit

theorem ignores_v (s : List UInt8) (more : Nat) (st : St) (hm : more < 256) : VRet Tryd.prog 3 [.str s, .int .u8 (more : Int)] st (.bool true) st := by
  refine VCalls_of F3_ok mixed (Nat.le_of_ble_eq_true rfl) (fun hwf => ?_)
  have hsz : s.length ≤ 300 ∨ 300 < s.length := by omega
  rcases hsz with hs | hs
  · have h0 : decide (300 < (s.length : Int)) = false := decide_eq_false (by omega)
    obtain ⟨l, at', er, hR⟩ : ∃ l at' er, scanR s = (l, at', er) := ⟨_, _, _, rfl⟩
    have hsc : ∀ st, VRet Tryd.prog 5 [.str s] st (scanV (l, at', er)) st := fun st => by have := scan_v s st; rwa [hR] at this
    by_cases he : er = 0
    · subst he
      have her : (((0 : Int) : Int) != 0) = false := rfl
      obtain ⟨r, hr⟩ : ∃ r, r = more % 3 := ⟨_, rfl⟩
      obtain ⟨c, hc⟩ : ∃ c, c = 1 + r := ⟨_, rfl⟩
      have hc0 : 0 < c := by omega
      have hc3 : c ≤ 3 := by omega
      obtain ⟨⟨m, hm1, hm2⟩, hw1, hne, hl256, htx⟩ := wid_law hc0 hc3 hs hR
      have hbl : V.bdL st.nx (l.map tkV) = true := bdL_tk
      have hbl2 : V.bdL (st.nx + 2) (l.map tkV) = true := bdL_tk
      have hrem : (more : Int).tmod 3 = (r : Int) := by rw [Int.tmod_eq_emod_of_nonneg (by omega)]; omega
      have h30 : ((3 : Int) ≠ 0) = True := by simp
      have hw8 : IntKind.i64.wrap (r : Int) = (r : Int) := wrap64 (by omega) (by omega)
      have hw9 : IntKind.i64.wrap (1 + (r : Int)) = (c : Int) := by rw [wrap64 (by omega) (by omega)]; omega
      have hrep : ∀ st, VRet Tryd.prog 7 [.str [32], .int .i64 (c : Int)] st (.str (List.replicate c 32)) st := fun st => by
        have := repeat_v [32] c st (by omega) (by simp; omega)
        rwa [blanks_eq] at this
      have hwl : ∀ j, j ≤ l.length → (wid c (l.take j)).length ≤ 4096 := fun j hj => by
        have e1 : wid c l = wid c (l.take j) ++ wid c (l.drop j) := by
          unfold wid; rw [← List.flatMap_append, List.take_append_drop]
        have := congrArg List.length e1
        rw [List.length_append] at this
        omega
      (repeat' first | ((first | refine go rfl rfl ?_ | refine Cl.by_ (by (first | refine awake_v _ | refine hsc _)) ?_ | (refine Fk.by_ ?_ ?_ <;> intro hc <;> try simp only [hc]) | refine storeK_eq rfl ?_ | with_reducible refine And.intro ?_ ?_ | fail) <;> try simp only [h0, her, scanV, push_cast, reduceIte, Nat.reduceEqDiff, reduceCtorEq, Nat.reduceAdd, Nat.reduceLeDiff, Nat.reduceBEq]))
      refine WT_ownM 5 1 (b := st.nx) (off := 1) (cs := [.nilp, .nils]) (by simp [Sha.look]) rfl ?_
      simp only [updM, if_true, List.set_cons_succ, List.set_cons_zero]
      (repeat' first | ((first | refine go rfl rfl ?_ | (refine Fk.by_ ?_ ?_ <;> intro hc <;> try simp only [hc]) | refine storeK_eq rfl ?_ | with_reducible refine And.intro ?_ ?_ | fail) <;> try simp only [push_cast, reduceIte, Nat.reduceEqDiff, reduceCtorEq, Nat.reduceAdd, Nat.reduceLeDiff, Nat.reduceBEq]))
      refine WT_loop rfl (fun n e z => ∃ (j : Nat) (p : V), n = l.length - j ∧ j ≤ l.length ∧ (p = .nilp ∨ p = .ptr st.nx 0) ∧
          e = [(29, .int .i64 (j : Int)), (28, .int .i64 (l.length : Int)), (27, .sl (l.map tkV)), (8, .ptr st.nx 0), (5, .sl (l.map tkV)), (1, .int .u8 (more : Int))] ∧
          z = ⟨st.nx + 2, (st.nx, [p, .osl (st.nx + 1) (wid c (l.take j)).length]) :: st.mem, (st.nx + 1, ⟨5, 1, (wid c (l.take j)).map bV, false, false⟩) :: st.arr, ⟨st.x.obj, st.x.gl, (st.nx, 30) :: st.x.ty⟩⟩) (st.nx + 2) (Nat.le_refl _) (by rintro _ _ _ ⟨j, p, _, _, _, _, rfl⟩; rfl)
        ⟨_, _, _, ⟨0, .nilp, rfl, Nat.zero_le _, .inl rfl, rfl, rfl⟩, (by repeat first | exact .nil | refine .cons (by first | rfl | (simp [V.bd, V.bdL]; try first | omega | assumption)) (by first | rfl | simp only [push_cast, reduceIte, Nat.reduceEqDiff, reduceCtorEq, Nat.reduceAdd, Nat.reduceLeDiff, Nat.reduceBEq]) ?_), ?_⟩ ?_
      · exact Weak.refl (Wf.bld (T := 30) (e := 5) (l := []) (n := 0) hwf (.inl rfl))
      rintro n e z ⟨j, p, rfl, hj, hp, rfl, rfl⟩
      rcases Nat.lt_or_ge j l.length with hlt | hge
      · obtain ⟨x, hx⟩ : ∃ x, l[j]? = some x := ⟨_, List.getElem?_eq_getElem hlt⟩
        have h2 : decide ((j : Int) < (l.length : Int)) = true := decide_eq_true (by omega)
        have hw : IntKind.i64.wrap ((j : Int) + 1) = (j : Int) + 1 := wrap64 (by omega) (by omega)
        obtain ⟨hx1, hx2⟩ := htx x (List.mem_of_getElem? hx)
        have htn : wid c (l.take (j + 1)) = wid c (l.take j) ++ List.replicate c 32 ++ upT x := by
          rw [List.take_add_one, hx]; simp [wid]
        have hwj := hwl (j + 1) (by omega)
        rw [htn] at hwj
        have hl1 : (wid c (l.take j) ++ List.replicate c 32 ++ upT x).length = (wid c (l.take j)).length + c + (upT x).length := by simp [Nat.add_assoc]
        have hl2 : (wid c (l.take j) ++ List.replicate c 32).length = (wid c (l.take j)).length + c := by simp
        rw [hl1] at hwj
        have hroom1 : roomV ((wid c (l.take j)).length + (List.replicate c (32 : UInt8)).length) 1 = true := by
          rw [List.length_replicate]; exact room_small (by omega)
        have hroom2 : roomV ((wid c (l.take j)).length + c + (upT x).length) 1 = true := room_small (by omega)
        have hrl : (List.replicate c (32 : UInt8)).length = c := by simp
        have hwB := Wf.bld (T := 30) (e := 5) (n := (wid c (l.take (j + 1))).length) (l := wid c (l.take (j + 1))) hwf (.inr (rfl : V.ptr st.nx 0 = .ptr st.nx 0))
        by_cases hk : x.k = 0
        · have hk0 : (x.k == 0) = true := by simp [hk]
          cases hpre : Lib.hasPrefix x.t [34] with
          | false =>
            have hu : upT x = Lib.toUpperA x.t := by unfold upT; rw [if_pos ⟨hk, hpre⟩]
            have hup : ∀ st, VRet Tryd.prog 9 [.str x.t] st (.str (upT x)) st := fun st => by rw [hu]; exact toUpper_v x.t st (by omega) (hx2 hk hpre)
            have hpv : ∀ st, VRet Tryd.prog 8 [.str x.t, .str [34]] st (.bool false) st := fun st => by have := prefix_v x.t [34] st; rwa [hpre] at this
            (repeat' first | ((first | refine go rfl rfl ?_ | refine Cl.by_ (by (first | refine hrep _ | refine hpv _ | refine hup _ | refine write_x _ (by omega) hp rfl hroom1 | refine write_x _ (by omega) (.inr rfl) hl2 hroom2)) ?_ | (refine Fk.by_ ?_ ?_ <;> intro hc <;> try simp only [hc]) | refine storeK_eq rfl ?_ | with_reducible refine And.intro ?_ ?_ | fail) <;> try simp only [h2, hw, hx, cells_tkV, hrem, h30, hw8, hw9, hk0, hrl, push_cast, reduceIte, Nat.reduceEqDiff, reduceCtorEq, Nat.reduceAdd, Nat.reduceLeDiff, Nat.reduceBEq]))
            all_goals (
              rw [← htn, show (wid c (l.take j)).length + (c + (upT x).length) = (wid c (l.take (j + 1))).length by rw [htn, hl1]; omega]
              exact ⟨_, _, _, by omega, ⟨j + 1, _, rfl, by omega, .inr rfl, rfl, rfl⟩, (by repeat first | exact .nil | refine .cons (by first | rfl | (simp [V.bd, V.bdL]; try first | omega | assumption)) (by first | rfl | simp only [push_cast, reduceIte, Nat.reduceEqDiff, reduceCtorEq, Nat.reduceAdd, Nat.reduceLeDiff, Nat.reduceBEq]) ?_), Weak.wf rfl (by simp) (Sub.drop (Nat.le_refl _) hwB.subm) hwB.suba hwB.subx hwB⟩)
          | true =>
            have hu : upT x = x.t := by unfold upT; rw [if_neg (by rw [hpre]; simp)]
            have hpv : ∀ st, VRet Tryd.prog 8 [.str x.t, .str [34]] st (.bool true) st := fun st => by have := prefix_v x.t [34] st; rwa [hpre] at this
            rw [hu] at hroom2 hl1 htn
            (repeat' first | ((first | refine go rfl rfl ?_ | refine Cl.by_ (by (first | refine hrep _ | refine hpv _ | refine write_x _ (by omega) hp rfl hroom1 | refine write_x _ (by omega) (.inr rfl) hl2 hroom2)) ?_ | (refine Fk.by_ ?_ ?_ <;> intro hc <;> try simp only [hc]) | refine storeK_eq rfl ?_ | with_reducible refine And.intro ?_ ?_ | fail) <;> try simp only [h2, hw, hx, cells_tkV, hrem, h30, hw8, hw9, hk0, hrl, push_cast, reduceIte, Nat.reduceEqDiff, reduceCtorEq, Nat.reduceAdd, Nat.reduceLeDiff, Nat.reduceBEq]))
            all_goals (
              rw [← htn, show (wid c (l.take j)).length + (c + x.t.length) = (wid c (l.take (j + 1))).length by rw [htn, hl1]; omega]
              exact ⟨_, _, _, by omega, ⟨j + 1, _, rfl, by omega, .inr rfl, rfl, rfl⟩, (by repeat first | exact .nil | refine .cons (by first | rfl | (simp [V.bd, V.bdL]; try first | omega | assumption)) (by first | rfl | simp only [push_cast, reduceIte, Nat.reduceEqDiff, reduceCtorEq, Nat.reduceAdd, Nat.reduceLeDiff, Nat.reduceBEq]) ?_), Weak.wf rfl (by simp) (Sub.drop (Nat.le_refl _) hwB.subm) hwB.suba hwB.subx hwB⟩)
        · have hk0 : (x.k == 0) = false := by simpa using hk
          have hu : upT x = x.t := by unfold upT; rw [if_neg (fun h => hk h.1)]
          rw [hu] at hroom2 hl1 htn
          (repeat' first | ((first | refine go rfl rfl ?_ | refine Cl.by_ (by (first | refine hrep _ | refine write_x _ (by omega) hp rfl hroom1 | refine write_x _ (by omega) (.inr rfl) hl2 hroom2)) ?_ | (refine Fk.by_ ?_ ?_ <;> intro hc <;> try simp only [hc]) | refine storeK_eq rfl ?_ | with_reducible refine And.intro ?_ ?_ | fail) <;> try simp only [h2, hw, hx, cells_tkV, hrem, h30, hw8, hw9, hk0, hrl, push_cast, reduceIte, Nat.reduceEqDiff, reduceCtorEq, Nat.reduceAdd, Nat.reduceLeDiff, Nat.reduceBEq]))
          all_goals (
            rw [← htn, show (wid c (l.take j)).length + (c + x.t.length) = (wid c (l.take (j + 1))).length by rw [htn, hl1]; omega]
            exact ⟨_, _, _, by omega, ⟨j + 1, _, rfl, by omega, .inr rfl, rfl, rfl⟩, (by repeat first | exact .nil | refine .cons (by first | rfl | (simp [V.bd, V.bdL]; try first | omega | assumption)) (by first | rfl | simp only [push_cast, reduceIte, Nat.reduceEqDiff, reduceCtorEq, Nat.reduceAdd, Nat.reduceLeDiff, Nat.reduceBEq]) ?_), Weak.wf rfl (by simp) (Sub.drop (Nat.le_refl _) hwB.subm) hwB.suba hwB.subx hwB⟩)
      · have h2 : decide ((j : Int) < (l.length : Int)) = false := decide_eq_false (by omega)
        have ej : j = l.length := by omega
        subst ej
        rw [List.take_length]
        have hpos : 0 < (wid c l).length := by
          have := wid_len (c := c) l
          have : 0 < c * l.length := Nat.mul_pos hc0 (List.length_pos_iff.2 hne)
          omega
        have hsc2 : ∀ st, VRet Tryd.prog 5 [.str (wid c l)] st (scanV (m, 0, 0)) st := fun st => by have := scan_v (wid c l) st; rwa [hm1] at this
        have hml : m.length = l.length := by have := congrArg List.length hm2; simpa using this
        have hmne : m ≠ [] := fun e => hne (List.length_eq_zero_iff.1 (by rw [← hml, e]; rfl))
        have hz : ((0 : Int) == 0) = true := rfl
        have heq : ∀ st, VRet Tryd.prog 11 [.sl ((l.map bareT).map tkV), .sl ((m.map bareT).map tkV)] st (.bool true) st := fun st => by
          have := equal_v (l.map bareT) (m.map bareT) st (by simp; omega)
          rw [decide_eq_true hm2.symm] at this
          exact this
        (repeat' first | ((first | refine go rfl rfl ?_ | refine Cl.by_ (by (first | refine string_x hp hpos | refine hsc2 _ | refine bare_v l _ hne (by omega) | refine bare_v m _ hmne (by omega) | refine heq _ | refine awake_v _)) ?_ | (refine Fk.by_ ?_ ?_ <;> intro hc <;> try simp only [hc]) | refine storeK_eq rfl ?_ | with_reducible refine And.intro ?_ ?_ | fail) <;> try simp only [h2, scanV, hz, push_cast, reduceIte, Nat.reduceEqDiff, reduceCtorEq, Nat.reduceAdd, Nat.reduceLeDiff, Nat.reduceBEq]))
        have hdel : delA st.arr (st.nx + 1) = st.arr := delA_none (by
          cases e : Sha.look st.arr (st.nx + 1) with
          | none => rfl
          | some ar => have := (hwf.arr _ _ e).1; omega)
        rw [hdel]
        all_goals refine finB (hwf) (by simp only [F3, push_cast, reduceIte, Nat.reduceEqDiff, reduceCtorEq, Nat.reduceAdd, Nat.reduceLeDiff, Nat.reduceBEq]; exact rfl) (by first | exact .inl rfl | (right; simp only [F3, push_cast, reduceIte, Nat.reduceEqDiff, reduceCtorEq, Nat.reduceAdd, Nat.reduceLeDiff, Nat.reduceBEq]; try rfl)) (by first | rfl | assumption) (by simp) (by simp) (by (repeat first | exact (hwf).subm | exact (hwf).suba | refine Sub.drop (by simp) ?_)) (by (repeat first | exact (hwf).subm | exact (hwf).suba | refine Sub.drop (by simp) ?_)) (by (repeat first | exact (hwf).subx | refine ExSub.dropt (by simp) ?_ | refine ExSub.drop (by simp) ?_))
    · have her : (er != 0) = true := by simpa [bne] using he
      (repeat' first | ((first | refine go rfl rfl ?_ | refine Cl.by_ (by (first | refine awake_v _ | refine hsc _)) ?_ | (refine Fk.by_ ?_ ?_ <;> intro hc <;> try simp only [hc]) | refine storeK_eq rfl ?_ | with_reducible refine And.intro ?_ ?_ | fail) <;> try simp only [h0, her, scanV, push_cast, reduceIte, Nat.reduceEqDiff, reduceCtorEq, Nat.reduceAdd, Nat.reduceLeDiff, Nat.reduceBEq]))
      all_goals refine finB (hwf) (by simp only [F3, push_cast, reduceIte, Nat.reduceEqDiff, reduceCtorEq, Nat.reduceAdd, Nat.reduceLeDiff, Nat.reduceBEq]; exact rfl) (by first | exact .inl rfl | (right; simp only [F3, push_cast, reduceIte, Nat.reduceEqDiff, reduceCtorEq, Nat.reduceAdd, Nat.reduceLeDiff, Nat.reduceBEq]; try rfl)) (by first | rfl | assumption) (by simp) (by simp) (by (repeat first | exact (hwf).subm | exact (hwf).suba | refine Sub.drop (by simp) ?_)) (by (repeat first | exact (hwf).subm | exact (hwf).suba | refine Sub.drop (by simp) ?_)) (by (repeat first | exact (hwf).subx | refine ExSub.dropt (by simp) ?_ | refine ExSub.drop (by simp) ?_))
  · have h0 : decide (300 < (s.length : Int)) = true := decide_eq_true (by omega)
    (repeat' first | ((first | refine go rfl rfl ?_ | refine Cl.by_ (by (first | refine awake_v _)) ?_ | (refine Fk.by_ ?_ ?_ <;> intro hc <;> try simp only [hc]) | refine storeK_eq rfl ?_ | with_reducible refine And.intro ?_ ?_ | fail) <;> try simp only [h0, push_cast, reduceIte, Nat.reduceEqDiff, reduceCtorEq, Nat.reduceAdd, Nat.reduceLeDiff, Nat.reduceBEq]))
    all_goals refine finB (hwf) (by simp only [F3, push_cast, reduceIte, Nat.reduceEqDiff, reduceCtorEq, Nat.reduceAdd, Nat.reduceLeDiff, Nat.reduceBEq]; exact rfl) (by first | exact .inl rfl | (right; simp only [F3, push_cast, reduceIte, Nat.reduceEqDiff, reduceCtorEq, Nat.reduceAdd, Nat.reduceLeDiff, Nat.reduceBEq]; try rfl)) (by first | rfl | assumption) (by simp) (by simp) (by (repeat first | exact (hwf).subm | exact (hwf).suba | refine Sub.drop (by simp) ?_)) (by (repeat first | exact (hwf).subm | exact (hwf).suba | refine Sub.drop (by simp) ?_)) (by (repeat first | exact (hwf).subx | refine ExSub.dropt (by simp) ?_ | refine ExSub.drop (by simp) ?_))

theorem ignores_w (s : List UInt8) (n : Int) (h1 : 0 ≤ n) (h2 : n ≤ 255) (st : St) : VRet Tryd.prog 3 [.str s, .int .u8 n] st (.bool true) st := by
  obtain ⟨m, rfl⟩ := Int.eq_ofNat_of_zero_le h1
  exact ignores_v s m st (by omega)
end Go.Proofs.YtnondemehfkalaaDoor
