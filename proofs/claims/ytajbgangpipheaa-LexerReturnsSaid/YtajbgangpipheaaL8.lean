/- The reference's quoted, Lower. -/
import Derived.Test.YtajbgangpipheaaL7
set_option linter.unusedSimpArgs false
set_option linter.unusedVariables false
namespace Go.Proofs.Ytajbgangpipheaa
open Go.Sha

def quoEnd (s : List UInt8) (i : Nat) : Int := if atIs (isB 34) s (runTo plnB s (i + 1)) then (runTo plnB s (i + 1) : Nat) + 1 else -1

theorem quoted_v {s : List UInt8} {i : Nat} (st : St) (hi : i < s.length) (hs : s.length < 140737488355328) : VRet Try.prog 30 [.str s, .int .i64 (i : Int)] st (.int .i64 (quoEnd s i)) st := by
  refine VCalls_of F30_ok mixed (Nat.le_of_ble_eq_true rfl) (fun hwf => ?_)
  unfold quoEnd
  have hw0 : IntKind.i64.wrap ((i : Int) + 1) = (i : Int) + 1 := wrap64 (by omega) (by omega)
  obtain ⟨d, hd⟩ : ∃ d, runTo plnB s (i + 1) = d := ⟨_, rfl⟩
  have hdl : d ≤ s.length := by rw [← hd]; exact runTo_le hi
  rw [hd]
  have key : ∀ j : Nat, j = d → WT Try.prog F30.N F30.T 15 [(5, .int .i64 (j : Int)), (0, .str s)] st (finQ F30.res st.nx fun x z => x = .ret (.int .i64 (if atIs (isB 34) s d = true then (d : Int) + 1 else -1)) ∧ z = st) := by
    intro j ej
    rw [ej]
    clear ej
    have hw : IntKind.i64.wrap ((d : Int) + 1) = (d : Int) + 1 := wrap64 (by omega) (by omega)
    rcases Nat.lt_or_ge d s.length with hlt | hge
    · obtain ⟨b, hb⟩ : ∃ b, s[d]? = some b := ⟨_, List.getElem?_eq_getElem (by omega)⟩
      have h1 : ((d : Int) == (s.length : Int)) = false := by simp; omega
      rw [atIs_some hb]
      have h2 : ((b.toNat : Int) != 34) = !(isB 34 b) := by simp [isB, bne]
      (repeat' first | ((first | refine go rfl rfl ?_ | (refine Fk.by_ ?_ ?_ <;> intro hc <;> try simp only [hc]) | refine storeK_eq rfl ?_ | with_reducible refine And.intro ?_ ?_ | fail) <;> try simp only [h1, hb, hw, h2, push_cast, reduceIte, Nat.reduceEqDiff, reduceCtorEq, Nat.reduceAdd, Nat.reduceLeDiff, Nat.reduceBEq]))
      all_goals refine finB (hwf) (by simp only [F30, push_cast, reduceIte, Nat.reduceEqDiff, reduceCtorEq, Nat.reduceAdd, Nat.reduceLeDiff, Nat.reduceBEq]; exact rfl) (by first | exact .inl rfl | (right; simp only [F30, push_cast, reduceIte, Nat.reduceEqDiff, reduceCtorEq, Nat.reduceAdd, Nat.reduceLeDiff, Nat.reduceBEq]; try rfl)) (by first | rfl | assumption) (by simp) (by simp) (by (repeat first | exact (hwf).subm | exact (hwf).suba | refine Sub.drop (by simp) ?_)) (by (repeat first | exact (hwf).subm | exact (hwf).suba | refine Sub.drop (by simp) ?_))
    · have h1 : ((d : Int) == (s.length : Int)) = true := by simp; omega
      rw [atIs_none hge, if_neg Bool.false_ne_true]
      (repeat' first | ((first | refine go rfl rfl ?_ | (refine Fk.by_ ?_ ?_ <;> intro hc <;> try simp only [hc]) | refine storeK_eq rfl ?_ | with_reducible refine And.intro ?_ ?_ | fail) <;> try simp only [h1, push_cast, reduceIte, Nat.reduceEqDiff, reduceCtorEq, Nat.reduceAdd, Nat.reduceLeDiff, Nat.reduceBEq]))
      refine finB (hwf) (by simp only [F30, push_cast, reduceIte, Nat.reduceEqDiff, reduceCtorEq, Nat.reduceAdd, Nat.reduceLeDiff, Nat.reduceBEq]; exact rfl) (by first | exact .inl rfl | (right; simp only [F30, push_cast, reduceIte, Nat.reduceEqDiff, reduceCtorEq, Nat.reduceAdd, Nat.reduceLeDiff, Nat.reduceBEq]; try rfl)) (by first | rfl | assumption) (by simp) (by simp) (by (repeat first | exact (hwf).subm | exact (hwf).suba | refine Sub.drop (by simp) ?_)) (by (repeat first | exact (hwf).subm | exact (hwf).suba | refine Sub.drop (by simp) ?_))
  (repeat' first | ((first | refine go rfl rfl ?_ | (refine Fk.by_ ?_ ?_ <;> intro hc <;> try simp only [hc]) | refine storeK_eq rfl ?_ | with_reducible refine And.intro ?_ ?_ | fail) <;> try simp only [hw0, push_cast, reduceIte, Nat.reduceEqDiff, reduceCtorEq, Nat.reduceAdd, Nat.reduceLeDiff, Nat.reduceBEq]))
  refine WT_loop rfl (fun n e z => ∃ j : Nat, n = s.length - j ∧ j ≤ s.length ∧ runTo plnB s j = d ∧ e = [(5, .int .i64 (j : Int)), (0, .str s)] ∧ z = st) st.nx (Nat.le_refl _) (by rintro _ _ _ ⟨j, _, _, _, _, rfl⟩; rfl)
    ⟨_, _, _, ⟨i + 1, rfl, hi, hd, rfl, rfl⟩, (by repeat first | exact .nil | refine .cons (by first | rfl | (simp [V.bd, V.bdL]; try omega)) (by first | rfl | simp only [push_cast, reduceIte, Nat.reduceEqDiff, reduceCtorEq, Nat.reduceAdd, Nat.reduceLeDiff, Nat.reduceBEq]) ?_), .refl hwf⟩ ?_
  rintro n e z ⟨j, rfl, hj, hr, rfl, rfl⟩
  rcases Nat.lt_or_ge j s.length with hlt | hge
  · obtain ⟨b, hb⟩ : ∃ b, s[j]? = some b := ⟨_, List.getElem?_eq_getElem hlt⟩
    have h1 : decide ((j : Int) < (s.length : Int)) = true := by simp; omega
    have hw : IntKind.i64.wrap ((j : Int) + 1) = (j : Int) + 1 := wrap64 (by omega) (by omega)
    have h5 : ∀ x, isPln b.toNat = x → atIs plnB s j = x := fun x h => by rw [atIs_some hb]; exact h
    (repeat' first | exact WT_env (by repeat first | exact .nil | refine .cons (by first | rfl | simp only [push_cast, reduceIte, Nat.reduceEqDiff, reduceCtorEq, Nat.reduceAdd, Nat.reduceLeDiff, Nat.reduceBEq]) ?_) (key j (by rw [← hr, runTo_stop (h5 false hc)])) | ((first | refine go rfl rfl ?_ | refine Cl.by_ (by (first | refine plain_v _ _)) ?_ | (refine Fk.by_ ?_ ?_ <;> intro hc <;> try simp only [hc]) | refine storeK_eq rfl ?_ | with_reducible refine And.intro ?_ ?_ | fail) <;> try simp only [h1, hb, hw, push_cast, reduceIte, Nat.reduceEqDiff, reduceCtorEq, Nat.reduceAdd, Nat.reduceLeDiff, Nat.reduceBEq]))
    exact ⟨_, _, _, by omega, ⟨j + 1, rfl, by omega, by rw [(runTo_go (h5 true hc)).1, hr], rfl, rfl⟩, (by repeat first | exact .nil | refine .cons (by first | rfl | (simp [V.bd, V.bdL]; try omega)) (by first | rfl | simp only [push_cast, reduceIte, Nat.reduceEqDiff, reduceCtorEq, Nat.reduceAdd, Nat.reduceLeDiff, Nat.reduceBEq]) ?_), .refl hwf⟩
  · have h1 : decide ((j : Int) < (s.length : Int)) = false := by simp; omega
    (repeat' first | exact WT_env (by repeat first | exact .nil | refine .cons (by first | rfl | simp only [push_cast, reduceIte, Nat.reduceEqDiff, reduceCtorEq, Nat.reduceAdd, Nat.reduceLeDiff, Nat.reduceBEq]) ?_) (key j (by rw [← hr, runTo_stop (atIs_none hge)])) | ((first | refine go rfl rfl ?_ | (refine Fk.by_ ?_ ?_ <;> intro hc <;> try simp only [hc]) | refine storeK_eq rfl ?_ | with_reducible refine And.intro ?_ ?_ | fail) <;> try simp only [h1, push_cast, reduceIte, Nat.reduceEqDiff, reduceCtorEq, Nat.reduceAdd, Nat.reduceLeDiff, Nat.reduceBEq]))

theorem enc_ascii {b : UInt8} (h : b.toNat < 128) : (Utf8.encode (b.toNat : Int)).data.toList = [b] := by
  have hv : Utf8.valid (b.toNat : Int) = true := by simp [Utf8.valid]; omega
  have e : ((b.toNat : Int)).toNat = b.toNat := by simp
  simp only [Utf8.encode, hv, if_true, e, h]
  simp

theorem lowB_up2 {b : UInt8} (h1 : 65 ≤ b.toNat) (h2 : b.toNat ≤ 90) : IntKind.u8.wrap (IntKind.u8.wrap ((b.toNat : Int) - 65) + 97) = ((lowB b).toNat : Int) := by
  have e : lowB b = b + 32 := if_pos ⟨h1, h2⟩
  rw [e]
  simp only [IntKind.wrap, IntKind.bits, IntKind.signed, UInt8.toNat_add]
  simp
  omega
theorem lowB_lt {b : UInt8} (h : b.toNat < 128) : (lowB b).toNat < 128 := by
  unfold lowB
  split
  · rw [UInt8.toNat_add]; simp; omega
  · exact h
theorem wrap32_byte (b : UInt8) : IntKind.i32.wrap (b.toNat : Int) = (b.toNat : Int) := by
  have := b.toNat_lt
  simp only [IntKind.wrap, IntKind.bits, IntKind.signed]
  simp
  omega

theorem Lower_v {s : List UInt8} (st : St) (ha : ∀ b ∈ s, b.toNat < 128) (hs : s.length < 140737488355328) : VRet Try.prog 33 [.str s] st (.str (s.map lowB)) st := by
  refine VCalls_of F33_ok mixed (Nat.le_of_ble_eq_true rfl) (fun hwf => ?_)
  (repeat' first | ((first | refine go rfl rfl ?_ | (refine Fk.by_ ?_ ?_ <;> intro hc <;> try simp only [hc]) | refine storeK_eq rfl ?_ | with_reducible refine And.intro ?_ ?_ | fail) <;> try simp only [push_cast, reduceIte, Nat.reduceEqDiff, reduceCtorEq, Nat.reduceAdd, Nat.reduceLeDiff, Nat.reduceBEq]))
  refine WT_loop rfl (fun n e z => ∃ j : Nat, n = s.length - j ∧ j ≤ s.length ∧ e = [(4, .int .i64 (j : Int)), (3, .str ((s.take j).map lowB)), (0, .str s)] ∧ z = st) st.nx (Nat.le_refl _) (by rintro _ _ _ ⟨j, _, _, _, rfl⟩; rfl)
    ⟨_, _, _, ⟨0, rfl, Nat.zero_le _, rfl, rfl⟩, (by repeat first | exact .nil | refine .cons (by first | rfl | (simp [V.bd, V.bdL]; try omega)) (by first | rfl | simp only [push_cast, reduceIte, Nat.reduceEqDiff, reduceCtorEq, Nat.reduceAdd, Nat.reduceLeDiff, Nat.reduceBEq]) ?_), .refl hwf⟩ ?_
  rintro n e z ⟨j, rfl, hj, rfl, rfl⟩
  rcases Nat.lt_or_ge j s.length with hlt | hge
  · obtain ⟨b, hb⟩ : ∃ b, s[j]? = some b := ⟨_, List.getElem?_eq_getElem hlt⟩
    have hb8 := ha b (List.mem_of_getElem? hb)
    have h1 : decide ((j : Int) < (s.length : Int)) = true := by simp; omega
    have hw : IntKind.i64.wrap ((j : Int) + 1) = (j : Int) + 1 := wrap64 (by omega) (by omega)
    have hcat : (s.take j).length ≤ 9223372036854775806 := by simp; omega
    have hnext : (s.take j).map lowB ++ [lowB b] = (s.take (j + 1)).map lowB := by rw [List.take_add_one, hb]; simp
    by_cases hup : 65 ≤ b.toNat ∧ b.toNat ≤ 90
    · have h3 : decide ((65 : Int) ≤ (b.toNat : Int)) = true := by simp; omega
      have h4 : decide ((b.toNat : Int) ≤ 90) = true := by simp; omega
      (repeat' first | ((first | refine go rfl rfl ?_ | (refine Fk.by_ ?_ ?_ <;> intro hc <;> try simp only [hc]) | refine storeK_eq rfl ?_ | with_reducible refine And.intro ?_ ?_ | fail) <;> try simp only [h1, hb, hw, h3, h4, lowB_up2 hup.1 hup.2, wrap32_byte, enc_ascii (lowB_lt hb8), hcat, hnext, push_cast, reduceIte, Nat.reduceEqDiff, reduceCtorEq, Nat.reduceAdd, Nat.reduceLeDiff, Nat.reduceBEq]))
      exact ⟨_, _, _, by omega, ⟨j + 1, rfl, by omega, rfl, rfl⟩, (by repeat first | exact .nil | refine .cons (by first | rfl | (simp [V.bd, V.bdL]; try omega)) (by first | rfl | simp only [push_cast, reduceIte, Nat.reduceEqDiff, reduceCtorEq, Nat.reduceAdd, Nat.reduceLeDiff, Nat.reduceBEq]) ?_), .refl hwf⟩
    · have hlow := lowB_no hup
      rw [hlow] at hnext
      (repeat' first | ((first | refine go rfl rfl ?_ | (refine Fk.by_ ?_ ?_ <;> intro hc <;> try simp only [hc]) | refine storeK_eq rfl ?_ | with_reducible refine And.intro ?_ ?_ | fail) <;> try simp only [h1, hb, hw, wrap32_byte, enc_ascii hb8, hcat, hnext, push_cast, reduceIte, Nat.reduceEqDiff, reduceCtorEq, Nat.reduceAdd, Nat.reduceLeDiff, Nat.reduceBEq]))
      all_goals first
        | exact absurd ⟨by have := of_decide_eq_true ‹decide ((65 : Int) ≤ _) = true›; omega, by have := of_decide_eq_true hc; omega⟩ hup
        | exact ⟨_, _, _, by omega, ⟨j + 1, rfl, by omega, rfl, rfl⟩, (by repeat first | exact .nil | refine .cons (by first | rfl | (simp [V.bd, V.bdL]; try omega)) (by first | rfl | simp only [push_cast, reduceIte, Nat.reduceEqDiff, reduceCtorEq, Nat.reduceAdd, Nat.reduceLeDiff, Nat.reduceBEq]) ?_), .refl hwf⟩
  · have h1 : decide ((j : Int) < (s.length : Int)) = false := by simp; omega
    have ej : j = s.length := by omega
    subst ej
    rw [List.take_length]
    (repeat' first | ((first | refine go rfl rfl ?_ | (refine Fk.by_ ?_ ?_ <;> intro hc <;> try simp only [hc]) | refine storeK_eq rfl ?_ | with_reducible refine And.intro ?_ ?_ | fail) <;> try simp only [h1, push_cast, reduceIte, Nat.reduceEqDiff, reduceCtorEq, Nat.reduceAdd, Nat.reduceLeDiff, Nat.reduceBEq]))
    refine finB (hwf) (by simp only [F33, push_cast, reduceIte, Nat.reduceEqDiff, reduceCtorEq, Nat.reduceAdd, Nat.reduceLeDiff, Nat.reduceBEq]; exact rfl) (by first | exact .inl rfl | (right; simp only [F33, push_cast, reduceIte, Nat.reduceEqDiff, reduceCtorEq, Nat.reduceAdd, Nat.reduceLeDiff, Nat.reduceBEq]; try rfl)) (by first | rfl | assumption) (by simp) (by simp) (by (repeat first | exact (hwf).subm | exact (hwf).suba | refine Sub.drop (by simp) ?_)) (by (repeat first | exact (hwf).subm | exact (hwf).suba | refine Sub.drop (by simp) ?_))
end Go.Proofs.Ytajbgangpipheaa
