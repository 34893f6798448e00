/- More blanks and capital letters change nothing but offsets: the plain law. -/
import Derived.Test.YtnondemehfkalaaDoorP1
import Derived.Lib.Repeat
set_option linter.unusedSimpArgs false
set_option linter.unusedVariables false
namespace Go.Proofs.YtnondemehfkalaaDoor
open Go.Sha Go.RowKit

theorem run_is {ok : UInt8 → Bool} {s : List UInt8} : ∀ (n : Nat) {i j : Nat}, j - i = n → i ≤ j → (∀ k, i ≤ k → k < j → atIs ok s k = true) → atIs ok s j = false → runTo ok s i = j
  | 0, i, j, hn, hij, _, he => by
    have : i = j := by omega
    subst this; exact runTo_stop he
  | n + 1, i, j, hn, hij, h, he => by
    rw [← (runTo_go (h i (Nat.le_refl _) (by omega))).1]
    exact run_is n (by omega) (by omega) (fun k h1 h2 => h k (by omega) h2) he

theorem run_end {ok : UInt8 → Bool} {s : List UInt8} : ∀ (n i : Nat), s.length - i = n → atIs ok s (runTo ok s i) = false
  | 0, i, hn => by
    have h : atIs ok s i = false := atIs_none (by omega)
    rw [runTo_stop h]; exact h
  | n + 1, i, hn => by
    cases h : atIs ok s i with
    | false => rw [runTo_stop h]; exact h
    | true =>
      obtain ⟨g1, g2⟩ := runTo_go h
      rw [← g1]
      exact run_end n (i + 1) (by omega)

theorem cut_get {s : List UInt8} {a e k : Nat} (he : e ≤ s.length) (hk : a + k < e) : ((s.take e).drop a)[k]? = s[a + k]? := by
  rw [List.getElem?_drop, List.getElem?_take_of_lt hk]
theorem cut_at {ok : UInt8 → Bool} {s : List UInt8} {a e k : Nat} (he : e ≤ s.length) (hk : a + k < e) : atIs ok ((s.take e).drop a) k = atIs ok s (a + k) := by
  unfold atIs; rw [cut_get he hk]
theorem cut_len {s : List UInt8} {a e : Nat} (he : e ≤ s.length) : ((s.take e).drop a).length = e - a := by
  rw [List.length_drop, List.length_take]; omega

theorem atIs_eq {ok : UInt8 → Bool} {s : List UInt8} {i : Nat} (h : atIs ok s i = true) : ∃ b, s[i]? = some b ∧ ok b = true := by
  unfold atIs at h
  split at h
  · exact ⟨_, ‹_›, h⟩
  · cases h
theorem atIs_of {ok : UInt8 → Bool} {s : List UInt8} {i : Nat} {b : UInt8} (h : s[i]? = some b) : atIs ok s i = ok b := by
  unfold atIs; rw [h]

theorem u8_all (p : UInt8 → Bool) (h : (List.range 256).all (fun n => p n.toUInt8) = true) (b : UInt8) : p b = true := by
  have := List.all_eq_true.1 h b.toNat (List.mem_range.2 b.toNat_lt)
  have e : b.toNat.toUInt8 = b := by simp
  rwa [e] at this
theorem wrd_up {b : UInt8} (h : wrdB b = true) : lowB (Lib.upperB (lowB b)) = lowB b ∧ wrdB (Lib.upperB (lowB b)) = true := by
  have := u8_all (fun b => !wrdB b || (decide (lowB (Lib.upperB (lowB b)) = lowB b) && wrdB (Lib.upperB (lowB b)))) (by decide +kernel) b
  simpa [h] using this
theorem let_up {b : UInt8} (h : letB b = true) : letB (Lib.upperB (lowB b)) = true ∧ lowB b ≠ 34 ∧ isB 32 (Lib.upperB (lowB b)) = false := by
  have := u8_all (fun b => !letB b || (letB (Lib.upperB (lowB b)) && decide (lowB b ≠ 34) && !isB 32 (Lib.upperB (lowB b)))) (by decide +kernel) b
  simpa [h, and_assoc] using this
theorem let_wrd {b : UInt8} (h : letB b = true) : wrdB b = true := by
  have := u8_all (fun b => !letB b || wrdB b) (by decide +kernel) b
  simpa [h] using this
theorem dig_no {b : UInt8} (h : digB b = true) : letB b = false ∧ isB 34 b = false ∧ isB 32 b = false := by
  have := u8_all (fun b => !digB b || (!letB b && !isB 34 b && !isB 32 b)) (by decide +kernel) b
  simpa [h, and_assoc] using this
theorem sgn_no {b : UInt8} (h : sgnB b = true) : letB b = false ∧ isB 34 b = false ∧ digB b = false ∧ isB 32 b = false := by
  have := u8_all (fun b => !sgnB b || (!letB b && !isB 34 b && !digB b && !isB 32 b)) (by decide +kernel) b
  simpa [h, and_assoc] using this
theorem q_no {b : UInt8} (h : isB 34 b = true) : letB b = false ∧ plnB b = false ∧ isB 32 b = false ∧ b = 34 := by
  have := u8_all (fun b => !isB 34 b || (!letB b && !plnB b && !isB 32 b && decide (b = 34))) (by decide +kernel) b
  simpa [h, and_assoc] using this
theorem dot_no {b : UInt8} (h : isB 46 b = true) : digB b = false := by
  have := u8_all (fun b => !isB 46 b || !digB b) (by decide +kernel) b
  simpa [h] using this

/-- How a token's text is written. -/
def upT (x : Tok) : List UInt8 := if x.k = 0 ∧ Lib.hasPrefix x.t [34] = false then Lib.toUpperA x.t else x.t

theorem pre34 {t : List UInt8} : Lib.hasPrefix t [34] = true ↔ t[0]? = some 34 := by
  unfold Lib.hasPrefix
  cases t with
  | nil => simp
  | cons b t =>
    simp only [List.isPrefixOf, Bool.and_true, List.getElem?_cons_zero, Option.some.injEq, beq_iff_eq]
    exact eq_comm

theorem lex_own {s : List UInt8} {a : Nat} (ha : a ≤ s.length) {k : Int} {t : List UInt8} {e : Nat} (h : lexAt s a = some (k, t, e)) (hk : k ≠ 3) (x : Int) :
    lexAt (upT ⟨k, t, x⟩) 0 = some (k, t, (upT ⟨k, t, x⟩).length) ∧ (upT ⟨k, t, x⟩).length = t.length ∧ ∃ b, (upT ⟨k, t, x⟩)[0]? = some b ∧ isB 32 b = false := by
  obtain ⟨g1, g2, g3⟩ := lexAt_bd ha h
  replace g3 := g3 hk
  unfold lexAt at h
  split at h
  · cases h; exact absurd rfl hk
  · rename_i ha0
    split at h
    · -- a word
      rename_i hl
      cases h
      have hlen := cut_len (a := a) g2
      obtain ⟨b, hb, hbl⟩ := atIs_eq hl
      have hall : ∀ j, j < runTo wrdB s a - a → ∃ c, ((s.take (runTo wrdB s a)).drop a)[j]? = some c ∧ wrdB c = true := fun j hj => by
        have := runTo_all (ok := wrdB) (s := s) _ a rfl (a + j) (by omega) (by omega)
        rw [← cut_at g2 (by omega)] at this
        exact atIs_eq this
      have h0 : ((s.take (runTo wrdB s a)).drop a)[0]? = some b := by rw [cut_get g2 (by omega)]; exact hb
      generalize hn : runTo wrdB s a = n at *
      generalize (s.take n).drop a = raw at hlen hall h0
      obtain ⟨u1, u2, u3⟩ := let_up hbl
      have hnp : Lib.hasPrefix (raw.map lowB) [34] = false := by
        cases hp : Lib.hasPrefix (raw.map lowB) [34] with
        | false => rfl
        | true =>
          have := pre34.1 hp
          rw [List.getElem?_map, h0] at this
          exact absurd (by simpa using this) u2
      have hU : upT ⟨0, raw.map lowB, x⟩ = raw.map fun c => Lib.upperB (lowB c) := by
        unfold upT
        rw [if_pos ⟨rfl, hnp⟩]
        simp [Lib.toUpperA]
      rw [hU]
      have hU0 : (raw.map fun c => Lib.upperB (lowB c))[0]? = some (Lib.upperB (lowB b)) := by rw [List.getElem?_map, h0]; rfl
      have hUl : (raw.map fun c => Lib.upperB (lowB c)).length = n - a := by rw [List.length_map, hlen]
      have hrun : runTo wrdB (raw.map fun c => Lib.upperB (lowB c)) 0 = n - a := run_is (n - a) (by omega) (by omega) (fun j _ hj => by
        obtain ⟨c, c1, c2⟩ := hall j hj
        rw [atIs_of (b := Lib.upperB (lowB c)) (by rw [List.getElem?_map, c1]; rfl)]
        exact (wrd_up c2).2) (atIs_none (by omega))
      have hlow : (raw.map fun c => Lib.upperB (lowB c)).map lowB = raw.map lowB := by
        rw [List.map_map]
        apply List.map_congr_left
        intro c hc
        obtain ⟨j, hj⟩ := List.mem_iff_getElem?.1 hc
        obtain ⟨c', c1, c2⟩ := hall j (by have := (List.getElem?_eq_some_iff.1 hj).1; omega)
        rw [hj] at c1; cases c1
        exact (wrd_up c2).1
      refine ⟨?_, by simp, _, hU0, u3⟩
      unfold lexAt
      rw [if_neg (by omega), if_pos (by rw [atIs_of hU0]; exact u1), hrun, hUl]
      congr 2
      rw [List.drop_zero, List.take_of_length_le (by omega), hlow]
    · -- the others keep their text
      rename_i hnl
      have hnl : atIs letB s a = false := by simpa using hnl
      have keep : ∀ (e : Nat) (b : UInt8), a < e → e ≤ s.length → s[a]? = some b → isB 32 b = false → t = (s.take e).drop a → (k = 0 → b = 34) → lexAt t 0 = some (k, t, e - a) →
          lexAt (upT ⟨k, t, x⟩) 0 = some (k, t, (upT ⟨k, t, x⟩).length) ∧ (upT ⟨k, t, x⟩).length = t.length ∧ ∃ b, (upT ⟨k, t, x⟩)[0]? = some b ∧ isB 32 b = false := by
        intro e b h1 h2 h3 h4 h5 h6 h7
        have h0 : t[0]? = some b := by rw [h5, cut_get h2 (by omega)]; exact h3
        have hU : upT ⟨k, t, x⟩ = t := by
          unfold upT
          rw [if_neg]
          rintro ⟨q1, q2⟩
          have := h6 q1
          subst this
          rw [pre34.2 h0] at q2
          cases q2
        rw [hU]
        refine ⟨?_, rfl, b, h0, h4⟩
        rw [h7, h5, cut_len h2]
      split at h
      · -- a text in quotes
        rename_i hq
        split at h
        · rename_i hq2
          cases h
          obtain ⟨b, hb, hbq⟩ := atIs_eq hq
          obtain ⟨q1, q2, q3, q4⟩ := q_no hbq
          refine keep _ b g3 g2 hb q3 rfl (fun _ => q4) ?_
          have hle : a + 1 ≤ runTo plnB s (a + 1) := le_runTo
          generalize hn : runTo plnB s (a + 1) = n at *
          have hlen := cut_len (a := a) g2
          have hat : ∀ (ok : UInt8 → Bool) j, j < n + 1 - a → atIs ok ((s.take (n + 1)).drop a) j = atIs ok s (a + j) := fun ok j hj => cut_at g2 (by omega)
          have hrun : runTo plnB ((s.take (n + 1)).drop a) (0 + 1) = n - a := run_is (n - a - 1) (by omega) (by omega) (fun j h1 h2 => by
            rw [hat _ _ (by omega)]
            exact runTo_all _ (a + 1) rfl (a + j) (by omega) (by omega)) (by
            rw [hat _ _ (by omega), show a + (n - a) = n by omega]
            obtain ⟨c, c1, c2⟩ := atIs_eq hq2
            rw [atIs_of c1]; exact (q_no c2).2.1)
          unfold lexAt
          rw [if_neg (by omega), if_neg (by rw [hat _ _ (by omega), Nat.add_zero, hnl]; simp), if_pos (by rw [hat _ _ (by omega)]; exact hq), hrun,
            if_pos (by rw [hat _ _ (by omega), show a + (n - a) = n by omega]; exact hq2), show n - a + 1 = n + 1 - a by omega]
          congr 2
          rw [List.drop_zero, List.take_of_length_le (by omega)]
        · cases h
      · rename_i hnq
        have hnq : atIs (isB 34) s a = false := by simpa using hnq
        split at h
        · -- a number
          rename_i hd
          obtain ⟨b, hb, hbd⟩ := atIs_eq hd
          obtain ⟨d1, d2, d3⟩ := dig_no hbd
          have hlt := runTo_lt hd
          have hall := fun j (h1 : a ≤ j) (h2 : j < runTo digB s a) => runTo_all (ok := digB) (s := s) _ a rfl j h1 h2
          have hend := run_end (ok := digB) (s := s) _ a rfl
          split at h
          · rename_i hdot
            cases h
            rw [Bool.and_eq_true] at hdot
            obtain ⟨p1, p2⟩ := hdot
            refine keep _ b g3 g2 hb d3 rfl (fun h => by cases h) ?_
            have hlt2 := runTo_lt p2
            have hall2 := fun j (h1 : runTo digB s a + 1 ≤ j) (h2 : j < runTo digB s (runTo digB s a + 1)) => runTo_all (ok := digB) (s := s) _ _ rfl j h1 h2
            generalize hm : runTo digB s a = m at *
            generalize hn : runTo digB s (m + 1) = n at *
            have hlen := cut_len (a := a) g2
            have hat : ∀ (ok : UInt8 → Bool) j, j < n - a → atIs ok ((s.take n).drop a) j = atIs ok s (a + j) := fun ok j hj => cut_at g2 (by omega)
            have r1 : runTo digB ((s.take n).drop a) 0 = m - a := run_is (m - a) (by omega) (by omega) (fun j h1 h2 => by
              rw [hat _ _ (by omega)]; exact hall _ (by omega) (by omega)) (by rw [hat _ _ (by omega), show a + (m - a) = m by omega]; exact hend)
            have r2 : runTo digB ((s.take n).drop a) (m - a + 1) = n - a := run_is (n - (m + 1)) (by omega) (by omega) (fun j h1 h2 => by
              rw [hat _ _ (by omega)]; exact hall2 _ (by omega) (by omega)) (atIs_none (by omega))
            unfold lexAt
            rw [if_neg (by omega), if_neg (by rw [hat _ _ (by omega), Nat.add_zero, hnl]; simp), if_neg (by rw [hat _ _ (by omega), Nat.add_zero, hnq]; simp), if_pos (by rw [hat _ _ (by omega)]; exact hd), r1,
              if_pos (by rw [hat _ _ (by omega), hat _ _ (by omega), show a + (m - a) = m by omega, show a + (m - a + 1) = m + 1 by omega, p1, p2]; rfl), r2]
            congr 2
            rw [List.drop_zero, List.take_of_length_le (by omega)]
          · cases h
            refine keep _ b g3 g2 hb d3 rfl (fun h => by cases h) ?_
            generalize hm : runTo digB s a = m at *
            have hlen := cut_len (a := a) g2
            have hat : ∀ (ok : UInt8 → Bool) j, j < m - a → atIs ok ((s.take m).drop a) j = atIs ok s (a + j) := fun ok j hj => cut_at g2 (by omega)
            have r1 : runTo digB ((s.take m).drop a) 0 = m - a := run_is (m - a) (by omega) (by omega) (fun j h1 h2 => by
              rw [hat _ _ (by omega)]; exact hall _ (by omega) (by omega)) (atIs_none (by omega))
            unfold lexAt
            rw [if_neg (by omega), if_neg (by rw [hat _ _ (by omega), Nat.add_zero, hnl]; simp), if_neg (by rw [hat _ _ (by omega), Nat.add_zero, hnq]; simp), if_pos (by rw [hat _ _ (by omega)]; exact hd), r1,
              if_neg (by rw [atIs_none (by omega)]; simp)]
            congr 2
            rw [List.drop_zero, List.take_of_length_le (by omega)]
        · rename_i hnd
          have hnd : atIs digB s a = false := by simpa using hnd
          split at h
          · rename_i hsg
            cases h
            obtain ⟨b, hb, hbs⟩ := atIs_eq hsg
            obtain ⟨s1, s2, s3, s4⟩ := sgn_no hbs
            refine keep _ b g3 g2 hb s4 rfl (fun h => by cases h) ?_
            have hlen := cut_len (a := a) g2
            have hat : ∀ (ok : UInt8 → Bool) j, j < 1 → atIs ok ((s.take (a + 1)).drop a) j = atIs ok s (a + j) := fun ok j hj => cut_at g2 (by omega)
            unfold lexAt
            rw [if_neg (by omega), if_neg (by rw [hat _ _ (by omega), Nat.add_zero, hnl]; simp), if_neg (by rw [hat _ _ (by omega), Nat.add_zero, hnq]; simp), if_neg (by rw [hat _ _ (by omega), Nat.add_zero, hnd]; simp),
              if_pos (by rw [hat _ _ (by omega)]; exact hsg)]
            rw [List.drop_zero, List.take_of_length_le (by omega), show a + 1 - a = 0 + 1 by omega]
          · cases h
def wid (c : Nat) (l : List Tok) : List UInt8 := l.flatMap fun x => List.replicate c 32 ++ upT x

theorem wid_stops {c : Nat} (hc : 0 < c) (l : List Tok) : Stops (wid c l) := by
  cases l with
  | nil => exact .inl rfl
  | cons x l =>
    obtain ⟨d, rfl⟩ : ∃ d, c = d + 1 := ⟨c - 1, by omega⟩
    exact .inr ⟨List.replicate d 32 ++ upT x ++ wid (d + 1) l, by simp [wid, List.replicate_succ]⟩

theorem skip_blanks (p r : List UInt8) (c : Nat) (h : atIs (isB 32) r 0 = false) : runTo (isB 32) (p ++ (List.replicate c 32 ++ r)) p.length = p.length + c := by
  have h1 : ∀ j, j < c → atIs (isB 32) (p ++ (List.replicate c 32 ++ r)) (p.length + j) = true := fun j hj => by
    rw [atIs_of (b := 32) (by rw [List.getElem?_append_right (by omega), show p.length + j - p.length = j by omega, List.getElem?_append_left (by simpa using hj)]; simp [hj])]
    rfl
  refine run_is c (by omega) (by omega) (fun k h2 h3 => ?_) ?_
  · have := h1 (k - p.length) (by omega)
    rwa [show p.length + (k - p.length) = k by omega] at this
  · unfold atIs at h ⊢
    rw [List.getElem?_append_right (by omega), show p.length + c - p.length = c by omega, List.getElem?_append_right (by simp), List.length_replicate, Nat.sub_self]
    exact h

theorem wid_scan {c : Nat} (hc : 0 < c) {s : List UInt8} : ∀ (l : List Tok) (i f : Nat) (p : List UInt8) (acc : List Tok), i ≤ s.length → Chain s i l → (wid c l).length < f → acc.length + l.length ≤ 256 →
    ∃ m, scanG f (p ++ wid c l) p.length acc = (acc ++ m, 0, 0) ∧ m.map bareT = l.map bareT
  | [], i, f, p, acc, _, h, _, _ => h.elim
  | x :: l, i, 0, p, acc, _, _, h, _ => by omega
  | x :: l, i, f + 1, p, acc, hi, h, hf, hl => by
    obtain ⟨k, t, xa⟩ := x
    obtain ⟨h1, e, h2, h3, h4⟩ := h
    have hal : runTo (isB 32) s i ≤ s.length := runTo_le hi
    obtain ⟨b1, b2, b3⟩ := lexAt_bd hal h2
    simp only at h2 h3 h4 b3
    have hacc : acc.length ≠ 256 := by simp only [List.length_cons] at hl; omega
    have hw : wid c (⟨k, t, xa⟩ :: l) = List.replicate c 32 ++ (upT ⟨k, t, xa⟩ ++ wid c l) := by simp [wid]
    rw [hw] at hf ⊢
    by_cases hk : k = 3
    · -- the end
      subst hk
      have hl0 := h3 rfl
      subst hl0
      have ht : t = [] := by
        unfold lexAt at h2
        (repeat' split at h2) <;> first | (cases h2; rfl) | (cases h2; done)
      subst ht
      have hu : upT ⟨3, [], xa⟩ = [] := by unfold upT; rw [if_neg (by simp)]
      have hw0 : wid c ([] : List Tok) = [] := rfl
      rw [hu, hw0, List.nil_append]
      have hr := skip_blanks p [] c rfl
      refine ⟨[⟨3, [], ((p.length + c : Nat) : Int)⟩], ?_, rfl⟩
      unfold scanG
      rw [hr]
      have hlx : lexAt (p ++ (List.replicate c 32 ++ [])) (p.length + c) = some (3, [], p.length + c) := by
        unfold lexAt
        rw [if_pos (by simp)]
      rw [hlx]
      simp only [if_neg hacc, if_true]
    · obtain ⟨o1, o2, b, o3, o4⟩ := lex_own hal h2 hk xa
      generalize upT ⟨k, t, xa⟩ = u at *
      have hr := skip_blanks p (u ++ wid c l) c (by
        rw [atIs_of (b := b) (by rw [List.getElem?_append_left (List.getElem?_eq_some_iff.1 o3).1]; exact o3)]; exact o4)
      have hlx := lex_mid (p := p ++ List.replicate c 32) (wid_stops hc l) o1 hk
      rw [List.length_append, List.length_replicate, List.append_assoc] at hlx
      unfold scanG
      rw [hr, hlx]
      simp only [if_neg hacc, if_neg hk]
      have ih := wid_scan hc l e f (p ++ List.replicate c 32 ++ u) (acc ++ [⟨k, t, ((p.length + c : Nat) : Int)⟩]) b2 (h4 hk) (by simp only [List.length_append, List.length_replicate] at hf; omega) (by simp only [List.length_append, List.length_cons, List.length_nil] at hl ⊢; omega)
      obtain ⟨m, m1, m2⟩ := ih
      have e2 : (p ++ List.replicate c 32 ++ u).length = p.length + c + u.length := by rw [List.length_append, List.length_append, List.length_replicate]
      refine ⟨⟨k, t, ((p.length + c : Nat) : Int)⟩ :: m, ?_, by simp [m2, bareT]⟩
      rw [show (p ++ List.replicate c 32 ++ u) ++ wid c l = p ++ (List.replicate c 32 ++ (u ++ wid c l)) by simp, e2] at m1
      rw [m1]
      simp

theorem chain_sum {s : List UInt8} : ∀ (l : List Tok) (i : Nat), i ≤ s.length → Chain s i l → (l.flatMap upT).length ≤ s.length - i
  | [], i, _, h => h.elim
  | x :: l, i, hi, h => by
    obtain ⟨k, t, xa⟩ := x
    obtain ⟨h1, e, h2, h3, h4⟩ := h
    have hal : runTo (isB 32) s i ≤ s.length := runTo_le hi
    obtain ⟨b1, b2, b3⟩ := lexAt_bd hal h2
    obtain ⟨d1, _, _⟩ := lex_text hal h2
    simp only at h2 h3 h4 d1
    have hil : i ≤ runTo (isB 32) s i := le_runTo
    have hul : (upT ⟨k, t, xa⟩).length = t.length := by unfold upT; split <;> simp [Lib.toUpperA]
    rw [List.flatMap_cons, List.length_append, hul]
    by_cases hk : k = 3
    · have := h3 hk
      subst this
      simp only [List.flatMap_nil, List.length_nil]; omega
    · have := chain_sum l e b2 (h4 hk)
      omega

theorem wid_len {c : Nat} : ∀ (l : List Tok), (wid c l).length = c * l.length + (l.flatMap upT).length
  | [] => rfl
  | x :: l => by
    have := wid_len (c := c) l
    unfold wid at this ⊢
    rw [List.flatMap_cons, List.length_append, List.length_append, List.length_replicate, this, List.flatMap_cons, List.length_append, List.length_cons, Nat.mul_add]
    omega

/-- The law. -/
theorem wid_law {c : Nat} (hc : 0 < c) (hc3 : c ≤ 3) {s : List UInt8} (hs : s.length ≤ 300) {l : List Tok} {at' : Nat} (h : scanR s = (l, at', 0)) :
    (∃ m, scanR (wid c l) = (m, 0, 0) ∧ m.map bareT = l.map bareT) ∧ (wid c l).length ≤ 4096 ∧ l ≠ [] ∧ l.length ≤ 256 ∧ ∀ x ∈ l, x.t.length ≤ 300 ∧ (x.k = 0 → Lib.hasPrefix x.t [34] = false → ∀ b ∈ x.t, b.toNat < 128) := by
  have hl256 : l.length ≤ 256 := by have := scanR_len s; rw [h] at this; exact this
  unfold scanR at h
  rw [if_neg (by omega)] at h
  obtain ⟨r, hr, hch⟩ := scan_chain s _ _ _ h
  rw [List.nil_append] at hr
  subst hr
  have hsum := chain_sum l 0 (Nat.zero_le _) hch
  have hlen := wid_len (c := c) l
  have hmul : c * l.length ≤ 3 * 256 := Nat.mul_le_mul hc3 hl256
  have hne : l ≠ [] := fun e => by rw [e] at hch; exact hch
  refine ⟨?_, by omega, hne, hl256, ?_⟩
  · obtain ⟨m, m1, m2⟩ := wid_scan hc l 0 ((wid c l).length + 1) [] [] (Nat.zero_le _) hch (by omega) (by simpa using hl256)
    refine ⟨m, ?_, m2⟩
    unfold scanR
    rw [if_neg (by omega)]
    simpa using m1
  · have key : ∀ (l : List Tok) (i : Nat), i ≤ s.length → Chain s i l → ∀ x ∈ l, x.t.length ≤ 300 ∧ (x.k = 0 → Lib.hasPrefix x.t [34] = false → ∀ b ∈ x.t, b.toNat < 128) := by
      intro l
      induction l with
      | nil => intro i _ h; exact h.elim
      | cons x l ih =>
        intro i hi h y hy
        obtain ⟨k, t, xa⟩ := x
        obtain ⟨h1, e, h2, h3, h4⟩ := h
        have hal : runTo (isB 32) s i ≤ s.length := runTo_le hi
        obtain ⟨b1, b2, b3⟩ := lexAt_bd hal h2
        obtain ⟨d1, d2, _⟩ := lex_text hal h2
        simp only at h2 h3 h4 d1 d2
        rcases List.mem_cons.1 hy with rfl | hy
        · refine ⟨by simp only; omega, fun hk0 hnp b hb => ?_⟩
          simp only at hk0 hnp hb
          subst hk0
          have hcase := h2
          unfold lexAt at hcase
          split at hcase
          · cases hcase
          · split at hcase
            · cases hcase
              obtain ⟨c, hc, rfl⟩ := List.mem_map.1 hb
              have := run_ascii (runTo_all (ok := wrdB) (s := s) _ (runTo (isB 32) s i) rfl) c hc
              unfold lowB
              split
              · rename_i hh
                have e32 : (c + 32).toNat = c.toNat + 32 := by rw [UInt8.toNat_add]; simp; omega
                omega
              · exact this
            · split at hcase
              · rename_i hq
                split at hcase
                · cases hcase
                  exfalso
                  obtain ⟨c, c1, c2⟩ := atIs_eq hq
                  have := (q_no c2).2.2.2
                  subst this
                  have : Lib.hasPrefix ((s.take (runTo plnB s (runTo (isB 32) s i + 1) + 1)).drop (runTo (isB 32) s i)) [34] = true := pre34.2 (by rw [cut_get b2 (by omega)]; exact c1)
                  rw [this] at hnp; cases hnp
                · cases hcase
              · (repeat' split at hcase) <;> cases hcase
        · by_cases hk : k = 3
          · rw [h3 hk] at hy; cases hy
          · exact ih e b2 (h4 hk) y hy
    exact key l 0 (Nat.zero_le _) hch
end Go.Proofs.YtnondemehfkalaaDoor
