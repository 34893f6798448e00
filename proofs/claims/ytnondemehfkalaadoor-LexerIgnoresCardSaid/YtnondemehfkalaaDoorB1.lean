/- strings.Builder: what its functions do to a local builder whose buffer is an owned slice. -/
import Derived.Test.YtnondemehfkalaaDoorTab
import Derived.Test.YtnondemehfkalaaDoorShaBB
set_option linter.unusedSimpArgs false
set_option linter.unusedVariables false
namespace Go.Proofs.YtnondemehfkalaaDoor
open Go.Sha

theorem noEsc_v (v : V) (st : St) : VRet Tryd.prog 35 [v] st v st :=
  noEscape_v Tryd.func35 (by kernel_rfl) (by kernel_rfl) (by kernel_rfl) (by kernel_rfl) v st

theorem copyCheck_v (st : St) (b a : Nat) (p : V) (l : List UInt8) (h : BldAt 30 5 st b a p l) : VRet Tryd.prog 14 [.ptr b 0] st (.tup []) ⟨st.nx, updM st.mem b [.ptr b 0, .osl a l.length], st.arr, st.x⟩ := by
  have hm := h.mem
  have ht := h.ty
  refine VCalls_of F14_ok mixed (Nat.le_of_ble_eq_true rfl) (fun hwf => ?_)
  rcases h.adr with rfl | rfl
  · have h02 : (0 : Nat) < 2 := by decide
    (repeat' first | ((first | refine go rfl rfl ?_ | refine Cl.by_ (by (first | refine noEsc_v _ _)) ?_ | (refine Fk.by_ ?_ ?_ <;> intro hc <;> try simp only [hc]) | refine storeK_eq rfl ?_ | with_reducible refine And.intro ?_ ?_ | fail) <;> try simp only [hm, ht, h02, push_cast, reduceIte, Nat.reduceEqDiff, reduceCtorEq, Nat.reduceAdd, Nat.reduceLeDiff, Nat.reduceBEq]))
    have hb := hwf.mem b _ hm
    have ha : a < st.nx := by have := hb.2; simpa [V.bdL, V.bd] using this
    have hw' : St.Wf (st.put b [.ptr b 0, .osl a l.length]) := hwf.put (by simp [V.bdL, V.bd, hb.1, ha])
    rw [put_eq] at hw'
    all_goals exact finRet0 hw' rfl rfl rfl
  · rw [updM_same hm]
    (repeat' first | ((first | refine go rfl rfl ?_ | refine Cl.by_ (by (first | refine noEsc_v _ _)) ?_ | (refine Fk.by_ ?_ ?_ <;> intro hc <;> try simp only [hc]) | refine storeK_eq rfl ?_ | with_reducible refine And.intro ?_ ?_ | fail) <;> try simp only [hm, ht, push_cast, reduceIte, Nat.reduceEqDiff, reduceCtorEq, Nat.reduceAdd, Nat.reduceLeDiff, Nat.reduceBEq]))
    all_goals exact finRet0 hwf rfl rfl rfl

theorem write_v (st : St) (b a : Nat) (p : V) (l s : List UInt8) (h : BldAt 30 5 st b a p l) (hr : roomV (l.length + s.length) 1 = true) :
    VRet Tryd.prog 6 [.ptr b 0, .str s] st (.tup [.int .i64 s.length, .nili]) ⟨st.nx, updM st.mem b [.ptr b 0, .osl a (l.length + s.length)], updA st.arr a ⟨5, 1, (l ++ s).map bV, false, false⟩, st.x⟩ := by
  have hm := h.mem
  have ht := h.ty
  have ha := h.arr
  have hl1 := look_updM_same (cs := [.ptr b 0, .osl a l.length]) hm
  have hsl : (s.map bV).length = s.length := by simp
  have hll : (l.map bV).length = l.length := by simp
  have hcells : (s.map bV).all (fun y => y.cells.length == 1) = true := by simp [bV, V.cells]
  have hl2 : Sha.look (updA st.arr a ⟨5, 1, l.map bV ++ s.map bV, false, false⟩) a = some ⟨5, 1, l.map bV ++ s.map bV, false, false⟩ := look_updA' ha
  have hln : (l.map bV ++ s.map bV).length = l.length + s.length := by simp
  rw [List.map_append]
  refine VCalls_of F6_ok mixed (Nat.le_of_ble_eq_true rfl) (fun hwf => ?_)
  have hb := hwf.mem b _ hm
  have hal : a < st.nx := (hwf.arr a _ ha).1
  have hw1 : St.Wf (st.put b [.ptr b 0, .osl a (l.length + s.length)]) := hwf.put (by simp [V.bdL, V.bd, hb.1, hal])
  have hw2 := Wf.updA hw1 (id := a) (a0 := ⟨5, 1, l.map bV, false, false⟩) (a := ⟨5, 1, l.map bV ++ s.map bV, false, false⟩) ha (by simp [bdL_append, bdL_bV])
  simp only [St.put] at hw2
  (repeat' first | ((first | refine go rfl rfl ?_ | refine Cl.by_ (by (first | refine copyCheck_v _ _ _ _ _ h)) ?_ | (refine Fk.by_ ?_ ?_ <;> intro hc <;> try simp only [hc]) | refine storeK_eq rfl ?_ | with_reducible refine And.intro ?_ ?_ | fail) <;> try simp only [ht, ha, hl1, hl2, hln, hsl, hll, hr, beq_self_eq_true, push_cast, reduceIte, Nat.reduceEqDiff, reduceCtorEq, Nat.reduceAdd, Nat.reduceLeDiff, Nat.reduceBEq]))
  all_goals refine finB (hw2) (by simp only [F6, push_cast, reduceIte, Nat.reduceEqDiff, reduceCtorEq, Nat.reduceAdd, Nat.reduceLeDiff, Nat.reduceBEq]; exact rfl) (by first | exact .inl rfl | (right; simp only [F6, push_cast, reduceIte, Nat.reduceEqDiff, reduceCtorEq, Nat.reduceAdd, Nat.reduceLeDiff, Nat.reduceBEq]; try rfl)) (by first | rfl | assumption) (by simp) (by simp) (by (repeat first | exact (hw2).subm | exact (hw2).suba | refine Sub.drop (by simp) ?_)) (by (repeat first | exact (hw2).subm | exact (hw2).suba | refine Sub.drop (by simp) ?_)) (by (repeat first | exact (hw2).subx | refine ExSub.dropt (by simp) ?_ | refine ExSub.drop (by simp) ?_))

theorem string_v (st : St) (b a : Nat) (p : V) (l : List UInt8) (h : BldAt 30 5 st b a p l) (h0 : 0 < l.length) : VRet Tryd.prog 10 [.ptr b 0] st (.str l) ⟨st.nx, st.mem, delA st.arr a, st.x⟩ := by
  have hm := h.mem
  have ht := h.ty
  have ha := h.arr
  have hll : (l.map bV).length = l.length := by simp
  refine VCalls_of F10_ok mixed (Nat.le_of_ble_eq_true rfl) (fun hwf => ?_)
  have hw1 := Wf.delA hwf (id := a)
  (repeat' first | ((first | refine go rfl rfl ?_ | (refine Fk.by_ ?_ ?_ <;> intro hc <;> try simp only [hc]) | refine storeK_eq rfl ?_ | with_reducible refine And.intro ?_ ?_ | fail) <;> try simp only [hm, ht, ha, hll, h0, push_cast, reduceIte, Nat.reduceEqDiff, reduceCtorEq, Nat.reduceAdd, Nat.reduceLeDiff, Nat.reduceBEq]))
  all_goals refine finB (hw1) (by simp only [F10, push_cast, reduceIte, Nat.reduceEqDiff, reduceCtorEq, Nat.reduceAdd, Nat.reduceLeDiff, Nat.reduceBEq]; exact rfl) (by first | exact .inl rfl | (right; simp only [F10, push_cast, reduceIte, Nat.reduceEqDiff, reduceCtorEq, Nat.reduceAdd, Nat.reduceLeDiff, Nat.reduceBEq]; try rfl)) (by first | rfl | assumption) (by simp) (by simp) (by (repeat first | exact (hw1).subm | exact (hw1).suba | refine Sub.drop (by simp) ?_)) (by (repeat first | exact (hw1).subm | exact (hw1).suba | refine Sub.drop (by simp) ?_)) (by (repeat first | exact (hw1).subx | refine ExSub.dropt (by simp) ?_ | refine ExSub.drop (by simp) ?_))

theorem write_x {n b a t k : Nat} {p : V} {l : List UInt8} {tc : List V} {m : List (Nat × List V)} {ar : List (Nat × Arr)} {o : List (Nat × Ob)} {g : List (Nat × Obj)} {ty : List (Nat × TypeId)} (s : List UInt8)
    (ht : t ≠ b) (hp : p = .nilp ∨ p = .ptr b 0) (hk : l.length = k) (hr : roomV (k + s.length) 1 = true) :
    VRet Tryd.prog 6 [.ptr b 0, .str s] ⟨n, (t, tc) :: (b, [p, .osl a k]) :: m, (a, ⟨5, 1, l.map bV, false, false⟩) :: ar, ⟨o, g, (b, 30) :: ty⟩⟩ (.tup [.int .i64 s.length, .nili])
      ⟨n, (t, tc) :: (b, [.ptr b 0, .osl a (k + s.length)]) :: m, (a, ⟨5, 1, (l ++ s).map bV, false, false⟩) :: ar, ⟨o, g, (b, 30) :: ty⟩⟩ := by
  subst hk
  have h := write_v ⟨n, (t, tc) :: (b, [p, .osl a l.length]) :: m, (a, ⟨5, 1, l.map bV, false, false⟩) :: ar, ⟨o, g, (b, 30) :: ty⟩⟩ b a p l s ⟨by simp [Sha.look], by simp [Sha.look, ht], by simp [Sha.look], hp⟩ hr
  simpa [updM, updA, ht] using h
theorem string_x {n b a : Nat} {p : V} {l : List UInt8} {m : List (Nat × List V)} {ar : List (Nat × Arr)} {o : List (Nat × Ob)} {g : List (Nat × Obj)} {ty : List (Nat × TypeId)}
    (hp : p = .nilp ∨ p = .ptr b 0) (h0 : 0 < l.length) :
    VRet Tryd.prog 10 [.ptr b 0] ⟨n, (b, [p, .osl a l.length]) :: m, (a, ⟨5, 1, l.map bV, false, false⟩) :: ar, ⟨o, g, (b, 30) :: ty⟩⟩ (.str l)
      ⟨n, (b, [p, .osl a l.length]) :: m, delA ar a, ⟨o, g, (b, 30) :: ty⟩⟩ := by
  have h := string_v ⟨n, (b, [p, .osl a l.length]) :: m, (a, ⟨5, 1, l.map bV, false, false⟩) :: ar, ⟨o, g, (b, 30) :: ty⟩⟩ b a p l ⟨by simp [Sha.look], by simp [Sha.look], by simp [Sha.look], hp⟩ h0
  simpa [delA] using h
end Go.Proofs.YtnondemehfkalaaDoor
