/- A nil slice inside a variable as an owned one; abi.NoEscape. -/
import Derived.Test.YtnondemehfkalaaGreatDoorSShaY
import Derived.Test.YtnondemehfkalaaGreatDoorSShaV
set_option linter.unusedSimpArgs false
set_option linter.unusedVariables false
namespace Go.Sha
theorem updM_same : ∀ {l : List (Nat × List V)} {i : Nat} {cs : List V}, look l i = some cs → updM l i cs = l
 | [], _, _, h => by simp [look] at h
 | (j, c) :: l, i, cs, h => by
  simp only [look, updM] at h ⊢
  split at h
  ·rename_i e; cases h; rw [if_pos e]
  ·rename_i e; rw [if_neg e, updM_same h]
theorem Wf.updA {st : St} (h : st.Wf) {id : Nat} {a0 a : Arr} (hl : look st.arr id = some a0) (hb : V.bdL st.nx a.xs = true) : St.Wf ⟨st.nx, st.mem, Sha.updA st.arr id a, st.x⟩ where
 x := h.x
 t := h.t
 mem := h.mem
 arr i c hi := by
  rw [look_updA] at hi
  split at hi
  ·rename_i e; subst e
   rw [hl] at hi; cases hi
   exact ⟨(h.arr i a0 hl).1, hb⟩
  ·exact h.arr i c hi
 disj i cs ar h1 h2 := by
  rw [look_updA] at h2
  split at h2
  ·rename_i e; subst e; exact h.disj i cs a0 h1 hl
  ·exact h.disj i cs ar h1 h2
theorem Wf.withTy {st : St} (h : st.Wf) {id : Nat} {T : TypeId} (hid : id < st.nx) : St.Wf ⟨st.nx, st.mem, st.arr, ⟨st.x.obj, st.x.gl, (id, T) :: st.x.ty⟩⟩ where
 x := h.x
 t i U hi := by
  simp only [look] at hi
  split at hi
  ·rename_i e; subst e; exact hid
  ·exact h.t i U hi
 mem := h.mem
 arr := h.arr
 disj := h.disj
theorem Wf.delA {st : St} (h : st.Wf) {id : Nat} : St.Wf ⟨st.nx, st.mem, Sha.delA st.arr id, st.x⟩ where
 x := h.x
 t := h.t
 mem := h.mem
 arr i c hi := by
  rw [look_delA] at hi
  split at hi
  ·cases hi
  ·exact h.arr i c hi
 disj i cs ar h1 h2 := by
  rw [look_delA] at h2
  split at h2
  ·cases h2
  ·exact h.disj i cs ar h1 h2
structure BldAt (T e : TypeId) (st : St) (b a : Nat) (p : V) (l : List UInt8) : Prop where
 ty : look st.x.ty b = some T
 mem : look st.mem b = some [p, .osl a l.length]
 arr : look st.arr a = some ⟨e, 1, l.map bV, false, false⟩
 adr : p = .nilp ∨ p = .ptr b 0
theorem mapOf_mpc {st : St} {es : List (V × V)} : mapOf st (.mpc (es.map Prod.fst) (es.map Prod.snd)) = some es := by
 simp only [mapOf, List.length_map, if_true]
 congr 1
 induction es with
 | nil => rfl
 | cons p r ih => simp [ih]
theorem VRet_freeze {P : Program} {f : FuncId} {args : List V} {st : St} {es : List (V × V)} (hb : (Ob.map es).bd st.nx = true)
  (h : VRet P f args st (.mp st.nx) ⟨st.nx + 1, st.mem, st.arr, ⟨(st.nx, .map es) :: st.x.obj, st.x.gl, st.x.ty⟩⟩) : VRet P f args st (.mpc (es.map Prod.fst) (es.map Prod.snd)) st := by
 have key : ∀ {w w' : World} {A A' : Abs} {v : Value}, Sim w A st → Rep w' A' v (.mp st.nx) → Sim w' A' ⟨st.nx + 1, st.mem, st.arr, ⟨(st.nx, .map es) :: st.x.obj, st.x.gl, st.x.ty⟩⟩ → Ext w A w' A' →
   Rep w' (A'.cut st.nx) v (.mpc (es.map Prod.fst) (es.map Prod.snd)) ∧ Sim w' (A'.cut st.nx) st ∧ Ext w A w' (A'.cut st.nx) := fun {w w' A A' v} hs hr hs' hx => by
  have hwf := hs.wf
  refine ⟨?_, hs'.cut (Weak.wf rfl (Nat.le_succ _) hwf.subm hwf.suba (ExSub.drop (Nat.le_refl _) hwf.subx) hwf), hx.cut (fun b id h => (hs.ownlt b id h).2) (by rw [hs.nx]; exact Nat.le_refl _)⟩
  obtain ⟨ms, clock, r1, r2, r3, r4, r5, r6⟩ := (hs'.x.obj st.nx (.map es) (by simp [look])).1.row
  cases hr with
  | mp id hid =>
   have hbd : ∀ p ∈ es, p.1.bd st.nx = true ∧ p.2.bd st.nx = true := fun p hp => by
    have := List.all_eq_true.1 hb p hp
    simpa using this
   refine .mpc (A := A'.cut st.nx) _ ms clock _ _ (by simp [Abs.cut, r2]) r1 (by simpa using r3) (by simpa using r3) (fun i m c hm hc => ?_) (fun i m c hm hc => ?_)
   ·rw [List.getElem?_map] at hc
    cases he : es[i]? with
    | none => rw [he] at hc; cases hc
    | some p =>
     rw [he] at hc; cases hc
     exact (r6 i m p hm he).1.cut (hbd p (List.mem_of_getElem? he)).1
   ·rw [List.getElem?_map] at hc
    cases he : es[i]? with
    | none => rw [he] at hc; cases hc
    | some p =>
     rw [he] at hc; cases hc
     exact (r6 i m p hm he).2.cut (hbd p (List.mem_of_getElem? he)).2
 rcases h with h | h
 ·refine .inl ⟨h.1, fun w A vs hs ha => (h.2 w A vs hs ha).mono fun e w' ⟨r, A', s, ⟨h1, h2⟩, h3, h4, h5⟩ => ?_⟩
  subst h1; subst h2
  cases e with
  | returned v =>
   obtain ⟨k1, k2, k3⟩ := key hs h3 h4 h5
   exact ⟨.ret _, _, st, ⟨rfl, rfl⟩, k1, k2, k3⟩
  | _ => exact h3.elim
 ·refine .inr fun w A vs hs ha => ?_
  obtain ⟨v, w', h0, r, A', s, ⟨h1, h2⟩, h3, h4, h5⟩ := h w A vs hs ha
  subst h1; subst h2
  obtain ⟨k1, k2, k3⟩ := key hs h3 h4 h5
  exact ⟨v, w', h0, .ret _, _, st, ⟨rfl, rfl⟩, k1, k2, k3⟩
end Go.Sha
