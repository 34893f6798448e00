/- A nil slice inside a variable as an owned one; abi.NoEscape. -/
import Derived.Test.YtnondemehfkalaaGreatDoorShaY
import Derived.Test.YtnondemehfkalaaGreatDoorShaV
set_option linter.unusedSimpArgs false
set_option linter.unusedVariables false
namespace Go.Sha

theorem noEscape_v {P : Program} {f : FuncId} {fn : Func} (hf : P.funcs[f]? = some fn) (hname : (fn.name == "runtime.NumGoroutine") = false)
    (hb : fn.body.isNone = true) (hn : Extern.findNext fn = none) (he : Extern.find fn = some Extern.AbiNoEscape.same) (v : V) (st : St) : VRet P f [v] st v st := by
  refine .inr fun w A vs hs hr => ?_
  obtain ⟨u, rfl, h1⟩ := hr.one
  refine ⟨u, w, ?_, _, A, st, ⟨rfl, rfl⟩, h1, hs, Ext.refl w A⟩
  rw [run_callFunc_extern hf hname hb hn he, Lib.run_noEscape]
  rfl

theorem Sim.ownM {w : World} {A : Abs} {st : St} (hs : Sim w A st) {b off : Nat} {cs : List V} (hl : look st.mem b = some cs) (ho : cs[off]? = some .nils) (e es : Nat) :
    Sim w A.newNil ⟨st.nx + 1, updM st.mem b (cs.set off (.osl st.nx 0)), (st.nx, ⟨e, es, [], false, false⟩) :: st.arr, st.x⟩ := by
  have hN := Sim.newNil hs e es false
  have hlt : off < cs.length := (List.getElem?_eq_some_iff.1 ho).1
  refine ⟨hN.nx, fun i c h => ?_, hN.arr, hN.Clt, hN.ownlt, fun i c ar h1 h2 => ?_, ⟨fun i o h => ?_, hN.x.gl, hN.x.ty⟩⟩
  · simp only [look_updM] at h
    split at h
    · rename_i e'; subst e'
      rw [hl] at h
      cases h
      have hk := hN.mem i cs hl
      obtain ⟨vs, T, h1, h2, h3, h4⟩ := hk.row
      refine ⟨hk.lt, ⟨vs, T, h1, by simp [h2], h3, fun j v c hv hc => ?_⟩, hk.own, hk.noC⟩
      rw [List.getElem?_set] at hc
      split at hc
      · rename_i e'; subst e'
        cases hc
        have := h4 off v .nils hv ho
        cases this
        exact .osl _ _ _ (by simp [Abs.newNil, hs.nx]) (Nat.zero_le _) (fun _ => by simp [Abs.newNil, hs.nx])
      · exact h4 j v c hv hc
    · exact hN.mem i c h
  · rw [look_updM] at h1
    split at h1
    · rename_i e'; subst e'
      exact hN.disj i cs ar hl h2
    · exact hN.disj i c ar h1 h2
  · obtain ⟨k1, k2, k3⟩ := hN.x.obj i o h
    refine ⟨k1, ?_, k3⟩
    simp only [look_updM]
    split
    · rename_i e'; subst e'
      have : look st.mem i = none := k2
      rw [hl] at this; cases this
    · exact k2

theorem W_ownM {P : Program} {N : Fr} {c : Code} {env : Env} {st : St} {Q : Post} (e es : Nat) {b off : Nat} {cs : List V} (hl : look st.mem b = some cs) (ho : cs[off]? = some .nils)
    (k : W P N c env ⟨st.nx + 1, updM st.mem b (cs.set off (.osl st.nx 0)), (st.nx, ⟨e, es, [], false, false⟩) :: st.arr, st.x⟩ Q) : W P N c env st Q := by
  intro w A a hs he hN hd
  have hx := Ext.newNil' w A
  exact Code.wp_mono (lift_mono hx (fun _ _ _ h => h)) (k w _ a (hs.ownM hl ho e es) (fun i v hv => (he i v hv).mono hx) hN hd)
/-- A nil slice inside a variable, from here on as an owned one. -/
theorem WT_ownM {P : Program} {N : Fr} {T : List Nd} {i : Nat} {env : Env} {st : St} {Q : Post} (e es : Nat) {b off : Nat} {cs : List V} (hl : look st.mem b = some cs) (ho : cs[off]? = some .nils)
    (k : WT P N T i env ⟨st.nx + 1, updM st.mem b (cs.set off (.osl st.nx 0)), (st.nx, ⟨e, es, [], false, false⟩) :: st.arr, st.x⟩ Q) : WT P N T i env st Q :=
  fun hm c hc => W_ownM e es hl ho (k hm c hc)

theorem updM_same : ∀ {l : List (Nat × List V)} {i : Nat} {cs : List V}, look l i = some cs → updM l i cs = l
  | [], _, _, h => by simp [look] at h
  | (j, c) :: l, i, cs, h => by
    simp only [look, updM] at h ⊢
    split at h
    · rename_i e; cases h; rw [if_pos e]
    · rename_i e; rw [if_neg e, updM_same h]
theorem look_updM_same {l : List (Nat × List V)} {i : Nat} {c cs : List V} (h : look l i = some c) : look (updM l i cs) i = some cs := by
  rw [look_updM, if_pos rfl, h]; rfl

theorem Wf.updA {st : St} (h : st.Wf) {id : Nat} {a0 a : Arr} (hl : look st.arr id = some a0) (hb : V.bdL st.nx a.xs = true) : St.Wf ⟨st.nx, st.mem, Sha.updA st.arr id a, st.x⟩ where
  x := h.x
  t := h.t
  mem := h.mem
  arr i c hi := by
    rw [look_updA] at hi
    split at hi
    · rename_i e; subst e
      rw [hl] at hi; cases hi
      exact ⟨(h.arr i a0 hl).1, hb⟩
    · exact h.arr i c hi
  disj i cs ar h1 h2 := by
    rw [look_updA] at h2
    split at h2
    · rename_i e; subst e; exact h.disj i cs a0 h1 hl
    · exact h.disj i cs ar h1 h2
theorem Wf.withTy {st : St} (h : st.Wf) {id : Nat} {T : TypeId} (hid : id < st.nx) : St.Wf ⟨st.nx, st.mem, st.arr, ⟨st.x.obj, st.x.gl, (id, T) :: st.x.ty⟩⟩ where
  x := h.x
  t i U hi := by
    simp only [look] at hi
    split at hi
    · rename_i e; subst e; exact hid
    · exact h.t i U hi
  mem := h.mem
  arr := h.arr
  disj := h.disj
theorem room_small {n : Nat} (h : n ≤ 1000000) : roomV n 1 = true := by
  have h1 : n ≤ maxLen := by unfold maxLen; omega
  have h2 : n * 1 ≤ 140737488355328 := by omega
  unfold roomV
  rw [decide_eq_true h1, decide_eq_true h2]; rfl
/-- A state with a new builder. -/
theorem Wf.bld {st : St} (h : st.Wf) {T e : TypeId} {p : V} {n : Nat} {l : List UInt8} (hp : p = .nilp ∨ p = .ptr st.nx 0) :
    St.Wf ⟨st.nx + 2, (st.nx, [p, .osl (st.nx + 1) n]) :: st.mem, (st.nx + 1, ⟨e, 1, l.map bV, false, false⟩) :: st.arr, ⟨st.x.obj, st.x.gl, (st.nx, T) :: st.x.ty⟩⟩ := by
  have h1 := h.new (cs := [.nilp, .nils]) rfl
  have h2 := h1.newA (a := ⟨e, 1, l.map bV, false, false⟩) bdL_bV
  have h3 := h2.put (id := st.nx) (cs := [p, .osl (st.nx + 1) n]) (by rcases hp with rfl | rfl <;> simp [V.bdL, V.bd] <;> omega)
  simp only [St.put, updM, if_true] at h3
  exact Wf.withTy h3 (id := st.nx) (T := T) (by simp only; omega)
theorem Wf.delA {st : St} (h : st.Wf) {id : Nat} : St.Wf ⟨st.nx, st.mem, Sha.delA st.arr id, st.x⟩ where
  x := h.x
  t := h.t
  mem := h.mem
  arr i c hi := by
    rw [look_delA] at hi
    split at hi
    · cases hi
    · exact h.arr i c hi
  disj i cs ar h1 h2 := by
    rw [look_delA] at h2
    split at h2
    · cases h2
    · exact h.disj i cs ar h1 h2

/-- A strings.Builder (type T, bytes of type e) in block b, its bytes in the owned slice a. -/
structure BldAt (T e : TypeId) (st : St) (b a : Nat) (p : V) (l : List UInt8) : Prop where
  ty : look st.x.ty b = some T
  mem : look st.mem b = some [p, .osl a l.length]
  arr : look st.arr a = some ⟨e, 1, l.map bV, false, false⟩
  adr : p = .nilp ∨ p = .ptr b 0
/-- A new map that is handed back is from here on read by content. -/
theorem mapOf_mpc {st : St} {es : List (V × V)} : mapOf st (.mpc (es.map Prod.fst) (es.map Prod.snd)) = some es := by
  simp only [mapOf, List.length_map, if_true]
  congr 1
  induction es with
  | nil => rfl
  | cons p r ih => simp [ih]
theorem VRet_freeze {P : Program} {f : FuncId} {args : List V} {st : St} {es : List (V × V)} (hb : (Ob.map es).bd st.nx = true)
    (h : VRet P f args st (.mp st.nx) ⟨st.nx + 1, st.mem, st.arr, ⟨(st.nx, .map es) :: st.x.obj, st.x.gl, st.x.ty⟩⟩) : VRet P f args st (.mpc (es.map Prod.fst) (es.map Prod.snd)) st := by
  have key : ∀ {w w' : World} {A A' : Abs} {v : Value}, Sim w A st → Rep w' A' v (.mp st.nx) → Sim w' A' ⟨st.nx + 1, st.mem, st.arr, ⟨(st.nx, .map es) :: st.x.obj, st.x.gl, st.x.ty⟩⟩ → Ext w A w' A' →
      Rep w' (A'.cut st.nx) v (.mpc (es.map Prod.fst) (es.map Prod.snd)) ∧ Sim w' (A'.cut st.nx) st ∧ Ext w A w' (A'.cut st.nx) := fun {w w' A A' v} hs hr hs' hx => by
    have hwf := hs.wf
    refine ⟨?_, hs'.cut (Weak.wf rfl (Nat.le_succ _) hwf.subm hwf.suba (ExSub.drop (Nat.le_refl _) hwf.subx) hwf), hx.cut (fun b id h => (hs.ownlt b id h).2) (by rw [hs.nx]; exact Nat.le_refl _)⟩
    obtain ⟨ms, clock, r1, r2, r3, r4, r5, r6⟩ := (hs'.x.obj st.nx (.map es) (by simp [look])).1.row
    cases hr with
    | mp id hid =>
      have hbd : ∀ p ∈ es, p.1.bd st.nx = true ∧ p.2.bd st.nx = true := fun p hp => by
        have := List.all_eq_true.1 hb p hp
        simpa using this
      refine .mpc (A := A'.cut st.nx) _ ms clock _ _ (by simp [Abs.cut, r2]) r1 (by simpa using r3) (by simpa using r3) (fun i m c hm hc => ?_) (fun i m c hm hc => ?_)
      · rw [List.getElem?_map] at hc
        cases he : es[i]? with
        | none => rw [he] at hc; cases hc
        | some p =>
          rw [he] at hc; cases hc
          exact (r6 i m p hm he).1.cut (hbd p (List.mem_of_getElem? he)).1
      · rw [List.getElem?_map] at hc
        cases he : es[i]? with
        | none => rw [he] at hc; cases hc
        | some p =>
          rw [he] at hc; cases hc
          exact (r6 i m p hm he).2.cut (hbd p (List.mem_of_getElem? he)).2
  rcases h with h | h
  · refine .inl ⟨h.1, fun w A vs hs ha => (h.2 w A vs hs ha).mono fun e w' ⟨r, A', s, ⟨h1, h2⟩, h3, h4, h5⟩ => ?_⟩
    subst h1; subst h2
    cases e with
    | returned v =>
      obtain ⟨k1, k2, k3⟩ := key hs h3 h4 h5
      exact ⟨.ret _, _, st, ⟨rfl, rfl⟩, k1, k2, k3⟩
    | _ => exact h3.elim
  · refine .inr fun w A vs hs ha => ?_
    obtain ⟨v, w', h0, r, A', s, ⟨h1, h2⟩, h3, h4, h5⟩ := h w A vs hs ha
    subst h1; subst h2
    obtain ⟨k1, k2, k3⟩ := key hs h3 h4 h5
    exact ⟨v, w', h0, .ret _, _, st, ⟨rfl, rfl⟩, k1, k2, k3⟩
end Go.Sha
