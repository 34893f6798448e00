/- Two steps that the program does not make: a nil slice becomes an owned one; the cells of an owned slice stay as they are from now on. -/
import Derived.Test.YtnondemehfkalaaGreatDoorShaX
set_option linter.unusedSimpArgs false
set_option linter.unusedVariables false
namespace Go.Sha
section
variable {P : Program} {N : Fr}

theorem W_own {c : Code} {env : Env} {st : St} {Q : Post} {t : Nat} (e es : Nat) (hl : look env t = some .nils) (k : W P N c ((t, .osl st.nx 0) :: env) ⟨st.nx + 1, st.mem, (st.nx, ⟨e, es, [], false, false⟩) :: st.arr, st.x⟩ Q) : W P N c env st Q := by
  intro w A a hs he hN hd
  have hx := Ext.newNil' w A
  refine Code.wp_mono (lift_mono hx (fun _ _ _ h => h)) (k w A.newNil a (hs.newNil e es false) (fun i v hv => ?_) hN hd)
  simp only [look] at hv
  split at hv
  · rename_i e'; cases hv; subst e'
    have h0 := he t _ hl
    generalize a.tmps.getD t undef = u at h0 ⊢
    cases h0
    exact .osl _ _ _ (by simp [Abs.newNil, hs.nx]) (Nat.zero_le _) (fun _ => by simp [Abs.newNil, hs.nx])
  · exact (he i v hv).mono hx

theorem WT_own {T : List Nd} {i t : Nat} {env : Env} {st : St} {Q : Post} (e es : Nat) (hl : look env t = some .nils) (k : WT P N T i ((t, .osl st.nx 0) :: env) ⟨st.nx + 1, st.mem, (st.nx, ⟨e, es, [], false, false⟩) :: st.arr, st.x⟩ Q) : WT P N T i env st Q :=
  fun hm c hc => W_own e es hl (k hm c hc)

def Abs.frz (A : Abs) (id n : Nat) : Abs :=
  { A with C := fun b o => A.C b o ∨ ∃ cap m, A.sv id = .slice (some ⟨b, 0, none⟩) m cap ∧ o < n }

theorem Ext.frz (w : World) (A : Abs) (id n : Nat) : Ext w A w (A.frz id n) where
  nx := Nat.le_refl _
  loc _ _ := rfl
  ln _ _ := Nat.le_refl _
  sv _ _ _ := rfl
  C _ _ h := ⟨.inl h, rfl⟩
  own _ _ := rfl
  size := Nat.le_refl _
  os := rfl
  tape := rfl
  output := rfl
  fr _ _ _ := rfl

theorem Sim.frz {w : World} {A : Abs} {st : St} (hs : Sim w A st) {id : Nat} {ar : Arr} (hl : look st.arr id = some ar) :
    Sim w (A.frz id (ar.xs.length * ar.es)) ⟨st.nx, st.mem, updA st.arr id ⟨ar.e, ar.es, ar.xs, false, ar.fz⟩, st.x⟩ := by
  have hx := Ext.frz w A id (ar.xs.length * ar.es)
  have hk := hs.arr id ar hl
  have hblk : ∀ g m cap, A.sv id = .slice (some ⟨g, 0, none⟩) m cap → A.own g = some id := by
    intro g m cap hsv
    rcases hk.row with r | ⟨g', cap', cur, r1, r2, r3, r4, r5, r6, r7, r8, r10⟩
    · rw [r.1] at hsv; cases hsv
    · rw [r1] at hsv; cases hsv; exact r6
  refine ⟨hs.nx, fun i cs h => ?_, fun i a h => ?_, fun b o h => ?_, fun b i h => hs.ownlt b i h, fun i cs a h1 h2 => ?_,
    hs.x.of hx rfl (fun i o ho => ⟨fun g hg => ⟨hg, rfl⟩, fun g hg k hc => by
      rcases hc with hc | ⟨cap, m, hsv, _⟩
      · exact (hs.x.obj i o ho).1.noC g hg k hc
      · have e1 := hblk _ _ _ hsv
        rw [show A.own g = some i from hg] at e1
        cases e1
        have := (hs.x.obj _ o ho).2.2
        rw [hl] at this; cases this⟩) (fun i o ho => by
      obtain ⟨_, m1, m2⟩ := hs.x.obj i o ho
      refine ⟨m1, ?_⟩
      rw [look_updA]
      split
      · rename_i e; subst e; rw [hl] at m2; cases m2
      · exact m2) (fun b i h => (hs.ownlt b i h).1) (fun i T _ hn => by
      refine ⟨?_, fun vs fz h => ⟨vs, fz, h⟩⟩
      rw [look_updA]
      split
      · rename_i e; subst e; rw [hl] at hn; cases hn
      · exact hn)⟩
  · have hm := hs.mem i cs h
    refine hm.of_heap hx hm.own rfl (fun o hC => ?_)
    rcases hC with hC | ⟨cap, m, hsv, _⟩
    · exact hm.noC o hC
    · have e1 := hblk _ _ _ hsv
      have e2 := hm.own
      rw [e1] at e2
      cases e2
      exact hs.disj _ _ _ h hl
  · rw [look_updA] at h
    split at h
    · rename_i e'; subst e'
      rw [hl] at h; cases h
      refine ⟨hk.lt, hk.ln, hk.es, ?_⟩
      rcases hk.row with r | ⟨g, cap, cur, r1, r2, r3, r4, r5, r6, r7, r8, r10⟩
      · exact .inl r
      · refine .inr ⟨g, cap, cur, r1, r2, r3, r4, r5, r6, fun o ho hC => ?_, fun o ho => ⟨fun _ => rfl, fun _ => .inr ⟨cap, _, r1, ho⟩⟩, fun i j x c hi hj => ?_⟩
        · rcases hC with hC | ⟨cap', m, hsv, hlt⟩
          · exact r7 o ho hC
          · simp only at ho; omega
        · obtain ⟨v, q1, q2, q3⟩ := r10 i j x c hi hj
          exact ⟨v, q1, q2, q3.mono hx⟩
    · rename_i hne
      have hk2 := hs.arr i a h
      refine ⟨hk2.lt, hk2.ln, hk2.es, ?_⟩
      rcases hk2.row with r | ⟨g, cap, cur, r1, r2, r3, r4, r5, r6, r7, r8, r10⟩
      · exact .inl r
      · have hC : ∀ o, (A.frz id (ar.xs.length * ar.es)).C g o ↔ A.C g o := fun o => ⟨fun h => by
          rcases h with h | ⟨cap', m, hsv, _⟩
          · exact h
          · have e1 := hblk _ _ _ hsv
            rw [r6] at e1; cases e1; exact absurd rfl hne, .inl⟩
        refine .inr ⟨g, cap, cur, r1, r2, r3, r4, r5, r6, fun o ho => by rw [hC]; exact r7 o ho, fun o ho => by rw [hC]; exact r8 o ho, fun i j x c hi hj => ?_⟩
        obtain ⟨v, q1, q2, q3⟩ := r10 i j x c hi hj
        exact ⟨v, q1, q2, q3.mono hx⟩
  · rcases h with h | ⟨cap, m, hsv, _⟩
    · exact hs.Clt b o h
    · exact (hs.ownlt _ _ (hblk _ _ _ hsv)).1
  · rw [look_updA] at h2
    split at h2
    · rename_i e'; subst e'; exact hs.disj _ _ _ h1 hl
    · exact hs.disj _ _ _ h1 h2

theorem W_freeze {c : Code} {env : Env} {st : St} {Q : Post} {id : Nat} {ar : Arr} (hl : look st.arr id = some ar) (k : W P N c env ⟨st.nx, st.mem, updA st.arr id ⟨ar.e, ar.es, ar.xs, false, ar.fz⟩, st.x⟩ Q) : W P N c env st Q := by
  intro w A a hs he hN hd
  have hx := Ext.frz w A id (ar.xs.length * ar.es)
  exact Code.wp_mono (lift_mono hx (fun _ _ _ h => h)) (k w _ a (hs.frz hl) (fun i v hv => (he i v hv).mono hx) hN hd)

theorem WT_freeze {T : List Nd} {i id : Nat} {ar : Arr} {env : Env} {st : St} {Q : Post} (hl : look st.arr id = some ar) (k : WT P N T i env ⟨st.nx, st.mem, updA st.arr id ⟨ar.e, ar.es, ar.xs, false, ar.fz⟩, st.x⟩ Q) : WT P N T i env st Q :=
  fun hm c hc => W_freeze hl (k hm c hc)
theorem Sim.thaw {w : World} {A : Abs} {st : St} (hs : Sim w A st) {id : Nat} {ar : Arr} (hl : look st.arr id = some ar) (hnil : ar.xs = []) (wr : Bool) : Sim w A ⟨st.nx, st.mem, updA st.arr id ⟨ar.e, ar.es, [], wr, ar.fz⟩, st.x⟩ := by
  refine ⟨hs.nx, hs.mem, fun i a h => ?_, hs.Clt, hs.ownlt, fun i cs a h1 h2 => ?_,
    hs.x.of (Ext.refl w A) rfl (fun i o ho => ⟨fun g hg => ⟨hg, rfl⟩, (hs.x.obj i o ho).1.noC⟩) (fun i o ho => by
      obtain ⟨_, m1, m2⟩ := hs.x.obj i o ho
      refine ⟨m1, ?_⟩
      rw [look_updA]
      split
      · rename_i e; subst e; rw [hl] at m2; cases m2
      · exact m2) (fun b i h => (hs.ownlt b i h).1) (fun i T _ hn => by
      refine ⟨?_, fun vs fz h => ⟨vs, fz, h⟩⟩
      rw [look_updA]
      split
      · rename_i e; subst e; rw [hl] at hn; cases hn
      · exact hn)⟩
  · rw [look_updA] at h
    split at h
    · rename_i e'; subst e'
      rw [hl] at h; cases h
      have hk := hs.arr i ar hl
      refine ⟨hk.lt, by rw [hk.ln, hnil], by simp, ?_⟩
      rcases hk.row with r | ⟨g, cap, cur, r1, r2, r3, r4, r5, r6, r7, r8, r10⟩
      · exact .inl ⟨r.1, rfl, r.2.2⟩
      · rw [hnil] at r1 r3 r7
        exact .inr ⟨g, cap, cur, r1, r2, r3, r4, r5, r6, r7, fun o ho => by simp at ho, fun i j x c hi => by simp at hi⟩
    · exact hs.arr i a h
  · rw [look_updA] at h2
    split at h2
    · rename_i e'; subst e'; exact hs.disj _ _ _ h1 hl
    · exact hs.disj _ _ _ h1 h2

/-- Behind the first instructions of a region an empty slice becomes one whose cells may be written. -/
def thawPost (P : Program) (r : List Ins) (Q : Post) : Post
  | .normal, e, s => ∃ id ar, look s.arr id = some ar ∧ ar.xs = [] ∧ vcOps P r e ⟨s.nx, s.mem, updA s.arr id ⟨ar.e, ar.es, [], true, ar.fz⟩, s.x⟩ Q
  | x, e, s => Q x e s

theorem ops_thaw {ops : Array Oper} {Q : Post} {w0 : World} {A0 : Abs} : ∀ (n : Nat) (os : List Oper) (l : List Ins) (k : Nat) (env : Env) (st : St) (w : World) (A : Abs) (a : Act), n ≤ l.length → compAll P N.n ops os = some l → guardsOk N.n l = true → (∀ (j : Nat), os[j]? = ops[k + j]?) →
    Sim w A st → EnvSim w A a env → a.tmps.size = N.n → a.defers = N.D → Ext w0 A0 w A → vcOps P (l.take n) env st (thawPost P (l.drop n) Q) → wpOps P ops (lift N w0 A0 Q) (List.range' k os.length) a w
  | 0, os, l, k, env, st, w, A, a, _, hc, hg, hk, hs, he, hN, hd, hx, h => by
    obtain ⟨id, ar, h1, h2, h3⟩ : thawPost P l Q .normal env st := h
    exact ops_sound os l k env _ w A a hc hg hk (hs.thaw h1 h2 true) he hN hd hx h3
  | n + 1, os, [], k, env, st, w, A, a, hn, hc, hg, hk, hs, he, hN, hd, hx, h => by simp at hn
  | n + 1, [], i :: l, k, env, st, w, A, a, hn, hc, hg, hk, hs, he, hN, hd, hx, h => by simp [compAll] at hc
  | n + 1, o :: os, i :: l, k, env, st, w, A, a, hn, hc, hg, hk, hs, he, hN, hd, hx, h => by
    simp only [compAll] at hc
    split at hc
    · rename_i i' l' hi hl
      cases hc
      obtain ⟨g1, g2⟩ := guardsOk_cons hg
      rw [List.length_cons, List.range'_succ, wpOps_cons]
      refine ins_sound (by have := hk 0; simpa using this.symm) hi g1 hs he hN hd (r := l.take n) (Q := thawPost P (l.drop n) Q) h (fun a' w' hG => ?_) (fun ch a' w' hP => ?_)
      · obtain ⟨A', env', st', q1, q2, q3, q4, q5, q6⟩ := hG
        exact ops_thaw n os l (k + 1) env' st' w' A' a' (by simpa using hn) hl g2 (fun j => by have := hk (j + 1); simp at this; rw [this]; congr 1; omega) q2 q3 q4 q5 (hx.trans q6) q1
      · exact PanGood.mono hx hP (fun _ _ _ h => h)
    · cases hc

theorem WT_thaw {T : List Nd} {i : Nat} {l : List Ins} (n : Nat) {env : Env} {st : St} {Q : Post} (h : T[i]? = some (.reg l)) (hn : n ≤ l.length) (k : vcOps P (l.take n) env st (thawPost P (l.drop n) Q)) : WT P N T i env st Q := by
  intro hm c hc
  obtain ⟨ns, h1, h2⟩ := hc.head h
  cases c with
  | region id ops d =>
    simp only [cpl] at h1
    split at h1
    · rename_i l' hl
      split at h1
      · rename_i hg
        cases d with
        | true => simp only [if_true] at h1; (repeat' split at h1) <;> cases h1
        | false =>
          simp only [Bool.false_eq_true, if_false] at h1
          cases h1
          intro w A a hs he hN hd
          refine wp_region ?_
          have := ops_thaw (w0 := w) (A0 := A) n ops.toList l 0 env st w A a hn hl hg (by simp) hs he hN hd (Ext.refl w A) k
          simpa [List.range_eq_range'] using this
      · cases h1
    · cases h1
  | _ => simp only [cpl] at h1 <;> (repeat' split at h1) <;> first | (cases h1; done) | (obtain ⟨y, hy, e⟩ := Option.map_eq_some_iff.1 h1; cases e; done)

/-- A slice's content in place of its number. -/
theorem WT_snap {T : List Nd} {i t : Nat} {env : Env} {st : St} {Q : Post} {v v' : V} (hl : look env t = some v) (hs : snapV st v = some v') (k : WT P N T i ((t, v') :: env) st Q) : WT P N T i env st Q :=
  fun hm c hc w A a hsim he hN hd => k hm c hc w A a hsim (fun j u hj => by
    simp only [look] at hj
    split at hj
    · rename_i e; subst e; cases hj; exact snapV_rep hsim (he t v hl) hs
    · exact he j u hj) hN hd

theorem Reps.snap {w : World} {A : Abs} {st : St} {vs : List Value} {ds ds' : List V} (hs : Sim w A st) (h : Reps w A vs ds) (hd : mapO (snapA st) ds = some ds') : Reps w A vs ds' := by
  obtain ⟨h1, h2⟩ := mapO_spec hd
  refine ⟨by rw [h.1, h1], fun i v c hv hc => ?_⟩
  have hlt : i < ds.length := by have := (List.getElem?_eq_some_iff.1 hc).1; omega
  exact snapA_rep hs (h.2 i v ds[i] hv (List.getElem?_eq_getElem hlt)) (h2 i _ _ (List.getElem?_eq_getElem hlt) hc)

/-- A contract over slices by content, used at owned ones. -/
theorem VRet.snap {f : FuncId} {args args' : List V} {st st' : St} {r : V} (h : VRet P f args' st r st') (hd : mapO (snapA st) args = some args') : VRet P f args st r st' := by
  rcases h with h | h
  · exact .inl ⟨h.1, fun w A vs hs ha => h.2 w A vs hs (ha.snap hs hd)⟩
  · exact .inr fun w A vs hs ha => h w A vs hs (ha.snap hs hd)

/-- An environment of which less is known. -/
def LessEnv (env env' : Env) : Prop := ∀ i v, look env' i = some v → look env i = some v
theorem LessEnv.nil {env : Env} : LessEnv env [] := fun i v h => by simp [look] at h
theorem LessEnv.cons {k : Nat} {v : V} {env env' : Env} (hl : look env k = some v) (h : LessEnv env env') : LessEnv env ((k, v) :: env') := fun i u hi => by
  simp only [look] at hi
  split at hi
  · rename_i e; subst e; cases hi; exact hl
  · exact h i u hi
theorem WT_env {T : List Nd} {i : Nat} {env env' : Env} {st : St} {Q : Post} (h : LessEnv env env') (k : WT P N T i env' st Q) : WT P N T i env st Q :=
  fun hm c hc w A a hs he hN hd => k hm c hc w A a hs (fun i v hv => he i v (h i v hv)) hN hd

/-- A function's end: what it returns, the state without what it made. -/
theorem finB {res : List Res} {st1 st' : St} {n0 : Nat} {env : Env} {vs : List V} {r : V} (hw : st'.Wf) (h1 : resV env st1 res = some vs) (h2 : r = resOne vs ∨ snapV st1 (resOne vs) = some r) (hb : r.bd st'.nx = true)
    (hn : n0 ≤ st'.nx) (hle : st'.nx ≤ st1.nx) (hm : Sub st'.nx st1.mem st'.mem) (ha : Sub st'.nx st1.arr st'.arr) (hx : ExSub st'.nx st1.x st'.x) : finQ res n0 (fun x s => x = .ret r ∧ s = st') .ret env st1 :=
  ⟨vs, h1, r, st', h2, hb, Weak.wf rfl hle hm ha hx hw, hn, rfl, rfl⟩
end
end Go.Sha
