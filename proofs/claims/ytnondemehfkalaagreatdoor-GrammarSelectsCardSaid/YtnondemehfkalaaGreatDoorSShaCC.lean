/- A function that defers one closure which may recover: its contract. -/
import Derived.Test.YtnondemehfkalaaGreatDoorSShaBB
import Derived.Recover
set_option linter.unusedSimpArgs false
set_option linter.unusedVariables false
namespace Go.Sha
section
variable {P : Program}
def DIdle (P : Program) (g : FuncId) (caps : List V) (s : St) : Prop := ∀ w A vs, Sim w A s → Reps w A vs caps →
 CallsD P g vs.toArray .returning w fun e u' w' => e = .returned (.tuple #[]) ∧ u' = .returning ∧ ∃ A', Sim w' A' s ∧ Ext w A w' A'
def DCatch (P : Program) (g : FuncId) (caps : List V) (d : V) (s s' : St) : Prop := ∀ w A vs v, Sim w A s → Reps w A vs caps → Rep w A v d →
 CallsD P g vs.toArray (.panicking [{ v, recovered := false }]) w fun e u' w' => e = .returned (.tuple #[]) ∧ u' = .panicking [{ v, recovered := true }] ∧ ∃ A', Sim w' A' s' ∧ Ext w A w' A'
def DQ (P : Program) (g : FuncId) (caps : List V) (res : List Res) (n0 : Nat) (R : VRes → St → Prop) : Post
 | .normal, e, s => DIdle P g caps s ∧ finQ res n0 R .ret e s
 | .ret, e, s => DIdle P g caps s ∧ finQ res n0 R .ret e s
 | .pan d, e, s => ∃ s3, DCatch P g caps d s s3 ∧ finQ res n0 R .ret e s3
 | _, _, _ => False
def DK (P : Program) (N : Nat) (g t : Nat) (tcaps : List Nat) (rest : Code) (res : List Res) (n0 : Nat) (R : VRes → St → Prop) (env : Env) (s : St) : Prop :=
 ∃ caps, mapOL (look env) tcaps = some caps ∧ ∀ D : List Deferred, W P ⟨N, D⟩ rest (setD env (some t) (.fn (.func g) [] caps)) s (DQ P g caps res n0 R)
where mapOL (f : Nat → Option V) : List Nat → Option (List V)
 | [] => some []
 | i :: r => match f i, mapOL f r with
  | some v, some l => some (v :: l)
  | _, _ => none
theorem mapOL_reps {w : World} {A : Abs} {a : Act} {env : Env} (he : EnvSim w A a env) : ∀ {l : List Nat} {caps : List V}, DK.mapOL (look env) l = some caps → Reps w A (l.map fun i => a.tmps.getD i undef) caps
 | [], caps, h => by cases h; exact ⟨rfl, fun i v c h => by simp at h⟩
 | i :: r, caps, h => by
  simp only [DK.mapOL] at h
  split at h
  ·rename_i v l h1 h2
   cases h
   obtain ⟨k1, k2⟩ := mapOL_reps he h2
   refine ⟨by simpa using k1, fun j u c hu hc => ?_⟩
   cases j with
   | zero =>
    simp only [List.map_cons, List.getElem?_cons_zero, Option.some.injEq] at hu hc
    subst hu; subst hc; exact he i v h1
   | succ j => exact k2 j u c (by simpa using hu) (by simpa using hc)
  ·cases h
theorem VCalls_defer {f : FuncId} {fn : Func} {r0 r1 cnd dreg rest : Code} {res : List Res} {g t : Nat} {tcaps : List Nat} (hf : P.funcs[f]? = some fn) (hname : (fn.name == "runtime.NumGoroutine") = false)
  (hb : fn.body = some (.seq r0 (.seq r1 (.seq cnd (.seq dreg rest))))) (hres : resB P fn.results.toList = some res) (ht : t < fn.ntmps)
  (hd : ∀ (a : Act) (w : World) (Q : Exit → Act → World → Prop), a.tmps.size = fn.ntmps → Q .normal ({ a with defers := ⟨.fn (.func g) (tcaps.map fun i => a.tmps.getD i undef).toArray, #[]⟩ :: a.defers }.put (some t) (.func (.func g) #[] (tcaps.map fun i => a.tmps.getD i undef).toArray)) w → dreg.wp P Q a w)
  (hi : ∀ (cap : Array Value) (w : World), (invoke (.fn (.func g) cap) #[]).run P w = .ok (.enter g cap) w)
  {args : List V} (ha : args.length ≤ fn.ntmps) {st : St} {R : VRes → St → Prop}
  (h : st.Wf → W P ⟨fn.ntmps, []⟩ r0 (argEnv 0 args) st (seqPost (fun e s => W P ⟨fn.ntmps, []⟩ r1 e s (seqPost (fun e s => W P ⟨fn.ntmps, []⟩ cnd e s (seqPost (DK P fn.ntmps g t tcaps rest res st.nx R) (finQ res st.nx R))) (finQ res st.nx R))) (finQ res st.nx R))) :
  VCalls P f args st R := by
 refine .inl ⟨⟨fn, hf, hname, by simp [hb]⟩, fun w A vs hs hr => ?_⟩
 have hvl : vs.length ≤ fn.ntmps := by rw [hr.1]; exact ha
 have hown0 : ∀ b id, A.own b = some id → id < A.nx := fun b id h => (hs.ownlt b id h).2
 let R' : Ending → World → Prop := fun e w' => ∃ r A' st', R r st' ∧ EndRel w' A' e r ∧ Sim w' A' st' ∧ Ext w A w' A'
 have hend : ∀ env' st1 a' w' A', Sim w' A' st1 → EnvSim w' A' a' env' → Ext w A w' A' → finQ res st.nx R .ret env' st1 →
   ∃ v, (results fn a'.tmps).run P w' = .ok v w' ∧ R' (.returned v) w' := by
  rintro env' st1 a' w' A' hs' he' hx' ⟨ds, hds, r, st', hsnap, hbd, hweak, hn, hR⟩
  obtain ⟨v, hrun, hv⟩ := run_results (fn := fn) hs' he' hres hds
  have hvr : Rep w' A' v r := by
   rcases hsnap with e | e
   ·rw [e]; exact hv
   ·exact snapV_rep hs' hv e
  exact ⟨v, hrun, .ret r, A'.cut st'.nx, st', hR, hvr.cut hbd, hs'.cut hweak, hx'.cut hown0 (by rw [← hs.nx]; exact hn)⟩
 -- an exit ahead of the deferral
 have hfin : ∀ e a' w', lift ⟨fn.ntmps, []⟩ w A (finQ res st.nx R) e a' w' → bodyPostD P fn R' e a' w' := fun e a' w' hq => by
  cases e with
  | normal =>
   obtain ⟨A', env', st1, q1, q2, q3, _, q5, q6⟩ := hq
   show Leaves P fn a'.tmps R' a'.defers .returning w'
   rw [q5]
   exact hend env' st1 a' w' A' q2 q3 q6 q1
  | ret =>
   obtain ⟨A', env', st1, q1, q2, q3, _, q5, q6⟩ := hq
   show Leaves P fn a'.tmps R' a'.defers .returning w'
   rw [q5]
   exact hend env' st1 a' w' A' q2 q3 q6 q1
  | panic ch =>
   obtain ⟨A', env', st1, v, d, e1, e2, ⟨st', hbd, hweak, hn, hR⟩, q2, q3, _, q5, q6⟩ := hq
   show Leaves P fn a'.tmps R' a'.defers (.panicking ch) w'
   rw [q5]
   exact ⟨.pan d, A'.cut st'.nx, st', hR, ⟨v, e1, e2.cut hbd⟩, q2.cut hweak, q6.cut hown0 (by rw [← hs.nx]; exact hn)⟩
  | exit id => obtain ⟨A', env', st1, q1, _⟩ := hq; exact q1.elim
  | goto l => exact hq.elim
  | outgrown => exact hq.elim
 -- one piece behind another
 have step : ∀ {x y : Code} {K : Env → St → Prop} {env' : Env} {st1 : St} {a' : Act} {w' : World} {A' : Abs}, W P ⟨fn.ntmps, []⟩ x env' st1 (seqPost K (finQ res st.nx R)) → Sim w' A' st1 → EnvSim w' A' a' env' → a'.tmps.size = fn.ntmps → a'.defers = [] → Ext w A w' A' →
   (∀ env2 st2 a2 w2 A2, K env2 st2 → Sim w2 A2 st2 → EnvSim w2 A2 a2 env2 → a2.tmps.size = fn.ntmps → a2.defers = [] → Ext w A w2 A2 → y.wp P (bodyPostD P fn R') a2 w2) → (Code.seq x y).wp P (bodyPostD P fn R') a' w' := by
  intro x y K env' st1 a' w' A' hW hs1 he1 hn1 hd1 hx1 hk
  refine wp_seq (Code.wp_mono (fun e a2 w2 hq => ?_) (hW w' A' a' hs1 he1 hn1 hd1))
  have hq := lift_mono hx1 (fun _ _ _ h => h) e a2 w2 hq
  cases e with
  | normal =>
   obtain ⟨A2, env2, st2, q1, q2, q3, q4, q5, q6⟩ := hq
   exact hk env2 st2 a2 w2 A2 q1 q2 q3 q4 q5 q6
  | ret => exact hfin .ret a2 w2 hq
  | panic ch => exact hfin (.panic ch) a2 w2 hq
  | exit id => exact hfin (.exit id) a2 w2 hq
  | goto l => exact hq.elim
  | outgrown => exact hq.elim
 refine calls_of_wp_defers hf hb ?_
 refine step (h hs.wf) hs ?_ (by simp; omega) rfl (Ext.refl w A) ?_
 ·intro i v hv
  obtain ⟨_, hv⟩ := look_argEnv args 0 i v hv
  simp only [Nat.sub_zero] at hv
  have hlt : i < vs.length := by have := (List.getElem?_eq_some_iff.1 hv).1; have := hr.1; omega
  have : (vs.toArray ++ Array.replicate (fn.ntmps - vs.toArray.size) undef).getD i undef = vs[i] := by
   rw [Array.getD_eq_getD_getElem?, Array.getElem?_append_left (by simpa using hlt)]; simp [hlt]
  rw [this]
  exact hr.2 i vs[i] v (List.getElem?_eq_getElem hlt) hv
 intro env1 st1 a1 w1 A1 k1 hs1 he1 hn1 hd1 hx1
 refine step k1 hs1 he1 hn1 hd1 hx1 ?_
 intro env2 st2 a2 w2 A2 k2 hs2 he2 hn2 hd2 hx2
 refine step k2 hs2 he2 hn2 hd2 hx2 ?_
 rintro env3 st3 a3 w3 A3 ⟨caps, hcaps, hrest⟩ hs3 he3 hn3 hd3 hx3
 have hreps := mapOL_reps he3 hcaps
 refine wp_seq (hd a3 w3 _ hn3 ?_)
 show rest.wp P (bodyPostD P fn R') _ w3
 have hfnR : Rep w3 A3 (.func (.func g) #[] (tcaps.map fun i => a3.tmps.getD i undef).toArray) (.fn (.func g) [] caps) :=
  .fn (.func g) [] _ [] caps rfl hreps.1 (fun i v c h => by simp at h) hreps.2
 have he4 := EnvSim.put (a := { a3 with defers := ⟨.fn (.func g) (tcaps.map fun i => a3.tmps.getD i undef).toArray, #[]⟩ :: a3.defers }) (d := some t) he3 (fun i hi => by cases hi; rw [hn3]; exact ht) hfnR
 have hsz : (({ a3 with defers := ⟨.fn (.func g) (tcaps.map fun i => a3.tmps.getD i undef).toArray, #[]⟩ :: a3.defers } : Act).put (some t) (.func (.func g) #[] (tcaps.map fun i => a3.tmps.getD i undef).toArray)).tmps.size = fn.ntmps := by
  simp [Act.put, hn3]
 refine Code.wp_mono (fun e a4 w4 hq => ?_) (hrest [⟨.fn (.func g) (tcaps.map fun i => a3.tmps.getD i undef).toArray, #[]⟩] w3 A3 _ hs3 he4 hsz (by rw [← hd3]; rfl))
 cases e with
 | normal =>
  obtain ⟨A4, env4, st4, ⟨q0, q1⟩, q2, q3, _, q5, q6⟩ := hq
  show Leaves P fn a4.tmps R' a4.defers .returning w4
  rw [q5]
  refine leaves_cons (by simp) (hi _ _) ((q0 w4 A4 _ q2 (hreps.mono q6)).mono ?_)
  rintro e u' w5 ⟨rfl, rfl, A5, s5, x5⟩
  exact hend env4 st4 a4 w5 A5 s5 (q3.mono x5) (hx3.trans (q6.trans x5)) q1
 | ret =>
  obtain ⟨A4, env4, st4, ⟨q0, q1⟩, q2, q3, _, q5, q6⟩ := hq
  show Leaves P fn a4.tmps R' a4.defers .returning w4
  rw [q5]
  refine leaves_cons (by simp) (hi _ _) ((q0 w4 A4 _ q2 (hreps.mono q6)).mono ?_)
  rintro e u' w5 ⟨rfl, rfl, A5, s5, x5⟩
  exact hend env4 st4 a4 w5 A5 s5 (q3.mono x5) (hx3.trans (q6.trans x5)) q1
 | panic ch =>
  obtain ⟨A4, env4, st4, v, d, e1, e2, ⟨s3', q0, q1⟩, q2, q3, _, q5, q6⟩ := hq
  subst e1
  show Leaves P fn a4.tmps R' a4.defers (.panicking [{ v, recovered := false }]) w4
  rw [q5]
  refine leaves_cons (by simp) (hi _ _) ((q0 w4 A4 _ v q2 (hreps.mono q6) e2).mono ?_)
  rintro e u' w5 ⟨rfl, rfl, A5, s5, x5⟩
  exact hend env4 s3' a4 w5 A5 s5 (q3.mono x5) (hx3.trans (q6.trans x5)) q1
 | exit id => obtain ⟨A', env', st1, q1, _⟩ := hq; exact q1.elim
 | goto l => exact hq.elim
 | outgrown => exact hq.elim
def CQ (n0 : Nat) (s' : St) : Post := finQ [] n0 (fun r x => r = .ret (.tup []) ∧ x = s')
theorem closure_end {fn : Func} {w0 : World} {A0 : Abs} {s s' : St} (hs0 : Sim w0 A0 s) (hres : fn.results = #[]) {c₀ : Frame} {cs : List Frame} {u : FrameMode} {e : Exit} {a : Act} {w : World}
  (h : lift ⟨fn.ntmps, []⟩ w0 A0 (CQ s.nx s') e a w) : bodyPostS P fn c₀ cs (fun e u' w' => e = .returned (.tuple #[]) ∧ u' = u ∧ ∃ A', Sim w' A' s' ∧ Ext w0 A0 w' A') e a ({ c₀ with mode := u } :: cs) w := by
 have hown0 : ∀ b id, A0.own b = some id → id < A0.nx := fun b id h => (hs0.ownlt b id h).2
 have key : ∀ env' st1 A', Sim w A' st1 → EnvSim w A' a env' → Ext w0 A0 w A' → CQ s.nx s' .ret env' st1 → ∃ v, (results fn a.tmps).run P w = .ok v w ∧ v = .tuple #[] ∧ ∃ A', Sim w A' s' ∧ Ext w0 A0 w A' := by
  rintro env' st1 A' q2 q3 q6 ⟨ds, hds, r, st', hsnap, hbd, hweak, hn, _, hst⟩
  subst hst
  cases hds
  obtain ⟨v, hrun, hv⟩ := run_results (fn := fn) (res := []) (ds := []) q2 q3 (by rw [hres]; rfl) rfl
  refine ⟨v, hrun, ?_, A'.cut st'.nx, q2.cut hweak, q6.cut hown0 (by rw [← hs0.nx]; exact hn)⟩
  cases hv with
  | tup vs cs hl hr => rw [List.eq_nil_of_length_eq_zero hl]
 cases e with
 | normal =>
  obtain ⟨A', env', st1, q1, q2, q3, _, q5, q6⟩ := h
  obtain ⟨v, h1, h2, h3⟩ := key env' st1 A' q2 q3 q6 q1
  exact ⟨q5, u, rfl, v, h1, by rw [h2], rfl, h3⟩
 | ret =>
  obtain ⟨A', env', st1, q1, q2, q3, _, q5, q6⟩ := h
  obtain ⟨v, h1, h2, h3⟩ := key env' st1 A' q2 q3 q6 q1
  exact ⟨q5, u, rfl, v, h1, by rw [h2], rfl, h3⟩
 | panic ch =>
  obtain ⟨A', env', st1, v, d, e1, e2, ⟨st', _, _, _, h1, _⟩, _⟩ := h
  cases h1
 | exit id => obtain ⟨A', env', st1, q1, _⟩ := h; exact q1.elim
 | goto l => exact h.elim
 | outgrown => exact h.elim
theorem closure_env {w : World} {A : Abs} {vs : List Value} {caps : List V} {n tr tm : Nat} (hr : Reps w A vs caps) (hn : caps.length ≤ n) (h1 : tr < n) (h2 : tm < n) {v : Value} {d : V} (hv : Rep w A v d) :
  EnvSim w A ((({ tmps := vs.toArray ++ Array.replicate (n - vs.toArray.size) undef, defers := [] } : Act).put (some tr) v).put (some tm) v) (setD (setD (argEnv 0 caps) (some tr) d) (some tm) d) ∧
  ((({ tmps := vs.toArray ++ Array.replicate (n - vs.toArray.size) undef, defers := [] } : Act).put (some tr) v).put (some tm) v).tmps.size = n := by
 have hl := hr.1
 have hsz : (vs.toArray ++ Array.replicate (n - vs.toArray.size) undef).size = n := by simp; omega
 have h0 : EnvSim w A ({ tmps := vs.toArray ++ Array.replicate (n - vs.toArray.size) undef, defers := [] } : Act) (argEnv 0 caps) := by
  intro i x hx
  obtain ⟨_, hx⟩ := look_argEnv caps 0 i x hx
  simp only [Nat.sub_zero] at hx
  have hlt : i < vs.length := by have := (List.getElem?_eq_some_iff.1 hx).1; omega
  have : (vs.toArray ++ Array.replicate (n - vs.toArray.size) undef).getD i undef = vs[i] := by
   rw [Array.getD_eq_getD_getElem?, Array.getElem?_append_left (by simpa using hlt)]; simp [hlt]
  rw [this]
  exact hr.2 i vs[i] x (List.getElem?_eq_getElem hlt) hx
 refine ⟨EnvSim.put (EnvSim.put h0 (fun i hi => ?_) hv) (fun i hi => ?_) hv, ?_⟩
 ·cases hi; show tr < _; rw [hsz]; exact h1
 ·cases hi; simp only [Act.put]; simp; omega
 ·simp [Act.put]; omega
theorem catch_of {g : FuncId} {fn : Func} {r0 rest : Code} {tr tm : Nat} (hf : P.funcs[g]? = some fn) (hb : fn.body = some (.seq r0 rest)) (hres : fn.results = #[]) (h1 : tr < fn.ntmps) (h2 : tm < fn.ntmps)
  (hr0 : ∀ (c₀ : Frame) (cs : List Frame) (v : Value) (w : World) (a : Act) (Q : Exit → Act → List Frame → World → Prop), c₀.mode = .panicking [{ v, recovered := false }] → a.tmps.size = fn.ntmps →
   Q .normal ((a.put (some tr) v).put (some tm) v) ({ c₀ with mode := .panicking [{ v, recovered := true }] } :: cs) w → r0.wpS P Q a (c₀ :: cs) w)
  {caps : List V} (hn : caps.length ≤ fn.ntmps) {d : V} {s s' : St} (hW : s.Wf → W P ⟨fn.ntmps, []⟩ rest (setD (setD (argEnv 0 caps) (some tr) d) (some tm) d) s (CQ s.nx s')) : DCatch P g caps d s s' := by
 intro w A vs v hs hr hv
 have hl := hr.1
 obtain ⟨k1, k2⟩ := closure_env hr hn h1 h2 hv
 refine callsD_of_wpS hf hb fun c₀ cs hu => ?_
 refine wpS_seq (hr0 c₀ cs v w _ _ hu (by simp; omega) ?_)
 show rest.wpS P _ _ _ w
 exact wpS_of_wp (Code.wp_mono (fun e a' w' hq => closure_end hs hres hq) (hW hs.wf w A _ hs k1 k2 rfl))
theorem idle_of {g : FuncId} {fn : Func} {r0 rest : Code} {tr tm : Nat} (hf : P.funcs[g]? = some fn) (hb : fn.body = some (.seq r0 rest)) (hres : fn.results = #[]) (h1 : tr < fn.ntmps) (h2 : tm < fn.ntmps)
  (hr0 : ∀ (c₀ : Frame) (cs : List Frame) (w : World) (a : Act) (Q : Exit → Act → List Frame → World → Prop), c₀.mode = .returning → a.tmps.size = fn.ntmps →
   Q .normal ((a.put (some tr) .nilIface).put (some tm) .nilIface) (c₀ :: cs) w → r0.wpS P Q a (c₀ :: cs) w)
  {caps : List V} (hn : caps.length ≤ fn.ntmps) {s : St} (hW : s.Wf → W P ⟨fn.ntmps, []⟩ rest (setD (setD (argEnv 0 caps) (some tr) .nili) (some tm) .nili) s (CQ s.nx s)) : DIdle P g caps s := by
 intro w A vs hs hr
 have hl := hr.1
 obtain ⟨k1, k2⟩ := closure_env hr hn h1 h2 (v := .nilIface) (d := .nili) .nili
 refine callsD_of_wpS hf hb fun c₀ cs hu => ?_
 refine wpS_seq (hr0 c₀ cs w _ _ hu (by simp; omega) ?_)
 show rest.wpS P _ _ _ w
 have hc : c₀ = { c₀ with mode := .returning } := by cases c₀; simp_all
 refine wpS_of_wp (Code.wp_mono (fun e a' w' hq => ?_) (hW hs.wf w A _ hs k1 k2 rfl))
 have := closure_end (P := P) (c₀ := c₀) (cs := cs) (u := .returning) hs hres hq
 rw [← hc] at this
 exact this
end
end Go.Sha
