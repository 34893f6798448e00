/- Functions: a contract out of a table of code. -/
import Derived.Test.YtnondemehfkalaaGreatDoorSShaR
set_option linter.unusedSimpArgs false
set_option linter.unusedVariables false
namespace Go.Sha
inductive Res where
 | tmp (t : Nat)
 | cell (t : Nat) (n : Option Nat)
structure FT where
 N : Nat
 np : Nat
 res : List Res
 T : List Nd
def resB (P : Program) : List ResultVar → Option (List Res)
 | [] => some []
 | .tmp t :: r => (resB P r).map (.tmp t :: ·)
 | .cell t ty :: r => match cellsB P ty, resB P r with
  | some n, some l => some (.cell t n :: l)
  | _, _ => none
def compFn (P : Program) (f : FuncId) : Option FT :=
 match P.funcs[f]? with
 | some fn => match fn.body with
  | some c => match resB P fn.results.toList, cpl P fn.ntmps c 0 with
   | some r, some T => if (fn.name == "runtime.NumGoroutine") = false then some ⟨fn.ntmps, fn.params.size, r, T⟩ else none
   | _, _ => none
  | none => none
 | none => none
def resV (env : Env) (st : St) : List Res → Option (List V)
 | [] => some []
 | .tmp t :: r => match look env t, resV env st r with
  | some v, some l => some (v :: l)
  | _, _ => none
 | .cell t n :: r => match loadV st n ((look env t).getD .und), resV env st r with
  | some v, some l => some (v :: l)
  | _, _ => none
def resOne : List V → V
 | [v] => v
 | l => .tup l
def finQ (res : List Res) (n0 : Nat) (R : VRes → St → Prop) : Post
 | .normal, env, st => ∃ vs, resV env st res = some vs ∧ ∃ r st', (r = resOne vs ∨ snapV st (resOne vs) = some r) ∧ r.bd st'.nx = true ∧ Weak st'.nx st st' ∧ n0 ≤ st'.nx ∧ R (.ret r) st'
 | .ret, env, st => ∃ vs, resV env st res = some vs ∧ ∃ r st', (r = resOne vs ∨ snapV st (resOne vs) = some r) ∧ r.bd st'.nx = true ∧ Weak st'.nx st st' ∧ n0 ≤ st'.nx ∧ R (.ret r) st'
 | .pan v, _, st => ∃ st', v.bd st'.nx = true ∧ Weak st'.nx st st' ∧ n0 ≤ st'.nx ∧ R (.pan v) st'
 | _, _, _ => False
def argEnv : Nat → List V → Env
 | _, [] => []
 | k, a :: r => (k, a) :: argEnv (k + 1) r
section
variable {P : Program}
theorem look_argEnv : ∀ (args : List V) (k i : Nat) (v : V), look (argEnv k args) i = some v → k ≤ i ∧ args[i - k]? = some v
 | [], k, i, v, h => by simp [argEnv, look] at h
 | a :: r, k, i, v, h => by
  simp only [argEnv, look] at h
  split at h
  ·rename_i e; subst e; cases h; simp
  ·obtain ⟨h1, h2⟩ := look_argEnv r (k + 1) i v h
   refine ⟨by omega, ?_⟩
   rw [show i - k = (i - (k + 1)) + 1 by omega]; simpa using h2
def resSem (tmps : Array Value) : ResultVar → Sem Value
 | .tmp t => pure (tmps.getD t undef)
 | .cell x t => do loadVar t (← asAddr (tmps.getD x undef))
theorem results_eq (fn : Func) (tmps : Array Value) : results fn tmps = (do let vs ← fn.results.mapM (resSem tmps); pure (if h : vs.size = 1 then vs[0] else .tuple vs)) := by
 unfold results
 congr 2
theorem run_resVar {w : World} {A : Abs} {st : St} {a : Act} {env : Env} (hs : Sim w A st) (he : EnvSim w A a env) : ∀ {rs : List ResultVar} {res : List Res} {ds : List V}, resB P rs = some res → resV env st res = some ds →
  ∃ vs : List Value, (rs.mapM (resSem a.tmps)).run P w = .ok vs w ∧ Reps w A vs ds
 | [], res, ds, h1, h2 => by
  simp [resB] at h1; subst h1
  simp [resV] at h2; subst h2
  exact ⟨[], rfl, rfl, by simp⟩
 | .tmp t :: rs, res, ds, h1, h2 => by
  simp only [resB] at h1
  obtain ⟨l, hl, rfl⟩ := Option.map_eq_some_iff.1 h1
  simp only [resV] at h2
  split at h2
  ·rename_i v l' hv hl'
   cases h2
   obtain ⟨vs, g1, g2, g3⟩ := run_resVar hs he hl hl'
   refine ⟨a.tmps.getD t undef :: vs, ?_, by simp [g2], fun i u c hu hc => ?_⟩
   ·simp only [List.mapM_cons, resSem, Sem.run_bind, Sem.run_pure, Result.andThen_ok, g1]
   ·cases i with
    | zero => rw [List.getElem?_cons_zero] at hu hc; cases hu; cases hc; exact he t v hv
    | succ i => exact g3 i u c (by simpa using hu) (by simpa using hc)
  ·cases h2
 | .cell x t :: rs, res, ds, h1, h2 => by
  simp only [resB] at h1
  split at h1
  ·rename_i n l hn hl
   cases h1
   simp only [resV] at h2
   split at h2
   ·rename_i v l' hv hl'
    cases h2
    obtain ⟨vs, g1, g2, g3⟩ := run_resVar hs he hl hl'
    have hr : Rep w A (a.tmps.getD x undef) ((look env x).getD .und) := by
     cases h : look env x with
     | none => exact .und _
     | some d => exact he x d h
    obtain ⟨u, hu1, hu2⟩ := gives_load (P := P) hn hs hr hv
    have hrun : (do loadVar t (← asAddr (a.tmps.getD x undef)) : Sem Value).run P w = .ok u w := by
     generalize a.tmps.getD x undef = p at hu1 ⊢
     unfold Instr.loadAt Instr.sureAddr at hu1
     cases p with
     | pointer q => cases q with
      | some ad => simpa [asAddr] using hu1
      | none => simp at hu1
     | _ => simp at hu1
    refine ⟨u :: vs, ?_, by simp [g2], fun i u' c hu hc => ?_⟩
    ·have hrun' : (resSem a.tmps (.cell x t)).run P w = .ok u w := hrun
     simp only [List.mapM_cons, Sem.run_bind, hrun', Result.andThen_ok, g1, Sem.run_pure]
    ·cases i with
     | zero => simp at hu hc; subst hu hc; exact hu2
     | succ i => exact g3 i u' c (by simpa using hu) (by simpa using hc)
   ·cases h2
  ·cases h1
theorem run_results {w : World} {A : Abs} {st : St} {a : Act} {env : Env} {fn : Func} (hs : Sim w A st) (he : EnvSim w A a env) {res : List Res} {ds : List V} (h1 : resB P fn.results.toList = some res) (h2 : resV env st res = some ds) :
  ∃ v, (results fn a.tmps).run P w = .ok v w ∧ Rep w A v (resOne ds) := by
 obtain ⟨vs, g1, g2, g3⟩ := run_resVar hs he h1 h2
 refine ⟨if h : vs.toArray.size = 1 then vs.toArray[0] else .tuple vs.toArray, ?_, ?_⟩
 ·rw [results_eq, Array.mapM_eq_mapM_toList]
  simp only [Sem.run_bind, Sem.run_map, g1, Result.andThen_ok, Sem.run_pure]
 ·split
  ·rename_i h
   have hl : vs.length = 1 := by simpa using h
   obtain ⟨v, rfl⟩ := List.length_eq_one_iff.1 hl
   obtain ⟨d, rfl⟩ := List.length_eq_one_iff.1 (g2.symm.trans hl)
   exact g3 0 v d rfl rfl
  ·rename_i h
   have : resOne ds = .tup ds := by
    unfold resOne
    split
    ·simp at g2; simp [g2] at h
    ·rfl
   rw [this]
   exact .tup vs ds g2 g3
theorem VCalls_of {f : FuncId} {F : FT} (hF : compFn P f = some F) (hm : P.follows .mixedOrders = true) {args : List V} (ha : args.length ≤ F.N) {st : St} {R : VRes → St → Prop}
  (h : st.Wf → WT P F.N F.T 0 (argEnv 0 args) st (finQ F.res st.nx R)) : VCalls P f args st R := by
 unfold compFn at hF
 split at hF
 ·rename_i fn hf
  split at hF
  ·rename_i c hb
   split at hF
   ·rename_i res T hres hT
    split at hF
    ·rename_i hname
     cases hF
     refine .inl ⟨⟨fn, hf, hname, by simp [hb]⟩, fun w A vs hs hr => ?_⟩
     have hW := h hs.wf hm c ⟨T, hT, fun k nd hk => by simpa using hk⟩
     have hvl : vs.length ≤ fn.ntmps := by rw [hr.1]; exact ha
     have hown0 : ∀ b id, A.own b = some id → id < A.nx := fun b id h => (hs.ownlt b id h).2
     have hend : ∀ env' st1 a' w' A', Sim w' A' st1 → EnvSim w' A' a' env' → a'.defers = [] → Ext w A w' A' → (∃ ds, resV env' st1 res = some ds ∧ ∃ r st', (r = resOne ds ∨ snapV st1 (resOne ds) = some r) ∧ r.bd st'.nx = true ∧ Weak st'.nx st1 st' ∧ st.nx ≤ st'.nx ∧ R (.ret r) st') →
       a'.defers = [] ∧ ∃ v, (results fn a'.tmps).run P w' = .ok v w' ∧ ∃ r A' st', R r st' ∧ EndRel w' A' (.returned v) r ∧ Sim w' A' st' ∧ Ext w A w' A' := by
      rintro env' st1 a' w' A' hs' he' hd' hx' ⟨ds, hds, r, st', hsnap, hbd, hweak, hn, hR⟩
      obtain ⟨v, hrun, hv⟩ := run_results (fn := fn) hs' he' hres hds
      have hvr : Rep w' A' v r := by
       rcases hsnap with e | e
       ·rw [e]; exact hv
       ·exact snapV_rep hs' hv e
      exact ⟨hd', v, hrun, .ret r, A'.cut st'.nx, st', hR, hvr.cut hbd, hs'.cut hweak, hx'.cut hown0 (by rw [← hs.nx]; exact hn)⟩
     refine calls_of_wp hf hb (Code.wp_mono (fun e a' w' hq => ?_) (hW w A { tmps := vs.toArray ++ Array.replicate (fn.ntmps - vs.toArray.size) undef, defers := [] } hs ?_ (by simp; omega) rfl))
     ·cases e with
      | normal =>
       obtain ⟨A', env', st1, q1, q2, q3, _, q5, q6⟩ := hq
       exact hend env' st1 a' w' A' q2 q3 q5 q6 q1
      | ret =>
       obtain ⟨A', env', st1, q1, q2, q3, _, q5, q6⟩ := hq
       exact hend env' st1 a' w' A' q2 q3 q5 q6 q1
      | panic ch =>
       obtain ⟨A', env', st1, v, d, e1, e2, ⟨st', hbd, hweak, hn, hR⟩, q2, q3, _, q5, q6⟩ := hq
       exact ⟨q5, .pan d, A'.cut st'.nx, st', hR, ⟨v, e1, e2.cut hbd⟩, q2.cut hweak, q6.cut hown0 (by rw [← hs.nx]; exact hn)⟩
      | exit id => obtain ⟨A', env', st1, q1, _⟩ := hq; exact q1.elim
      | goto l => exact hq.elim
      | outgrown => exact hq.elim
     ·intro i v hv
      obtain ⟨_, hv⟩ := look_argEnv args 0 i v hv
      simp only [Nat.sub_zero] at hv
      have hlt : i < vs.length := by have := (List.getElem?_eq_some_iff.1 hv).1; have := hr.1; omega
      have : (vs.toArray ++ Array.replicate (fn.ntmps - vs.toArray.size) undef).getD i undef = vs[i] := by
       rw [Array.getD_eq_getD_getElem?, Array.getElem?_append_left (by simpa using hlt)]; simp [hlt]
      rw [this]
      exact hr.2 i vs[i] v (List.getElem?_eq_getElem hlt) hv
    ·cases hF
   ·cases hF
  ·cases hF
 ·cases hF
end
end Go.Sha
