/- Two steps that the program does not make: a nil slice becomes an owned one; the cells of an owned slice stay as they are from now on. -/
import Derived.Test.YtnondemehfkalaaGreatDoorSShaX
set_option linter.unusedSimpArgs false
set_option linter.unusedVariables false
namespace Go.Sha
section
variable {P : Program} {N : Fr}
theorem W_own {c : Code} {env : Env} {st : St} {Q : Post} {t : Nat} (e es : Nat) (hl : look env t = some .nils) (k : W P N c ((t, .osl st.nx 0) :: env) ⟨st.nx + 1, st.mem, (st.nx, ⟨e, es, [], false, false⟩) :: st.arr, st.x⟩ Q) : W P N c env st Q := by
 intro w A a hs he hN hd
 have hx := Ext.newNil' w A
 refine Code.wp_mono (lift_mono hx (fun _ _ _ h => h)) (k w A.newNil a (hs.newNil e es false) (fun i v hv => ?_) hN hd)
 simp only [look] at hv
 split at hv
 ·rename_i e'; cases hv; subst e'
  have h0 := he t _ hl
  generalize a.tmps.getD t undef = u at h0 ⊢
  cases h0
  exact .osl _ _ _ (by simp [Abs.newNil, hs.nx]) (Nat.zero_le _) (fun _ => by simp [Abs.newNil, hs.nx])
 ·exact (he i v hv).mono hx
theorem WT_own {T : List Nd} {i t : Nat} {env : Env} {st : St} {Q : Post} (e es : Nat) (hl : look env t = some .nils) (k : WT P N T i ((t, .osl st.nx 0) :: env) ⟨st.nx + 1, st.mem, (st.nx, ⟨e, es, [], false, false⟩) :: st.arr, st.x⟩ Q) : WT P N T i env st Q :=
 fun hm c hc => W_own e es hl (k hm c hc)
theorem Reps.snap {w : World} {A : Abs} {st : St} {vs : List Value} {ds ds' : List V} (hs : Sim w A st) (h : Reps w A vs ds) (hd : mapO (snapA st) ds = some ds') : Reps w A vs ds' := by
 obtain ⟨h1, h2⟩ := mapO_spec hd
 refine ⟨by rw [h.1, h1], fun i v c hv hc => ?_⟩
 have hlt : i < ds.length := by have := (List.getElem?_eq_some_iff.1 hc).1; omega
 exact snapA_rep hs (h.2 i v ds[i] hv (List.getElem?_eq_getElem hlt)) (h2 i _ _ (List.getElem?_eq_getElem hlt) hc)
theorem VRet.snap {f : FuncId} {args args' : List V} {st st' : St} {r : V} (h : VRet P f args' st r st') (hd : mapO (snapA st) args = some args') : VRet P f args st r st' := by
 rcases h with h | h
 ·exact .inl ⟨h.1, fun w A vs hs ha => h.2 w A vs hs (ha.snap hs hd)⟩
 ·exact .inr fun w A vs hs ha => h w A vs hs (ha.snap hs hd)
def LessEnv (env env' : Env) : Prop := ∀ i v, look env' i = some v → look env i = some v
theorem LessEnv.nil {env : Env} : LessEnv env [] := fun i v h => by simp [look] at h
theorem LessEnv.cons {k : Nat} {v : V} {env env' : Env} (hl : look env k = some v) (h : LessEnv env env') : LessEnv env ((k, v) :: env') := fun i u hi => by
 simp only [look] at hi
 split at hi
 ·rename_i e; subst e; cases hi; exact hl
 ·exact h i u hi
theorem WT_env {T : List Nd} {i : Nat} {env env' : Env} {st : St} {Q : Post} (h : LessEnv env env') (k : WT P N T i env' st Q) : WT P N T i env st Q :=
 fun hm c hc w A a hs he hN hd => k hm c hc w A a hs (fun i v hv => he i v (h i v hv)) hN hd
theorem finB {res : List Res} {st1 st' : St} {n0 : Nat} {env : Env} {vs : List V} {r : V} (hw : st'.Wf) (h1 : resV env st1 res = some vs) (h2 : r = resOne vs ∨ snapV st1 (resOne vs) = some r) (hb : r.bd st'.nx = true)
  (hn : n0 ≤ st'.nx) (hle : st'.nx ≤ st1.nx) (hm : Sub st'.nx st1.mem st'.mem) (ha : Sub st'.nx st1.arr st'.arr) (hx : ExSub st'.nx st1.x st'.x) : finQ res n0 (fun x s => x = .ret r ∧ s = st') .ret env st1 :=
 ⟨vs, h1, r, st', h2, hb, Weak.wf rfl hle hm ha hx hw, hn, rfl, rfl⟩
end
end Go.Sha
