/- The walk by few rules: one for the code's rows, one for cases, one for calls. -/
import Derived.Test.YtajbgangpipheaaDoorShaU
set_option linter.unusedSimpArgs false
set_option linter.unusedVariables false
namespace Go.Sha
section
variable {P : Program} {N : Nat}

def Nd.isLoop : Nd → Bool
  | .loop _ => true
  | _ => false

def ndK (P : Program) (N : Nat) (T : List Nd) (env : Env) (st : St) (Q : Post) : Nd → Prop
  | .skip => Q .normal env st
  | .reg l => vcOps P l env st Q
  | .dreg m l => vcQ P (l.take m) env st (tailK P (l.drop m) st Q)
  | .sreg m l => vcV P (l.take m) env st [] (storeK P m l env st Q)
  | .seq x y => WT P N T x env st (seqT P N T y Q)
  | .cond o x y => condK P N T x y env st Q (o.get env)
  | .block id x => WT P N T x env st (blockPost id Q)
  | .loop _ => False
  | .exit id => Q (.exit id) env st
  | .ret => Q .ret env st
theorem ndK_skip {T : List Nd} {env : Env} {st : St} {Q : Post} : ndK P N T env st Q .skip = Q .normal env st := @_root_.id (_ = _) rfl
theorem ndK_reg {T : List Nd} {env : Env} {st : St} {Q : Post} {l : List Ins} : ndK P N T env st Q (.reg l) = vcOps P l env st Q := @_root_.id (_ = _) rfl
theorem ndK_dreg {T : List Nd} {env : Env} {st : St} {Q : Post} {m : Nat} {l : List Ins} : ndK P N T env st Q (.dreg m l) = vcQ P (l.take m) env st (tailK P (l.drop m) st Q) := @_root_.id (_ = _) rfl
theorem ndK_sreg {T : List Nd} {env : Env} {st : St} {Q : Post} {m : Nat} {l : List Ins} : ndK P N T env st Q (.sreg m l) = vcV P (l.take m) env st [] (storeK P m l env st Q) := @_root_.id (_ = _) rfl
theorem ndK_seq {T : List Nd} {env : Env} {st : St} {Q : Post} {x y : Nat} : ndK P N T env st Q (.seq x y) = WT P N T x env st (seqT P N T y Q) := @_root_.id (_ = _) rfl
theorem ndK_cond {T : List Nd} {env : Env} {st : St} {Q : Post} {o : Opd} {x y : Nat} : ndK P N T env st Q (.cond o x y) = condK P N T x y env st Q (o.get env) := @_root_.id (_ = _) rfl
theorem ndK_block {T : List Nd} {env : Env} {st : St} {Q : Post} {id x : Nat} : ndK P N T env st Q (.block id x) = WT P N T x env st (blockPost id Q) := @_root_.id (_ = _) rfl
theorem ndK_exit {T : List Nd} {env : Env} {st : St} {Q : Post} {id : Nat} : ndK P N T env st Q (.exit id) = Q (.exit id) env st := @_root_.id (_ = _) rfl
theorem ndK_ret {T : List Nd} {env : Env} {st : St} {Q : Post} : ndK P N T env st Q .ret = Q .ret env st := @_root_.id (_ = _) rfl

/-- A row of the table, but a loop. -/
theorem go {T : List Nd} {i : Nat} {env : Env} {st : St} {Q : Post} {nd : Nd} (h : T[i]? = some nd) (hl : nd.isLoop = false) (k : ndK P N T env st Q nd) : WT P N T i env st Q := by
  cases nd with
  | skip => exact WT_skip h k
  | reg l => exact WT_reg h k
  | dreg m l => exact WT_dreg h k
  | sreg m l => exact WT_sreg h k
  | seq x y => exact WT_seq h k
  | cond o x y => exact WT_if h k
  | block id x => exact WT_block h k
  | loop x => cases hl
  | exit id => exact WT_exit h k
  | ret => exact WT_ret h k

/-- A goal that is two by a truth value. -/
class Fk (G : Prop) (t : outParam Bool) (a b : outParam Prop) : Prop where
  by_ : (t = true → a) → (t = false → b) → G
instance i1 {T : List Nd} {x y : Nat} {env : Env} {st : St} {Q : Post} {t : Bool} : Fk (condK P N T x y env st Q (.bool t)) t (WT P N T x env st Q) (WT P N T y env st Q) := ⟨condK_split⟩
instance i2 {T : List Nd} {x y : Nat} {env : Env} {st : St} {Q : Post} {t : Bool} : Fk (condK P N T x y env st Q (.bool (!t))) t (WT P N T y env st Q) (WT P N T x env st Q) := ⟨fun a b => condK_splitn b a⟩
instance i3 {d : Option Nat} {op : SOp} {r : List Ins} {env : Env} {st : St} {Q : Post} {t : Bool} : Fk (stepK P d r Q env st op (some t)) t (stepK P d r Q env st op (some true)) (vcOps P r (setD env d (.tup [])) st Q) := ⟨stepK_split⟩
instance i4 {d : Option Nat} {op : SOp} {r : List Ins} {env : Env} {st : St} {Q : Post} {t : Bool} : Fk (stepK P d r Q env st op (some (!t))) t (vcOps P r (setD env d (.tup [])) st Q) (stepK P d r Q env st op (some true)) := ⟨fun a b => stepK_splitn b a⟩
instance i5 {d : Option Nat} {op : SOp} {r : List Ins} {env : Env} {st : St} {K : Env → Prop} {t : Bool} : Fk (stepQ P d r K env st op (some t)) t (stepQ P d r K env st op (some true)) (vcQ P r (setD env d (.tup [])) st K) := ⟨stepQ_split⟩
instance i6 {d : Option Nat} {op : SOp} {r : List Ins} {env : Env} {st : St} {K : Env → Prop} {t : Bool} : Fk (stepQ P d r K env st op (some (!t))) t (vcQ P r (setD env d (.tup [])) st K) (stepQ P d r K env st op (some true)) := ⟨fun a b => stepQ_splitn b a⟩
instance i7 {d : Option Nat} {op : SOp} {r : List Ins} {env : Env} {st : St} {acc : List V} {K : List V → Env → Prop} {t : Bool} : Fk (stepV P d r K env st acc op (some t)) t (stepV P d r K env st acc op (some true)) (vcV P r (setD env d (.tup [])) st (.tup [] :: acc) K) := ⟨stepV_split⟩
instance i8 {d : Option Nat} {op : SOp} {r : List Ins} {env : Env} {st : St} {acc : List V} {K : List V → Env → Prop} {t : Bool} : Fk (stepV P d r K env st acc op (some (!t))) t (vcV P r (setD env d (.tup [])) st (.tup [] :: acc) K) (stepV P d r K env st acc op (some true)) := ⟨fun a b => stepV_splitn b a⟩

/-- A goal that is a call. -/
class Cl (G : Prop) (P : outParam Program) (f : outParam FuncId) (args : outParam (List V)) (st : outParam St) (K : outParam (V → St → Prop)) : Prop where
  by_ : ∀ {r : V} {st' : St}, VRet P f args st r st' → K r st' → G
def sameK (st : St) (K : V → Prop) (r : V) (st' : St) : Prop := st' = st ∧ K r
theorem sameK_eq {st : St} {K : V → Prop} {r : V} : sameK st K r st = K r := by simp [sameK]
instance j1 {f : FuncId} {args : List V} {st : St} {d : Option Nat} {r : List Ins} {Q : Post} {env : Env} : Cl (VCalls P f args st (contK P d r Q env)) P f args st (fun v s => contK P d r Q env (.ret v) s) := ⟨fun h k => VRet.use h k⟩
instance j2 {f : FuncId} {a b args : List V} {st : St} {K : V → Prop} : Cl (getsV P (.fn (.func f) a b) args st K) P f (a ++ args ++ b) st (sameK st K) := ⟨fun {r st'} h k => by
  obtain ⟨e, k⟩ := k
  subst e; exact ⟨r, h, k⟩⟩
attribute [push_cast] ndK_skip ndK_reg ndK_dreg ndK_sreg ndK_seq ndK_cond ndK_block ndK_exit ndK_ret sameK_eq
end
end Go.Sha
