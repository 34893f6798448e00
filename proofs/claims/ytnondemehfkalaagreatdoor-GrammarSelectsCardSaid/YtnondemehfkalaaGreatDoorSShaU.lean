/- Rules for the walk over tables: what a post comes to, and a few facts of states. -/
import Derived.Test.YtnondemehfkalaaGreatDoorSShaS
set_option linter.unusedSimpArgs false
set_option linter.unusedVariables false
namespace Go.Sha
section
variable {P : Program} {N : Fr}
@[congr] theorem WT_congr {T : List Nd} {i : Nat} {Q : Post} {env env' : Env} {st st' : St} (h1 : env = env') (h2 : st = st') : WT P N T i env st Q = WT P N T i env' st' Q := by rw [h1, h2]
@[congr] theorem finQ_congr {res : List Res} {n : Nat} {R : VRes → St → Prop} {x : VX} {env env' : Env} {st st' : St} (h1 : env = env') (h2 : st = st') : finQ res n R x env st = finQ res n R x env' st' := by rw [h1, h2]
def condK (P : Program) (N : Fr) (T : List Nd) (x y : Nat) (env : Env) (st : St) (Q : Post) : V → Prop
 | .bool t => if t = true then WT P N T x env st Q else WT P N T y env st Q
 | _ => False
theorem condK_true {T : List Nd} {x y : Nat} {env : Env} {st : St} {Q : Post} : condK P N T x y env st Q (.bool true) = WT P N T x env st Q := by simp [condK]
theorem condK_false {T : List Nd} {x y : Nat} {env : Env} {st : St} {Q : Post} : condK P N T x y env st Q (.bool false) = WT P N T y env st Q := by simp [condK]
theorem condK_split {T : List Nd} {x y : Nat} {env : Env} {st : St} {Q : Post} {t : Bool} (h1 : t = true → WT P N T x env st Q) (h2 : t = false → WT P N T y env st Q) : condK P N T x y env st Q (.bool t) := by
 cases t
 ·rw [condK_false]; exact h2 rfl
 ·rw [condK_true]; exact h1 rfl
theorem condK_splitn {T : List Nd} {x y : Nat} {env : Env} {st : St} {Q : Post} {t : Bool} (h1 : t = false → WT P N T x env st Q) (h2 : t = true → WT P N T y env st Q) : condK P N T x y env st Q (.bool (!t)) := by
 cases t
 ·rw [Bool.not_false, condK_true]; exact h1 rfl
 ·rw [Bool.not_true, condK_false]; exact h2 rfl
theorem WT_if {T : List Nd} {i x y : Nat} {o : Opd} {env : Env} {st : St} {Q : Post} (h : T[i]? = some (.cond o x y)) (k : condK P N T x y env st Q (o.get env)) : WT P N T i env st Q := by
 cases hv : o.get env with
 | bool t =>
  rw [hv] at k
  refine WT_cond h hv (fun e => ?_) (fun e => ?_)
  ·rw [e, condK_true] at k; exact k
  ·rw [e, condK_false] at k; exact k
 | _ => rw [hv] at k; exact k.elim
def stepK (P : Program) (d : Option Nat) (r : List Ins) (Q : Post) (env : Env) (st : St) (op : SOp) (t : Option Bool) : Prop :=
 upon t fun t => fork t
   (match op with
    | .call f args => callVC P (f.get env) (args.map (·.get env)) st (callK (fun v s => vcOps P r (setD env d v) s Q) (fun v s => Q (.pan v) env s))
    | .panic x => panK (x.get env) Q env st
    | .nilk ne x => nilK st (fun b => vcOps P r (setD env d (.bool (b != ne))) st Q) (x.get env)
    | op => upon (stv op env st) fun z => vcOps P r (setD env d z.1) z.2 Q)
   (vcOps P r (setD env d (.tup [])) st Q)
def nilR (P : Program) (d : Option Nat) (r : List Ins) (Q : Post) (env : Env) (st : St) (ne b : Bool) : Prop := vcOps P r (setD env d (.bool (b != ne))) st Q
def afterK (P : Program) (d : Option Nat) (r : List Ins) (Q : Post) (env : Env) (z : Option (V × St)) : Prop := upon z fun z => vcOps P r (setD env d z.1) z.2 Q
def contK (P : Program) (d : Option Nat) (r : List Ins) (Q : Post) (env : Env) : VRes → St → Prop := callK (fun v s => vcOps P r (setD env d v) s Q) (fun v s => Q (.pan v) env s)
def opK (P : Program) (d : Option Nat) (r : List Ins) (Q : Post) (env : Env) (st : St) : SOp → Prop
 | .call f args => callVC P (f.get env) (args.map (·.get env)) st (contK P d r Q env)
 | .panic x => panK (x.get env) Q env st
 | .nilk ne x => nilK st (nilR P d r Q env st ne) (x.get env)
 | op => afterK P d r Q env (stv op env st)
theorem vcOps_nil {env : Env} {st : St} {Q : Post} : vcOps P [] env st Q = Q .normal env st := @_root_.id (_ = _) rfl
theorem vcOps_cons {d : Option Nat} {op : SOp} {g : Option (Nat × Bool)} {r : List Ins} {env : Env} {st : St} {Q : Post} : vcOps P (⟨d, op, g⟩ :: r) env st Q = stepK P d r Q env st op (wantV env g) := @_root_.id (_ = _) rfl
theorem stepK_false {d : Option Nat} {op : SOp} {r : List Ins} {env : Env} {st : St} {Q : Post} : stepK P d r Q env st op (some false) = vcOps P r (setD env d (.tup [])) st Q := by first | (unfold stepK; exact fork_false) | (unfold stepQ; exact fork_false) | (unfold stepV; exact fork_false)
theorem stepK_true {d : Option Nat} {op : SOp} {r : List Ins} {env : Env} {st : St} {Q : Post} : stepK P d r Q env st op (some true) = opK P d r Q env st op := by cases op <;> rfl
theorem stepK_split {d : Option Nat} {op : SOp} {r : List Ins} {env : Env} {st : St} {Q : Post} {t : Bool} (h1 : t = true → stepK P d r Q env st op (some true)) (h2 : t = false → vcOps P r (setD env d (.tup [])) st Q) : stepK P d r Q env st op (some t) := by
 cases t
 ·rw [stepK_false]; exact h2 rfl
 ·exact h1 rfl
theorem stepK_splitn {d : Option Nat} {op : SOp} {r : List Ins} {env : Env} {st : St} {Q : Post} {t : Bool} (h1 : t = false → stepK P d r Q env st op (some true)) (h2 : t = true → vcOps P r (setD env d (.tup [])) st Q) : stepK P d r Q env st op (some (!t)) := by
 cases t
 ·exact h1 rfl
 ·rw [Bool.not_true, stepK_false]; exact h2 rfl
theorem afterK_some {d : Option Nat} {r : List Ins} {env : Env} {Q : Post} {z : V × St} : afterK P d r Q env (some z) = vcOps P r (setD env d z.1) z.2 Q := @_root_.id (_ = _) rfl
theorem contK_ret {d : Option Nat} {r : List Ins} {env : Env} {Q : Post} {v : V} {s : St} : contK P d r Q env (.ret v) s = vcOps P r (setD env d v) s Q := @_root_.id (_ = _) rfl
theorem contK_pan {d : Option Nat} {r : List Ins} {env : Env} {Q : Post} {v : V} {s : St} : contK P d r Q env (.pan v) s = Q (.pan v) env s := @_root_.id (_ = _) rfl
theorem panK_iface {t : TypeId} {v : V} {env : Env} {Q : Post} {s : St} : panK (.iface t v) Q env s = Q (.pan (.iface t v)) env s := @_root_.id (_ = _) rfl
theorem nilR_eq {d : Option Nat} {r : List Ins} {env : Env} {Q : Post} {s : St} {ne b : Bool} : nilR P d r Q env s ne b = vcOps P r (setD env d (.bool (b != ne))) s Q := @_root_.id (_ = _) rfl
theorem stepK_nilk {d : Option Nat} {r : List Ins} {env : Env} {st : St} {Q : Post} (ne : Bool) (x : Opd) : stepK P d r Q env st (.nilk ne x) (some true) = nilK st (nilR P d r Q env st ne) (x.get env) := @_root_.id (_ = _) rfl
def nilA (n : Nat) (k : Bool → Prop) : Option Arr → Prop
 | some a => a.xs.length = n ∧ if n = 0 then k true ∧ k false else k false
 | none => False
theorem nilK_nils {st : St} {k : Bool → Prop} : nilK st k .nils = k true := @_root_.id (_ = _) rfl
theorem nilK_sl {st : St} {k : Bool → Prop} {xs : List V} : nilK st k (.sl xs) = if xs = [] then k true ∧ k false else k false := by cases xs <;> simp [nilK]
theorem nilK_osl {st : St} {k : Bool → Prop} {id n : Nat} : nilK st k (.osl id n) = nilA n k (look st.arr id) := by unfold nilK nilA; rfl
theorem nilA_some {k : Bool → Prop} {n : Nat} {a : Arr} : nilA n k (some a) = (a.xs.length = n ∧ if n = 0 then k true ∧ k false else k false) := @_root_.id (_ = _) rfl
def stepQ (P : Program) (d : Option Nat) (r : List Ins) (K : Env → Prop) (env : Env) (st : St) (op : SOp) (t : Option Bool) : Prop :=
 upon t fun t => fork t
   (match op with
    | .call f args => getsV P (f.get env) (args.map (·.get env)) st fun v => vcQ P r (setD env d v) st K
    | op => upon (evs op env st) fun v => vcQ P r (setD env d v) st K)
   (vcQ P r (setD env d (.tup [])) st K)
def contQ (P : Program) (d : Option Nat) (r : List Ins) (K : Env → Prop) (env : Env) (st : St) (v : V) : Prop := vcQ P r (setD env d v) st K
def afterQ (P : Program) (d : Option Nat) (r : List Ins) (K : Env → Prop) (env : Env) (st : St) (z : Option V) : Prop := upon z fun v => vcQ P r (setD env d v) st K
theorem vcQ_nil {env : Env} {st : St} {K : Env → Prop} : vcQ P [] env st K = K env := @_root_.id (_ = _) rfl
theorem vcQ_cons {d : Option Nat} {op : SOp} {g : Option (Nat × Bool)} {r : List Ins} {env : Env} {st : St} {K : Env → Prop} : vcQ P (⟨d, op, g⟩ :: r) env st K = stepQ P d r K env st op (wantV env g) := @_root_.id (_ = _) rfl
theorem stepQ_false {d : Option Nat} {op : SOp} {r : List Ins} {env : Env} {st : St} {K : Env → Prop} : stepQ P d r K env st op (some false) = vcQ P r (setD env d (.tup [])) st K := by first | (unfold stepK; exact fork_false) | (unfold stepQ; exact fork_false) | (unfold stepV; exact fork_false)
theorem stepQ_split {d : Option Nat} {op : SOp} {r : List Ins} {env : Env} {st : St} {K : Env → Prop} {t : Bool} (h1 : t = true → stepQ P d r K env st op (some true)) (h2 : t = false → vcQ P r (setD env d (.tup [])) st K) : stepQ P d r K env st op (some t) := by
 cases t
 ·rw [stepQ_false]; exact h2 rfl
 ·exact h1 rfl
theorem afterQ_some {d : Option Nat} {r : List Ins} {env : Env} {st : St} {K : Env → Prop} {v : V} : afterQ P d r K env st (some v) = vcQ P r (setD env d v) st K := @_root_.id (_ = _) rfl
theorem contQ_v {d : Option Nat} {r : List Ins} {env : Env} {st : St} {K : Env → Prop} {v : V} : contQ P d r K env st v = vcQ P r (setD env d v) st K := @_root_.id (_ = _) rfl
def stepV (P : Program) (d : Option Nat) (r : List Ins) (K : List V → Env → Prop) (env : Env) (st : St) (acc : List V) (op : SOp) (t : Option Bool) : Prop :=
 upon t fun t => fork t
   (match op with
    | .call f args => getsV P (f.get env) (args.map (·.get env)) st fun v => vcV P r (setD env d v) st (v :: acc) K
    | op => upon (evs op env st) fun v => vcV P r (setD env d v) st (v :: acc) K)
   (vcV P r (setD env d (.tup [])) st (.tup [] :: acc) K)
def contV (P : Program) (d : Option Nat) (r : List Ins) (K : List V → Env → Prop) (env : Env) (st : St) (acc : List V) (v : V) : Prop := vcV P r (setD env d v) st (v :: acc) K
def afterV (P : Program) (d : Option Nat) (r : List Ins) (K : List V → Env → Prop) (env : Env) (st : St) (acc : List V) (z : Option V) : Prop := upon z fun v => vcV P r (setD env d v) st (v :: acc) K
theorem vcV_nil {env : Env} {st : St} {acc : List V} {K : List V → Env → Prop} : vcV P [] env st acc K = K acc.reverse env := @_root_.id (_ = _) rfl
theorem vcV_cons {d : Option Nat} {op : SOp} {g : Option (Nat × Bool)} {r : List Ins} {env : Env} {st : St} {acc : List V} {K : List V → Env → Prop} : vcV P (⟨d, op, g⟩ :: r) env st acc K = stepV P d r K env st acc op (wantV env g) := @_root_.id (_ = _) rfl
theorem stepV_false {d : Option Nat} {op : SOp} {r : List Ins} {env : Env} {st : St} {acc : List V} {K : List V → Env → Prop} : stepV P d r K env st acc op (some false) = vcV P r (setD env d (.tup [])) st (.tup [] :: acc) K := by first | (unfold stepK; exact fork_false) | (unfold stepQ; exact fork_false) | (unfold stepV; exact fork_false)
theorem afterV_some {d : Option Nat} {r : List Ins} {env : Env} {st : St} {acc : List V} {K : List V → Env → Prop} {v : V} : afterV P d r K env st acc (some v) = vcV P r (setD env d v) st (v :: acc) K := @_root_.id (_ = _) rfl
theorem contV_v {d : Option Nat} {r : List Ins} {env : Env} {st : St} {acc : List V} {K : List V → Env → Prop} {v : V} : contV P d r K env st acc v = vcV P r (setD env d v) st (v :: acc) K := @_root_.id (_ = _) rfl
def afterE (P : Program) (d : Option Nat) (r : List Ins) (Q : Post) (env : Env) (st : St) (z : Option V) : Prop := upon z fun v => vcOps P r (setD env d v) st Q
theorem afterE_some {d : Option Nat} {r : List Ins} {env : Env} {st : St} {Q : Post} {v : V} : afterE P d r Q env st (some v) = vcOps P r (setD env d v) st Q := @_root_.id (_ = _) rfl
theorem afterE_eq {d : Option Nat} {r : List Ins} {env : Env} {st : St} {Q : Post} {z : Option V} : (upon (z.map fun v => (v, st)) fun y => vcOps P r (setD env d y.1) y.2 Q) = afterE P d r Q env st z := by cases z <;> rfl
theorem stepK_mv {d : Option Nat} {r : List Ins} {env : Env} {st : St} {Q : Post} (x : Opd) : stepK P d r Q env st (.mv x) (some true) = vcOps P r (setD env d ((x.get env))) st Q := @_root_.id (_ = _) rfl
theorem stepQ_mv {d : Option Nat} {r : List Ins} {env : Env} {st : St} {K : Env → Prop} (x : Opd) : stepQ P d r K env st (.mv x) (some true) = vcQ P r (setD env d ((x.get env))) st K := @_root_.id (_ = _) rfl
theorem stepV_mv {d : Option Nat} {r : List Ins} {env : Env} {st : St} {acc : List V} {K : List V → Env → Prop} (x : Opd) : stepV P d r K env st acc (.mv x) (some true) = vcV P r (setD env d ((x.get env))) st (((x.get env)) :: acc) K := @_root_.id (_ = _) rfl
theorem stepK_pick {d : Option Nat} {r : List Ins} {env : Env} {st : St} {Q : Post} (c a b : Opd) : stepK P d r Q env st (.pick c a b) (some true) = afterE P d r Q env st (pickV (c.get env) (a.get env) (b.get env)) := by rw [stepK_true]; exact afterE_eq
theorem stepQ_pick {d : Option Nat} {r : List Ins} {env : Env} {st : St} {K : Env → Prop} (c a b : Opd) : stepQ P d r K env st (.pick c a b) (some true) = afterQ P d r K env st (pickV (c.get env) (a.get env) (b.get env)) := @_root_.id (_ = _) rfl
theorem stepV_pick {d : Option Nat} {r : List Ins} {env : Env} {st : St} {acc : List V} {K : List V → Env → Prop} (c a b : Opd) : stepV P d r K env st acc (.pick c a b) (some true) = afterV P d r K env st acc (pickV (c.get env) (a.get env) (b.get env)) := @_root_.id (_ = _) rfl
theorem stepK_build {d : Option Nat} {r : List Ins} {env : Env} {st : St} {Q : Post} (z : List V) (ps : List (Nat × Nat × Opd)) : stepK P d r Q env st (.build z ps) (some true) = afterE P d r Q env st ((fillV st z (ps.map fun p => (p.1, p.2.1, p.2.2.get env))).map .agg) := by rw [stepK_true]; exact afterE_eq
theorem stepQ_build {d : Option Nat} {r : List Ins} {env : Env} {st : St} {K : Env → Prop} (z : List V) (ps : List (Nat × Nat × Opd)) : stepQ P d r K env st (.build z ps) (some true) = afterQ P d r K env st ((fillV st z (ps.map fun p => (p.1, p.2.1, p.2.2.get env))).map .agg) := @_root_.id (_ = _) rfl
theorem stepV_build {d : Option Nat} {r : List Ins} {env : Env} {st : St} {acc : List V} {K : List V → Env → Prop} (z : List V) (ps : List (Nat × Nat × Opd)) : stepV P d r K env st acc (.build z ps) (some true) = afterV P d r K env st acc ((fillV st z (ps.map fun p => (p.1, p.2.1, p.2.2.get env))).map .agg) := @_root_.id (_ = _) rfl
theorem stepK_load {d : Option Nat} {r : List Ins} {env : Env} {st : St} {Q : Post} (n : Option Nat) (x : Opd) : stepK P d r Q env st (.load n x) (some true) = afterE P d r Q env st (loadV st n (x.get env)) := by rw [stepK_true]; exact afterE_eq
theorem stepQ_load {d : Option Nat} {r : List Ins} {env : Env} {st : St} {K : Env → Prop} (n : Option Nat) (x : Opd) : stepQ P d r K env st (.load n x) (some true) = afterQ P d r K env st (loadV st n (x.get env)) := @_root_.id (_ = _) rfl
theorem stepV_load {d : Option Nat} {r : List Ins} {env : Env} {st : St} {acc : List V} {K : List V → Env → Prop} (n : Option Nat) (x : Opd) : stepV P d r K env st acc (.load n x) (some true) = afterV P d r K env st acc (loadV st n (x.get env)) := @_root_.id (_ = _) rfl
theorem stepK_nilc {d : Option Nat} {r : List Ins} {env : Env} {st : St} {Q : Post} (x : Opd) : stepK P d r Q env st (.nilc x) (some true) = afterE P d r Q env st (nilcV (x.get env)) := by rw [stepK_true]; exact afterE_eq
theorem stepQ_nilc {d : Option Nat} {r : List Ins} {env : Env} {st : St} {K : Env → Prop} (x : Opd) : stepQ P d r K env st (.nilc x) (some true) = afterQ P d r K env st (nilcV (x.get env)) := @_root_.id (_ = _) rfl
theorem stepV_nilc {d : Option Nat} {r : List Ins} {env : Env} {st : St} {acc : List V} {K : List V → Env → Prop} (x : Opd) : stepV P d r K env st acc (.nilc x) (some true) = afterV P d r K env st acc (nilcV (x.get env)) := @_root_.id (_ = _) rfl
theorem stepK_bin {d : Option Nat} {r : List Ins} {env : Env} {st : St} {Q : Post} (o : BinOp) (x y : Opd) : stepK P d r Q env st (.bin o x y) (some true) = afterE P d r Q env st (binV o (x.get env) (y.get env)) := by rw [stepK_true]; exact afterE_eq
theorem stepQ_bin {d : Option Nat} {r : List Ins} {env : Env} {st : St} {K : Env → Prop} (o : BinOp) (x y : Opd) : stepQ P d r K env st (.bin o x y) (some true) = afterQ P d r K env st (binV o (x.get env) (y.get env)) := @_root_.id (_ = _) rfl
theorem stepV_bin {d : Option Nat} {r : List Ins} {env : Env} {st : St} {acc : List V} {K : List V → Env → Prop} (o : BinOp) (x y : Opd) : stepV P d r K env st acc (.bin o x y) (some true) = afterV P d r K env st acc (binV o (x.get env) (y.get env)) := @_root_.id (_ = _) rfl
theorem stepK_eqb {d : Option Nat} {r : List Ins} {env : Env} {st : St} {Q : Post} (ne : Bool) (x y : Opd) : stepK P d r Q env st (.eqb ne x y) (some true) = afterE P d r Q env st (eqbV ne (x.get env) (y.get env)) := by rw [stepK_true]; exact afterE_eq
theorem stepQ_eqb {d : Option Nat} {r : List Ins} {env : Env} {st : St} {K : Env → Prop} (ne : Bool) (x y : Opd) : stepQ P d r K env st (.eqb ne x y) (some true) = afterQ P d r K env st (eqbV ne (x.get env) (y.get env)) := @_root_.id (_ = _) rfl
theorem stepV_eqb {d : Option Nat} {r : List Ins} {env : Env} {st : St} {acc : List V} {K : List V → Env → Prop} (ne : Bool) (x y : Opd) : stepV P d r K env st acc (.eqb ne x y) (some true) = afterV P d r K env st acc (eqbV ne (x.get env) (y.get env)) := @_root_.id (_ = _) rfl
theorem stepK_eqs {d : Option Nat} {r : List Ins} {env : Env} {st : St} {Q : Post} (ne : Bool) (ks : List Kd) (x y : Opd) : stepK P d r Q env st (.eqs ne ks x y) (some true) = afterE P d r Q env st (eqsV ne ks (x.get env) (y.get env)) := by rw [stepK_true]; exact afterE_eq
theorem stepQ_eqs {d : Option Nat} {r : List Ins} {env : Env} {st : St} {K : Env → Prop} (ne : Bool) (ks : List Kd) (x y : Opd) : stepQ P d r K env st (.eqs ne ks x y) (some true) = afterQ P d r K env st (eqsV ne ks (x.get env) (y.get env)) := @_root_.id (_ = _) rfl
theorem stepV_eqs {d : Option Nat} {r : List Ins} {env : Env} {st : St} {acc : List V} {K : List V → Env → Prop} (ne : Bool) (ks : List Kd) (x y : Opd) : stepV P d r K env st acc (.eqs ne ks x y) (some true) = afterV P d r K env st acc (eqsV ne ks (x.get env) (y.get env)) := @_root_.id (_ = _) rfl
theorem stepK_un {d : Option Nat} {r : List Ins} {env : Env} {st : St} {Q : Post} (o : UnOp) (x : Opd) : stepK P d r Q env st (.un o x) (some true) = afterE P d r Q env st (unV o (x.get env)) := by rw [stepK_true]; exact afterE_eq
theorem stepQ_un {d : Option Nat} {r : List Ins} {env : Env} {st : St} {K : Env → Prop} (o : UnOp) (x : Opd) : stepQ P d r K env st (.un o x) (some true) = afterQ P d r K env st (unV o (x.get env)) := @_root_.id (_ = _) rfl
theorem stepV_un {d : Option Nat} {r : List Ins} {env : Env} {st : St} {acc : List V} {K : List V → Env → Prop} (o : UnOp) (x : Opd) : stepV P d r K env st acc (.un o x) (some true) = afterV P d r K env st acc (unV o (x.get env)) := @_root_.id (_ = _) rfl
theorem stepK_fadr {d : Option Nat} {r : List Ins} {env : Env} {st : St} {Q : Post} (o : Nat) (x : Opd) : stepK P d r Q env st (.fadr o x) (some true) = afterE P d r Q env st (fadrV st o (x.get env)) := by rw [stepK_true]; exact afterE_eq
theorem stepQ_fadr {d : Option Nat} {r : List Ins} {env : Env} {st : St} {K : Env → Prop} (o : Nat) (x : Opd) : stepQ P d r K env st (.fadr o x) (some true) = afterQ P d r K env st (fadrV st o (x.get env)) := @_root_.id (_ = _) rfl
theorem stepV_fadr {d : Option Nat} {r : List Ins} {env : Env} {st : St} {acc : List V} {K : List V → Env → Prop} (o : Nat) (x : Opd) : stepV P d r K env st acc (.fadr o x) (some true) = afterV P d r K env st acc (fadrV st o (x.get env)) := @_root_.id (_ = _) rfl
theorem stepK_fld {d : Option Nat} {r : List Ins} {env : Env} {st : St} {Q : Post} (n : Option Nat) (o : Nat) (x : Opd) : stepK P d r Q env st (.fld n o x) (some true) = afterE P d r Q env st (fldV n o (x.get env)) := by rw [stepK_true]; exact afterE_eq
theorem stepQ_fld {d : Option Nat} {r : List Ins} {env : Env} {st : St} {K : Env → Prop} (n : Option Nat) (o : Nat) (x : Opd) : stepQ P d r K env st (.fld n o x) (some true) = afterQ P d r K env st (fldV n o (x.get env)) := @_root_.id (_ = _) rfl
theorem stepV_fld {d : Option Nat} {r : List Ins} {env : Env} {st : St} {acc : List V} {K : List V → Env → Prop} (n : Option Nat) (o : Nat) (x : Opd) : stepV P d r K env st acc (.fld n o x) (some true) = afterV P d r K env st acc (fldV n o (x.get env)) := @_root_.id (_ = _) rfl
theorem stepK_iadr {d : Option Nat} {r : List Ins} {env : Env} {st : St} {Q : Post} (es : Nat) (x i : Opd) : stepK P d r Q env st (.iadr es x i) (some true) = afterE P d r Q env st (iadrV st es (x.get env) (i.get env)) := by rw [stepK_true]; exact afterE_eq
theorem stepQ_iadr {d : Option Nat} {r : List Ins} {env : Env} {st : St} {K : Env → Prop} (es : Nat) (x i : Opd) : stepQ P d r K env st (.iadr es x i) (some true) = afterQ P d r K env st (iadrV st es (x.get env) (i.get env)) := @_root_.id (_ = _) rfl
theorem stepV_iadr {d : Option Nat} {r : List Ins} {env : Env} {st : St} {acc : List V} {K : List V → Env → Prop} (es : Nat) (x i : Opd) : stepV P d r K env st acc (.iadr es x i) (some true) = afterV P d r K env st acc (iadrV st es (x.get env) (i.get env)) := @_root_.id (_ = _) rfl
theorem stepK_iadra {d : Option Nat} {r : List Ins} {env : Env} {st : St} {Q : Post} (len es : Nat) (x i : Opd) : stepK P d r Q env st (.iadra len es x i) (some true) = afterE P d r Q env st (iadraV len es (x.get env) (i.get env)) := by rw [stepK_true]; exact afterE_eq
theorem stepQ_iadra {d : Option Nat} {r : List Ins} {env : Env} {st : St} {K : Env → Prop} (len es : Nat) (x i : Opd) : stepQ P d r K env st (.iadra len es x i) (some true) = afterQ P d r K env st (iadraV len es (x.get env) (i.get env)) := @_root_.id (_ = _) rfl
theorem stepV_iadra {d : Option Nat} {r : List Ins} {env : Env} {st : St} {acc : List V} {K : List V → Env → Prop} (len es : Nat) (x i : Opd) : stepV P d r K env st acc (.iadra len es x i) (some true) = afterV P d r K env st acc (iadraV len es (x.get env) (i.get env)) := @_root_.id (_ = _) rfl
theorem stepK_ichr {d : Option Nat} {r : List Ins} {env : Env} {st : St} {Q : Post} (x i : Opd) : stepK P d r Q env st (.ichr x i) (some true) = afterE P d r Q env st (ichrV (x.get env) (i.get env)) := by rw [stepK_true]; exact afterE_eq
theorem stepQ_ichr {d : Option Nat} {r : List Ins} {env : Env} {st : St} {K : Env → Prop} (x i : Opd) : stepQ P d r K env st (.ichr x i) (some true) = afterQ P d r K env st (ichrV (x.get env) (i.get env)) := @_root_.id (_ = _) rfl
theorem stepV_ichr {d : Option Nat} {r : List Ins} {env : Env} {st : St} {acc : List V} {K : List V → Env → Prop} (x i : Opd) : stepV P d r K env st acc (.ichr x i) (some true) = afterV P d r K env st acc (ichrV (x.get env) (i.get env)) := @_root_.id (_ = _) rfl
theorem stepK_slices {d : Option Nat} {r : List Ins} {env : Env} {st : St} {Q : Post} (x : Opd) (lo hi : Option Opd) : stepK P d r Q env st (.slices x lo hi) (some true) = afterE P d r Q env st (sliceStr (x.get env) (lo.map (·.get env)) (hi.map (·.get env))) := by rw [stepK_true]; exact afterE_eq
theorem stepQ_slices {d : Option Nat} {r : List Ins} {env : Env} {st : St} {K : Env → Prop} (x : Opd) (lo hi : Option Opd) : stepQ P d r K env st (.slices x lo hi) (some true) = afterQ P d r K env st (sliceStr (x.get env) (lo.map (·.get env)) (hi.map (·.get env))) := @_root_.id (_ = _) rfl
theorem stepV_slices {d : Option Nat} {r : List Ins} {env : Env} {st : St} {acc : List V} {K : List V → Env → Prop} (x : Opd) (lo hi : Option Opd) : stepV P d r K env st acc (.slices x lo hi) (some true) = afterV P d r K env st acc (sliceStr (x.get env) (lo.map (·.get env)) (hi.map (·.get env))) := @_root_.id (_ = _) rfl
theorem stepK_slice {d : Option Nat} {r : List Ins} {env : Env} {st : St} {Q : Post} (es : Nat) (x : Opd) (lo hi mx : Option Opd) : stepK P d r Q env st (.slice es x lo hi mx) (some true) = afterE P d r Q env st (sliceV st es (x.get env) (lo.map (·.get env)) (hi.map (·.get env)) (mx.map (·.get env))) := by rw [stepK_true]; exact afterE_eq
theorem stepQ_slice {d : Option Nat} {r : List Ins} {env : Env} {st : St} {K : Env → Prop} (es : Nat) (x : Opd) (lo hi mx : Option Opd) : stepQ P d r K env st (.slice es x lo hi mx) (some true) = afterQ P d r K env st (sliceV st es (x.get env) (lo.map (·.get env)) (hi.map (·.get env)) (mx.map (·.get env))) := @_root_.id (_ = _) rfl
theorem stepV_slice {d : Option Nat} {r : List Ins} {env : Env} {st : St} {acc : List V} {K : List V → Env → Prop} (es : Nat) (x : Opd) (lo hi mx : Option Opd) : stepV P d r K env st acc (.slice es x lo hi mx) (some true) = afterV P d r K env st acc (sliceV st es (x.get env) (lo.map (·.get env)) (hi.map (·.get env)) (mx.map (·.get env))) := @_root_.id (_ = _) rfl
theorem stepK_ext {d : Option Nat} {r : List Ins} {env : Env} {st : St} {Q : Post} (i : Nat) (x : Opd) : stepK P d r Q env st (.ext i x) (some true) = afterE P d r Q env st (extV i (x.get env)) := by rw [stepK_true]; exact afterE_eq
theorem stepQ_ext {d : Option Nat} {r : List Ins} {env : Env} {st : St} {K : Env → Prop} (i : Nat) (x : Opd) : stepQ P d r K env st (.ext i x) (some true) = afterQ P d r K env st (extV i (x.get env)) := @_root_.id (_ = _) rfl
theorem stepV_ext {d : Option Nat} {r : List Ins} {env : Env} {st : St} {acc : List V} {K : List V → Env → Prop} (i : Nat) (x : Opd) : stepV P d r K env st acc (.ext i x) (some true) = afterV P d r K env st acc (extV i (x.get env)) := @_root_.id (_ = _) rfl
theorem stepK_lens {d : Option Nat} {r : List Ins} {env : Env} {st : St} {Q : Post} (x : Opd) : stepK P d r Q env st (.lens x) (some true) = afterE P d r Q env st (lensV (x.get env)) := by rw [stepK_true]; exact afterE_eq
theorem stepQ_lens {d : Option Nat} {r : List Ins} {env : Env} {st : St} {K : Env → Prop} (x : Opd) : stepQ P d r K env st (.lens x) (some true) = afterQ P d r K env st (lensV (x.get env)) := @_root_.id (_ = _) rfl
theorem stepV_lens {d : Option Nat} {r : List Ins} {env : Env} {st : St} {acc : List V} {K : List V → Env → Prop} (x : Opd) : stepV P d r K env st acc (.lens x) (some true) = afterV P d r K env st acc (lensV (x.get env)) := @_root_.id (_ = _) rfl
theorem stepK_len {d : Option Nat} {r : List Ins} {env : Env} {st : St} {Q : Post} (x : Opd) : stepK P d r Q env st (.len x) (some true) = afterE P d r Q env st (lenV st (x.get env)) := by rw [stepK_true]; exact afterE_eq
theorem stepQ_len {d : Option Nat} {r : List Ins} {env : Env} {st : St} {K : Env → Prop} (x : Opd) : stepQ P d r K env st (.len x) (some true) = afterQ P d r K env st (lenV st (x.get env)) := @_root_.id (_ = _) rfl
theorem stepV_len {d : Option Nat} {r : List Ins} {env : Env} {st : St} {acc : List V} {K : List V → Env → Prop} (x : Opd) : stepV P d r K env st acc (.len x) (some true) = afterV P d r K env st acc (lenV st (x.get env)) := @_root_.id (_ = _) rfl
theorem stepK_mkfn {d : Option Nat} {r : List Ins} {env : Env} {st : St} {Q : Post} (f : Fn) (a b : List Opd) : stepK P d r Q env st (.mkfn f a b) (some true) = vcOps P r (setD env d ((.fn f (a.map (·.get env)) (b.map (·.get env))))) st Q := @_root_.id (_ = _) rfl
theorem stepQ_mkfn {d : Option Nat} {r : List Ins} {env : Env} {st : St} {K : Env → Prop} (f : Fn) (a b : List Opd) : stepQ P d r K env st (.mkfn f a b) (some true) = vcQ P r (setD env d ((.fn f (a.map (·.get env)) (b.map (·.get env))))) st K := @_root_.id (_ = _) rfl
theorem stepV_mkfn {d : Option Nat} {r : List Ins} {env : Env} {st : St} {acc : List V} {K : List V → Env → Prop} (f : Fn) (a b : List Opd) : stepV P d r K env st acc (.mkfn f a b) (some true) = vcV P r (setD env d ((.fn f (a.map (·.get env)) (b.map (·.get env))))) st (((.fn f (a.map (·.get env)) (b.map (·.get env)))) :: acc) K := @_root_.id (_ = _) rfl
theorem stepK_mkif {d : Option Nat} {r : List Ins} {env : Env} {st : St} {Q : Post} (t : TypeId) (x : Opd) : stepK P d r Q env st (.mkif t x) (some true) = vcOps P r (setD env d ((.iface t (x.get env)))) st Q := @_root_.id (_ = _) rfl
theorem stepQ_mkif {d : Option Nat} {r : List Ins} {env : Env} {st : St} {K : Env → Prop} (t : TypeId) (x : Opd) : stepQ P d r K env st (.mkif t x) (some true) = vcQ P r (setD env d ((.iface t (x.get env)))) st K := @_root_.id (_ = _) rfl
theorem stepV_mkif {d : Option Nat} {r : List Ins} {env : Env} {st : St} {acc : List V} {K : List V → Env → Prop} (t : TypeId) (x : Opd) : stepV P d r K env st acc (.mkif t x) (some true) = vcV P r (setD env d ((.iface t (x.get env)))) st (((.iface t (x.get env))) :: acc) K := @_root_.id (_ = _) rfl
theorem stepK_cvi {d : Option Nat} {r : List Ins} {env : Env} {st : St} {Q : Post} (k : IntKind) (x : Opd) : stepK P d r Q env st (.cvi k x) (some true) = afterE P d r Q env st (cviV k (x.get env)) := by rw [stepK_true]; exact afterE_eq
theorem stepQ_cvi {d : Option Nat} {r : List Ins} {env : Env} {st : St} {K : Env → Prop} (k : IntKind) (x : Opd) : stepQ P d r K env st (.cvi k x) (some true) = afterQ P d r K env st (cviV k (x.get env)) := @_root_.id (_ = _) rfl
theorem stepV_cvi {d : Option Nat} {r : List Ins} {env : Env} {st : St} {acc : List V} {K : List V → Env → Prop} (k : IntKind) (x : Opd) : stepV P d r K env st acc (.cvi k x) (some true) = afterV P d r K env st acc (cviV k (x.get env)) := @_root_.id (_ = _) rfl
theorem stepK_cvis {d : Option Nat} {r : List Ins} {env : Env} {st : St} {Q : Post} (x : Opd) : stepK P d r Q env st (.cvis x) (some true) = afterE P d r Q env st (cvisV (x.get env)) := by rw [stepK_true]; exact afterE_eq
theorem stepQ_cvis {d : Option Nat} {r : List Ins} {env : Env} {st : St} {K : Env → Prop} (x : Opd) : stepQ P d r K env st (.cvis x) (some true) = afterQ P d r K env st (cvisV (x.get env)) := @_root_.id (_ = _) rfl
theorem stepV_cvis {d : Option Nat} {r : List Ins} {env : Env} {st : St} {acc : List V} {K : List V → Env → Prop} (x : Opd) : stepV P d r K env st acc (.cvis x) (some true) = afterV P d r K env st acc (cvisV (x.get env)) := @_root_.id (_ = _) rfl
theorem stepK_cvss {d : Option Nat} {r : List Ins} {env : Env} {st : St} {Q : Post} (x : Opd) : stepK P d r Q env st (.cvss x) (some true) = afterE P d r Q env st (cvssV (x.get env)) := by rw [stepK_true]; exact afterE_eq
theorem stepQ_cvss {d : Option Nat} {r : List Ins} {env : Env} {st : St} {K : Env → Prop} (x : Opd) : stepQ P d r K env st (.cvss x) (some true) = afterQ P d r K env st (cvssV (x.get env)) := @_root_.id (_ = _) rfl
theorem stepV_cvss {d : Option Nat} {r : List Ins} {env : Env} {st : St} {acc : List V} {K : List V → Env → Prop} (x : Opd) : stepV P d r K env st acc (.cvss x) (some true) = afterV P d r K env st acc (cvssV (x.get env)) := @_root_.id (_ = _) rfl
theorem stepK_cvbs {d : Option Nat} {r : List Ins} {env : Env} {st : St} {Q : Post} (x : Opd) : stepK P d r Q env st (.cvbs x) (some true) = afterE P d r Q env st (cvbsV st (x.get env)) := by rw [stepK_true]; exact afterE_eq
theorem stepQ_cvbs {d : Option Nat} {r : List Ins} {env : Env} {st : St} {K : Env → Prop} (x : Opd) : stepQ P d r K env st (.cvbs x) (some true) = afterQ P d r K env st (cvbsV st (x.get env)) := @_root_.id (_ = _) rfl
theorem stepV_cvbs {d : Option Nat} {r : List Ins} {env : Env} {st : St} {acc : List V} {K : List V → Env → Prop} (x : Opd) : stepV P d r K env st acc (.cvbs x) (some true) = afterV P d r K env st acc (cvbsV st (x.get env)) := @_root_.id (_ = _) rfl
theorem stepK_call {d : Option Nat} {r : List Ins} {env : Env} {st : St} {Q : Post} (f : Opd) (args : List Opd) : stepK P d r Q env st (.call f args) (some true) = callVC P (f.get env) (args.map (·.get env)) st (contK P d r Q env) := @_root_.id (_ = _) rfl
theorem stepQ_call {d : Option Nat} {r : List Ins} {env : Env} {st : St} {K : Env → Prop} (f : Opd) (args : List Opd) : stepQ P d r K env st (.call f args) (some true) = getsV P (f.get env) (args.map (·.get env)) st (contQ P d r K env st) := @_root_.id (_ = _) rfl
theorem stepV_call {d : Option Nat} {r : List Ins} {env : Env} {st : St} {acc : List V} {K : List V → Env → Prop} (f : Opd) (args : List Opd) : stepV P d r K env st acc (.call f args) (some true) = getsV P (f.get env) (args.map (·.get env)) st (contV P d r K env st acc) := @_root_.id (_ = _) rfl
theorem stepK_panic {d : Option Nat} {r : List Ins} {env : Env} {st : St} {Q : Post} (x : Opd) : stepK P d r Q env st (.panic x) (some true) = panK (x.get env) Q env st := @_root_.id (_ = _) rfl
def cvsbV (e : TypeId) (v : V) (st : St) : Option (V × St) := match v with
 | .str s => if s.length ≤ maxLen then some (newArr st e 1 (s.map fun b => .int .u8 b.toNat) true true) else none
 | _ => none
def bsliceV (e es : Nat) (xs : List V) (st : St) : Option (V × St) := match mapO (snapA st) xs with
 | some ys => if ys.all (fun y => partOk st y && y.cells.length == es) = true then some (newArr st e es ys false false) else none
 | none => none
def mksliceV (e es bytes : Nat) (b : Bool) (z : List V) (l c : V) (st : St) : Option (V × St) := match natV l, natV c, elemZ b z with
 | some l, some c, some y => if l ≤ c ∧ roomV c bytes = true ∧ y.cells.length = es then some (newArr st e es (List.replicate l y) true false) else none
 | _, _, _ => none
theorem stepK_alloc {d : Option Nat} {r : List Ins} {env : Env} {st : St} {Q : Post} (T : TypeId) (z : List V) : stepK P d r Q env st (.alloc T z) (some true) = vcOps P r (setD env d (.ptr st.nx 0)) ⟨st.nx + 1, (st.nx, z) :: st.mem, st.arr, st.x⟩ Q := @_root_.id (_ = _) rfl
theorem stepK_box {d : Option Nat} {r : List Ins} {env : Env} {st : St} {Q : Post} (T : TypeId) (x : Opd) : stepK P d r Q env st (.box T x) (some true) = afterK P d r Q env (if partOk st (x.get env) = true then some (.ptr st.nx 0, ⟨st.nx + 1, (st.nx, (x.get env).cells) :: st.mem, st.arr, st.x⟩) else none) := @_root_.id (_ = _) rfl
theorem stepK_store {d : Option Nat} {r : List Ins} {env : Env} {st : St} {Q : Post} (n : Nat) (a x : Opd) : stepK P d r Q env st (.store n a x) (some true) = afterK P d r Q env ((storeV st n (a.get env) (x.get env)).map fun s => (.und, s)) := @_root_.id (_ = _) rfl
theorem stepK_append {d : Option Nat} {r : List Ins} {env : Env} {st : St} {Q : Post} (e es bytes : Nat) (s x : Opd) : stepK P d r Q env st (.append e es bytes s x) (some true) = afterK P d r Q env (appendV st e es bytes (s.get env) (x.get env)) := @_root_.id (_ = _) rfl
theorem stepK_cvsb {d : Option Nat} {r : List Ins} {env : Env} {st : St} {Q : Post} (e : TypeId) (x : Opd) : stepK P d r Q env st (.cvsb e x) (some true) = afterK P d r Q env (cvsbV e (x.get env) st) := @_root_.id (_ = _) rfl
theorem stepK_bslice {d : Option Nat} {r : List Ins} {env : Env} {st : St} {Q : Post} (e es : Nat) (xs : List Opd) : stepK P d r Q env st (.bslice e es xs) (some true) = afterK P d r Q env (bsliceV e es (xs.map (·.get env)) st) := @_root_.id (_ = _) rfl
theorem stepK_mkslice {d : Option Nat} {r : List Ins} {env : Env} {st : St} {Q : Post} (e es bytes : Nat) (b : Bool) (z : List V) (l c : Opd) : stepK P d r Q env st (.mkslice e es bytes b z l c) (some true) = afterK P d r Q env (mksliceV e es bytes b z (l.get env) (c.get env) st) := @_root_.id (_ = _) rfl
theorem seqT_normal {T : List Nd} {i : Nat} {Q : Post} {env : Env} {st : St} : seqT P N T i Q .normal env st = WT P N T i env st Q := @_root_.id (_ = _) rfl
theorem seqT_exit {T : List Nd} {i id : Nat} {Q : Post} {env : Env} {st : St} : seqT P N T i Q (.exit id) env st = Q (.exit id) env st := @_root_.id (_ = _) rfl
theorem seqT_ret {T : List Nd} {i : Nat} {Q : Post} {env : Env} {st : St} : seqT P N T i Q .ret env st = Q .ret env st := @_root_.id (_ = _) rfl
theorem seqT_pan {T : List Nd} {i : Nat} {v : V} {Q : Post} {env : Env} {st : St} : seqT P N T i Q (.pan v) env st = Q (.pan v) env st := @_root_.id (_ = _) rfl
theorem seqPost_normal {K : Env → St → Prop} {Q : Post} {env : Env} {st : St} : seqPost K Q .normal env st = K env st := @_root_.id (_ = _) rfl
theorem seqPost_exit {K : Env → St → Prop} {id : Nat} {Q : Post} {env : Env} {st : St} : seqPost K Q (.exit id) env st = Q (.exit id) env st := @_root_.id (_ = _) rfl
theorem seqPost_ret {K : Env → St → Prop} {Q : Post} {env : Env} {st : St} : seqPost K Q .ret env st = Q .ret env st := @_root_.id (_ = _) rfl
theorem seqPost_pan {K : Env → St → Prop} {v : V} {Q : Post} {env : Env} {st : St} : seqPost K Q (.pan v) env st = Q (.pan v) env st := @_root_.id (_ = _) rfl
theorem blockPost_normal {id : Nat} {Q : Post} {env : Env} {st : St} : blockPost id Q .normal env st = Q .normal env st := @_root_.id (_ = _) rfl
theorem blockPost_ret {id : Nat} {Q : Post} {env : Env} {st : St} : blockPost id Q .ret env st = Q .ret env st := @_root_.id (_ = _) rfl
theorem blockPost_pan {id : Nat} {v : V} {Q : Post} {env : Env} {st : St} : blockPost id Q (.pan v) env st = Q (.pan v) env st := @_root_.id (_ = _) rfl
theorem blockPost_exit {id id' : Nat} {Q : Post} {env : Env} {st : St} : blockPost id Q (.exit id') env st = if id' = id then Q .normal env st else Q (.exit id') env st := @_root_.id (_ = _) rfl
theorem wrap64 {n : Int} (h1 : -9223372036854775808 ≤ n) (h2 : n ≤ 9223372036854775807) : IntKind.i64.wrap n = n := by
 simp only [IntKind.wrap, IntKind.bits, IntKind.signed]
 simp
 split <;> omega
theorem Weak.refl {st : St} (hw : st.Wf) : Weak st.nx st st := ⟨rfl, Nat.le_refl _, hw.subm, hw.suba, fun id cs h => (hw.mem id cs h).2, fun id a h => (hw.arr id a h).2, hw.subx, fun id o h => (hw.x id o h).2⟩
theorem WeakEnv.nil {n : Nat} {env : Env} : WeakEnv n env [] := fun i v h => by simp [look] at h
theorem WeakEnv.cons {n k : Nat} {v : V} {env env' : Env} (hb : v.bd n = true) (hl : look env k = some v) (h : WeakEnv n env env') : WeakEnv n env ((k, v) :: env') := fun i u hi => by
 simp only [look] at hi
 split at hi
 ·rename_i e; subst e; cases hi; exact ⟨hb, hl⟩
 ·exact h i u hi
theorem Weak.wf {n : Nat} {st st' : St} (hn : st'.nx = n) (hl : n ≤ st.nx) (hm : Sub n st.mem st'.mem) (ha : Sub n st.arr st'.arr) (hx : ExSub n st.x st'.x) (hw : st'.Wf) : Weak n st st' :=
 ⟨hn, hl, hm, ha, fun id cs h => by rw [← hn]; exact (hw.mem id cs h).2, fun id a h => by rw [← hn]; exact (hw.arr id a h).2, hx, fun id o h => by rw [← hn]; exact (hw.x id o h).2⟩
theorem bd_mono {n m : Nat} (h : n ≤ m) : ∀ {v : V}, v.bd n = true → v.bd m = true := by
 intro v
 refine V.rec (motive_1 := fun v => v.bd n = true → v.bd m = true) (motive_2 := fun l => V.bdL n l = true → V.bdL m l = true) ?_ ?_ ?_ ?_ ?_ ?_ ?_ ?_ ?_ ?_ ?_ ?_ ?_ ?_ ?_ ?_ ?_ ?_ ?_ ?_ ?_ ?_ ?_ v
 all_goals simp only [V.bd, V.bdL, Bool.and_eq_true, decide_eq_true_eq]
 all_goals intros
 all_goals first
  | trivial
  | omega
  | (rename_i ih hb; exact ih hb)
  | (rename_i ih1 ih2 hb; exact ⟨ih1 hb.1, ih2 hb.2⟩)
theorem bdL_mono {n m : Nat} (h : n ≤ m) {l : List V} (hb : V.bdL n l = true) : V.bdL m l = true := bdL_iff.2 fun v hv => bd_mono h (bdL_iff.1 hb v hv)
theorem Ob.bd_mono {n m : Nat} (h : n ≤ m) {o : Ob} (hb : o.bd n = true) : o.bd m = true := by
 cases o with
 | map es =>
  refine List.all_eq_true.2 (fun c hc => ?_)
  have := List.all_eq_true.1 hb c hc
  simp only [Bool.and_eq_true] at this ⊢
  exact ⟨Go.Sha.bd_mono h this.1, Go.Sha.bd_mono h this.2⟩
theorem St.Wf.x1 {st : St} (h : st.Wf) : ∀ id o, look st.x.obj id = some o → id < st.nx + 1 ∧ o.bd (st.nx + 1) = true := fun id o ho => by
 obtain ⟨h1, h2⟩ := h.x id o ho
 exact ⟨Nat.lt_succ_of_lt h1, Ob.bd_mono (Nat.le_succ _) h2⟩
theorem St.Wf.set {st : St} (h : st.Wf) {id : Nat} {c0 cs : List V} (hl : look st.mem id = some c0) (hb : V.bdL st.nx cs = true) : St.Wf ⟨st.nx, (id, cs) :: st.mem, st.arr, st.x⟩ where
 x := h.x
 t := h.t
 mem i c hi := by
  simp only [look] at hi
  split at hi
  ·rename_i e; subst e; cases hi; exact ⟨(h.mem _ _ hl).1, hb⟩
  ·exact h.mem i c hi
 arr := h.arr
 disj i c ar hi ha := by
  simp only [look] at hi
  split at hi
  ·rename_i e; subst e; exact h.disj _ _ _ hl ha
  ·exact h.disj i c ar hi ha
theorem St.Wf.new {st : St} (h : st.Wf) {cs : List V} (hb : V.bdL (st.nx + 1) cs = true) : St.Wf ⟨st.nx + 1, (st.nx, cs) :: st.mem, st.arr, st.x⟩ where
 x := h.x1
 t i T hi := Nat.lt_succ_of_lt (h.t i T hi)
 mem i c hi := by
  simp only [look] at hi
  split at hi
  ·rename_i e; subst e; cases hi; exact ⟨Nat.lt_succ_self _, hb⟩
  ·have := h.mem i c hi; exact ⟨Nat.lt_succ_of_lt this.1, bdL_mono (Nat.le_succ _) this.2⟩
 arr i a hi := by have := h.arr i a hi; exact ⟨Nat.lt_succ_of_lt this.1, bdL_mono (Nat.le_succ _) this.2⟩
 disj i c ar hi ha := by
  simp only [look] at hi
  split at hi
  ·rename_i e; subst e; have := (h.arr _ _ ha).1; omega
  ·exact h.disj i c ar hi ha
theorem St.Wf.newA {st : St} (h : st.Wf) {a : Arr} (hb : V.bdL (st.nx + 1) a.xs = true) : St.Wf ⟨st.nx + 1, st.mem, (st.nx, a) :: st.arr, st.x⟩ where
 x := h.x1
 t i T hi := Nat.lt_succ_of_lt (h.t i T hi)
 mem i c hi := by have := h.mem i c hi; exact ⟨Nat.lt_succ_of_lt this.1, bdL_mono (Nat.le_succ _) this.2⟩
 arr i c hi := by
  simp only [look] at hi
  split at hi
  ·rename_i e; subst e; cases hi; exact ⟨Nat.lt_succ_self _, hb⟩
  ·have := h.arr i c hi; exact ⟨Nat.lt_succ_of_lt this.1, bdL_mono (Nat.le_succ _) this.2⟩
 disj i c ar hi ha := by
  simp only [look] at ha
  split at ha
  ·rename_i e; subst e; have := (h.mem _ _ hi).1; omega
  ·exact h.disj i c ar hi ha
theorem finRet0 {res : List Res} {st : St} {env : Env} {vs : List V} {r : V} (hw : st.Wf) (h1 : resV env st res = some vs) (h2 : r = resOne vs) (hb : r.bd st.nx = true) : finQ res st.nx (fun x s => x = .ret r ∧ s = st) .ret env st :=
 ⟨vs, h1, r, st, .inl h2, hb, Weak.refl hw, Nat.le_refl _, rfl, rfl⟩
end
def storeG (P : Program) (m : Nat) (l : List Ins) (env0 : Env) (Q : Post) (vals : List V) (env : Env) (z : Option St) : Prop := upon z fun st' => vcV P (l.take m) env0 st' [] (fun vals' _ => vals' = vals) ∧ vcOps P (l.drop (m + 1)) env st' Q
theorem storeK_eq {P : Program} {m : Nat} {l : List Ins} {env0 : Env} {st : St} {Q : Post} {vals : List V} {env : Env} {d : Option Nat} {n : Nat} {p x : Opd} {g : Option (Nat × Bool)} (h : l[m]? = some ⟨d, .store n p x, g⟩) (k : storeG P m l env0 Q vals env (storeV st n (p.get env) (x.get env))) : storeK P m l env0 st Q vals env := by
 unfold storeK; rw [h]; exact k
theorem storeG_some {P : Program} {m : Nat} {l : List Ins} {env0 : Env} {Q : Post} {vals : List V} {env : Env} {st : St} : storeG P m l env0 Q vals env (some st) = (vcV P (l.take m) env0 st [] (fun vals' _ => vals' = vals) ∧ vcOps P (l.drop (m + 1)) env st Q) := @_root_.id (_ = _) rfl
theorem tailK_eq {P : Program} {l : List Ins} {st : St} {Q : Post} {env : Env} : tailK P l st Q env = vcOps P l env st Q := @_root_.id (_ = _) rfl
theorem get_t {env : Env} {i : Nat} : Opd.get env (.t i) = (look env i).getD .und := @_root_.id (_ = _) rfl
theorem get_c {env : Env} {v : V} : Opd.get env (.c v) = v := @_root_.id (_ = _) rfl
theorem setD_some {env : Env} {i : Nat} {v : V} : setD env (some i) v = (i, v) :: env := @_root_.id (_ = _) rfl
theorem setD_none {env : Env} {v : V} : setD env none v = env := @_root_.id (_ = _) rfl
theorem look_nil {α : Type} {j : Nat} : look ([] : List (Nat × α)) j = none := @_root_.id (_ = _) rfl
theorem look_cons {α : Type} {k j : Nat} {v : α} {l : List (Nat × α)} : look ((k, v) :: l) j = if k = j then some v else look l j := @_root_.id (_ = _) rfl
def wantB (b : Bool) : Option V → Option Bool
 | some (.bool t) => some (t == b)
 | some (.tup []) => some false
 | _ => none
theorem wantV_none {env : Env} : wantV env none = some true := @_root_.id (_ = _) rfl
theorem wantV_some {env : Env} {j : Nat} {b : Bool} : wantV env (some (j, b)) = wantB b (look env j) := by unfold wantV wantB; rfl
theorem wantB_t {t : Bool} : wantB true (some (.bool t)) = some t := by simp [wantB]
theorem wantB_f {t : Bool} : wantB false (some (.bool t)) = some (!t) := by cases t <;> rfl
theorem wantB_tup {b : Bool} : wantB b (some (.tup [])) = some false := @_root_.id (_ = _) rfl
theorem binV_add {k : IntKind} {a b : Int} : binV .add (.int k a) (.int k b) = some (.int k (k.wrap (a + b))) := by simp [binV]
theorem binV_sub {k : IntKind} {a b : Int} : binV .sub (.int k a) (.int k b) = some (.int k (k.wrap (a - b))) := by simp [binV]
theorem binV_mul {k : IntKind} {a b : Int} : binV .mul (.int k a) (.int k b) = some (.int k (k.wrap (a * b))) := by simp [binV]
theorem binV_and {k : IntKind} {a b : Int} : binV .and (.int k a) (.int k b) = some (.int k (bitsV .and k a b)) := by simp [binV]
theorem binV_or {k : IntKind} {a b : Int} : binV .or (.int k a) (.int k b) = some (.int k (bitsV .or k a b)) := by simp [binV]
theorem binV_xor {k : IntKind} {a b : Int} : binV .xor (.int k a) (.int k b) = some (.int k (bitsV .xor k a b)) := by simp [binV]
theorem binV_andNot {k : IntKind} {a b : Int} : binV .andNot (.int k a) (.int k b) = some (.int k (bitsV .andNot k a b)) := by simp [binV]
theorem binV_eql {k : IntKind} {a b : Int} : binV .eql (.int k a) (.int k b) = some (.bool (a == b)) := by simp [binV]
theorem binV_neq {k : IntKind} {a b : Int} : binV .neq (.int k a) (.int k b) = some (.bool (a != b)) := by simp [binV]
theorem binV_lss {k : IntKind} {a b : Int} : binV .lss (.int k a) (.int k b) = some (.bool (decide (a < b))) := by simp [binV]
theorem binV_leq {k : IntKind} {a b : Int} : binV .leq (.int k a) (.int k b) = some (.bool (decide (a ≤ b))) := by simp [binV]
theorem binV_gtr {k : IntKind} {a b : Int} : binV .gtr (.int k a) (.int k b) = some (.bool (decide (b < a))) := by simp [binV]
theorem binV_geq {k : IntKind} {a b : Int} : binV .geq (.int k a) (.int k b) = some (.bool (decide (b ≤ a))) := by simp [binV]
theorem binV_quo {k : IntKind} {a b : Int} : binV .quo (.int k a) (.int k b) = if b ≠ 0 then some (.int k (k.wrap (a.tdiv b))) else none := by simp [binV]
theorem binV_rem {k : IntKind} {a b : Int} : binV .rem (.int k a) (.int k b) = if b ≠ 0 then some (.int k (a.tmod b)) else none := by simp [binV]
theorem binV_shl {k k2 : IntKind} {a b : Int} : binV .shl (.int k a) (.int k2 b) = if b < 0 then none else some (.int k (k.wrap (a * 2 ^ (min b.toNat k.bits)))) := by simp [binV]
theorem binV_shr {k k2 : IntKind} {a b : Int} : binV .shr (.int k a) (.int k2 b) = if b < 0 then none else some (.int k (a.fdiv (2 ^ (min b.toNat k.bits)))) := by simp [binV]
theorem binV_cat {s t : List UInt8} : binV .add (.str s) (.str t) = if s.length + t.length ≤ 9223372036854775807 then some (.str (s ++ t)) else none := @_root_.id (_ = _) rfl
theorem binV_seql {s t : List UInt8} : binV .eql (.str s) (.str t) = some (.bool (s == t)) := @_root_.id (_ = _) rfl
theorem binV_sneq {s t : List UInt8} : binV .neq (.str s) (.str t) = some (.bool (s != t)) := @_root_.id (_ = _) rfl
theorem binV_slss {s t : List UInt8} : binV .lss (.str s) (.str t) = some (.bool (Op.bytesLess s t)) := @_root_.id (_ = _) rfl
theorem binV_sleq {s t : List UInt8} : binV .leq (.str s) (.str t) = some (.bool (Op.bytesLess s t || s == t)) := @_root_.id (_ = _) rfl
theorem binV_sgtr {s t : List UInt8} : binV .gtr (.str s) (.str t) = some (.bool (!(Op.bytesLess s t || s == t))) := @_root_.id (_ = _) rfl
theorem binV_sgeq {s t : List UInt8} : binV .geq (.str s) (.str t) = some (.bool (!Op.bytesLess s t)) := @_root_.id (_ = _) rfl
theorem pickV_t {a b : V} : pickV (.bool true) a b = some a := @_root_.id (_ = _) rfl
theorem pickV_f {a b : V} : pickV (.bool false) a b = some b := @_root_.id (_ = _) rfl
theorem pickV_b {t x y : Bool} : pickV (.bool t) (.bool x) (.bool y) = some (.bool (if t then x else y)) := by cases t <;> rfl
theorem nilcV_ptr {id off : Nat} : nilcV (.ptr id off) = some (.ptr id off) := @_root_.id (_ = _) rfl
theorem nilcV_ep {x : V} {off : Nat} : nilcV (.ep x off) = some (.ep x off) := @_root_.id (_ = _) rfl
theorem nilcV_fn {f : FuncId} {a b : List V} : nilcV (.fn (.func f) a b) = some (.fn (.func f) a b) := @_root_.id (_ = _) rfl
theorem fadrV_ptr {st : St} {o id off : Nat} : fadrV st o (.ptr id off) = some (.ptr id (off + o)) := @_root_.id (_ = _) rfl
theorem fadrV_ep {st : St} {o off : Nat} {x : V} : fadrV st o (.ep x off) = some (.ep x (off + o)) := @_root_.id (_ = _) rfl
theorem fadrV_op {st : St} {o id n i es off : Nat} : fadrV st o (.op id n i es off) = if aliveB st id n i then some (.op id n i es (off + o)) else none := @_root_.id (_ = _) rfl
def loadM (n : Option Nat) (off : Nat) : Option (List V) → Option V
 | some cs => rd n cs off
 | none => none
theorem loadV_ptr {st : St} {n : Option Nat} {id off : Nat} : loadV st n (.ptr id off) = loadM n off (look st.mem id) := @_root_.id (_ = _) rfl
theorem loadV_ep {st : St} {n : Option Nat} {x : V} {off : Nat} : loadV st n (.ep x off) = rd n x.cells off := @_root_.id (_ = _) rfl
theorem loadM_some {n : Option Nat} {off : Nat} {cs : List V} : loadM n off (some cs) = rd n cs off := @_root_.id (_ = _) rfl
theorem rd_none {cs : List V} {off : Nat} : rd none cs off = cs[off]? := @_root_.id (_ = _) rfl
theorem rd_some {n : Nat} {cs : List V} {off : Nat} : rd (some n) cs off = if off + n ≤ cs.length then some (.agg ((cs.drop off).take n)) else none := @_root_.id (_ = _) rfl
theorem unV_not {b : Bool} : unV .not (.bool b) = some (.bool (!b)) := @_root_.id (_ = _) rfl
theorem unV_neg {k : IntKind} {n : Int} : unV .neg (.int k n) = some (.int k (k.wrap (0 - n))) := @_root_.id (_ = _) rfl
theorem callVC_func {P : Program} {k : FuncId} {a b args : List V} {st : St} {R : VRes → St → Prop} : callVC P (.fn (.func k) a b) args st R = VCalls P k (a ++ args ++ b) st R := @_root_.id (_ = _) rfl
theorem lensV_str {s : List UInt8} : lensV (.str s) = some (.int .i64 s.length) := @_root_.id (_ = _) rfl
theorem eqbV_b {ne x y : Bool} : eqbV ne (.bool x) (.bool y) = some (.bool (if ne then x != y else x == y)) := @_root_.id (_ = _) rfl
theorem fldV_agg {n : Option Nat} {off : Nat} {cs : List V} : fldV n off (.agg cs) = rd n cs off := @_root_.id (_ = _) rfl
theorem extV_tup {i : Nat} {vs : List V} : extV i (.tup vs) = vs[i]? := @_root_.id (_ = _) rfl
theorem cviV_int {k k2 : IntKind} {n : Int} : cviV k (.int k2 n) = some (.int k (k.wrap n)) := @_root_.id (_ = _) rfl
theorem cvisV_int {k : IntKind} {n : Int} : cvisV (.int k n) = some (.str (Utf8.encode n).data.toList) := @_root_.id (_ = _) rfl
theorem cvssV_str {s : List UInt8} : cvssV (.str s) = some (.str s) := @_root_.id (_ = _) rfl
theorem natV_cast {k : IntKind} {n : Nat} : natV (.int k (n : Int)) = some n := by simp [natV]
theorem natV_zero {k : IntKind} : natV (.int k 0) = some 0 := @_root_.id (_ = _) rfl
theorem natV_one {k : IntKind} : natV (.int k 1) = some 1 := @_root_.id (_ = _) rfl
def ichrS (s : List UInt8) : Option Nat → Option V
 | some j => (s[j]?).map fun b => .int .u8 b.toNat
 | none => none
theorem ichrV_str {s : List UInt8} {i : V} : ichrV (.str s) i = ichrS s (natV i) := by unfold ichrV ichrS; cases natV i <;> rfl
theorem ichrS_some {s : List UInt8} {j : Nat} : ichrS s (some j) = (s[j]?).map fun b => .int .u8 b.toNat := @_root_.id (_ = _) rfl
section
variable {P : Program}
theorem afterE_map {α : Type} {d : Option Nat} {r : List Ins} {env : Env} {st : St} {Q : Post} {o : Option α} {f : α → V} {b : α} (h : o = some b) (k : vcOps P r (setD env d (f b)) st Q) : afterE P d r Q env st (o.map f) := by subst h; exact k
end
theorem finAt {res : List Res} {n0 : Nat} {st st' : St} {env : Env} {vs : List V} {r : V} (hw : st.Wf) (hn : n0 ≤ st.nx) (he : st = st') (h1 : resV env st res = some vs) (h2 : r = resOne vs) (hb : r.bd st.nx = true) : finQ res n0 (fun x s => x = .ret r ∧ s = st') .normal env st ∧ finQ res n0 (fun x s => x = .ret r ∧ s = st') .ret env st := by
 subst he
 exact ⟨⟨vs, h1, r, st, .inl h2, hb, Weak.refl hw, hn, rfl, rfl⟩, ⟨vs, h1, r, st, .inl h2, hb, Weak.refl hw, hn, rfl, rfl⟩⟩
def St.put (st : St) (id : Nat) (cs : List V) : St := ⟨st.nx, updM st.mem id cs, st.arr, st.x⟩
theorem put_mem {st : St} {id : Nat} {cs : List V} : (st.put id cs).mem = updM st.mem id cs := @_root_.id (_ = _) rfl
theorem updM_updM {id : Nat} {a b : List V} : ∀ {l : List (Nat × List V)}, updM (updM l id a) id b = updM l id b
 | [] => rfl
 | (j, c) :: r => by
  simp only [updM]
  by_cases h : j = id
  ·simp [h, updM]
  ·simp [h, updM, updM_updM]
theorem updM_self {id : Nat} {a : List V} : ∀ {l : List (Nat × List V)}, look l id = some a → updM l id a = l
 | [], h => rfl
 | (j, c) :: r, h => by
  simp only [look] at h
  simp only [updM]
  by_cases e : j = id
  ·rw [if_pos e] at h ⊢; cases h; rfl
  ·rw [if_neg e] at h ⊢; rw [updM_self h]
theorem put_self {st : St} {id : Nat} {a : List V} (h : look st.mem id = some a) : st.put id a = st := by simp only [St.put, updM_self h]
theorem put_eq {st : St} {id : Nat} {cs : List V} : st.put id cs = ⟨st.nx, updM st.mem id cs, st.arr, st.x⟩ := @_root_.id (_ = _) rfl
theorem updM_cons {i j : Nat} {c cs : List V} {r : List (Nat × List V)} : updM ((j, c) :: r) i cs = if j = i then (j, cs) :: r else (j, c) :: updM r i cs := @_root_.id (_ = _) rfl
theorem look_upd {l : List (Nat × List V)} {id : Nat} {a c : List V} (h : look l id = some c) : look (updM l id a) id = some a := by
 rw [look_updM, if_pos rfl, h]; rfl
theorem Sub.put {st : St} {id : Nat} {a b : List V} (hw : st.Wf) : Sub st.nx (st.put id a).mem (st.put id a).mem := Sub.refl fun i x h => by
 rw [put_mem, look_updM] at h
 split at h
 ·rename_i e; subst e
  cases hl : look st.mem i with
  | none => rw [hl] at h; cases h
  | some c => exact (hw.mem _ _ hl).1
 ·exact (hw.mem _ _ h).1
theorem St.Wf.put {st : St} (h : st.Wf) {id : Nat} {cs : List V} (hb : V.bdL st.nx cs = true) : (st.put id cs).Wf where
 x := h.x
 t := h.t
 mem i c hi := by
  rw [put_mem, look_updM] at hi
  split at hi
  ·rename_i e; subst e
   cases hl : look st.mem i with
   | none => rw [hl] at hi; cases hi
   | some c0 => rw [hl] at hi; cases hi; exact ⟨(h.mem _ _ hl).1, hb⟩
  ·exact h.mem i c hi
 arr := h.arr
 disj i c ar hi ha := by
  rw [put_mem, look_updM] at hi
  split at hi
  ·rename_i e; subst e
   cases hl : look st.mem i with
   | none => rw [hl] at hi; cases hi
   | some c0 => exact h.disj _ _ _ hl ha
  ·exact h.disj i c ar hi ha
theorem natV_add {k : IntKind} {a b : Nat} : natV (.int k ((a : Int) + (b : Int))) = some (a + b) := by rw [← Int.natCast_add]; exact natV_cast
theorem natV_add1 {k : IntKind} {a : Nat} : natV (.int k ((a : Int) + 1)) = some (a + 1) := natV_add (b := 1)
attribute [push_cast] nilR_eq stepK_nilk nilK_nils nilK_sl nilK_osl nilA_some put_eq updM_updM updM_cons List.length_cons List.length_nil natV_add natV_add1 Nat.zero_add Nat.add_zero condK_true condK_false vcOps_nil vcOps_cons stepK_false afterK_some contK_ret contK_pan panK_iface vcQ_nil vcQ_cons stepQ_false afterQ_some contQ_v vcV_nil vcV_cons stepV_false afterV_some contV_v argEnv Option.map_some Option.map_none seqT_normal seqT_exit seqT_ret seqT_pan seqPost_normal seqPost_exit seqPost_ret seqPost_pan blockPost_normal blockPost_ret blockPost_pan blockPost_exit beq_true beq_false Bool.not_true Bool.not_false List.map_cons List.map_nil List.nil_append List.append_nil List.cons_append List.take List.drop List.reverse_cons List.reverse_nil if_true if_false Bool.false_eq_true upon_some Option.getD_some List.getElem?_cons_zero List.getElem?_cons_succ afterE_some stepK_mv stepQ_mv stepV_mv stepK_pick stepQ_pick stepV_pick stepK_build stepQ_build stepV_build stepK_load stepQ_load stepV_load stepK_nilc stepQ_nilc stepV_nilc stepK_bin stepQ_bin stepV_bin stepK_eqb stepQ_eqb stepV_eqb stepK_eqs stepQ_eqs stepV_eqs stepK_un stepQ_un stepV_un stepK_fadr stepQ_fadr stepV_fadr stepK_fld stepQ_fld stepV_fld stepK_iadr stepQ_iadr stepV_iadr stepK_iadra stepQ_iadra stepV_iadra stepK_ichr stepQ_ichr stepV_ichr stepK_slices stepQ_slices stepV_slices stepK_slice stepQ_slice stepV_slice stepK_ext stepQ_ext stepV_ext stepK_lens stepQ_lens stepV_lens stepK_len stepQ_len stepV_len stepK_mkfn stepQ_mkfn stepV_mkfn stepK_mkif stepQ_mkif stepV_mkif stepK_cvi stepQ_cvi stepV_cvi stepK_cvis stepQ_cvis stepV_cvis stepK_cvss stepQ_cvss stepV_cvss stepK_cvbs stepQ_cvbs stepV_cvbs stepK_call stepQ_call stepV_call stepK_panic stepK_alloc stepK_box stepK_store stepK_append stepK_cvsb stepK_bslice stepK_mkslice storeG_some tailK_eq get_t get_c setD_some setD_none look_nil look_cons wantV_none wantV_some wantB_t wantB_f wantB_tup binV_add binV_sub binV_mul binV_and binV_or binV_xor binV_andNot binV_eql binV_neq binV_lss binV_leq binV_gtr binV_geq binV_quo binV_rem binV_shl binV_shr binV_cat binV_seql binV_sneq binV_slss binV_sleq binV_sgtr binV_sgeq pickV_t pickV_f pickV_b nilcV_ptr nilcV_ep nilcV_fn fadrV_ptr fadrV_ep fadrV_op loadV_ptr loadV_ep loadM_some rd_none rd_some unV_not unV_neg callVC_func lensV_str eqbV_b fldV_agg extV_tup cviV_int cvisV_int cvssV_str natV_cast natV_zero natV_one ichrV_str ichrS_some
end Go.Sha
