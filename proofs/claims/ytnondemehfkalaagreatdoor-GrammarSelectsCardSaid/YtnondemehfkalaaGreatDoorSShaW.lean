/- The walk by few rules: one for the code's rows, one for cases, one for calls. -/
import Derived.Test.YtnondemehfkalaaGreatDoorSShaU
set_option linter.unusedSimpArgs false
set_option linter.unusedVariables false
namespace Go.Sha
section
variable {P : Program} {N : Fr}
def Nd.isLoop : Nd → Bool
 | .loop _ => true
 | _ => false
def ndK (P : Program) (N : Fr) (T : List Nd) (env : Env) (st : St) (Q : Post) : Nd → Prop
 | .skip => Q .normal env st
 | .reg l => vcOps P l env st Q
 | .dreg m l => vcQ P (l.take m) env st (tailK P (l.drop m) st Q)
 | .sreg m l => vcV P (l.take m) env st [] (storeK P m l env st Q)
 | .greg fs l => vcG P (Q .normal) l fs env st [] []
 | .seq x y => WT P N T x env st (seqT P N T y Q)
 | .cond o x y => condK P N T x y env st Q (o.get env)
 | .block id x => WT P N T x env st (blockPost id Q)
 | .loop _ => False
 | .exit id => Q (.exit id) env st
 | .ret => Q .ret env st
 | .bad => False
theorem ndK_skip {T : List Nd} {env : Env} {st : St} {Q : Post} : ndK P N T env st Q .skip = Q .normal env st := @_root_.id (_ = _) rfl
theorem ndK_reg {T : List Nd} {env : Env} {st : St} {Q : Post} {l : List Ins} : ndK P N T env st Q (.reg l) = vcOps P l env st Q := @_root_.id (_ = _) rfl
theorem ndK_dreg {T : List Nd} {env : Env} {st : St} {Q : Post} {m : Nat} {l : List Ins} : ndK P N T env st Q (.dreg m l) = vcQ P (l.take m) env st (tailK P (l.drop m) st Q) := @_root_.id (_ = _) rfl
theorem ndK_sreg {T : List Nd} {env : Env} {st : St} {Q : Post} {m : Nat} {l : List Ins} : ndK P N T env st Q (.sreg m l) = vcV P (l.take m) env st [] (storeK P m l env st Q) := @_root_.id (_ = _) rfl
theorem ndK_greg {T : List Nd} {env : Env} {st : St} {Q : Post} {fs : List (List Bool)} {l : List Ins} : ndK P N T env st Q (.greg fs l) = vcG P (Q .normal) l fs env st [] [] := @_root_.id (_ = _) rfl
theorem ndK_seq {T : List Nd} {env : Env} {st : St} {Q : Post} {x y : Nat} : ndK P N T env st Q (.seq x y) = WT P N T x env st (seqT P N T y Q) := @_root_.id (_ = _) rfl
theorem ndK_cond {T : List Nd} {env : Env} {st : St} {Q : Post} {o : Opd} {x y : Nat} : ndK P N T env st Q (.cond o x y) = condK P N T x y env st Q (o.get env) := @_root_.id (_ = _) rfl
theorem ndK_block {T : List Nd} {env : Env} {st : St} {Q : Post} {id x : Nat} : ndK P N T env st Q (.block id x) = WT P N T x env st (blockPost id Q) := @_root_.id (_ = _) rfl
theorem ndK_exit {T : List Nd} {env : Env} {st : St} {Q : Post} {id : Nat} : ndK P N T env st Q (.exit id) = Q (.exit id) env st := @_root_.id (_ = _) rfl
theorem ndK_ret {T : List Nd} {env : Env} {st : St} {Q : Post} : ndK P N T env st Q .ret = Q .ret env st := @_root_.id (_ = _) rfl
theorem quiet_act {g : ActK} {xs : List Opd} : SOp.quiet (.act g xs) = false := @_root_.id (_ = _) rfl
theorem quiet_nilk {ne : Bool} {x : Opd} : SOp.quiet (.nilk ne x) = false := @_root_.id (_ = _) rfl
theorem quiet_gen {g : Gen} {xs : List Opd} : SOp.quiet (.gen g xs) = true := @_root_.id (_ = _) rfl
theorem quiet_mv {x : Opd} : SOp.quiet (.mv x) = true := @_root_.id (_ = _) rfl
theorem quiet_pick {c a b : Opd} : SOp.quiet (.pick c a b) = true := @_root_.id (_ = _) rfl
theorem quiet_alloc {T : TypeId} {zero : List V} : SOp.quiet (.alloc T zero) = false := @_root_.id (_ = _) rfl
theorem quiet_box {T : TypeId} {x : Opd} : SOp.quiet (.box T x) = false := @_root_.id (_ = _) rfl
theorem quiet_build {zero : List V} {parts : List (Nat × Nat × Opd)} : SOp.quiet (.build zero parts) = true := @_root_.id (_ = _) rfl
theorem quiet_load {n : Option Nat} {x : Opd} : SOp.quiet (.load n x) = true := @_root_.id (_ = _) rfl
theorem quiet_store {n : Nat} {a x : Opd} : SOp.quiet (.store n a x) = false := @_root_.id (_ = _) rfl
theorem quiet_nilc {x : Opd} : SOp.quiet (.nilc x) = true := @_root_.id (_ = _) rfl
theorem quiet_bin {op : BinOp} {x y : Opd} : SOp.quiet (.bin op x y) = true := @_root_.id (_ = _) rfl
theorem quiet_eqb {ne : Bool} {x y : Opd} : SOp.quiet (.eqb ne x y) = true := @_root_.id (_ = _) rfl
theorem quiet_eqs {ne : Bool} {ks : List Kd} {x y : Opd} : SOp.quiet (.eqs ne ks x y) = true := @_root_.id (_ = _) rfl
theorem quiet_eqi {ne : Bool} {x y : Opd} : SOp.quiet (.eqi ne x y) = true := @_root_.id (_ = _) rfl
theorem quiet_un {op : UnOp} {x : Opd} : SOp.quiet (.un op x) = true := @_root_.id (_ = _) rfl
theorem quiet_fadr {off : Nat} {x : Opd} : SOp.quiet (.fadr off x) = true := @_root_.id (_ = _) rfl
theorem quiet_fld {n : Option Nat} {off : Nat} {x : Opd} : SOp.quiet (.fld n off x) = true := @_root_.id (_ = _) rfl
theorem quiet_iadr {es : Nat} {x i : Opd} : SOp.quiet (.iadr es x i) = true := @_root_.id (_ = _) rfl
theorem quiet_iadra {len es : Nat} {x i : Opd} : SOp.quiet (.iadra len es x i) = true := @_root_.id (_ = _) rfl
theorem quiet_ichr {x i : Opd} : SOp.quiet (.ichr x i) = true := @_root_.id (_ = _) rfl
theorem quiet_iarr {len es : Nat} {agg : Bool} {x i : Opd} : SOp.quiet (.iarr len es agg x i) = true := @_root_.id (_ = _) rfl
theorem quiet_slices {x : Opd} {lo hi : Option Opd} : SOp.quiet (.slices x lo hi) = true := @_root_.id (_ = _) rfl
theorem quiet_slice {es : Nat} {x : Opd} {lo hi mx : Option Opd} : SOp.quiet (.slice es x lo hi mx) = true := @_root_.id (_ = _) rfl
theorem quiet_ext {i : Nat} {x : Opd} : SOp.quiet (.ext i x) = true := @_root_.id (_ = _) rfl
theorem quiet_lens {x : Opd} : SOp.quiet (.lens x) = true := @_root_.id (_ = _) rfl
theorem quiet_len {x : Opd} : SOp.quiet (.len x) = true := @_root_.id (_ = _) rfl
theorem quiet_append {e es bytes : Nat} {s x : Opd} : SOp.quiet (.append e es bytes s x) = false := @_root_.id (_ = _) rfl
theorem quiet_mkfn {f : Fn} {first caps : List Opd} : SOp.quiet (.mkfn f first caps) = true := @_root_.id (_ = _) rfl
theorem quiet_mkif {t : TypeId} {x : Opd} : SOp.quiet (.mkif t x) = true := @_root_.id (_ = _) rfl
theorem quiet_cvi {k : IntKind} {x : Opd} : SOp.quiet (.cvi k x) = true := @_root_.id (_ = _) rfl
theorem quiet_cvis {x : Opd} : SOp.quiet (.cvis x) = true := @_root_.id (_ = _) rfl
theorem quiet_cvss {x : Opd} : SOp.quiet (.cvss x) = true := @_root_.id (_ = _) rfl
theorem quiet_cvsb {e : TypeId} {x : Opd} : SOp.quiet (.cvsb e x) = false := @_root_.id (_ = _) rfl
theorem quiet_cvbs {x : Opd} : SOp.quiet (.cvbs x) = true := @_root_.id (_ = _) rfl
theorem quiet_bslice {e es : Nat} {xs : List Opd} : SOp.quiet (.bslice e es xs) = false := @_root_.id (_ = _) rfl
theorem quiet_mkslice {e es bytes : Nat} {agg : Bool} {zero : List V} {l c : Opd} : SOp.quiet (.mkslice e es bytes agg zero l c) = false := @_root_.id (_ = _) rfl
theorem quiet_call {f : Opd} {args : List Opd} : SOp.quiet (.call f args) = true := @_root_.id (_ = _) rfl
theorem quiet_panic {x : Opd} : SOp.quiet (.panic x) = false := @_root_.id (_ = _) rfl
def quietG (P : Program) (Q : Env → St → Prop) (i : Ins) (r : List Ins) (m : List Bool) (fs : List (List Bool)) (env : Env) (st : St) (h : List Ran) (hs : List St) (env' : Env) : Prop := lateQ P i env (valD i.dst env') (vcG P Q r fs env' st ((i, env, valD i.dst env') :: h) hs) (hs.take m.length)
def noisyG (P : Program) (Q : Env → St → Prop) (i : Ins) (r : List Ins) (m : List Bool) (fs : List (List Bool)) (env : Env) (st : St) (h : List Ran) (hs : List St) (env' : Env) (st' : St) : Prop := reQ P st' (vcG P Q r fs env' st' ((i, env, valD i.dst env') :: h) (st :: hs)) (picks m h)
theorem vcG_nil {Q : Env → St → Prop} {fs : List (List Bool)} {env : Env} {st : St} {h : List Ran} {hs : List St} : vcG P Q [] fs env st h hs = Q env st := @_root_.id (_ = _) rfl
theorem vcG_cons {Q : Env → St → Prop} {i : Ins} {r : List Ins} {m : List Bool} {fs : List (List Bool)} {env : Env} {st : St} {h : List Ran} {hs : List St} : vcG P Q (i :: r) (m :: fs) env st h hs = fork i.op.quiet (vcQ P [i] env st (quietG P Q i r m fs env st h hs)) (vcOps P [i] env st (gPost (noisyG P Q i r m fs env st h hs))) := @_root_.id (_ = _) rfl
theorem quietG_eq {Q : Env → St → Prop} {i : Ins} {r : List Ins} {m : List Bool} {fs : List (List Bool)} {env : Env} {st : St} {h : List Ran} {hs : List St} {env' : Env} : quietG P Q i r m fs env st h hs env' = lateQ P i env (valD i.dst env') (vcG P Q r fs env' st ((i, env, valD i.dst env') :: h) hs) (hs.take m.length) := @_root_.id (_ = _) rfl
theorem noisyG_eq {Q : Env → St → Prop} {i : Ins} {r : List Ins} {m : List Bool} {fs : List (List Bool)} {env : Env} {st : St} {h : List Ran} {hs : List St} {env' : Env} {st' : St} : noisyG P Q i r m fs env st h hs env' st' = reQ P st' (vcG P Q r fs env' st' ((i, env, valD i.dst env') :: h) (st :: hs)) (picks m h) := @_root_.id (_ = _) rfl
theorem gPost_normal {K : Env → St → Prop} {env : Env} {st : St} : gPost K .normal env st = K env st := @_root_.id (_ = _) rfl
theorem reQ_nil {st : St} {K : Prop} : reQ P st K [] = K := @_root_.id (_ = _) rfl
def sameG (P : Program) (st : St) (K : Prop) (d : Option Nat) (v : V) (r : List Ran) (env' : Env) : Prop := sameD d v env' (reQ P st K r)
theorem reQ_cons {st : St} {K : Prop} {i : Ins} {env : Env} {v : V} {r : List Ran} : reQ P st K ((i, env, v) :: r) = vcQ P [i] env st (sameG P st K i.dst v r) := @_root_.id (_ = _) rfl
theorem sameG_none {st : St} {K : Prop} {v : V} {r : List Ran} {env' : Env} : sameG P st K none v r env' = reQ P st K r := @_root_.id (_ = _) rfl
theorem sameG_some {st : St} {K : Prop} {s : Nat} {v : V} {r : List Ran} {env' : Env} : sameG P st K (some s) v r env' = sameL (look env' s) v (reQ P st K r) := @_root_.id (_ = _) rfl
@[congr] theorem sameL_congr {o o' : Option V} {v : V} {K : Prop} (h : o = o') : sameL o v K = sameL o' v K := by rw [h]
theorem sameL_some {v : V} {K : Prop} : sameL (some v) v K = K := by simp [sameL]
def sameH (P : Program) (i : Ins) (env : Env) (v : V) (K : Prop) (r : List St) (env' : Env) : Prop := sameD i.dst v env' (lateQ P i env v K r)
theorem lateQ_nil {i : Ins} {env : Env} {v : V} {K : Prop} : lateQ P i env v K [] = K := @_root_.id (_ = _) rfl
theorem lateQ_cons {i : Ins} {env : Env} {v : V} {K : Prop} {s : St} {r : List St} : lateQ P i env v K (s :: r) = vcQ P [i] env s (sameH P i env v K r) := @_root_.id (_ = _) rfl
theorem sameH_none {op : SOp} {g : Option (Nat × Bool)} {env : Env} {v : V} {K : Prop} {r : List St} {env' : Env} : sameH P ⟨none, op, g⟩ env v K r env' = lateQ P ⟨none, op, g⟩ env v K r := @_root_.id (_ = _) rfl
theorem sameH_some {s : Nat} {op : SOp} {g : Option (Nat × Bool)} {env : Env} {v : V} {K : Prop} {r : List St} {env' : Env} : sameH P ⟨some s, op, g⟩ env v K r env' = sameL (look env' s) v (lateQ P ⟨some s, op, g⟩ env v K r) := @_root_.id (_ = _) rfl
theorem valD_some {s : Nat} {env : Env} : valD (some s) env = (look env s).getD .und := @_root_.id (_ = _) rfl
theorem valD_none {env : Env} : valD none env = .und := @_root_.id (_ = _) rfl
theorem forkG_true {a b : Prop} : fork true a b = a := @_root_.id (_ = _) rfl
theorem takeG_nil {α : Type} {l : List α} : l.take ([] : List Bool).length = [] := by simp
theorem takeG_cons {α : Type} {b : Bool} {bs : List Bool} {x : α} {l : List α} : (x :: l).take (b :: bs).length = x :: l.take bs.length := by simp
theorem picks_t {α : Type} {bs : List Bool} {x : α} {l : List α} : picks (true :: bs) (x :: l) = x :: picks bs l := @_root_.id (_ = _) rfl
theorem picks_f {α : Type} {bs : List Bool} {x : α} {l : List α} : picks (false :: bs) (x :: l) = picks bs l := @_root_.id (_ = _) rfl
theorem picks_n {α : Type} {l : List α} : picks [] l = [] := by cases l <;> rfl
theorem go {T : List Nd} {i : Nat} {env : Env} {st : St} {Q : Post} {nd : Nd} (h : T[i]? = some nd) (hl : nd.isLoop = false) (k : ndK P N T env st Q nd) : WT P N T i env st Q := by
 cases nd with
 | skip => exact WT_skip h k
 | reg l => exact WT_reg h k
 | dreg m l => exact WT_dreg h k
 | sreg m l => exact WT_sreg h k
 | greg fs l => exact WT_greg h k
 | seq x y => exact WT_seq h k
 | cond o x y => exact WT_if h k
 | block id x => exact WT_block h k
 | loop x => cases hl
 | exit id => exact WT_exit h k
 | ret => exact WT_ret h k
 | bad => exact k.elim
class Fk (G : Prop) (t : outParam Bool) (a b : outParam Prop) : Prop where
 by_ : (t = true → a) → (t = false → b) → G
instance i1 {T : List Nd} {x y : Nat} {env : Env} {st : St} {Q : Post} {t : Bool} : Fk (condK P N T x y env st Q (.bool t)) t (WT P N T x env st Q) (WT P N T y env st Q) := ⟨condK_split⟩
instance i2 {T : List Nd} {x y : Nat} {env : Env} {st : St} {Q : Post} {t : Bool} : Fk (condK P N T x y env st Q (.bool (!t))) t (WT P N T y env st Q) (WT P N T x env st Q) := ⟨fun a b => condK_splitn b a⟩
instance i3 {d : Option Nat} {op : SOp} {r : List Ins} {env : Env} {st : St} {Q : Post} {t : Bool} : Fk (stepK P d r Q env st op (some t)) t (stepK P d r Q env st op (some true)) (vcOps P r (setD env d (.tup [])) st Q) := ⟨stepK_split⟩
instance i4 {d : Option Nat} {op : SOp} {r : List Ins} {env : Env} {st : St} {Q : Post} {t : Bool} : Fk (stepK P d r Q env st op (some (!t))) t (vcOps P r (setD env d (.tup [])) st Q) (stepK P d r Q env st op (some true)) := ⟨fun a b => stepK_splitn b a⟩
instance i5 {d : Option Nat} {op : SOp} {r : List Ins} {env : Env} {st : St} {K : Env → Prop} {t : Bool} : Fk (stepQ P d r K env st op (some t)) t (stepQ P d r K env st op (some true)) (vcQ P r (setD env d (.tup [])) st K) := ⟨stepQ_split⟩
class Cl (G : Prop) (P : outParam Program) (f : outParam FuncId) (args : outParam (List V)) (st : outParam St) (K : outParam (V → St → Prop)) : Prop where
 by_ : ∀ {r : V} {st' : St}, VRet P f args st r st' → K r st' → G
def sameK (st : St) (K : V → Prop) (r : V) (st' : St) : Prop := st' = st ∧ K r
theorem sameK_eq {st : St} {K : V → Prop} {r : V} : sameK st K r st = K r := by simp [sameK]
instance j1 {f : FuncId} {args : List V} {st : St} {d : Option Nat} {r : List Ins} {Q : Post} {env : Env} : Cl (VCalls P f args st (contK P d r Q env)) P f args st (fun v s => contK P d r Q env (.ret v) s) := ⟨fun h k => VRet.use h k⟩
instance j2 {f : FuncId} {a b args : List V} {st : St} {K : V → Prop} : Cl (getsV P (.fn (.func f) a b) args st K) P f (a ++ args ++ b) st (sameK st K) := ⟨fun {r st'} h k => by
 obtain ⟨e, k⟩ := k
 subst e; exact ⟨r, h, k⟩⟩
attribute [push_cast] ndK_greg vcG_nil vcG_cons quietG_eq noisyG_eq gPost_normal reQ_nil reQ_cons sameG_none sameG_some sameL_some lateQ_nil lateQ_cons sameH_none sameH_some valD_some valD_none picks_t picks_f picks_n forkG_true fork_false takeG_nil takeG_cons quiet_act quiet_nilk quiet_gen quiet_mv quiet_pick quiet_alloc quiet_box quiet_build quiet_load quiet_store quiet_nilc quiet_bin quiet_eqb quiet_eqs quiet_eqi quiet_un quiet_fadr quiet_fld quiet_iadr quiet_iadra quiet_ichr quiet_iarr quiet_slices quiet_slice quiet_ext quiet_lens quiet_len quiet_append quiet_mkfn quiet_mkif quiet_cvi quiet_cvis quiet_cvss quiet_cvsb quiet_cvbs quiet_bslice quiet_mkslice quiet_call quiet_panic ndK_skip ndK_reg ndK_dreg ndK_sreg ndK_seq ndK_cond ndK_block ndK_exit ndK_ret sameK_eq
end
end Go.Sha
