/- Code: what is asked of it over shadow values. -/
import Derived.Test.YtnondemehfkalaaGreatDoorSShaQ
set_option linter.unusedSimpArgs false
set_option linter.unusedVariables false
namespace Go.Sha
section
variable {P : Program} {N : Fr}
def seqPost (K : Env → St → Prop) (Q : Post) : Post
 | .normal, env, st => K env st
 | x, env, st => Q x env st
def blockPost (id : Nat) (Q : Post) : Post
 | .exit id', env, st => if id' = id then Q .normal env st else Q (.exit id') env st
 | x, env, st => Q x env st
theorem W_skip {env : Env} {st : St} {Q : Post} (h : Q .normal env st) : W P N .skip env st Q :=
 fun w A a hs he hN hd => wp_skip ⟨A, env, st, h, hs, he, hN, hd, Ext.refl w A⟩
theorem W_exit {id : Nat} {env : Env} {st : St} {Q : Post} (h : Q (.exit id) env st) : W P N (.exit id) env st Q :=
 fun w A a hs he hN hd => wp_exit ⟨A, env, st, h, hs, he, hN, hd, Ext.refl w A⟩
theorem W_ret {env : Env} {st : St} {Q : Post} (h : Q .ret env st) : W P N .ret env st Q :=
 fun w A a hs he hN hd => wp_ret ⟨A, env, st, h, hs, he, hN, hd, Ext.refl w A⟩
theorem W_seq {x y : Code} {env : Env} {st : St} {Q : Post} (h : W P N x env st (seqPost (fun e s => W P N y e s Q) Q)) : W P N (.seq x y) env st Q := by
 intro w A a hs he hN hd
 refine wp_seq (Code.wp_mono (fun e a' w' hq => ?_) (h w A a hs he hN hd))
 cases e with
 | normal =>
  obtain ⟨A', env', st', h1, h2, h3, h4, h5, h6⟩ := hq
  exact Code.wp_mono (lift_mono h6 (fun _ _ _ h => h)) (h1 w' A' a' h2 h3 h4 h5)
 | exit id => exact hq
 | goto l => exact hq
 | ret => exact hq
 | panic ch => exact hq
 | outgrown => exact hq
theorem W_cond {c : Operand} {x y : Code} {o : Opd} (ho : opdOf c = some o) {env : Env} {st : St} {Q : Post} {t : Bool} (hc : o.get env = .bool t) (h1 : t = true → W P N x env st Q) (h2 : t = false → W P N y env st Q) : W P N (.cond c x y) env st Q := by
 intro w A a hs he hN hd
 have hr := rep_get (w := w) (A := A) he ho
 rw [hc] at hr
 exact wp_cond_split hr.bool_inv (fun ht => h1 ht w A a hs he hN hd) (fun ht => h2 ht w A a hs he hN hd)
theorem W_block {id : Nat} {x : Code} {env : Env} {st : St} {Q : Post} (h : W P N x env st (blockPost id Q)) : W P N (.block id x) env st Q := by
 intro w A a hs he hN hd
 refine wp_block (Code.wp_mono (fun e a' w' hq => ?_) (h w A a hs he hN hd))
 cases e with
 | normal => exact hq
 | exit id' =>
  simp only [Exit.inBlock]
  obtain ⟨A', env', st', h1, h2, h3, h4, h5, h6⟩ := hq
  simp only [blockPost] at h1
  split
  ·rename_i e; rw [if_pos e] at h1; exact ⟨A', env', st', h1, h2, h3, h4, h5, h6⟩
  ·rename_i e; rw [if_neg e] at h1; exact ⟨A', env', st', h1, h2, h3, h4, h5, h6⟩
 | goto l => exact hq
 | ret => exact hq
 | panic ch => exact hq
 | outgrown => exact hq
theorem exists_least (p : Nat → Prop) (h : ∃ n, p n) : ∃ n, p n ∧ ∀ m, p m → n ≤ m := by
 obtain ⟨n, hn⟩ := h
 induction n using Nat.strongRecOn with
 | _ n ih =>
  by_cases h' : ∃ m, m < n ∧ p m
  ·obtain ⟨m, h1, h2⟩ := h'; exact ih m h1 h2
  ·exact ⟨n, hn, fun m hm => by rcases Nat.lt_or_ge m n with h | h; (exact absurd ⟨m, h, hm⟩ h'); exact h⟩
def Again (nx : Nat) (I : Nat → Env → St → Prop) (n : Nat) (env : Env) (st : St) : Prop := ∃ m env' st', m < n ∧ I m env' st' ∧ WeakEnv nx env env' ∧ Weak nx st st'
theorem W_loop {x : Code} {env : Env} {st : St} {Q : Post} (I : Nat → Env → St → Prop) (nx : Nat) (hnx : st.nx ≤ nx) (hI : ∀ n e s, I n e s → s.nx = nx) (h0 : ∃ n env' st', I n env' st' ∧ WeakEnv nx env env' ∧ Weak nx st st')
  (round : ∀ n e s, I n e s → W P N x e s (seqPost (Again nx I n) Q)) : W P N (.loop x) env st Q := by
 intro w A a hs he hN hd
 let Inv (n : Nat) (a' : Act) (w' : World) : Prop := ∃ A' e s, I n e s ∧ Sim w' A' s ∧ EnvSim w' A' a' e ∧ a'.tmps.size = N.n ∧ a'.defers = N.D ∧ Ext w A w' A'
 have hown0 : ∀ b id, A.own b = some id → id < A.nx := fun b id h => (hs.ownlt b id h).2
 have μspec : ∀ (a' : Act) (w' : World), (∃ n, Inv n a' w') → ∃ n, Inv n a' w' ∧ ∀ m, Inv m a' w' → n ≤ m := fun a' w' h => exists_least _ h
 let μ (a' : Act) (w' : World) : Nat := open Classical in if h : ∃ n, Inv n a' w' then Classical.choose (μspec a' w' h) else 0
 have μmin : ∀ a' w' n, Inv n a' w' → Inv (μ a' w') a' w' ∧ μ a' w' ≤ n := by
  intro a' w' n hn
  have hex : ∃ n, Inv n a' w' := ⟨n, hn⟩
  have hμ : μ a' w' = Classical.choose (μspec a' w' hex) := by simp only [μ]; rw [dif_pos hex]
  obtain ⟨h1, h2⟩ := Classical.choose_spec (μspec a' w' hex)
  rw [hμ]
  exact ⟨h1, h2 n hn⟩
 refine wp_loop (fun a' w' => ∃ n, Inv n a' w') μ ?_ ?_
 ·obtain ⟨n, env', st', h1, h2, h3⟩ := h0
  exact ⟨n, A.cut nx, env', st', h1, hs.cut h3, he.cut h2, hN, hd, (Ext.refl w A).cut hown0 (by rw [← hs.nx]; exact hnx)⟩
 ·rintro a' w' ⟨n, hn⟩
  obtain ⟨⟨A', e, s, q1, q2, q3, q4, q5, q6⟩, _⟩ := μmin a' w' n hn
  refine Code.wp_mono (fun ex a2 w2 hq => ?_) (round _ e s q1 w' A' a' q2 q3 q4 q5)
  cases ex with
  | normal =>
   obtain ⟨A2, e2, s2, ⟨m, e3, s3, r1, r2, r3, r4⟩, r5, r6, r7, r8, r9⟩ := hq
   have hinv : Inv m a2 w2 := ⟨A2.cut nx, e3, s3, r2, r5.cut r4, r6.cut r3, r7, r8, (q6.trans r9).cut hown0 (by rw [← hs.nx]; exact hnx)⟩
   have := μmin a2 w2 m hinv
   exact ⟨⟨m, hinv⟩, by omega⟩
  | exit id => exact lift_mono q6 (fun _ _ _ h => h) (.exit id) a2 w2 hq
  | goto l => exact hq.elim
  | ret => exact lift_mono q6 (fun _ _ _ h => h) .ret a2 w2 hq
  | panic ch => exact lift_mono q6 (fun _ _ _ h => h) (.panic ch) a2 w2 hq
  | outgrown => exact hq.elim
theorem W_mono {x : Code} {env : Env} {st : St} {Q Q' : Post} (h : W P N x env st Q) (hq : ∀ x e s, Q x e s → Q' x e s) : W P N x env st Q' :=
 fun w A a hs he hN hd => Code.wp_mono (lift_mono (Ext.refl w A) hq) (h w A a hs he hN hd)
end
inductive Nd where
 | skip
 | reg (l : List Ins)
 | dreg (m : Nat) (l : List Ins)
 | sreg (m : Nat) (l : List Ins)
 | greg (fs : List (List Bool)) (l : List Ins)
 | seq (a b : Nat)
 | cond (c : Opd) (a b : Nat)
 | block (id a : Nat)
 | loop (a : Nat)
 | exit (id : Nat)
 | ret
 | bad
 deriving Inhabited
def cpl (P : Program) (N : Nat) : Code → Nat → Option (List Nd)
 | .skip, _ => some [.skip]
 | .region _ ops d, _ => match compAll P N ops ops.toList with
  | some l => if guardsOk N l = true then
    if d then if regOk (l.takeWhile (·.op.quiet)).length ops.toList l = true then some [.dreg (l.takeWhile (·.op.quiet)).length l]
     else if regOkS (l.takeWhile (·.op.quiet)).length ops.toList l = true then some [.sreg (l.takeWhile (·.op.quiet)).length l]
     else if regOkG ops.toList l = true then some [.greg (masks ops.toList l) l] else none
    else some [.reg l]
   else none
  | none => none
 | .seq a b, i => match cpl P N a (i + 1) with
  | some la => match cpl P N b (i + 1 + la.length) with
   | some lb => some (.seq (i + 1) (i + 1 + la.length) :: (la ++ lb))
   | none => none
  | none => none
 | .cond c a b, i => match opdOf c, cpl P N a (i + 1) with
  | some o, some la => match cpl P N b (i + 1 + la.length) with
   | some lb => some (.cond o (i + 1) (i + 1 + la.length) :: (la ++ lb))
   | none => none
  | _, _ => none
 | .block id a, i => (cpl P N a (i + 1)).map fun la => .block id (i + 1) :: la
 | .loop a, i => (cpl P N a (i + 1)).map fun la => .loop (i + 1) :: la
 | .exit id, _ => some [.exit id]
 | .ret, _ => some [.ret]
 | .refuse _, _ => some [.bad]
 | _, _ => none
section
variable {P : Program} {N : Fr}
def At (P : Program) (N : Fr) (T : List Nd) (i : Nat) (c : Code) : Prop := ∃ ns, cpl P N.n c i = some ns ∧ ∀ (k : Nat) (nd : Nd), ns[k]? = some nd → T[i + k]? = some nd
def WT (P : Program) (N : Fr) (T : List Nd) (i : Nat) (env : Env) (st : St) (Q : Post) : Prop :=
 P.follows .mixedOrders = true → ∀ c, At P N T i c → W P N c env st Q
def seqT (P : Program) (N : Fr) (T : List Nd) (i : Nat) (Q : Post) : Post := seqPost (fun e s => WT P N T i e s Q) Q
theorem At.head {T : List Nd} {i : Nat} {c : Code} (h : At P N T i c) {nd : Nd} (ht : T[i]? = some nd) : ∃ ns, cpl P N.n c i = some (nd :: ns) ∧ ∀ (k : Nat) (x : Nd), ns[k]? = some x → T[i + 1 + k]? = some x := by
 obtain ⟨ns, h1, h2⟩ := h
 cases ns with
 | nil =>
  exfalso
  cases c <;> simp only [cpl] at h1 <;> (repeat' split at h1) <;> first | (cases h1; done) | (simp at h1; done) | (obtain ⟨y, hy, e⟩ := Option.map_eq_some_iff.1 h1; cases e; done)
 | cons x ns =>
  have := h2 0 x rfl
  simp only [Nat.add_zero] at this
  rw [ht] at this
  cases this
  exact ⟨ns, h1, fun k y hy => by have := h2 (k + 1) y (by simpa using hy); rw [show i + 1 + k = i + (k + 1) by omega]; exact this⟩
theorem WT_skip {T : List Nd} {i : Nat} {env : Env} {st : St} {Q : Post} (h : T[i]? = some .skip) (k : Q .normal env st) : WT P N T i env st Q := by
 intro hm c hc
 obtain ⟨ns, h1, h2⟩ := hc.head h
 cases c <;> simp only [cpl] at h1 <;> (repeat' split at h1) <;> first | (cases h1; done) | (obtain ⟨y, hy, e⟩ := Option.map_eq_some_iff.1 h1; cases e; done) | skip
 exact W_skip k
theorem WT_exit {T : List Nd} {i : Nat} {id : Nat} {env : Env} {st : St} {Q : Post} (h : T[i]? = some (.exit id)) (k : Q (.exit id) env st) : WT P N T i env st Q := by
 intro hm c hc
 obtain ⟨ns, h1, h2⟩ := hc.head h
 cases c <;> simp only [cpl] at h1 <;> (repeat' split at h1) <;> first | (cases h1; done) | (obtain ⟨y, hy, e⟩ := Option.map_eq_some_iff.1 h1; cases e; done) | skip
 cases h1
 exact W_exit k
theorem WT_ret {T : List Nd} {i : Nat} {env : Env} {st : St} {Q : Post} (h : T[i]? = some .ret) (k : Q .ret env st) : WT P N T i env st Q := by
 intro hm c hc
 obtain ⟨ns, h1, h2⟩ := hc.head h
 cases c <;> simp only [cpl] at h1 <;> (repeat' split at h1) <;> first | (cases h1; done) | (obtain ⟨y, hy, e⟩ := Option.map_eq_some_iff.1 h1; cases e; done) | skip
 exact W_ret k
theorem WT_reg {T : List Nd} {i : Nat} {l : List Ins} {env : Env} {st : St} {Q : Post} (h : T[i]? = some (.reg l)) (k : vcOps P l env st Q) : WT P N T i env st Q := by
 intro hm c hc
 obtain ⟨ns, h1, h2⟩ := hc.head h
 cases c with
 | region id ops d =>
  simp only [cpl] at h1
  split at h1
  ·rename_i l' hl
   split at h1
   ·rename_i hg
    cases d with
    | true => simp only [if_true] at h1; (repeat' split at h1) <;> cases h1
    | false => simp only [Bool.false_eq_true, if_false] at h1; cases h1; exact W_region hl hg k
   ·cases h1
  ·cases h1
 | _ => simp only [cpl] at h1 <;> (repeat' split at h1) <;> first | (cases h1; done) | (obtain ⟨y, hy, e⟩ := Option.map_eq_some_iff.1 h1; cases e; done)
def tailK (P : Program) (l : List Ins) (st : St) (Q : Post) : Env → Prop := fun env => vcOps P l env st Q
theorem WT_dreg {T : List Nd} {i m : Nat} {l : List Ins} {env : Env} {st : St} {Q : Post} (h : T[i]? = some (.dreg m l)) (k : vcQ P (l.take m) env st (tailK P (l.drop m) st Q)) : WT P N T i env st Q := by
 intro hm c hc
 obtain ⟨ns, h1, h2⟩ := hc.head h
 cases c with
 | region id ops d =>
  simp only [cpl] at h1
  split at h1
  ·rename_i l' hl
   split at h1
   ·rename_i hg
    cases d with
    | false => simp only [Bool.false_eq_true, if_false] at h1; cases h1
    | true =>
     simp only [if_true] at h1
     split at h1
     ·rename_i hr; cases h1; exact W_dreg hm hl hg hr k
     ·split at h1
      ·cases h1
      ·split at h1 <;> cases h1
   ·cases h1
  ·cases h1
 | _ => simp only [cpl] at h1 <;> (repeat' split at h1) <;> first | (cases h1; done) | (obtain ⟨y, hy, e⟩ := Option.map_eq_some_iff.1 h1; cases e; done)
theorem WT_sreg {T : List Nd} {i m : Nat} {l : List Ins} {env : Env} {st : St} {Q : Post} (h : T[i]? = some (.sreg m l)) (k : vcV P (l.take m) env st [] (storeK P m l env st Q)) : WT P N T i env st Q := by
 intro hm c hc
 obtain ⟨ns, h1, h2⟩ := hc.head h
 cases c with
 | region id ops d =>
  simp only [cpl] at h1
  split at h1
  ·rename_i l' hl
   split at h1
   ·rename_i hg
    cases d with
    | false => simp only [Bool.false_eq_true, if_false] at h1; cases h1
    | true =>
     simp only [if_true] at h1
     split at h1
     ·cases h1
     ·split at h1
      ·rename_i hr; cases h1; exact W_sreg hm hl hg hr k
      ·split at h1 <;> cases h1
   ·cases h1
  ·cases h1
 | _ => simp only [cpl] at h1 <;> (repeat' split at h1) <;> first | (cases h1; done) | (obtain ⟨y, hy, e⟩ := Option.map_eq_some_iff.1 h1; cases e; done)
theorem WT_greg {T : List Nd} {i : Nat} {fs : List (List Bool)} {l : List Ins} {env : Env} {st : St} {Q : Post} (h : T[i]? = some (.greg fs l)) (k : vcG P (Q .normal) l fs env st [] []) : WT P N T i env st Q := by
 intro hm c hc
 obtain ⟨ns, h1, h2⟩ := hc.head h
 cases c with
 | region id ops d =>
  simp only [cpl] at h1
  split at h1
  ·rename_i l' hl
   split at h1
   ·rename_i hg
    cases d with
    | false => simp only [Bool.false_eq_true, if_false] at h1; cases h1
    | true =>
     simp only [if_true] at h1
     split at h1
     ·cases h1
     ·split at h1
      ·cases h1
      ·split at h1
       ·rename_i hr; cases h1; exact W_greg hm hl hg hr k
       ·cases h1
   ·cases h1
  ·cases h1
 | _ => simp only [cpl] at h1 <;> (repeat' split at h1) <;> first | (cases h1; done) | (obtain ⟨y, hy, e⟩ := Option.map_eq_some_iff.1 h1; cases e; done)
theorem WT_seq {T : List Nd} {i x y : Nat} {env : Env} {st : St} {Q : Post} (h : T[i]? = some (.seq x y)) (k : WT P N T x env st (seqT P N T y Q)) : WT P N T i env st Q := by
 intro hm c hc
 obtain ⟨ns, h1, h2⟩ := hc.head h
 cases c with
 | seq a b =>
  simp only [cpl] at h1
  split at h1
  ·rename_i la ha
   split at h1
   ·rename_i lb hb
    cases h1
    have A1 : At P N T (i + 1) a := ⟨la, ha, fun j nd hj => h2 j nd (by rw [List.getElem?_append_left (by have := (List.getElem?_eq_some_iff.1 hj).1; omega)]; exact hj)⟩
    have A2 : At P N T (i + 1 + la.length) b := ⟨lb, hb, fun j nd hj => by
     have := h2 (la.length + j) nd (by rw [List.getElem?_append_right (by omega)]; simpa using hj)
     rw [show i + 1 + la.length + j = i + 1 + (la.length + j) by omega]; exact this⟩
    refine W_seq (W_mono (k hm a A1) (fun e e' s' hq => ?_))
    cases e <;> first | exact hq hm b A2 | exact hq
   ·cases h1
  ·cases h1
 | region id ops d =>
  simp only [cpl] at h1
  (repeat' split at h1) <;> cases h1
 | _ => simp only [cpl] at h1 <;> (repeat' split at h1) <;> first | (cases h1; done) | (obtain ⟨y, hy, e⟩ := Option.map_eq_some_iff.1 h1; cases e; done)
theorem WT_cond {T : List Nd} {i x y : Nat} {o : Opd} {env : Env} {st : St} {Q : Post} (h : T[i]? = some (.cond o x y)) {t : Bool} (ht : o.get env = .bool t) (k1 : t = true → WT P N T x env st Q) (k2 : t = false → WT P N T y env st Q) : WT P N T i env st Q := by
 intro hm c hc
 obtain ⟨ns, h1, h2⟩ := hc.head h
 cases c with
 | cond c a b =>
  simp only [cpl] at h1
  split at h1
  ·rename_i o' la ho ha
   split at h1
   ·rename_i lb hb
    cases h1
    have A1 : At P N T (i + 1) a := ⟨la, ha, fun j nd hj => h2 j nd (by rw [List.getElem?_append_left (by have := (List.getElem?_eq_some_iff.1 hj).1; omega)]; exact hj)⟩
    have A2 : At P N T (i + 1 + la.length) b := ⟨lb, hb, fun j nd hj => by
     have := h2 (la.length + j) nd (by rw [List.getElem?_append_right (by omega)]; simpa using hj)
     rw [show i + 1 + la.length + j = i + 1 + (la.length + j) by omega]; exact this⟩
    exact W_cond ho ht (fun e => k1 e hm a A1) (fun e => k2 e hm b A2)
   ·cases h1
  ·cases h1
 | region id ops d =>
  simp only [cpl] at h1
  (repeat' split at h1) <;> cases h1
 | _ => simp only [cpl] at h1 <;> (repeat' split at h1) <;> first | (cases h1; done) | (obtain ⟨y, hy, e⟩ := Option.map_eq_some_iff.1 h1; cases e; done)
theorem WT_block {T : List Nd} {i id x : Nat} {env : Env} {st : St} {Q : Post} (h : T[i]? = some (.block id x)) (k : WT P N T x env st (blockPost id Q)) : WT P N T i env st Q := by
 intro hm c hc
 obtain ⟨ns, h1, h2⟩ := hc.head h
 cases c with
 | block id' a =>
  simp only [cpl] at h1
  obtain ⟨la, ha, e⟩ := Option.map_eq_some_iff.1 h1
  cases e
  exact W_block (k hm a ⟨_, ha, h2⟩)
 | region id ops d =>
  simp only [cpl] at h1
  (repeat' split at h1) <;> cases h1
 | _ => simp only [cpl] at h1 <;> (repeat' split at h1) <;> first | (cases h1; done) | (obtain ⟨y, hy, e⟩ := Option.map_eq_some_iff.1 h1; cases e; done)
theorem WT_loop {T : List Nd} {i x : Nat} {env : Env} {st : St} {Q : Post} (h : T[i]? = some (.loop x)) (I : Nat → Env → St → Prop) (nx : Nat) (hnx : st.nx ≤ nx) (hI : ∀ n e s, I n e s → s.nx = nx) (h0 : ∃ n env' st', I n env' st' ∧ WeakEnv nx env env' ∧ Weak nx st st')
  (round : ∀ n e s, I n e s → WT P N T x e s (seqPost (Again nx I n) Q)) : WT P N T i env st Q := by
 intro hm c hc
 obtain ⟨ns, h1, h2⟩ := hc.head h
 cases c with
 | loop a =>
  simp only [cpl] at h1
  obtain ⟨la, ha, e⟩ := Option.map_eq_some_iff.1 h1
  cases e
  exact W_loop I nx hnx hI h0 (fun n e s hi => round n e s hi hm a ⟨_, ha, h2⟩)
 | region id ops d =>
  simp only [cpl] at h1
  (repeat' split at h1) <;> cases h1
 | _ => simp only [cpl] at h1 <;> (repeat' split at h1) <;> first | (cases h1; done) | (obtain ⟨y, hy, e⟩ := Option.map_eq_some_iff.1 h1; cases e; done)
end
end Go.Sha
