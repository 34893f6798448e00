/- Further operations: their compiling, and their soundness. -/
import Derived.Test.YtajbgangpipheaaDoorShaM
import Derived.Laws.Cover3
set_option linter.unusedSimpArgs false
set_option linter.unusedVariables false
namespace Go.Sha

def isNilS : Opd → Bool
  | .c .nils => true
  | _ => false
def isNilI : Opd → Bool
  | .c .nili => true
  | _ => false

def compX (P : Program) (o : Oper) : Option SOp := match o.op with
  | .binOp op t x y _ => match opdOf x, opdOf y with
    | some u, some v => if op = .eql ∨ op = .neq then match P.underlying t with
      | some (.slice _) => if isNilS v = true then some (.nilk (op = .neq) u) else none
      | some (.interface _) => if isNilI v = true then (match y with | .const _ => some (.gen (.eqi (op = .neq)) [u]) | _ => none) else none
      | _ => none
      else none
    | _, _ => none
  | .call c => match c.callee with
    | .builtin .min => match opdsOf c.args.toList with
      | some [x, y] => some (.gen .mn [x, y])
      | _ => none
    | .builtin .max => match opdsOf c.args.toList with
      | some [x, y] => some (.gen .mx [x, y])
      | _ => none
    | _ => none
  | _ => none

def compOp (P : Program) (o : Oper) : Option SOp := match compOp0 P o with
  | some s => some s
  | none => compX P o

section
variable {P : Program} {w : World} {A : Abs} {st : St} {a : Act} {env : Env}

theorem nogen {o : Oper} {g : Gen} {xs : List Opd} (h : compOp0 P o = some (.gen g xs)) : False := by
  unfold compOp0 at h
  repeat' split at h
  all_goals first | (cases h; done) | (obtain ⟨y, hy, e⟩ := Option.map_eq_some_iff.1 h; cases e; done)
theorem nonilk {o : Oper} {b : Bool} {x : Opd} (h : compOp0 P o = some (.nilk b x)) : False := by
  unfold compOp0 at h
  repeat' split at h
  all_goals first | (cases h; done) | (obtain ⟨y, hy, e⟩ := Option.map_eq_some_iff.1 h; cases e; done)

theorem Reps.one {vs : List Value} {x : V} (h : Reps w A vs [x]) : ∃ u, vs = [u] ∧ Rep w A u x := by
  obtain ⟨u, rfl⟩ := List.length_eq_one_iff.1 h.1
  exact ⟨u, rfl, h.2 0 u x rfl rfl⟩
theorem Reps.pair {vs : List Value} {x y : V} (h : Reps w A vs [x, y]) : ∃ u v, vs = [u, v] ∧ Rep w A u x ∧ Rep w A v y := by
  obtain ⟨hl, h2⟩ := h
  match vs, hl with
  | [u, v], _ => exact ⟨u, v, rfl, h2 0 u x rfl rfl, h2 1 v y rfl rfl⟩

/-- What the further operations come to. -/
inductive IsX (P : Program) (o : Oper) : SOp → Prop
  | nilk (op : BinOp) (t e : TypeId) (x y : Operand) (yt : TypeId) (u : Opd) (ho : o.op = .binOp op t x y yt) (hop : op = .eql ∨ op = .neq) (ht : P.underlying t = some (.slice e)) (hx : opdOf x = some u) (hy : opdOf y = some (.c .nils)) : IsX P o (.nilk (op = .neq) u)
  | eqi (op : BinOp) (t : TypeId) (ms) (x : Operand) (y : Value) (yt : TypeId) (u : Opd) (ho : o.op = .binOp op t x (.const y) yt) (hop : op = .eql ∨ op = .neq) (ht : P.underlying t = some (.interface ms)) (hx : opdOf x = some u) (hy : opdOf (.const y) = some (.c .nili)) : IsX P o (.gen (.eqi (op = .neq)) [u])
  | mn (c : Call) (x y : Opd) (ho : o.op = .call c) (hc : c.callee = .builtin .min) (hx : opdsOf c.args.toList = some [x, y]) : IsX P o (.gen .mn [x, y])
  | mx (c : Call) (x y : Opd) (ho : o.op = .call c) (hc : c.callee = .builtin .max) (hx : opdsOf c.args.toList = some [x, y]) : IsX P o (.gen .mx [x, y])

theorem isNilS_eq {v : Opd} (h : isNilS v = true) : v = .c .nils := by
  unfold isNilS at h; split at h
  · rfl
  · cases h
theorem isNilI_eq {v : Opd} (h : isNilI v = true) : v = .c .nili := by
  unfold isNilI at h; split at h
  · rfl
  · cases h

theorem isX {o : Oper} {so : SOp} (h : compX P o = some so) : IsX P o so := by
  unfold compX at h
  split at h
  · rename_i op t x y yt ho
    split at h
    · rename_i u v hu hv
      split at h
      · rename_i hop
        split at h
        · rename_i e ht
          split at h
          · rename_i hn
            cases h
            rw [isNilS_eq hn] at hv
            exact .nilk op t e x y yt u ho hop ht hu hv
          · cases h
        · rename_i ms ht
          split at h
          · rename_i hn
            split at h
            · cases h
              rw [isNilI_eq hn] at hv
              exact .eqi op t ms x _ yt u ho hop ht hu hv
            · cases h
          · cases h
        · cases h
      · cases h
    · cases h
  · rename_i c ho
    split at h
    · rename_i hc
      split at h
      · rename_i x y hx
        cases h; exact .mn c x y ho hc hx
      · cases h
    · rename_i hc
      split at h
      · rename_i x y hx
        cases h; exact .mx c x y ho hc hx
      · cases h
    · cases h
  · cases h

theorem run_eq_nil {t e : TypeId} (ht : P.underlying t = some (.slice e)) (b : Option Addr) (n c : Nat) : (binOp .eql t (.slice b n c) (.slice none 0 0)).run P w = .ok (.bool b.isNone) w ∧ (binOp .neq t (.slice b n c) (.slice none 0 0)).run P w = .ok (.bool (!b.isNone)) w := by
  constructor
  · show (do pure (Value.bool (← Op.equal t (.slice b n c) (.slice none 0 0))) : Sem Value).run P w = _
    simp only [Sem.run_bind, run_equal_slice_nil w t e b n c ht, Result.andThen_ok, Sem.run_pure]
  · show (do pure (Value.bool (!(← Op.equal t (.slice b n c) (.slice none 0 0)))) : Sem Value).run P w = _
    simp only [Sem.run_bind, run_equal_slice_nil w t e b n c ht, Result.andThen_ok, Sem.run_pure]

theorem run_equalIn_iface {t : TypeId} {ms} (d : Nat) (h : P.underlying t = some (.interface ms)) (x : Value) (b : Bool) (hx : (x = .nilIface ∧ b = true) ∨ ((∃ u v, x = .iface u v) ∧ b = false)) : (Op.equalIn (d + 1) t x .nilIface).run P w = .ok b w := by
  rcases hx with ⟨e1, e2⟩ | ⟨⟨u, v, e1⟩, e2⟩
  · rw [e1, e2]
    simp [Op.equalIn, run_underlying h]
  · rw [e1, e2]
    simp [Op.equalIn, run_underlying h]
theorem run_equal_iface {t : TypeId} {ms} (h : P.underlying t = some (.interface ms)) (x : Value) (b : Bool) (hx : (x = .nilIface ∧ b = true) ∨ ((∃ u v, x = .iface u v) ∧ b = false)) : (Op.equal t x .nilIface).run P w = .ok b w := run_equalIn_iface 9999 h x b hx

theorem run_eqi {t : TypeId} {ms} (h : P.underlying t = some (.interface ms)) (x : Value) (b : Bool) (hx : (x = .nilIface ∧ b = true) ∨ ((∃ u v, x = .iface u v) ∧ b = false)) :
    (binOp .eql t x .nilIface).run P w = .ok (.bool b) w ∧ (binOp .neq t x .nilIface).run P w = .ok (.bool (!b)) w := by
  constructor
  · have e : binOp .eql t x .nilIface = (do pure (Value.bool (← Op.equal t x .nilIface)) : Sem Value) := by rcases hx with ⟨rfl, rfl⟩ | ⟨⟨u, v, rfl⟩, rfl⟩ <;> rfl
    rw [e]
    simp only [Sem.run_bind, run_equal_iface h x b hx, Result.andThen_ok, Sem.run_pure]
  · have e : binOp .neq t x .nilIface = (do pure (Value.bool (!(← Op.equal t x .nilIface))) : Sem Value) := by rcases hx with ⟨rfl, rfl⟩ | ⟨⟨u, v, rfl⟩, rfl⟩ <;> rfl
    rw [e]
    simp only [Sem.run_bind, run_equal_iface h x b hx, Result.andThen_ok, Sem.run_pure]

theorem opdsOf_eval (he : EnvSim w A a env) {xs : List Operand} {l : List Opd} (h : opdsOf xs = some l) : Reps w A (xs.map a.eval) (l.map (·.get env)) := reps_get he h

theorem gen_sound {o : Oper} {g : Gen} {xs : List Opd} {d : V} (hi : IsX P o (.gen g xs)) (he : EnvSim w A a env) (hv : genV g (xs.map (·.get env)) = some d) : GivesV P w A (execOp a.eval o) d := by
  cases hi with
  | eqi op t ms x y yt u ho hop ht hx hy =>
    have rx := rep_get (w := w) (A := A) he hx
    have ey : y = .nilIface := by
      have key : ∀ v : Value, constCell v = some .nili → v = .nilIface := fun v h => by
        unfold constCell at h
        split at h <;> first | (cases h; done) | rfl
      cases y with
      | agg cs => simp only [opdOf] at hy; split at hy <;> simp at hy
      | _ => exact key _ (by simpa [opdOf] using hy)
    subst ey
    unfold execOp
    rw [ho]
    simp only [List.map_cons, List.map_nil] at hv
    generalize u.get env = dx at *
    generalize hax : a.eval x = vx at *
    have ea : a.eval (.const .nilIface) = .nilIface := rfl
    cases rx with
    | nili =>
      cases hv
      obtain ⟨g1, g2⟩ := run_eqi (w := w) ht .nilIface true (.inl ⟨rfl, rfl⟩)
      rcases hop with rfl | rfl
      · exact ⟨.bool true, by simp [hax, ea, eqGuard, g1], .bool _⟩
      · exact ⟨.bool false, by simp [hax, ea, eqGuard, g2], .bool _⟩
    | iface t' v' d' h' =>
      cases hv
      obtain ⟨g1, g2⟩ := run_eqi (w := w) ht (.iface t' v') false (.inr ⟨⟨_, _, rfl⟩, rfl⟩)
      rcases hop with rfl | rfl
      · exact ⟨.bool false, by simp [hax, ea, eqGuard, g1], .bool _⟩
      · exact ⟨.bool true, by simp [hax, ea, eqGuard, g2], .bool _⟩
    | _ => cases hv
  | mn c x y ho hc hx =>
    obtain ⟨u, v, e, r1, r2⟩ := (opdsOf_eval (w := w) (A := A) he hx).pair
    simp only [List.map_cons, List.map_nil, genV] at hv
    unfold minV at hv
    split at hv
    · rename_i k a1 k' b1 e1 e2
      split at hv
      · rename_i hk
        cases hv
        simp only [e1] at r1
        simp only [e2] at r2
        cases r1; cases r2
        subst hk
        refine ⟨.int k (if b1 < a1 then b1 else a1), ?_, .int _ _⟩
        unfold execOp
        rw [ho]
        have ea : (c.args.map a.eval).toList = [.int k a1, .int k b1] := by rw [Array.toList_map]; exact e
        simp only [resolve, hc, Sem.run_bind, Sem.run_pure, Result.andThen_ok, invoke, builtin, Builtin.min_, ea, List.foldlM_cons, List.foldlM_nil, Builtin.min2]
      · cases hv
    · cases hv
  | mx c x y ho hc hx =>
    obtain ⟨u, v, e, r1, r2⟩ := (opdsOf_eval (w := w) (A := A) he hx).pair
    simp only [List.map_cons, List.map_nil, genV] at hv
    unfold maxV at hv
    split at hv
    · rename_i k a1 k' b1 e1 e2
      split at hv
      · rename_i hk
        cases hv
        simp only [e1] at r1
        simp only [e2] at r2
        cases r1; cases r2
        subst hk
        refine ⟨.int k (if b1 > a1 then b1 else a1), ?_, .int _ _⟩
        unfold execOp
        rw [ho]
        have ea : (c.args.map a.eval).toList = [.int k a1, .int k b1] := by rw [Array.toList_map]; exact e
        simp only [resolve, hc, Sem.run_bind, Sem.run_pure, Result.andThen_ok, invoke, builtin, Builtin.max_, ea, List.foldlM_cons, List.foldlM_nil, Builtin.max2]
      · cases hv
    · cases hv
theorem compOp_cases {o : Oper} {so : SOp} (h : compOp P o = some so) : compOp0 P o = some so ∨ IsX P o so := by
  unfold compOp at h
  split at h
  · rename_i s hs; cases h; exact .inl hs
  · exact .inr (isX h)

theorem evs_sound {o : Oper} {so : SOp} {d : V} (hc : compOp P o = some so) (hs : Sim w A st) (he : EnvSim w A a env) (hv : evs so env st = some d) : GivesV P w A (execOp a.eval o) d := by
  rcases compOp_cases hc with h | h
  · exact evs_sound0 h hs he hv
  · cases so with
    | gen g xs => exact gen_sound h he hv
    | nilk ne x => cases hv
    | _ => cases h

theorem stv_sound {o : Oper} {so : SOp} {d : V} {st' : St} (hc : compOp P o = some so) (hs : Sim w A st) (he : EnvSim w A a env) (h : stv so env st = some (d, st')) : Does P w A (execOp a.eval o) d st' := by
  rcases compOp_cases hc with h' | h'
  · exact stv_sound0 h' hs he h
  · cases so with
    | gen g xs =>
      obtain ⟨v, hv, e⟩ := Option.map_eq_some_iff.1 (show (evs (.gen g xs) env st).map (fun v => (v, st)) = some (d, st') from h)
      cases e
      exact (gen_sound h' he hv).does hs
    | nilk ne x => cases h
    | _ => cases h'

/-- A slice against nil: what is known of the answer. -/
def nilK (st : St) (k : Bool → Prop) : V → Prop
  | .nils => k true
  | .sl [] => k true ∧ k false
  | .sl (_ :: _) => k false
  | .clip [] => k true ∧ k false
  | .clip (_ :: _) => k false
  | .osl id n => match look st.arr id with
    | some a => a.xs.length = n ∧ if n = 0 then k true ∧ k false else k false
    | none => False
  | _ => False

theorem sl_isNone {v : Value} {xs : List V} (h : Rep w A v (.sl xs)) : ∃ b n c, v = .slice b n c ∧ (xs ≠ [] → b.isNone = false) := by
  cases h with
  | sl _ b o cap es cell h1 h2 h3 h4 h5 => exact ⟨_, _, _, rfl, fun _ => rfl⟩
  | slnil a => exact ⟨_, _, _, rfl, fun h => absurd rfl h⟩

theorem nilk_sound {o : Oper} {ne : Bool} {x : Opd} (hc : compOp P o = some (.nilk ne x)) (hs : Sim w A st) (he : EnvSim w A a env) {k : Bool → Prop} (h : nilK st k (x.get env)) :
    ∃ b : Bool, (execOp a.eval o).run P w = .ok (.value (.bool (b != ne))) w ∧ k b := by
  rcases compOp_cases hc with h' | h'
  · exact (nonilk h').elim
  · cases h' with
    | nilk op t e y z yt u ho hop ht hx hy =>
      have rx := rep_get (w := w) (A := A) he hx
      have rz := rep_get (w := w) (A := A) he hy
      have ez : a.eval z = .slice none 0 0 := by
        generalize a.eval z = vz at rz ⊢
        have : Opd.get env (.c .nils) = .nils := rfl
        rw [this] at rz
        cases rz; rfl
      have main : ∀ (b : Option Addr) (n c : Nat), a.eval y = .slice b n c → (execOp a.eval o).run P w = .ok (.value (.bool (b.isNone != decide (op = .neq)))) w := by
        intro b n c hv
        obtain ⟨g1, g2⟩ := run_eq_nil (w := w) ht b n c
        unfold execOp
        rw [ho]
        rcases hop with rfl | rfl
        · simp [hv, ez, eqGuard, g1]
        · simp [hv, ez, eqGuard, g2]
      have both : k true ∧ k false → ∀ (b : Option Addr) (n c : Nat), a.eval y = .slice b n c → ∃ b : Bool, (execOp a.eval o).run P w = .ok (.value (.bool (b != decide (op = .neq)))) w ∧ k b := fun h b n c hv =>
        ⟨b.isNone, main b n c hv, by cases b.isNone; exact h.2; exact h.1⟩
      have slc : ∀ xs, Rep w A (a.eval y) (.sl xs) → (xs = [] → k true ∧ k false) → (xs ≠ [] → k false) → ∃ b : Bool, (execOp a.eval o).run P w = .ok (.value (.bool (b != decide (op = .neq)))) w ∧ k b := fun xs hr h1 h2 => by
        obtain ⟨b, n, c, hv, hn⟩ := sl_isNone hr
        by_cases hxs : xs = []
        · exact both (h1 hxs) b n c hv
        · exact ⟨b.isNone, main b n c hv, by rw [hn hxs]; exact h2 hxs⟩
      generalize hd : x.get env = d at rx h
      cases d with
      | nils =>
        generalize hv : a.eval y = vy at rx
        cases rx
        exact ⟨true, main none 0 0 hv, h⟩
      | sl xs => cases xs with
        | nil => exact slc [] rx (fun _ => h) (fun h => absurd rfl h)
        | cons z zs => exact slc _ rx (fun h => by cases h) (fun _ => h)
      | clip xs =>
        have rx' : Rep w A (a.eval y) (.sl xs) := by
          generalize a.eval y = vy at rx ⊢
          cases rx with | clip b xs h => exact h
        cases xs with
        | nil => exact slc [] rx' (fun _ => h) (fun h => absurd rfl h)
        | cons z zs => exact slc _ rx' (fun h => by cases h) (fun _ => h)
      | osl id n =>
        have hform : ∀ ar, look st.arr id = some ar → ar.xs.length = n → ∃ b c, a.eval y = .slice b n c ∧ (n ≠ 0 → b.isNone = false) := fun ar har hn => by
          obtain ⟨e1, hk⟩ := osl_alive hs har hn rx
          rcases hk.row with ⟨r, r', _⟩ | ⟨g, cap, cur, r1, _⟩
          · rw [r'] at hn
            refine ⟨none, 0, ?_, fun h => ?_⟩
            · rw [e1, r, ← hn]; rfl
            · exact absurd (by rw [← hn]; rfl) h
          · exact ⟨_, cap, by rw [e1, r1, hn], fun _ => rfl⟩
        simp only [nilK] at h
        split at h
        · rename_i ar har
          obtain ⟨hn, hk⟩ := h
          obtain ⟨b, c, hv, hb⟩ := hform ar har hn
          split at hk
          · exact both hk b n c hv
          · rename_i hn0
            exact ⟨b.isNone, main b n c hv, by rw [hb hn0]; exact hk⟩
        · exact h.elim
      | _ => exact h.elim
end
end Go.Sha
