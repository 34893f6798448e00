/- Steps on objects: soundness. -/
import Derived.Test.YtnondemehfkalaaGreatDoorSShaM
import Derived.MapKept
set_option linter.unusedSimpArgs false
set_option linter.unusedVariables false
namespace Go.Sha
open Go.MapKept
section
variable {P : Program} {w : World} {A : Abs} {st : St} {a : Act} {env : Env}
def KT.desc : KT → TypeDesc
 | .b => .bool
 | .i q => .int q
 | .s => .string
theorem isKey_of {q : KT} {v : Value} {k : V} (h : keyV q k = true) (hr : Rep w A v k) : IsKey q.desc v := by
 cases q <;> cases k <;> simp [keyV] at h <;> cases hr <;> simp_all [IsKey, KT.desc]
theorem same_sound {q : KT} {v v' : Value} {k k' : V} {b : Bool} (hk : keyV q k = true) (hr : Rep w A v k) (hr' : Rep w A v' k') (h : sameV k k' = some b) : Instr.sameNow q.desc v v' = some b ∧ (b = true → v' = v) := by
 cases q <;> cases k <;> simp [keyV] at hk <;> cases k' <;> simp [sameV] at h <;> cases hr <;> cases hr'
 ·subst h
  exact ⟨rfl, fun e => by simpa using (beq_iff_eq.1 e).symm⟩
 ·obtain ⟨h1, h2⟩ := h
  subst h1; subst h2
  exact ⟨by simp [Instr.sameNow, KT.desc], fun e => by rw [beq_iff_eq.1 e]⟩
 ·subst h
  rename_i s s'
  refine ⟨?_, fun e => by rw [beq_iff_eq.1 e]⟩
  simp only [Instr.sameNow, KT.desc, Option.some.injEq]
  rw [Bool.eq_iff_iff, bytes_beq]
  simp
theorem find_sound {q : KT} {v : Value} {k : V} (hk : keyV q k = true) (hr : Rep w A v k) : ∀ (ms : List MapEntry) (es : List (V × V)) (i : Nat) {r : Option (Nat × V)}, ms.length = es.length →
  (∀ (j : Nat) (m : MapEntry) (c : V × V), ms[j]? = some m → es[j]? = some c → Rep w A m.key c.1 ∧ Rep w A m.val c.2) → findV k es i = some r →
  match r with
  | none => Instr.findNow q.desc v ms i = some none
  | some (j, c) => ∃ m, i ≤ j ∧ ms[j - i]? = some m ∧ m.key = v ∧ Rep w A m.val c ∧ Instr.findNow q.desc v ms i = some (some (j, m.val))
 | [], [], i, r, _, _, h => by cases h; rfl
 | m :: ms, e :: es, i, r, hl, hm, h => by
  obtain ⟨k1, k2⟩ := hm 0 m e rfl rfl
  simp only [findV] at h
  split at h
  ·rename_i hs
   cases h
   obtain ⟨g1, g2⟩ := same_sound hk hr k1 hs
   exact ⟨m, Nat.le_refl _, by simp, g2 rfl, k2, by simp [Instr.findNow, g1]⟩
  ·rename_i hs
   obtain ⟨g1, _⟩ := same_sound hk hr k1 hs
   have ih := find_sound hk hr ms es (i + 1) (by simpa using hl) (fun j m c h1 h2 => hm (j + 1) m c (by simpa using h1) (by simpa using h2)) h
   cases r with
   | none => simp [Instr.findNow, g1, ih]
   | some p =>
    obtain ⟨j, c⟩ := p
    obtain ⟨m', h1, h2, h3, h4, h5⟩ := ih
    refine ⟨m', by omega, ?_, h3, h4, by simp [Instr.findNow, g1, h5]⟩
    rw [show j - i = (j - (i + 1)) + 1 by omega]
    simpa using h2
  ·cases h
 | [], _ :: _, _, _, hl, _, _ => by simp at hl
 | _ :: _, [], _, _, hl, _, _ => by simp at hl
theorem Sim.newObj (hs : Sim w A st) {o : Obj} {ob : Ob} (hrow : ob.at (w.alloc o) (A.newMem w.heap.size) st.nx) (hb : ∀ g, (A.newMem w.heap.size).own g = some st.nx → g = w.heap.size) :
  Sim (w.alloc o) (A.newMem w.heap.size) ⟨st.nx + 1, st.mem, st.arr, ⟨(st.nx, ob) :: st.x.obj, st.x.gl, st.x.ty⟩⟩ := by
 have hx : Ext w A (w.alloc o) (A.newMem w.heap.size) := Ext.newMem hs _
 have oldown : ∀ b id, A.own b = some id → (A.newMem w.heap.size).own b = some id := fun b id h => by
  have := (hs.ownlt b id h).1
  simp only [Abs.newMem]; rw [if_neg (by omega)]; exact h
 refine ⟨by simp [Abs.newMem, hs.nx], fun id cs' h => ?_, fun id ar h => ?_, fun b o h => ?_, fun b id h => ?_, hs.disj, ⟨fun id ob' h => ?_, fun p hp => hx.gl (hs.x.gl p hp), fun id T h => ?_⟩⟩
 ·have hk := hs.mem id cs' h
  have hb := (hs.ownlt _ _ hk.own).1
  exact hk.of_heap hx (oldown _ _ hk.own) (heap_alloc_old w _ hb) hk.noC
 ·have hk := hs.arr id ar h
  exact hk.of_heap hx rfl (fun g hg => ⟨oldown _ _ hg, heap_alloc_old w _ (hs.ownlt _ _ hg).1, fun _ => Iff.rfl⟩)
 ·have := hs.Clt b o h; simp; omega
 ·simp only [Abs.newMem] at h ⊢
  split at h
  ·rename_i e; cases h; subst e; simp
  ·have := hs.ownlt b id h; simp; omega
 ·simp only [look] at h
  split at h
  ·rename_i e; cases h; subst e
   refine ⟨⟨by simp [Abs.newMem, hs.nx], hrow, fun g hg k hc => ?_⟩, ?_, ?_⟩
   ·have := hb g hg
    subst this
    exact Nat.lt_irrefl _ (hs.Clt _ _ hc)
   ·cases e : look st.mem st.nx with
    | none => rfl
    | some c => have := (hs.mem _ _ e).lt; have := hs.nx; omega
   ·cases e : look st.arr st.nx with
    | none => rfl
    | some c => have := (hs.arr _ _ e).lt; have := hs.nx; omega
  ·rename_i hne
   obtain ⟨hk, m1, m2⟩ := hs.x.obj id ob' h
   refine ⟨hk.of_heap hx (fun g hg => ⟨oldown _ _ hg, heap_alloc_old w _ (hs.ownlt _ _ hg).1⟩) (fun g hg k hc => ?_), m1, m2⟩
   simp only [Abs.newMem] at hg
   split at hg
   ·cases hg; exact hne hs.nx
   ·exact hk.noC g hg k hc
 ·obtain ⟨hk, hn⟩ := hs.x.ty id T h
  exact ⟨hk.of_heap hx (fun b i h => (hs.ownlt b i h).1) (fun vs fz h => ⟨vs, fz, by rw [heap_alloc_old w _ (hs.ownlt _ _ hk.own).1]; exact h⟩), hn⟩
theorem newMem_own (hs : Sim w A st) {g : Nat} (h : (A.newMem w.heap.size).own g = some st.nx) : g = w.heap.size := by
 simp only [Abs.newMem] at h
 split at h
 ·assumption
 ·have := (hs.ownlt _ _ h).2; have := hs.nx; omega
theorem Sim.newMap (hs : Sim w A st) : Sim (w.alloc (.map #[] 0)) (A.newMem w.heap.size) ⟨st.nx + 1, st.mem, st.arr, ⟨(st.nx, .map []) :: st.x.obj, st.x.gl, st.x.ty⟩⟩ := by
 refine hs.newObj ⟨#[], 0, ?_, ?_, rfl, rfl, fun i m h => by simp at h, fun i m c h => by simp at h⟩ (fun g => newMem_own hs)
 ·have e1 : (A.newMem w.heap.size).loc st.nx = w.heap.size := by simp [Abs.newMem, hs.nx]
  rw [e1]; exact heap_alloc_new w _
 ·simp [Abs.newMem, hs.nx]
theorem look_updO {l : List (Nat × Ob)} {i j : Nat} {o : Ob} : look (updO l i o) j = if j = i then (look l i).map (fun _ => o) else look l j := by
 induction l with
 | nil => simp [updO, look]
 | cons p r ih =>
  obtain ⟨k, c⟩ := p
  simp only [updO]
  by_cases h : k = i
  ·subst h; simp only [if_true, look]
   by_cases h2 : k = j
   ·subst h2; simp
   ·rw [if_neg h2, if_neg (Ne.symm h2), if_neg h2]
  ·simp only [if_neg h, look]
   by_cases h2 : k = j
   ·subst h2; rw [if_pos rfl, if_neg h, if_pos rfl]
   ·rw [if_neg h2, ih, if_neg h2]
theorem Sim.setMap (hs : Sim w A st) {id : Nat} {es es' : List (V × V)} (hl : look st.x.obj id = some (.map es)) {ms' : Array MapEntry}
  (h1 : ms'.size = es'.length) (h2 : ∀ (i : Nat) (m : MapEntry), ms'[i]? = some m → m.born = i) (h3 : ∀ (i : Nat) (m : MapEntry) (c : V × V), ms'[i]? = some m → es'[i]? = some c → Rep w A m.key c.1 ∧ Rep w A m.val c.2) :
  Ext w A { w with heap := w.heap.setIfInBounds (A.loc id) (.map ms' ms'.size) } A ∧ Sim { w with heap := w.heap.setIfInBounds (A.loc id) (.map ms' ms'.size) } A ⟨st.nx, st.mem, st.arr, ⟨updO st.x.obj id (.map es'), st.x.gl, st.x.ty⟩⟩ := by
 obtain ⟨hk, m1, m2⟩ := hs.x.obj id _ hl
 obtain ⟨ms, clock, r1, r2, r3, r4, r5, r6⟩ := hk.row
 have hlt : A.loc id < w.heap.size := (Array.getElem?_eq_some_iff.1 r1).1
 have other : ∀ b, b ≠ A.loc id → (w.heap.setIfInBounds (A.loc id) (.map ms' ms'.size))[b]? = w.heap[b]? := fun b hb => by
  rw [Array.getElem?_setIfInBounds]; rw [if_neg (Ne.symm hb)]
 have hx : Ext w A { w with heap := w.heap.setIfInBounds (A.loc id) (.map ms' ms'.size) } A := by
  refine ⟨Nat.le_refl _, fun _ _ => rfl, fun _ _ => Nat.le_refl _, fun _ _ _ => rfl, fun b o h => ⟨h, ?_⟩, fun _ _ => rfl, by simp, rfl, rfl, rfl, fun b hb ho => other b (fun e => by subst e; rw [r2] at ho; cases ho)⟩
  unfold World.cell?
  simp only
  rw [other b (fun e => by subst e; exact hk.noC _ r2 o h)]
 refine ⟨hx, hs.nx, fun i cs h => ?_, fun i ar h => ?_, fun b o h => by have := hs.Clt b o h; simpa using this, fun b i h => by have := hs.ownlt b i h; simpa using this, hs.disj, ⟨fun i o ho => ?_, fun p hp => hx.gl (hs.x.gl p hp), fun i T h => ?_⟩⟩
 ·have hk' := hs.mem i cs h
  exact hk'.of_heap hx hk'.own (other _ (fun e => by have := hk'.own; rw [e, r2] at this; cases this; rw [h] at m1; cases m1)) hk'.noC
 ·exact (hs.arr i ar h).of_heap hx rfl (fun g hg => ⟨hg, other _ (fun e => by rw [e, r2] at hg; cases hg; rw [h] at m2; cases m2), fun _ => Iff.rfl⟩)
 ·simp only at ho
  rw [look_updO] at ho
  split at ho
  ·rename_i e; subst e
   rw [hl] at ho
   cases ho
   refine ⟨⟨hk.lt, ⟨ms', ms'.size, ?_, r2, h1, rfl, h2, fun j m c hm hc => ?_⟩, hk.noC⟩, m1, m2⟩
   ·simp only; rw [Array.getElem?_setIfInBounds, if_pos rfl, if_pos hlt]
   ·obtain ⟨q1, q2⟩ := h3 j m c hm hc
    exact ⟨q1.mono hx, q2.mono hx⟩
  ·rename_i hne
   obtain ⟨hk', n1, n2⟩ := hs.x.obj i o ho
   exact ⟨hk'.of_heap hx (fun g hg => ⟨hg, other _ (fun e => by rw [e, r2] at hg; cases hg; exact hne rfl)⟩) hk'.noC, n1, n2⟩
 ·obtain ⟨hk', hn⟩ := hs.x.ty i T h
  refine ⟨hk'.of_heap hx (fun b i h => (hs.ownlt b i h).1) (fun vs fz h => ⟨vs, fz, ?_⟩), hn⟩
  rw [other _ (fun e => by rw [e, r1] at h; cases h)]
  exact h
theorem does_mkmap (hs : Sim w A st) (t : TypeId) : Does P w A (do pure (.value (← Instr.makeMap t none))) (.mp st.nx) ⟨st.nx + 1, st.mem, st.arr, ⟨(st.nx, .map []) :: st.x.obj, st.x.gl, st.x.ty⟩⟩ := by
 refine ⟨.value (.map (some w.heap.size)), w.alloc (.map #[] 0), A.newMem w.heap.size, rfl, .inl ⟨_, rfl, ?_⟩, hs.newMap, Ext.newMem hs _⟩
 have e1 : (A.newMem w.heap.size).loc st.nx = w.heap.size := by simp [Abs.newMem, hs.nx]
 have := Rep.mp (w := w.alloc (.map #[] 0)) (A := A.newMem w.heap.size) st.nx (by simp [Abs.newMem, hs.nx])
 rwa [e1] at this
theorem mapOf_inv (hs : Sim w A st) {v : Value} {d : V} (hr : Rep w A v d) {es : List (V × V)} (h : mapOf st d = some es) :
  (v = .map none ∧ es = []) ∨ ∃ r ms clock, v = .map (some r) ∧ w.heap[r]? = some (.map ms clock) ∧ ms.size = es.length ∧ ∀ (i : Nat) (m : MapEntry) (c : V × V), ms[i]? = some m → es[i]? = some c → Rep w A m.key c.1 ∧ Rep w A m.val c.2 := by
 unfold mapOf at h
 split at h
 ·rename_i id
  split at h
  ·rename_i es' hl
   cases h
   obtain ⟨ms, clock, r1, r2, r3, r4, r5, r6⟩ := (hs.x.obj id _ hl).1.row
   cases hr
   exact .inr ⟨_, ms, clock, rfl, r1, r3, r6⟩
  ·cases h
 ·cases h; cases hr; exact .inl ⟨rfl, rfl⟩
 ·split at h
  ·rename_i ks vs hkv
   cases h
   cases hr with
   | mpc b ms clock _ _ ho hh hl hk hr hs =>
    refine .inr ⟨_, ms, clock, rfl, hh, by rw [List.length_zip]; omega, fun i m c hm hc => ?_⟩
    obtain ⟨h1, h2⟩ := List.getElem?_zip_eq_some.1 hc
    exact ⟨hr i m _ hm h1, hs i m _ hm h2⟩
  ·cases h
 ·cases h
theorem does_look (hs : Sim w A st) {t k e : TypeId} {q : KT} (ht : P.underlying t = some (.map k e)) (hk : P.underlying k = some q.desc) {zv : Value} {z : V} (hz : (zeroValue e).run P w = .ok zv w) (hzr : Rep w A zv z)
  {vm vk : Value} {dm dk : V} (rm : Rep w A vm dm) (rk : Rep w A vk dk) (ok : Bool) {d : V} {st' : St} (h : actV (.look q z ok) [dm, dk] st = some (d, st')) :
  Does P w A (do pure (.value (← Instr.lookup t vm vk ok))) d st' := by
 simp only [actV] at h
 split at h
 ·rename_i es hes
  split at h
  ·rename_i hq
   have hkey := isKey_of hq rk
   rcases mapOf_inv hs rm hes with ⟨rfl, rfl⟩ | ⟨r, ms, clock, rfl, hb, hsz, hm⟩
   ·simp only [findV] at h
    cases h
    refine ⟨.value (if ok then .tuple #[zv, .bool false] else zv), w, A, ?_, .inl ⟨_, rfl, ?_⟩, hs, Ext.refl w A⟩
    ·simp [Instr.lookup, run_underlying ht, run_checkKey hk hkey, run_findKey hk (show Instr.findNow q.desc vk [] 0 = some none from rfl), hz, Result.andThen]
    ·cases ok
     ·exact hzr
     ·exact .tup [zv, .bool false] [z, .bool false] rfl (fun i v c hv hc => by
       match i with
       | 0 => cases hv; cases hc; exact hzr
       | 1 => cases hv; cases hc; exact .bool _
       | i + 2 => simp at hv)
   ·split at h
    ·rename_i i c hf
     cases h
     have := find_sound hq rk ms.toList es 0 (by simpa using hsz) (fun j m c h1 h2 => hm j m c (by simpa using h1) h2) hf
     obtain ⟨m, _, _, _, g4, g5⟩ := this
     refine ⟨.value (if ok then .tuple #[m.val, .bool true] else m.val), w, A, ?_, .inl ⟨_, rfl, ?_⟩, hs, Ext.refl w A⟩
     ·simp [Instr.lookup, run_underlying ht, Go.MapKept.run_getObj_map hb, run_checkKey hk hkey, run_findKey hk g5, Result.andThen]
     ·cases ok
      ·exact g4
      ·exact .tup [m.val, .bool true] [c, .bool true] rfl (fun i v c hv hc => by
        match i with
        | 0 => cases hv; cases hc; exact g4
        | 1 => cases hv; cases hc; exact .bool _
        | i + 2 => simp at hv)
    ·rename_i hf
     cases h
     have g5 := find_sound hq rk ms.toList es 0 (by simpa using hsz) (fun j m c h1 h2 => hm j m c (by simpa using h1) h2) hf
     refine ⟨.value (if ok then .tuple #[zv, .bool false] else zv), w, A, ?_, .inl ⟨_, rfl, ?_⟩, hs, Ext.refl w A⟩
     ·simp [Instr.lookup, run_underlying ht, Go.MapKept.run_getObj_map hb, run_checkKey hk hkey, run_findKey hk g5, hz, Result.andThen]
     ·cases ok
      ·exact hzr
      ·exact .tup [zv, .bool false] [z, .bool false] rfl (fun i v c hv hc => by
        match i with
        | 0 => cases hv; cases hc; exact hzr
        | 1 => cases hv; cases hc; exact .bool _
        | i + 2 => simp at hv)
    ·cases h
  ·cases h
 ·cases h
theorem does_mset (hs : Sim w A st) {t k e : TypeId} {q : KT} (ht : P.underlying t = some (.map k e)) (hk : P.underlying k = some q.desc)
  {vm vk vv : Value} {dm dk dv : V} (rm : Rep w A vm dm) (rk : Rep w A vk dk) (rv : Rep w A vv dv) {d : V} {st' : St} (h : actV (.mset q) [dm, dk, dv] st = some (d, st')) :
  Does P w A (do Instr.mapUpdate t vm vk vv; pure .skip) d st' := by
 simp only [actV] at h
 split at h
 ·rename_i id
  split at h
  ·rename_i es hl
   split at h
   ·rename_i hq
    have hkey := isKey_of hq rk
    obtain ⟨hok, m1, m2⟩ := hs.x.obj id _ hl
    obtain ⟨ms, clock, r1, r2, r3, r4, r5, r6⟩ := hok.row
    cases rm
    split at h
    ·rename_i r hf
     cases h
     have g := find_sound hq rk ms.toList es 0 (by simpa using r3) (fun j m c h1 h2 => r6 j m c (by simpa using h1) h2) hf
     cases r with
     | none =>
      obtain ⟨hx, hs'⟩ := hs.setMap (es' := es ++ [(dk, dv)]) hl (ms' := ms.push ⟨vk, vv, clock⟩) (by simp [r3]) (fun i m hm => by
        rw [Array.getElem?_push] at hm
        split at hm
        ·cases hm; simp only; omega
        ·exact r5 i m hm) (fun i m c hm hc => by
        rw [Array.getElem?_push] at hm
        split at hm
        ·rename_i e1
         cases hm
         rw [e1, r3] at hc
         simp at hc
         subst hc
         exact ⟨rk, rv⟩
        ·rename_i hne
         have hlt : i < ms.size := (Array.getElem?_eq_some_iff.1 hm).1
         rw [List.getElem?_append_left (by omega)] at hc
         exact r6 i m c hm hc)
      refine ⟨.skip, _, A, ?_, .inr ⟨rfl, rfl⟩, hs', hx⟩
      simp [Instr.mapUpdate, run_underlying ht, Go.MapKept.run_getObj_map r1, run_checkKey hk hkey, run_findKey hk g, Go.MapKept.run_setObj_map _ r1, Result.andThen, r4]
     | some p =>
      obtain ⟨i, c⟩ := p
      obtain ⟨m, g1, g2, g3, g4, g5⟩ := g
      have g2' : ms[i]? = some m := by simpa using g2
      obtain ⟨hx, hs'⟩ := hs.setMap (es' := es.set i (dk, dv)) hl (ms' := ms.modify i fun e => { e with key := vk, val := vv }) (by simp [r3]) (fun j m' hm => by
        rw [Array.getElem?_modify] at hm
        split at hm
        ·rename_i e1
         obtain ⟨y, hy, rfl⟩ := Option.map_eq_some_iff.1 hm
         exact r5 j y hy
        ·exact r5 j m' hm) (fun j m' c' hm hc => by
        rw [Array.getElem?_modify] at hm
        rw [List.getElem?_set] at hc
        split at hm
        ·rename_i e1
         obtain ⟨y, hy, rfl⟩ := Option.map_eq_some_iff.1 hm
         rw [if_pos e1] at hc
         split at hc
         ·cases hc; exact ⟨rk, rv⟩
         ·cases hc
        ·rename_i e1
         rw [if_neg e1] at hc
         exact r6 j m' c' hm hc)
      refine ⟨.skip, _, A, ?_, .inr ⟨rfl, rfl⟩, hs', hx⟩
      simp [Instr.mapUpdate, run_underlying ht, Go.MapKept.run_getObj_map r1, run_checkKey hk hkey, run_findKey hk g5, g2', g3, run_keyThatStays hkey, Go.MapKept.run_setObj_map _ r1, Result.andThen, r4]
    ·cases h
   ·cases h
  ·cases h
 ·cases h
theorem does_mlen (hs : Sim w A st) {t k e ty : TypeId} (ht : P.underlying t = some (.map k e)) {vm : Value} {dm : V} (rm : Rep w A vm dm) {d : V} {st' : St} (h : actV .mlen [dm] st = some (d, st')) :
  ∃ u, (Builtin.len_ #[t] ty #[vm]).run P w = .ok u w ∧ Rep w A u d ∧ st' = st := by
 simp only [actV] at h
 split at h
 ·rename_i es hes
  cases h
  rcases mapOf_inv hs rm hes with ⟨rfl, rfl⟩ | ⟨r, ms, clock, rfl, hb, hsz, hm⟩
  ·exact ⟨.int .i64 0, by simp [Builtin.len_, run_underlying ht, Result.andThen]; rfl, .int _ _, rfl⟩
  ·refine ⟨.int .i64 es.length, ?_, .int _ _, rfl⟩
   simp [Builtin.len_, run_underlying ht, Go.MapKept.run_getObj_map hb, Result.andThen, hsz]
   rfl
 ·cases h
end
end Go.Sha
