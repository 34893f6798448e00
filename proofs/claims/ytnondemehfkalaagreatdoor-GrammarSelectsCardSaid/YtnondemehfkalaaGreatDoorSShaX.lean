/- Rules for operations on slices, strings, structs; a nil slice as an owned one. -/
import Derived.Test.YtnondemehfkalaaGreatDoorSShaW
set_option linter.unusedSimpArgs false
set_option linter.unusedVariables false
namespace Go.Sha
section
variable {P : Program}
theorem stepK_gen {d : Option Nat} {r : List Ins} {env : Env} {st : St} {Q : Post} (g : Gen) (xs : List Opd) : stepK P d r Q env st (.gen g xs) (some true) = afterE P d r Q env st (genV g (xs.map (·.get env))) := by rw [stepK_true]; exact afterE_eq
theorem stepQ_gen {d : Option Nat} {r : List Ins} {env : Env} {st : St} {K : Env → Prop} (g : Gen) (xs : List Opd) : stepQ P d r K env st (.gen g xs) (some true) = afterQ P d r K env st (genV g (xs.map (·.get env))) := @_root_.id (_ = _) rfl
theorem stepV_gen {d : Option Nat} {r : List Ins} {env : Env} {st : St} {acc : List V} {K : List V → Env → Prop} (g : Gen) (xs : List Opd) : stepV P d r K env st acc (.gen g xs) (some true) = afterV P d r K env st acc (genV g (xs.map (·.get env))) := @_root_.id (_ = _) rfl
end
theorem genV_eqp_nn {ne : Bool} : genV (.eqp ne) [.nilp, .nilp] = some (.bool (!ne)) := @_root_.id (_ = _) rfl
theorem genV_eqp_pn {ne : Bool} {i o : Nat} : genV (.eqp ne) [.ptr i o, .nilp] = some (.bool ne) := @_root_.id (_ = _) rfl
theorem genV_eqp_np {ne : Bool} {i o : Nat} : genV (.eqp ne) [.nilp, .ptr i o] = some (.bool ne) := @_root_.id (_ = _) rfl
theorem genV_eqp_same {ne : Bool} {i o : Nat} : genV (.eqp ne) [.ptr i o, .ptr i o] = some (.bool (!ne)) := by simp [genV]
theorem genV_asrt {T t : TypeId} {z v : V} : genV (.asrt T z) [.iface t v] = some (if t = T then .tup [v, .bool true] else .tup [z, .bool false]) := @_root_.id (_ = _) rfl
theorem genV_asrt_nil {T : TypeId} {z : V} : genV (.asrt T z) [.nili] = some (.tup [z, .bool false]) := @_root_.id (_ = _) rfl
theorem actV_newt {st : St} {T : TypeId} {z : List V} : actV (.newt T z) [] st = some (.ptr st.nx 0, ⟨st.nx + 1, (st.nx, z) :: st.mem, st.arr, ⟨st.x.obj, st.x.gl, (st.nx, T) :: st.x.ty⟩⟩) := @_root_.id (_ = _) rfl
def cvuA (st : St) (id off : Nat) : Option (List V) → Option (V × St)
 | some cs => if off < cs.length then some (.ptr id off, st) else none
 | none => none
theorem actV_cvu {st : St} {id off : Nat} : actV (.cvp none) [.ptr id off] st = cvuA st id off (look st.mem id) := by
 show cvuV st (.ptr id off) = _
 unfold cvuV cvuA; rfl
theorem cvuA_some {st : St} {id off : Nat} {cs : List V} : cvuA st id off (some cs) = if off < cs.length then some (.ptr id off, st) else none := @_root_.id (_ = _) rfl
def cvtA (st : St) (T : TypeId) (n id : Nat) : Option TypeId → Option (List V) → Option (V × St)
 | some T', some cs => if T' = T ∧ cs.length = n then some (.ptr id 0, st) else none
 | _, _ => none
theorem actV_cvt {st : St} {T : TypeId} {n id : Nat} : actV (.cvp (some (T, n))) [.ptr id 0] st = cvtA st T n id (look st.x.ty id) (look st.mem id) := by
 show cvtV st T n (.ptr id 0) = _
 unfold cvtV cvtA; rfl
theorem cvtA_some {st : St} {T T' : TypeId} {n id : Nat} {cs : List V} : cvtA st T n id (some T') (some cs) = if T' = T ∧ cs.length = n then some (.ptr id 0, st) else none := @_root_.id (_ = _) rfl
theorem actV_appstr {st : St} {e b : Nat} {s : V} {l : List UInt8} : actV (.appstr e b) [s, .str l] st = appstrV st e b s l := @_root_.id (_ = _) rfl
theorem appstrV_nil {st : St} {e b : Nat} : appstrV st e b .nils [] = some (.nils, st) := @_root_.id (_ = _) rfl
theorem appstrV_cons {st : St} {e b : Nat} {s : V} {x : UInt8} {l : List UInt8} : appstrV st e b s (x :: l) = appG st e 1 b ((x :: l).map bV) s := by unfold appstrV; cases s <;> rfl
theorem appstrV_osl {st : St} {e b id n : Nat} {l : List UInt8} : appstrV st e b (.osl id n) l = appG st e 1 b (l.map bV) (.osl id n) := by unfold appstrV; cases l <;> rfl
theorem actV_usd_nils {st : St} : actV .usd [.nils] st = some (.nilp, st) := @_root_.id (_ = _) rfl
def usdA (st : St) (id n : Nat) : Option Arr → Option (V × St)
 | some r => if r.xs.length = n ∧ 0 < n ∧ r.es = 1 then some (.op id n 0 1 0, st) else none
 | none => none
theorem actV_usd_osl {st : St} {id n : Nat} : actV .usd [.osl id n] st = usdA st id n (look st.arr id) := by
 show usdV st (.osl id n) = _
 unfold usdV usdA; rfl
theorem usdA_some {st : St} {id n : Nat} {r : Arr} : usdA st id n (some r) = if r.xs.length = n ∧ 0 < n ∧ r.es = 1 then some (.op id n 0 1 0, st) else none := @_root_.id (_ = _) rfl
theorem actV_ustr_nil {st : St} {e : TypeId} {n : Int} : actV (.ustr e) [.nilp, .int .i64 n] st = if n = 0 then some (.str [], st) else none := @_root_.id (_ = _) rfl
def ustrB (st : St) (id : Nat) : Option (List UInt8) → Option (V × St)
 | some bs => some (.str bs, ⟨st.nx, st.mem, delA st.arr id, st.x⟩)
 | none => none
def ustrA (st : St) (e : TypeId) (id m : Nat) (n : Int) : Option Arr → Option (V × St)
 | some r => if r.xs.length = m ∧ n = m ∧ 0 < m ∧ r.e = e ∧ r.es = 1 ∧ r.fz = false ∧ r.wr = false then ustrB st id (bytesU r.xs) else none
 | none => none
theorem actV_ustr_op {st : St} {e : TypeId} {id m : Nat} {n : Int} : actV (.ustr e) [.op id m 0 1 0, .int .i64 n] st = ustrA st e id m n (look st.arr id) := by
 show ustrV st e (.op id m 0 1 0) (.int .i64 n) = _
 unfold ustrV ustrA ustrB; rfl
theorem ustrA_some {st : St} {e : TypeId} {id m : Nat} {n : Int} {r : Arr} : ustrA st e id m n (some r) = if r.xs.length = m ∧ n = m ∧ 0 < m ∧ r.e = e ∧ r.es = 1 ∧ r.fz = false ∧ r.wr = false then ustrB st id (bytesU r.xs) else none := @_root_.id (_ = _) rfl
theorem ustrB_some {st : St} {id : Nat} {bs : List UInt8} : ustrB st id (some bs) = some (.str bs, ⟨st.nx, st.mem, delA st.arr id, st.x⟩) := @_root_.id (_ = _) rfl
theorem bytesU_map : ∀ {l : List UInt8}, bytesU (l.map bV) = some l
 | [] => rfl
 | b :: l => by
  have h : byteU (bV b) = some b := by
   have := b.toNat_lt
   unfold byteU bV
   simp only
   rw [if_pos ⟨by omega, by omega⟩]
   congr 1
   exact UInt8.toNat.inj (by simp)
  rw [List.map_cons, bytesU, h, bytesU_map]
theorem delA_cons {i j : Nat} {c : Arr} {r : List (Nat × Arr)} : delA ((j, c) :: r) i = if j = i then delA r i else (j, c) :: delA r i := @_root_.id (_ = _) rfl
theorem stepK_act {P : Program} {d : Option Nat} {r : List Ins} {env : Env} {st : St} {Q : Post} (g : ActK) (xs : List Opd) : stepK P d r Q env st (.act g xs) (some true) = afterK P d r Q env (actV g (xs.map (·.get env)) st) := by rw [stepK_true]; rfl
theorem actV_mkmap {st : St} : actV .mkmap [] st = some (.mp st.nx, ⟨st.nx + 1, st.mem, st.arr, ⟨(st.nx, .map []) :: st.x.obj, st.x.gl, st.x.ty⟩⟩) := @_root_.id (_ = _) rfl
def lookB (st : St) (z : V) (ok : Bool) : Option (Option (Nat × V)) → Option (V × St)
 | some (some (_, v)) => some (if ok = true then .tup [v, .bool true] else v, st)
 | some none => some (if ok = true then .tup [z, .bool false] else z, st)
 | none => none
def lookA (st : St) (q : KT) (z : V) (ok : Bool) (k : V) : Option (List (V × V)) → Option (V × St)
 | some es => if keyV q k = true then lookB st z ok (findV k es 0) else none
 | none => none
theorem actV_look {st : St} {q : KT} {z m k : V} {ok : Bool} : actV (.look q z ok) [m, k] st = lookA st q z ok k (mapOf st m) := by
 unfold actV lookA lookB
 rfl
theorem lookA_some {st : St} {q : KT} {z k : V} {ok : Bool} {es : List (V × V)} : lookA st q z ok k (some es) = if keyV q k = true then lookB st z ok (findV k es 0) else none := @_root_.id (_ = _) rfl
theorem lookB_hit {st : St} {z v : V} {ok : Bool} {i : Nat} : lookB st z ok (some (some (i, v))) = some (if ok = true then .tup [v, .bool true] else v, st) := @_root_.id (_ = _) rfl
theorem lookB_miss {st : St} {z : V} {ok : Bool} : lookB st z ok (some none) = some (if ok = true then .tup [z, .bool false] else z, st) := @_root_.id (_ = _) rfl
def mapD : Option Ob → Option (List (V × V))
 | some (.map es) => some es
 | _ => none
theorem mapOf_mp {st : St} {id : Nat} : mapOf st (.mp id) = mapD (look st.x.obj id) := by
 unfold mapOf mapD; rfl
theorem mapOf_nilm {st : St} : mapOf st .nilm = some [] := @_root_.id (_ = _) rfl
theorem mapD_some {es : List (V × V)} : mapD (some (.map es)) = some es := @_root_.id (_ = _) rfl
def msetB (st : St) (id : Nat) (es : List (V × V)) (k v : V) : Option (Option (Nat × V)) → Option (V × St)
 | some r => some (.und, ⟨st.nx, st.mem, st.arr, ⟨updO st.x.obj id (.map (putM es k v r)), st.x.gl, st.x.ty⟩⟩)
 | none => none
def msetA (st : St) (q : KT) (id : Nat) (k v : V) : Option (List (V × V)) → Option (V × St)
 | some es => if keyV q k = true then msetB st id es k v (findV k es 0) else none
 | none => none
theorem actV_mset {st : St} {q : KT} {id : Nat} {k v : V} : actV (.mset q) [.mp id, k, v] st = msetA st q id k v (mapD (look st.x.obj id)) := by
 unfold actV msetA mapD msetB
 simp only
 cases look st.x.obj id with
 | none => rfl
 | some o => cases o <;> rfl
theorem msetA_some {st : St} {q : KT} {id : Nat} {k v : V} {es : List (V × V)} : msetA st q id k v (some es) = if keyV q k = true then msetB st id es k v (findV k es 0) else none := @_root_.id (_ = _) rfl
theorem msetB_some {st : St} {id : Nat} {es : List (V × V)} {k v : V} {r : Option (Nat × V)} : msetB st id es k v (some r) = some (.und, ⟨st.nx, st.mem, st.arr, ⟨updO st.x.obj id (.map (putM es k v r)), st.x.gl, st.x.ty⟩⟩) := @_root_.id (_ = _) rfl
def mlenA (st : St) : Option (List (V × V)) → Option (V × St)
 | some es => some (.int .i64 es.length, st)
 | none => none
theorem actV_mlen {st : St} {m : V} : actV .mlen [m] st = mlenA st (mapOf st m) := by unfold actV mlenA; rfl
theorem mlenA_some {st : St} {es : List (V × V)} : mlenA st (some es) = some (.int .i64 es.length, st) := @_root_.id (_ = _) rfl
theorem keyV_i {q : IntKind} {n : Int} : keyV (.i q) (.int q n) = true := by simp [keyV]
theorem keyV_s {x : List UInt8} : keyV .s (.str x) = true := @_root_.id (_ = _) rfl
theorem keyV_b {x : Bool} : keyV .b (.bool x) = true := @_root_.id (_ = _) rfl
theorem putM_none {es : List (V × V)} {k v : V} : putM es k v none = es ++ [(k, v)] := @_root_.id (_ = _) rfl
theorem putM_some {es : List (V × V)} {k v u : V} {i : Nat} : putM es k v (some (i, u)) = es.set i (k, v) := @_root_.id (_ = _) rfl
theorem updO_cons {i j : Nat} {o c : Ob} {r : List (Nat × Ob)} : updO ((j, c) :: r) i o = if j = i then (j, o) :: r else (j, c) :: updO r i o := @_root_.id (_ = _) rfl
theorem findV_nil {k : V} {i : Nat} : findV k [] i = some none := @_root_.id (_ = _) rfl
def luk (s : List UInt8) : List (List UInt8 × V) → Nat → Option (Nat × V)
 | [], _ => none
 | p :: r, i => if s = p.1 then some (i, p.2) else luk s r (i + 1)
theorem findV_strs (s : List UInt8) : ∀ (l : List (List UInt8 × V)) (i : Nat), findV (.str s) (l.map fun p => (V.str p.1, p.2)) i = some (luk s l i)
 | [], _ => rfl
 | p :: r, i => by
  simp only [List.map_cons, findV, sameV, luk]
  by_cases h : s = p.1
  ·rw [if_pos h, h]; simp
  ·rw [if_neg h, show (s == p.1) = false by simpa using h]
   exact findV_strs s r (i + 1)
theorem genV_mn {k : IntKind} {a b : Int} : genV .mn [.int k a, .int k b] = some (.int k (if b < a then b else a)) := by simp [genV, minV]
theorem genV_mx {k : IntKind} {a b : Int} : genV .mx [.int k a, .int k b] = some (.int k (if b > a then b else a)) := by simp [genV, maxV]
theorem genV_eqn {ne : Bool} : genV (.eqi ne) [.nili] = some (.bool (!ne)) := @_root_.id (_ = _) rfl
theorem genV_eqi {ne : Bool} {t : TypeId} {v : V} : genV (.eqi ne) [.iface t v] = some (.bool ne) := @_root_.id (_ = _) rfl
def sliceS (s : List UInt8) : Option Nat → Option Nat → Option V
 | some l, some h => if l ≤ h ∧ h ≤ s.length then some (.str ((s.take h).drop l)) else none
 | _, _ => none
theorem sliceStr_eq {s : List UInt8} {lo hi : Option V} : sliceStr (.str s) lo hi = sliceS s (optN 0 lo) (optN s.length hi) := by
 unfold sliceStr sliceS boundsV
 simp only
 generalize optN 0 lo = a
 generalize optN s.length hi = b
 cases a with
 | none => rfl
 | some a =>
  cases b with
  | none => rfl
  | some b =>
   simp only
   by_cases h : a ≤ b ∧ b ≤ s.length
   ·rw [if_pos h, if_pos h]
   ·rw [if_neg h, if_neg h]
theorem sliceS_some {s : List UInt8} {l h : Nat} : sliceS s (some l) (some h) = if l ≤ h ∧ h ≤ s.length then some (.str ((s.take h).drop l)) else none := @_root_.id (_ = _) rfl
theorem optN_none {z : Nat} : optN z none = some z := @_root_.id (_ = _) rfl
theorem optN_some {z : Nat} {v : V} : optN z (some v) = natV v := @_root_.id (_ = _) rfl
theorem fillV_nil {st : St} {cells : List V} : fillV st cells [] = some cells := @_root_.id (_ = _) rfl
theorem fillV_cons {st : St} {cells : List V} {off n : Nat} {v : V} {r : List (Nat × Nat × V)} : fillV st cells ((off, n, v) :: r) = if partOk st v = true ∧ v.cells.length = n ∧ off + n ≤ cells.length then fillV st (cells.take off ++ v.cells ++ cells.drop (off + n)) r else none := @_root_.id (_ = _) rfl
theorem partOk_bool {st : St} {b : Bool} : partOk st (.bool b) = true := @_root_.id (_ = _) rfl
theorem partOk_int {st : St} {k : IntKind} {n : Int} : partOk st (.int k n) = true := @_root_.id (_ = _) rfl
theorem partOk_str {st : St} {s : List UInt8} : partOk st (.str s) = true := @_root_.id (_ = _) rfl
theorem partOk_nilp {st : St} : partOk st .nilp = true := @_root_.id (_ = _) rfl
theorem partOk_ptr {st : St} {i o : Nat} : partOk st (.ptr i o) = true := @_root_.id (_ = _) rfl
theorem partOk_nils {st : St} : partOk st .nils = true := @_root_.id (_ = _) rfl
theorem partOk_sl {st : St} {xs : List V} : partOk st (.sl xs) = true := @_root_.id (_ = _) rfl
theorem partOk_clip {st : St} {xs : List V} : partOk st (.clip xs) = true := @_root_.id (_ = _) rfl
theorem partOk_agg {st : St} {cs : List V} : partOk st (.agg cs) = true := @_root_.id (_ = _) rfl
theorem partOk_fn {st : St} {f : Fn} {a b : List V} : partOk st (.fn f a b) = true := @_root_.id (_ = _) rfl
theorem partOk_nilf {st : St} : partOk st .nilf = true := @_root_.id (_ = _) rfl
theorem partOk_iface {st : St} {t : TypeId} {v : V} : partOk st (.iface t v) = true := @_root_.id (_ = _) rfl
theorem partOk_nili {st : St} : partOk st .nili = true := @_root_.id (_ = _) rfl
theorem partOk_ep {st : St} {x : V} {o : Nat} : partOk st (.ep x o) = true := @_root_.id (_ = _) rfl
def partA (n : Nat) : Option Arr → Bool
 | some a => a.xs.length == n
 | none => false
theorem partOk_osl {st : St} {i n : Nat} : partOk st (.osl i n) = partA n (look st.arr i) := by unfold partOk partA; rfl
theorem partA_some {n : Nat} {a : Arr} : partA n (some a) = (a.xs.length == n) := @_root_.id (_ = _) rfl
theorem cells_bool {b : Bool} : (V.bool b).cells = [.bool b] := @_root_.id (_ = _) rfl
theorem cells_int {k : IntKind} {n : Int} : (V.int k n).cells = [.int k n] := @_root_.id (_ = _) rfl
theorem cells_str {s : List UInt8} : (V.str s).cells = [.str s] := @_root_.id (_ = _) rfl
theorem cells_nilp : V.nilp.cells = [.nilp] := @_root_.id (_ = _) rfl
theorem cells_ptr {i o : Nat} : (V.ptr i o).cells = [.ptr i o] := @_root_.id (_ = _) rfl
theorem cells_nils : V.nils.cells = [.nils] := @_root_.id (_ = _) rfl
theorem cells_sl {xs : List V} : (V.sl xs).cells = [.sl xs] := @_root_.id (_ = _) rfl
theorem cells_clip {xs : List V} : (V.clip xs).cells = [.clip xs] := @_root_.id (_ = _) rfl
theorem cells_osl {i n : Nat} : (V.osl i n).cells = [.osl i n] := @_root_.id (_ = _) rfl
theorem cells_agg {cs : List V} : (V.agg cs).cells = cs := @_root_.id (_ = _) rfl
theorem cells_fn {f : Fn} {a b : List V} : (V.fn f a b).cells = [.fn f a b] := @_root_.id (_ = _) rfl
theorem cells_nilf : V.nilf.cells = [.nilf] := @_root_.id (_ = _) rfl
theorem cells_iface {t : TypeId} {v : V} : (V.iface t v).cells = [.iface t v] := @_root_.id (_ = _) rfl
theorem cells_nili : V.nili.cells = [.nili] := @_root_.id (_ = _) rfl
theorem cells_ep {x : V} {o : Nat} : (V.ep x o).cells = [.ep x o] := @_root_.id (_ = _) rfl
theorem eqsV_agg {ne : Bool} {ks : List Kd} {a b : List V} : eqsV ne ks (.agg a) (.agg b) = (eqCells ks a b).map fun r => .bool (if ne then !r else r) := @_root_.id (_ = _) rfl
def and2 : Option Bool → Option Bool → Option Bool
 | some x, some y => some (x && y)
 | _, _ => none
theorem and2_some {x y : Bool} : and2 (some x) (some y) = some (x && y) := @_root_.id (_ = _) rfl
theorem eqCells_nil : eqCells [] [] [] = some true := @_root_.id (_ = _) rfl
theorem eqCells_cons {k : Kd} {ks : List Kd} {a b : V} {r s : List V} : eqCells (k :: ks) (a :: r) (b :: s) = and2 (eqCell k a b) (eqCells ks r s) := by
 simp only [eqCells]; unfold and2; cases eqCell k a b <;> cases eqCells ks r s <;> rfl
theorem eqCell_b {a b : Bool} : eqCell .b (.bool a) (.bool b) = some (a == b) := @_root_.id (_ = _) rfl
theorem eqCell_i {k : IntKind} {a b : Int} : eqCell .i (.int k a) (.int k b) = some (a == b) := by simp [eqCell]
theorem eqCell_s {a b : List UInt8} : eqCell .s (.str a) (.str b) = some (a == b) := @_root_.id (_ = _) rfl
theorem lenV_sl {st : St} {xs : List V} : lenV st (.sl xs) = some (.int .i64 xs.length) := @_root_.id (_ = _) rfl
theorem lenV_clip {st : St} {xs : List V} : lenV st (.clip xs) = some (.int .i64 xs.length) := @_root_.id (_ = _) rfl
theorem lenV_nils {st : St} : lenV st .nils = some (.int .i64 0) := @_root_.id (_ = _) rfl
def elemsA (n : Nat) : Option Arr → Option (List V)
 | some a => if a.xs.length = n then some a.xs else none
 | none => none
theorem elemsA_some {n : Nat} {a : Arr} : elemsA n (some a) = if a.xs.length = n then some a.xs else none := @_root_.id (_ = _) rfl
theorem elemsV_osl {st : St} {i n : Nat} : elemsV st (.osl i n) = elemsA n (look st.arr i) := by unfold elemsV elemsA; rfl
theorem elemsV_sl {st : St} {xs : List V} : elemsV st (.sl xs) = some xs := @_root_.id (_ = _) rfl
theorem elemsV_clip {st : St} {xs : List V} : elemsV st (.clip xs) = some xs := @_root_.id (_ = _) rfl
theorem elemsV_nils {st : St} : elemsV st .nils = some [] := @_root_.id (_ = _) rfl
theorem lenV_osl {st : St} {i n : Nat} : lenV st (.osl i n) = (elemsA n (look st.arr i)).map fun xs => .int .i64 xs.length := by rw [← elemsV_osl]; rfl
def epX (es : Nat) : Option V → Option V
 | some x => if x.cells.length = es then some (.ep x 0) else none
 | none => none
theorem epX_some {es : Nat} {x : V} : epX es (some x) = if x.cells.length = es then some (.ep x 0) else none := @_root_.id (_ = _) rfl
def iadrA (es m j id : Nat) : Option Arr → Option V
 | some a => if a.xs.length = m ∧ a.es = es ∧ j < m then some (.op id m j es 0) else none
 | none => none
theorem iadrA_some {es m j id : Nat} {a : Arr} : iadrA es m j id (some a) = if a.xs.length = m ∧ a.es = es ∧ j < m then some (.op id m j es 0) else none := @_root_.id (_ = _) rfl
def iadrN (st : St) (es : Nat) (x : V) : Option Nat → Option V
 | some j => match x with
  | .sl xs => epV es xs j
  | .clip xs => epV es xs j
  | .osl id m => iadrA es m j id (look st.arr id)
  | _ => none
 | none => none
theorem iadrV_eq {st : St} {es : Nat} {x i : V} : iadrV st es x i = iadrN st es x (natV i) := by
 unfold iadrV iadrN iadrA; cases natV i <;> rfl
theorem iadrN_sl {st : St} {es j : Nat} {xs : List V} : iadrN st es (.sl xs) (some j) = epX es xs[j]? := by unfold iadrN epV epX; rfl
theorem iadrN_clip {st : St} {es j : Nat} {xs : List V} : iadrN st es (.clip xs) (some j) = epX es xs[j]? := by unfold iadrN epV epX; rfl
theorem iadrN_osl {st : St} {es j id m : Nat} : iadrN st es (.osl id m) (some j) = iadrA es m j id (look st.arr id) := @_root_.id (_ = _) rfl
def loadX (n : Option Nat) (off : Nat) : Option V → Option V
 | some x => rd n x.cells off
 | none => none
theorem loadX_some {n : Option Nat} {off : Nat} {x : V} : loadX n off (some x) = rd n x.cells off := @_root_.id (_ = _) rfl
def loadA (n : Option Nat) (m i es off : Nat) : Option Arr → Option V
 | some a => if a.xs.length = m ∧ a.es = es then loadX n off a.xs[i]? else none
 | none => none
theorem loadV_op {st : St} {n : Option Nat} {id m i es off : Nat} : loadV st n (.op id m i es off) = loadA n m i es off (look st.arr id) := by
 unfold loadV loadA loadX; rfl
theorem loadA_some {n : Option Nat} {m i es off : Nat} {a : Arr} : loadA n m i es off (some a) = if a.xs.length = m ∧ a.es = es then loadX n off a.xs[i]? else none := @_root_.id (_ = _) rfl
def aliveA (n i : Nat) : Option Arr → Bool
 | some a => a.xs.length == n && decide (i < n)
 | none => false
theorem aliveB_A {st : St} {id n i : Nat} : aliveB st id n i = aliveA n i (look st.arr id) := by unfold aliveB aliveA; rfl
theorem aliveA_some {n i : Nat} {a : Arr} : aliveA n i (some a) = (a.xs.length == n && decide (i < n)) := @_root_.id (_ = _) rfl
def fixedA (n es : Nat) : Option Arr → Option (List V)
 | some a => if a.xs.length = n ∧ a.wr = false ∧ a.es = es then some a.xs else none
 | none => none
theorem fixedA_some {n es : Nat} {a : Arr} : fixedA n es (some a) = if a.xs.length = n ∧ a.wr = false ∧ a.es = es then some a.xs else none := @_root_.id (_ = _) rfl
theorem fixedV_sl {st : St} {es : Nat} {xs : List V} : fixedV st es (.sl xs) = if xs.all (fun x => x.cells.length == es) then some xs else none := @_root_.id (_ = _) rfl
theorem fixedV_clip {st : St} {es : Nat} {xs : List V} : fixedV st es (.clip xs) = if xs.all (fun x => x.cells.length == es) then some xs else none := @_root_.id (_ = _) rfl
theorem fixedV_nils {st : St} {es : Nat} : fixedV st es .nils = some [] := @_root_.id (_ = _) rfl
theorem fixedV_osl {st : St} {es i n : Nat} : fixedV st es (.osl i n) = fixedA n es (look st.arr i) := by unfold fixedV fixedA; rfl
def sliceE (xs : List V) (mx : Option V) : Option Nat → Option Nat → Option V
 | some l, some h => if l ≤ h ∧ h ≤ xs.length then match mx with
   | none => some (.sl ((xs.take h).drop l))
   | some v => if natV v = some h then some (.clip ((xs.take h).drop l)) else none
  else none
 | _, _ => none
def sliceX (lo hi mx : Option V) : Option (List V) → Option V
 | some xs => sliceE xs mx (optN 0 lo) (optN xs.length hi)
 | none => none
theorem sliceV_eq {st : St} {es : Nat} {x : V} {lo hi mx : Option V} : sliceV st es x lo hi mx = sliceX lo hi mx (fixedV st es x) := by
 unfold sliceV sliceX sliceE boundsV
 cases fixedV st es x with
 | none => rfl
 | some xs =>
  simp only
  generalize optN 0 lo = a
  generalize optN xs.length hi = b
  cases a <;> cases b <;> simp only
  rename_i a b
  by_cases h : a ≤ b ∧ b ≤ xs.length
  ·rw [if_pos h, if_pos h]
   rfl
  ·rw [if_neg h, if_neg h]
theorem sliceX_some {lo hi mx : Option V} {xs : List V} : sliceX lo hi mx (some xs) = sliceE xs mx (optN 0 lo) (optN xs.length hi) := @_root_.id (_ = _) rfl
theorem sliceE_none {xs : List V} {l h : Nat} : sliceE xs none (some l) (some h) = if l ≤ h ∧ h ≤ xs.length then some (.sl ((xs.take h).drop l)) else none := @_root_.id (_ = _) rfl
theorem sliceE_some {xs : List V} {l h : Nat} {v : V} : sliceE xs (some v) (some l) (some h) = if l ≤ h ∧ h ≤ xs.length then (if natV v = some h then some (.clip ((xs.take h).drop l)) else none) else none := @_root_.id (_ = _) rfl
theorem mapO_nil {f : V → Option V} : mapO f [] = some [] := @_root_.id (_ = _) rfl
def consO : Option V → Option (List V) → Option (List V)
 | some y, some ys => some (y :: ys)
 | _, _ => none
theorem mapO_cons {f : V → Option V} {x : V} {r : List V} : mapO f (x :: r) = consO (f x) (mapO f r) := by
 simp only [mapO]; unfold consO; rfl
theorem consO_some {y : V} {ys : List V} : consO (some y) (some ys) = some (y :: ys) := @_root_.id (_ = _) rfl
theorem snapA_agg {st : St} {cs : List V} : snapA st (.agg cs) = (mapO (snap1 st) cs).map .agg := @_root_.id (_ = _) rfl
theorem snapA_bool {st : St} {b : Bool} : snapA st (.bool b) = some (.bool b) := @_root_.id (_ = _) rfl
theorem snapA_int {st : St} {k : IntKind} {n : Int} : snapA st (.int k n) = some (.int k n) := @_root_.id (_ = _) rfl
theorem snapA_str {st : St} {s : List UInt8} : snapA st (.str s) = some (.str s) := @_root_.id (_ = _) rfl
theorem snapA_sl {st : St} {xs : List V} : snapA st (.sl xs) = some (.sl xs) := @_root_.id (_ = _) rfl
theorem snapA_nils {st : St} : snapA st .nils = some (.sl []) := @_root_.id (_ = _) rfl
theorem snapA_clip {st : St} {xs : List V} : snapA st (.clip xs) = some (.sl xs) := @_root_.id (_ = _) rfl
theorem snapA_nilp {st : St} : snapA st .nilp = some .nilp := @_root_.id (_ = _) rfl
theorem snapA_ptr {st : St} {i o : Nat} : snapA st (.ptr i o) = some (.ptr i o) := @_root_.id (_ = _) rfl
theorem snapA_nili {st : St} : snapA st .nili = some .nili := @_root_.id (_ = _) rfl
theorem snapA_iface {st : St} {t : TypeId} {v : V} : snapA st (.iface t v) = some (.iface t v) := @_root_.id (_ = _) rfl
theorem snap1_bool {st : St} {b : Bool} : snap1 st (.bool b) = some (.bool b) := @_root_.id (_ = _) rfl
theorem snap1_int {st : St} {k : IntKind} {n : Int} : snap1 st (.int k n) = some (.int k n) := @_root_.id (_ = _) rfl
theorem snap1_str {st : St} {s : List UInt8} : snap1 st (.str s) = some (.str s) := @_root_.id (_ = _) rfl
theorem snap1_sl {st : St} {xs : List V} : snap1 st (.sl xs) = some (.sl xs) := @_root_.id (_ = _) rfl
theorem snap1_nils {st : St} : snap1 st .nils = some (.sl []) := @_root_.id (_ = _) rfl
theorem snap1_clip {st : St} {xs : List V} : snap1 st (.clip xs) = some (.sl xs) := @_root_.id (_ = _) rfl
theorem snap1_nilp {st : St} : snap1 st .nilp = some .nilp := @_root_.id (_ = _) rfl
theorem snap1_ptr {st : St} {i o : Nat} : snap1 st (.ptr i o) = some (.ptr i o) := @_root_.id (_ = _) rfl
theorem snap1_nili {st : St} : snap1 st .nili = some .nili := @_root_.id (_ = _) rfl
theorem snap1_iface {st : St} {t : TypeId} {v : V} : snap1 st (.iface t v) = some (.iface t v) := @_root_.id (_ = _) rfl
def snapO (n : Nat) : Option Arr → Option V
 | some a => if a.xs.length = n ∧ a.wr = false then some (.sl a.xs) else none
 | none => none
theorem snapO_some {n : Nat} {a : Arr} : snapO n (some a) = if a.xs.length = n ∧ a.wr = false then some (.sl a.xs) else none := @_root_.id (_ = _) rfl
theorem snap1_osl {st : St} {i n : Nat} : snap1 st (.osl i n) = snapO n (look st.arr i) := by unfold snap1 snapO; rfl
theorem snapA_osl {st : St} {i n : Nat} : snapA st (.osl i n) = snapO n (look st.arr i) := snap1_osl
theorem snapV_tup {st : St} {vs : List V} : snapV st (.tup vs) = (mapO (snapA st) vs).map .tup := @_root_.id (_ = _) rfl
theorem snapV_agg {st : St} {vs : List V} : snapV st (.agg vs) = snapA st (.agg vs) := @_root_.id (_ = _) rfl
theorem snapV_osl {st : St} {i n : Nat} : snapV st (.osl i n) = snapO n (look st.arr i) := snap1_osl
def appS (st : St) (e es bytes : Nat) (s : V) : Option (List V) → Option (V × St)
 | some ys => if ys.all (fun y => y.cells.length == es) = true then appG st e es bytes ys s else none
 | none => none
def appY (st : St) (e es bytes : Nat) (s : V) : Option (List V) → Option (V × St)
 | some ys => appS st e es bytes s (mapO (snapA st) ys)
 | none => none
theorem appendV_eq {st : St} {e es bytes : Nat} {s x : V} : appendV st e es bytes s x = appY st e es bytes s (elemsV st x) := by
 unfold appendV appY appS
 cases elemsV st x with
 | none => rfl
 | some ys =>
  simp only
  cases mapO (snapA st) ys <;> rfl
theorem appY_some {st : St} {e es bytes : Nat} {s : V} {ys : List V} : appY st e es bytes s (some ys) = appS st e es bytes s (mapO (snapA st) ys) := @_root_.id (_ = _) rfl
theorem appS_some {st : St} {e es bytes : Nat} {s : V} {ys : List V} : appS st e es bytes s (some ys) = if ys.all (fun y => y.cells.length == es) = true then appG st e es bytes ys s else none := @_root_.id (_ = _) rfl
theorem appG_osl {st : St} {e es bytes id n : Nat} {ys : List V} : appG st e es bytes ys (.osl id n) = appA st e es bytes id n ys (look st.arr id) := @_root_.id (_ = _) rfl
theorem appG_nils {st : St} {e es bytes : Nat} {ys : List V} : appG st e es bytes ys .nils = if roomV ys.length bytes = true then
   some (.osl st.nx ys.length, ⟨st.nx + 1, st.mem, (st.nx, ⟨e, es, ys, false, false⟩) :: st.arr, st.x⟩) else none := @_root_.id (_ = _) rfl
theorem appG_clip {st : St} {e es bytes : Nat} {xs ys : List V} : appG st e es bytes ys (.clip xs) = if roomV (xs.length + ys.length) bytes = true ∧ xs.all (fun y => y.cells.length == es) = true ∧ 0 < ys.length then
   some (.osl st.nx (xs.length + ys.length), ⟨st.nx + 1, st.mem, (st.nx, ⟨e, es, xs ++ ys, false, false⟩) :: st.arr, st.x⟩) else none := @_root_.id (_ = _) rfl
theorem appA_some {st : St} {e es bytes id n : Nat} {ys : List V} {r : Arr} : appA st e es bytes id n ys (some r) = if r.xs.length = n ∧ r.e = e ∧ r.es = es ∧ r.fz = false ∧ roomV (n + ys.length) bytes = true then
   some (.osl id (n + ys.length), ⟨st.nx, st.mem, updA st.arr id ⟨r.e, r.es, r.xs ++ ys, r.wr, r.fz⟩, st.x⟩) else none := @_root_.id (_ = _) rfl
theorem updA_cons {i j : Nat} {c cs : Arr} {r : List (Nat × Arr)} : updA ((j, c) :: r) i cs = if j = i then (j, cs) :: r else (j, c) :: updA r i cs := @_root_.id (_ = _) rfl
theorem updA_updA {id : Nat} {a b : Arr} : ∀ {l : List (Nat × Arr)}, updA (updA l id a) id b = updA l id b
 | [] => rfl
 | (j, c) :: r => by
  simp only [updA]
  by_cases h : j = id
  ·simp [h, updA]
  ·simp [h, updA, updA_updA]
theorem cells_bV {b : UInt8} : (bV b).cells = [.int .u8 b.toNat] := @_root_.id (_ = _) rfl
theorem recell_bV {b : UInt8} {k : IntKind} {n : Int} : (bV b).recell [.int k n] = some (.int k n) := @_root_.id (_ = _) rfl
theorem bdL_bV {n : Nat} : ∀ {l : List UInt8}, V.bdL n (l.map bV) = true
 | [] => rfl
 | _ :: l => by simp only [List.map_cons, V.bdL, bdL_bV, Bool.and_true]; rfl
def bsG (st : St) (e es : Nat) : Option (List V) → Option (V × St)
 | some ys => if ys.all (fun y => partOk st y && y.cells.length == es) = true then some (.osl st.nx ys.length, ⟨st.nx + 1, st.mem, (st.nx, ⟨e, es, ys, false, false⟩) :: st.arr, st.x⟩) else none
 | none => none
theorem bsliceV_eq {e es : Nat} {xs : List V} {st : St} : bsliceV e es xs st = bsG st e es (mapO (snapA st) xs) := by unfold bsliceV bsG newArr; rfl
theorem bsG_some {st : St} {e es : Nat} {ys : List V} : bsG st e es (some ys) = if ys.all (fun y => partOk st y && y.cells.length == es) = true then some (.osl st.nx ys.length, ⟨st.nx + 1, st.mem, (st.nx, ⟨e, es, ys, false, false⟩) :: st.arr, st.x⟩) else none := @_root_.id (_ = _) rfl
theorem cvsbV_str {e : TypeId} {s : List UInt8} {st : St} : cvsbV e (.str s) st = if s.length ≤ maxLen then some (.osl st.nx (s.map bV).length, ⟨st.nx + 1, st.mem, (st.nx, ⟨e, 1, s.map bV, true, true⟩) :: st.arr, st.x⟩) else none := @_root_.id (_ = _) rfl
def mkG (st : St) (e es bytes : Nat) : Option Nat → Option Nat → Option V → Option (V × St)
 | some l, some c, some y => if l ≤ c ∧ roomV c bytes = true ∧ y.cells.length = es then some (.osl st.nx (List.replicate l y).length, ⟨st.nx + 1, st.mem, (st.nx, ⟨e, es, List.replicate l y, true, false⟩) :: st.arr, st.x⟩) else none
 | _, _, _ => none
theorem mksliceV_eq {e es bytes : Nat} {b : Bool} {z : List V} {l c : V} {st : St} : mksliceV e es bytes b z l c st = mkG st e es bytes (natV l) (natV c) (elemZ b z) := by unfold mksliceV mkG newArr; rfl
theorem mkG_some {st : St} {e es bytes l c : Nat} {y : V} : mkG st e es bytes (some l) (some c) (some y) = if l ≤ c ∧ roomV c bytes = true ∧ y.cells.length = es then some (.osl st.nx (List.replicate l y).length, ⟨st.nx + 1, st.mem, (st.nx, ⟨e, es, List.replicate l y, true, false⟩) :: st.arr, st.x⟩) else none := @_root_.id (_ = _) rfl
theorem elemZ_true {z : List V} : elemZ true z = some (.agg z) := @_root_.id (_ = _) rfl
theorem elemZ_int {k : IntKind} {n : Int} : elemZ false [.int k n] = some (.int k n) := @_root_.id (_ = _) rfl
theorem elemZ_bool {b : Bool} : elemZ false [.bool b] = some (.bool b) := @_root_.id (_ = _) rfl
theorem elemZ_str {s : List UInt8} : elemZ false [.str s] = some (.str s) := @_root_.id (_ = _) rfl
theorem elemZ_nils : elemZ false [.nils] = some .nils := @_root_.id (_ = _) rfl
def stM (st : St) (id off n : Nat) (x : V) : Option (List V) → Option St
 | some cs => if off + n ≤ cs.length then some ⟨st.nx, updM st.mem id (cs.take off ++ x.cells ++ cs.drop (off + n)), st.arr, st.x⟩ else none
 | none => none
theorem stM_some {st : St} {id off n : Nat} {x : V} {cs : List V} : stM st id off n x (some cs) = if off + n ≤ cs.length then some ⟨st.nx, updM st.mem id (cs.take off ++ x.cells ++ cs.drop (off + n)), st.arr, st.x⟩ else none := @_root_.id (_ = _) rfl
theorem storeV_ptr {st : St} {n id off : Nat} {x : V} : storeV st n (.ptr id off) x = if partOk st x = true ∧ x.cells.length = n then stM st id off n x (look st.mem id) else none := by unfold storeV stM; rfl
def recA (st : St) (id i : Nat) (r : Arr) : Option V → Option St
 | some y' => some ⟨st.nx, st.mem, updA st.arr id ⟨r.e, r.es, r.xs.set i y', r.wr, r.fz⟩, st.x⟩
 | none => none
theorem recA_some {st : St} {id i : Nat} {r : Arr} {y : V} : recA st id i r (some y) = some ⟨st.nx, st.mem, updA st.arr id ⟨r.e, r.es, r.xs.set i y, r.wr, r.fz⟩, st.x⟩ := @_root_.id (_ = _) rfl
def stX (st : St) (id i off n : Nat) (r : Arr) : Option V → Option V → Option St
 | some y, some x => recA st id i r (y.recell (y.cells.take off ++ x.cells ++ y.cells.drop (off + n)))
 | _, _ => none
theorem stX_some {st : St} {id i off n : Nat} {r : Arr} {y x : V} : stX st id i off n r (some y) (some x) = recA st id i r (y.recell (y.cells.take off ++ x.cells ++ y.cells.drop (off + n))) := @_root_.id (_ = _) rfl
def stA (st : St) (n id m i es off : Nat) (x : V) : Option Arr → Option St
 | some r => if r.xs.length = m ∧ r.es = es ∧ r.wr = true ∧ off + n ≤ es then stX st id i off n r r.xs[i]? (snapA st x) else none
 | none => none
theorem stA_some {st : St} {n id m i es off : Nat} {x : V} {r : Arr} : stA st n id m i es off x (some r) = if r.xs.length = m ∧ r.es = es ∧ r.wr = true ∧ off + n ≤ es then stX st id i off n r r.xs[i]? (snapA st x) else none := @_root_.id (_ = _) rfl
theorem storeV_op {st : St} {n id m i es off : Nat} {x : V} : storeV st n (.op id m i es off) x = if partOk st x = true ∧ x.cells.length = n then stA st n id m i es off x (look st.arr id) else none := by
 unfold storeV stA stX recA
 split
 ·simp only
  generalize look st.arr id = o
  cases o with
  | none => rfl
  | some r =>
   simp only
   split
   ·generalize r.xs[i]? = a
    generalize snapA st x = b
    cases a <;> cases b <;> simp only
    rename_i a b
    cases a.recell (a.cells.take off ++ b.cells ++ a.cells.drop (off + n)) <;> rfl
   ·rfl
 ·rfl
theorem recell_int {k : IntKind} {n : Int} {c : V} {k' : IntKind} {n' : Int} : (V.int k n).recell [.int k' n'] = some (.int k' n') := @_root_.id (_ = _) rfl
theorem recell_agg {cs ds : List V} : (V.agg cs).recell ds = some (.agg ds) := @_root_.id (_ = _) rfl
theorem recell_str {s t : List UInt8} : (V.str s).recell [.str t] = some (.str t) := @_root_.id (_ = _) rfl
theorem recell_bool {s t : Bool} : (V.bool s).recell [.bool t] = some (.bool t) := @_root_.id (_ = _) rfl
def strO : Option (List V) → Option V
 | some xs => (bytesV xs).map .str
 | none => none
theorem cvbsV_eq {st : St} {x : V} : cvbsV st x = strO (elemsV st x) := by unfold cvbsV strO; rfl
theorem strO_some {xs : List V} : strO (some xs) = (bytesV xs).map .str := @_root_.id (_ = _) rfl
theorem bytesV_bV : ∀ {l : List UInt8}, bytesV (l.map bV) = some l
 | [] => rfl
 | b :: l => by
  have e : byteV (bV b) = some b := by simp [byteV, bV]
  simp only [List.map_cons, bytesV, e, bytesV_bV (l := l)]
theorem resV_nil {env : Env} {st : St} : resV env st [] = some [] := @_root_.id (_ = _) rfl
theorem resV_tmp {env : Env} {st : St} {t : Nat} {r : List Res} : resV env st (.tmp t :: r) = consO (look env t) (resV env st r) := by
 unfold consO; simp only [resV]; rfl
theorem resV_cell {env : Env} {st : St} {t : Nat} {n : Option Nat} {r : List Res} : resV env st (.cell t n :: r) = consO (loadV st n ((look env t).getD .und)) (resV env st r) := by
 unfold consO; simp only [resV]; rfl
theorem resOne_0 : resOne [] = .tup [] := @_root_.id (_ = _) rfl
theorem resOne_1 {v : V} : resOne [v] = v := @_root_.id (_ = _) rfl
theorem resOne_2 {v u : V} {l : List V} : resOne (v :: u :: l) = .tup (v :: u :: l) := @_root_.id (_ = _) rfl
attribute [push_cast] genV_eqp_nn genV_eqp_pn genV_eqp_np genV_eqp_same genV_asrt genV_asrt_nil actV_newt actV_cvu cvuA_some actV_cvt cvtA_some actV_appstr appstrV_nil appstrV_cons appstrV_osl actV_usd_nils actV_usd_osl usdA_some actV_ustr_nil actV_ustr_op ustrA_some ustrB_some bytesU_map delA_cons stepK_act actV_mkmap actV_look lookA_some lookB_hit lookB_miss mapOf_mp mapOf_nilm mapD_some actV_mset msetA_some msetB_some actV_mlen mlenA_some keyV_i keyV_s keyV_b putM_none putM_some updO_cons findV_nil stepK_gen stepQ_gen stepV_gen genV_mn genV_mx genV_eqn genV_eqi Bool.bne_false Bool.bne_true List.length_append resOne_0 resOne_1 resOne_2 sliceStr_eq sliceS_some optN_none optN_some fillV_nil fillV_cons partOk_bool partOk_int partOk_str partOk_nilp partOk_ptr partOk_nils partOk_sl partOk_clip partOk_agg partOk_fn partOk_nilf partOk_iface partOk_nili partOk_ep partOk_osl partA_some cells_bool cells_int cells_str cells_nilp cells_ptr cells_nils cells_sl cells_clip cells_osl cells_agg cells_fn cells_nilf cells_iface cells_nili cells_ep eqsV_agg and2_some eqCells_nil eqCells_cons eqCell_b eqCell_i eqCell_s lenV_sl lenV_clip lenV_nils elemsA_some elemsV_osl elemsV_sl elemsV_clip elemsV_nils lenV_osl epX_some iadrA_some iadrV_eq iadrN_sl iadrN_clip iadrN_osl loadX_some loadV_op loadA_some aliveB_A aliveA_some fixedA_some fixedV_sl fixedV_clip fixedV_nils fixedV_osl sliceV_eq sliceX_some sliceE_none sliceE_some mapO_nil mapO_cons consO_some snapA_agg snapA_bool snapA_int snapA_str snapA_sl snapA_nils snapA_clip snapA_nilp snapA_ptr snapA_nili snapA_iface snap1_bool snap1_int snap1_str snap1_sl snap1_nils snap1_clip snap1_nilp snap1_ptr snap1_nili snap1_iface snapO_some snap1_osl snapA_osl snapV_tup snapV_agg snapV_osl appendV_eq appY_some appS_some appG_osl appG_nils appG_clip appA_some updA_cons updA_updA bsliceV_eq bsG_some cvsbV_str mksliceV_eq mkG_some elemZ_true elemZ_int elemZ_bool elemZ_str elemZ_nils stM_some storeV_ptr recA_some stX_some stA_some storeV_op recell_int recell_agg recell_str recell_bool cvbsV_eq strO_some resV_nil resV_tmp resV_cell and_self and_true true_and List.all_cons List.all_nil Bool.and_self Bool.true_and Bool.and_true List.length_map List.length_replicate List.getElem?_map cells_bV recell_bV bytesV_bV Nat.add_assoc Nat.add_eq_left Nat.left_eq_add
end Go.Sha
