/- Short names for what the printed tables are made of. -/
import Derived.Test.YtnondemehfkalaaGreatDoorSShaY
set_option linter.unusedSimpArgs false
set_option linter.unusedVariables false
namespace Go.Sha
abbrev Ins.s (d : Nat) (op : SOp) : Ins := ⟨some d, op, none⟩
abbrev Ins.n (op : SOp) : Ins := ⟨none, op, none⟩
abbrev Ins.y (d : Nat) (op : SOp) (a : Nat) : Ins := ⟨some d, op, some (a, true)⟩
abbrev Ins.x (d : Nat) (op : SOp) (a : Nat) : Ins := ⟨some d, op, some (a, false)⟩
abbrev Opd.i (n : Int) : Opd := .c (.int .i64 n)
abbrev Opd.w (s : List UInt8) : Opd := .c (.str s)
abbrev V.i (n : Int) : V := .int .i64 n
abbrev SOp.m (i : Nat) : SOp := .mv (.t i)
abbrev SOp.l (i : Nat) : SOp := .load none (.t i)
abbrev SOp.k (i : Nat) : SOp := .nilc (.t i)
abbrev SOp.a (n i : Nat) : SOp := .fadr n (.t i)
abbrev SOp.f (k : Nat) (l : List Opd) : SOp := .call (.c (.fn (.func k) [] [])) l
theorem beqN (n : Nat) : (n == n) = true := beq_self_eq_true n
attribute [push_cast] if_true if_false beqN
theorem n1_1 : (1 : Nat) + 1 = 2 := @_root_.id (_ = _) rfl
theorem n1_2 : (1 : Nat) + 2 = 3 := @_root_.id (_ = _) rfl
theorem n1_3 : (1 : Nat) + 3 = 4 := @_root_.id (_ = _) rfl
theorem n1_4 : (1 : Nat) + 4 = 5 := @_root_.id (_ = _) rfl
theorem n2_1 : (2 : Nat) + 1 = 3 := @_root_.id (_ = _) rfl
theorem n2_2 : (2 : Nat) + 2 = 4 := @_root_.id (_ = _) rfl
theorem n2_3 : (2 : Nat) + 3 = 5 := @_root_.id (_ = _) rfl
theorem n2_4 : (2 : Nat) + 4 = 6 := @_root_.id (_ = _) rfl
theorem n3_1 : (3 : Nat) + 1 = 4 := @_root_.id (_ = _) rfl
theorem n3_2 : (3 : Nat) + 2 = 5 := @_root_.id (_ = _) rfl
theorem n3_3 : (3 : Nat) + 3 = 6 := @_root_.id (_ = _) rfl
theorem n3_4 : (3 : Nat) + 4 = 7 := @_root_.id (_ = _) rfl
theorem n4_1 : (4 : Nat) + 1 = 5 := @_root_.id (_ = _) rfl
theorem n4_2 : (4 : Nat) + 2 = 6 := @_root_.id (_ = _) rfl
theorem n4_3 : (4 : Nat) + 3 = 7 := @_root_.id (_ = _) rfl
theorem n4_4 : (4 : Nat) + 4 = 8 := @_root_.id (_ = _) rfl
theorem n5_1 : (5 : Nat) + 1 = 6 := @_root_.id (_ = _) rfl
theorem n5_2 : (5 : Nat) + 2 = 7 := @_root_.id (_ = _) rfl
theorem n5_3 : (5 : Nat) + 3 = 8 := @_root_.id (_ = _) rfl
theorem n5_4 : (5 : Nat) + 4 = 9 := @_root_.id (_ = _) rfl
theorem n6_1 : (6 : Nat) + 1 = 7 := @_root_.id (_ = _) rfl
theorem n6_2 : (6 : Nat) + 2 = 8 := @_root_.id (_ = _) rfl
theorem n6_3 : (6 : Nat) + 3 = 9 := @_root_.id (_ = _) rfl
theorem n6_4 : (6 : Nat) + 4 = 10 := @_root_.id (_ = _) rfl
theorem n7_1 : (7 : Nat) + 1 = 8 := @_root_.id (_ = _) rfl
theorem n7_2 : (7 : Nat) + 2 = 9 := @_root_.id (_ = _) rfl
theorem n7_3 : (7 : Nat) + 3 = 10 := @_root_.id (_ = _) rfl
theorem n7_4 : (7 : Nat) + 4 = 11 := @_root_.id (_ = _) rfl
theorem n8_1 : (8 : Nat) + 1 = 9 := @_root_.id (_ = _) rfl
theorem n8_2 : (8 : Nat) + 2 = 10 := @_root_.id (_ = _) rfl
theorem n8_3 : (8 : Nat) + 3 = 11 := @_root_.id (_ = _) rfl
theorem n8_4 : (8 : Nat) + 4 = 12 := @_root_.id (_ = _) rfl
theorem n9_1 : (9 : Nat) + 1 = 10 := @_root_.id (_ = _) rfl
theorem n9_2 : (9 : Nat) + 2 = 11 := @_root_.id (_ = _) rfl
theorem n9_3 : (9 : Nat) + 3 = 12 := @_root_.id (_ = _) rfl
theorem n10_1 : (10 : Nat) + 1 = 11 := @_root_.id (_ = _) rfl
theorem n10_2 : (10 : Nat) + 2 = 12 := @_root_.id (_ = _) rfl
theorem n11_1 : (11 : Nat) + 1 = 12 := @_root_.id (_ = _) rfl
attribute [push_cast] n1_1 n1_2 n1_3 n1_4 n2_1 n2_2 n2_3 n2_4 n3_1 n3_2 n3_3 n3_4 n4_1 n4_2 n4_3 n4_4 n5_1 n5_2 n5_3 n5_4 n6_1 n6_2 n6_3 n6_4 n7_1 n7_2 n7_3 n7_4 n8_1 n8_2 n8_3 n8_4 n9_1 n9_2 n9_3 n10_1 n10_2 n11_1
theorem Sub_cons {α : Type} {n k : Nat} {x : α} {l l' : List (Nat × α)} (hk : n ≤ k) : Sub n ((k, x) :: l) l' = Sub n l l' :=
 propext ⟨fun h id y hy => by
  obtain ⟨h1, h2⟩ := h id y hy
  refine ⟨h1, ?_⟩
  simp only [look] at h2
  rwa [if_neg (by omega)] at h2, Sub.drop hk⟩
theorem ExSub_cons {n k : Nat} {o : Ob} {l : List (Nat × Ob)} {g : List (Nat × Obj)} {t : List (Nat × TypeId)} {x' : Ex} (hk : n ≤ k) : ExSub n ⟨(k, o) :: l, g, t⟩ x' = ExSub n ⟨l, g, t⟩ x' :=
 propext ⟨fun h => ⟨(Sub_cons hk).mp h.obj, h.gl, h.ty⟩, ExSub.drop hk⟩
theorem ExSub_const {n k : Nat} {o : TypeId} {l : List (Nat × Ob)} {g : List (Nat × Obj)} {t : List (Nat × TypeId)} {x' : Ex} (hk : n ≤ k) : ExSub n ⟨l, g, (k, o) :: t⟩ x' = ExSub n ⟨l, g, t⟩ x' :=
 propext ⟨fun h => ⟨h.obj, h.gl, (Sub_cons hk).mp h.ty⟩, ExSub.dropt hk⟩
attribute [simp] Sub_cons ExSub_cons ExSub_const
theorem St.Wf.z {st : St} (h : st.Wf) : Sub st.nx st.mem st.mem ∧ Sub st.nx st.arr st.arr ∧ ExSub st.nx st.x st.x ∧ ExSub st.nx ⟨st.x.obj, st.x.gl, st.x.ty⟩ st.x := ⟨h.subm, h.suba, h.subx, h.subx⟩
theorem finC {res : List Res} {st1 st' : St} {n0 : Nat} {env : Env} {vs : List V} {r : V} (hw : st'.Wf) (h1 : resV env st1 res = some vs) (h2 : r = resOne vs ∨ snapV st1 (resOne vs) = some r) (hb : r.bd st'.nx = true)
  (h : n0 ≤ st'.nx ∧ st'.nx ≤ st1.nx ∧ Sub st'.nx st1.mem st'.mem ∧ Sub st'.nx st1.arr st'.arr ∧ ExSub st'.nx st1.x st'.x) : finQ res n0 (fun x s => x = .ret r ∧ s = st') .ret env st1 :=
 finB hw h1 h2 hb h.1 h.2.1 h.2.2.1 h.2.2.2.1 h.2.2.2.2
end Go.Sha
