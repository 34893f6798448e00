/- Short names for what the printed tables are made of. -/
import Derived.Test.YtnondemehfkalaaGreatDoorShaY
set_option linter.unusedSimpArgs false
set_option linter.unusedVariables false
namespace Go.Sha
abbrev Ins.s (d : Nat) (op : SOp) : Ins := ⟨some d, op, none⟩
abbrev Ins.n (op : SOp) : Ins := ⟨none, op, none⟩
abbrev Ins.y (d : Nat) (op : SOp) (a : Nat) : Ins := ⟨some d, op, some (a, true)⟩
abbrev Ins.x (d : Nat) (op : SOp) (a : Nat) : Ins := ⟨some d, op, some (a, false)⟩
abbrev Opd.i (n : Int) : Opd := .c (.int .i64 n)
abbrev Opd.w (s : List UInt8) : Opd := .c (.str s)
abbrev V.i (n : Int) : V := .int .i64 n
abbrev SOp.m (i : Nat) : SOp := .mv (.t i)
abbrev SOp.l (i : Nat) : SOp := .load none (.t i)
abbrev SOp.k (i : Nat) : SOp := .nilc (.t i)
abbrev SOp.a (n i : Nat) : SOp := .fadr n (.t i)
abbrev SOp.f (k : Nat) (l : List Opd) : SOp := .call (.c (.fn (.func k) [] [])) l
end Go.Sha
