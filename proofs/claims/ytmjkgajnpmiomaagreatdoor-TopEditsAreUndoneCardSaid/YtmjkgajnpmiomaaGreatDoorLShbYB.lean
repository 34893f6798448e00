/- Short names for what the printed code is. -/
import Derived.Test.YtmjkgajnpmiomaaGreatDoorLShbXC
set_option linter.unusedSimpArgs false
set_option linter.unusedVariables false
namespace Go.Sha
abbrev Ins.s (d:Nat)(op:SOp):Ins:=⟨some d,op,none⟩
abbrev Ins.n (op:SOp):Ins:=⟨none,op,none⟩
abbrev Ins.y (d:Nat)(op:SOp)(a:Nat):Ins:=⟨some d,op,some (a,true)⟩
abbrev Ins.x (d:Nat)(op:SOp)(a:Nat):Ins:=⟨some d,op,some (a,false)⟩
abbrev Cd.z (l:List Nat)(a:Cd):Cd:=.frz l a
abbrev Opd.i (n:Int):Opd:=.c (.int .i64 n)
abbrev Opd.w (s:List UInt8):Opd:=.c (.str s)
abbrev V.i (n:Int):V:=.int .i64 n
abbrev SOp.m (i:Nat):SOp:=.mv (.t i)
abbrev SOp.l (i:Nat):SOp:=.load none (.t i)
abbrev SOp.k (i:Nat):SOp:=.nilc (.t i)
abbrev SOp.a (n i:Nat):SOp:=.fadr n (.t i)
abbrev SOp.f (k:Nat)(l:List Opd):SOp:=.call (.c (.fn (.func k) [] [])) l
abbrev Cd.g (l:List Ins)(b:Cd):Cd:=.seq (.reg l) b
abbrev Cd.q (a b:Cd):Cd:=.seq a b
abbrev Cd.i (n:Nat)(a b:Cd):Cd:=.cond (.t n) a b
abbrev Ins.m (d x:Nat):Ins:=⟨some d,.mv (.t x),none⟩
abbrev Ins.my (d x g:Nat):Ins:=⟨some d,.mv (.t x),some (g,true)⟩
abbrev Ins.mx (d x g:Nat):Ins:=⟨some d,.mv (.t x),some (g,false)⟩
abbrev Ins.c (d:Nat)(n:Int):Ins:=⟨some d,.mv (.c (.int .i64 n)),none⟩
abbrev Ins.k (d:Nat)(b:Bool):Ins:=⟨some d,.mv (.c (.bool b)),none⟩
abbrev Ins.l (d x:Nat):Ins:=⟨some d,.load none (.t x),none⟩
abbrev Ins.ly (d x g:Nat):Ins:=⟨some d,.load none (.t x),some (g,true)⟩
abbrev Ins.lx (d x g:Nat):Ins:=⟨some d,.load none (.t x),some (g,false)⟩
abbrev Ins.a (d n x:Nat):Ins:=⟨some d,.fadr n (.t x),none⟩
abbrev Ins.ay (d n x g:Nat):Ins:=⟨some d,.fadr n (.t x),some (g,true)⟩
abbrev Ins.ax (d n x g:Nat):Ins:=⟨some d,.fadr n (.t x),some (g,false)⟩
abbrev Ins.d (d n x:Nat):Ins:=⟨some d,.load (some n) (.t x),none⟩
abbrev Ins.b (d:Nat)(o:BinOp)(x y:Nat):Ins:=⟨some d,.bin o (.t x) (.t y),none⟩
abbrev Ins.by' (d:Nat)(o:BinOp)(x y g:Nat):Ins:=⟨some d,.bin o (.t x) (.t y),some (g,true)⟩
abbrev Ins.bx (d:Nat)(o:BinOp)(x y g:Nat):Ins:=⟨some d,.bin o (.t x) (.t y),some (g,false)⟩
abbrev Ins.v (d:Nat)(o:BinOp)(x:Nat)(n:Int):Ins:=⟨some d,.bin o (.t x) (.c (.int .i64 n)),none⟩
abbrev Ins.vy (d:Nat)(o:BinOp)(x:Nat)(n:Int)(g:Nat):Ins:=⟨some d,.bin o (.t x) (.c (.int .i64 n)),some (g,true)⟩
abbrev Ins.vx (d:Nat)(o:BinOp)(x:Nat)(n:Int)(g:Nat):Ins:=⟨some d,.bin o (.t x) (.c (.int .i64 n)),some (g,false)⟩
abbrev Ins.o (d x y:Nat):Ins:=⟨some d,.pick (.t x) (.c (.bool true)) (.t y),none⟩
abbrev Ins.e (d x y:Nat):Ins:=⟨some d,.pick (.t x) (.t y) (.c (.bool false)),none⟩
abbrev Ins.r (d n x y:Nat):Ins:=⟨some d,.iadr n (.t x) (.t y),none⟩
abbrev Ins.ry (d n x y g:Nat):Ins:=⟨some d,.iadr n (.t x) (.t y),some (g,true)⟩
abbrev Ins.u (d x:Nat):Ins:=⟨some d,.len (.t x),none⟩
abbrev Ins.j (d n x:Nat):Ins:=⟨some d,.ext n (.t x),none⟩
abbrev Ins.q (d n x:Nat):Ins:=⟨some d,.box n (.t x),none⟩
abbrev Ins.w (n x y:Nat):Ins:=⟨none,.store n (.t x) (.t y),none⟩
abbrev Ins.f (d k x:Nat):Ins:=⟨some d,.call (.c (.fn (.func k) [] [])) [.t x],none⟩
abbrev Ins.g' (d k x y:Nat):Ins:=⟨some d,.call (.c (.fn (.func k) [] [])) [.t x,.t y],none⟩
abbrev Ins.z (d x:Nat):Ins:=⟨some d,.un .not (.t x),none⟩
end Go.Sha
