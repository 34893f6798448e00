/- An owned slice is given away as plain da. -/
import Derived.Test.YteggomljbalaaaaGreatDoorRShbXO
set_option linter.unusedSimpArgs false
set_option linter.unusedVariables false
namespace Go.Sha
open Go.Shelf Go.RowKit Go.Lib Go.Sort Go.Proofs
section
variable {P:Program}{w:World}{A:Abs}{st:St}
def Abs.frzR (A:Abs)(id m:Nat):Abs:={ A with C:=fun b o=>A.C b o∨(A.own b=some id∧o<m) }
theorem Ext.frzR (w:World)(A:Abs)(id m:Nat):Ext w A w (A.frzR id m) :=
 ⟨Nat.le_refl _,fun _ _=>rfl,fun _ _=>Nat.le_refl _,fun _ _ _=>rfl,fun _ _ h=>⟨.inl h,rfl⟩,fun _ _ h=>h,Nat.le_refl _,rfl,rfl,rfl,fun _ _ _=>rfl,
  fun b o _ ho hc=>hc.elim (fun h=>h) fun h=>(by rw[ho]at h;cases h.1),fun _ _ _ _ h=>h⟩
end
end Go.Sha
