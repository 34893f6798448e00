/- The compiled code of the functions of this seat, printed by a program (ShaMain), and that it is the translation's: checked by the kernel. -/
import Derived.Test.YtajbgangpipheaaTab2
import Derived.Test.YtajbgangpipheaaProg
import Derived.KernelRfl
set_option linter.unusedSimpArgs false
set_option linter.unusedVariables false
namespace Go.Proofs.Ytajbgangpipheaa
open Go.Sha
/-- slices.Clone[[]luminaire/api.Token,luminaire/api.Token] -/
def F38 : FT := ⟨8, 1, [.tmp 2],
  [.seq 1 2,
   .reg [⟨(some 2), .mv (.c .nils), none⟩],
   .seq 3 10,
   .seq 4 5,
   .reg [⟨(some 3), .mv (.t 0), none⟩,
      ⟨(some 4), .nilk false (.t 3), none⟩],
   .cond (.t 4) 6 9,
   .seq 7 8,
   .reg [⟨(some 2), .mv (.c .nils), none⟩],
   .ret,
   .skip,
   .seq 11 12,
   .reg [⟨(some 5), .bslice 31 3 [], none⟩,
      ⟨(some 6), .mv (.t 0), none⟩,
      ⟨(some 7), .append 31 3 32 (.t 5) (.t 6), none⟩,
      ⟨(some 2), .mv (.t 7), none⟩],
   .ret]⟩

theorem F38_ok : compFn Try.prog 38 = some F38 := by kernel_rfl
end Go.Proofs.Ytajbgangpipheaa
