/- The compiled code of the functions of this seat, printed by a program (ShaMain), and that it is the translation's: checked by the kernel. -/
import Derived.Test.YtajbgangpipheaaTab
import Derived.Test.YtajbgangpipheaaProg
import Derived.KernelRfl
set_option linter.unusedSimpArgs false
set_option linter.unusedVariables false
namespace Go.Proofs.Ytajbgangpipheaa
open Go.Sha
/-- strings.IndexByte -/
def F54 : FT := ⟨8, 2, [.tmp 4],
  [.seq 1 2,
   .reg [⟨(some 4), .mv (.c (.int .i64 0)), none⟩],
   .seq 3 4,
   .reg [⟨(some 5), .mv (.t 0), none⟩,
      ⟨(some 6), .mv (.t 1), none⟩,
      ⟨(some 7), .call (.c (.fn (.func 57) [] [])) [(.t 5), (.t 6)], none⟩,
      ⟨(some 4), .mv (.t 7), none⟩],
   .ret]⟩

/-- internal/stringslite.IndexByte -/
def F57 : FT := ⟨8, 2, [.tmp 4],
  [.seq 1 2,
   .reg [⟨(some 4), .mv (.c (.int .i64 0)), none⟩],
   .seq 3 4,
   .reg [⟨(some 5), .mv (.t 0), none⟩,
      ⟨(some 6), .mv (.t 1), none⟩,
      ⟨(some 7), .call (.c (.fn (.func 60) [] [])) [(.t 5), (.t 6)], none⟩,
      ⟨(some 4), .mv (.t 7), none⟩],
   .ret]⟩

theorem F54_ok : compFn Try.prog 54 = some F54 := by kernel_rfl
theorem F57_ok : compFn Try.prog 57 = some F57 := by kernel_rfl
end Go.Proofs.Ytajbgangpipheaa
