/- slices. -/
import Derived.Test.YtpbiilllhjeibaaGreatDoorNShbT
import Derived.Shelf.SlSortCmp.NoneTotal
set_option linter.unusedSimpArgs false
set_option linter.unusedVariables false
namespace Go.Sha
section
open Go.Shelf Go.RowKit Go.Lib Go.Sort Go.Proofs
variable {P:Program}{α:Type} [Inhabited α]
end
end Go.Sha
