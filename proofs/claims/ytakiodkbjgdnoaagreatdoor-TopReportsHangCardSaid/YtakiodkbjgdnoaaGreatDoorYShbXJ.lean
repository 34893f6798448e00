/- Slices in local variables. -/
import Derived.Test.YtakiodkbjgdnoaaGreatDoorYShbXI
set_option linter.unusedSimpArgs false
set_option linter.unusedVariables false
namespace Go.Sha
section
variable {P:Program}{N:Fr}
end
end Go.Sha
