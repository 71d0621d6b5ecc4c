/- The law ProjectNames. -/
import Derived.Test.YtadimhaolhpglaaGreatDoorJn
import Derived.Test.YtadimhaolhpglaaGreatDoorBw3
set_option linter.unusedSimpArgs false
set_option linter.unusedVariables false
set_option linter.unusedSectionVars false
namespace Go.Sy
open Go.Proofs
set_option maxRecDepth 100000
attribute [local irreducible] SOps Goes DOps EOps GOps

/-! ### Roles under other names -/
/-! ### The contracts -/
end Go.Sy
