/- The law ProjectIdle. -/
import Derived.Test.YtademmkjmpgplaaGreatDoorJk
import Derived.Test.YtademmkjmpgplaaGreatDoorJm
set_option linter.unusedSimpArgs false
set_option linter.unusedVariables false
set_option linter.unusedSectionVars false
namespace Go.Sy
open Go.Proofs
set_option maxRecDepth 100000
attribute [local irreducible] SOps Goes DOps EOps GOps

/-! ### Roles that are in no point -/
/-! ### The contracts -/
end Go.Sy
