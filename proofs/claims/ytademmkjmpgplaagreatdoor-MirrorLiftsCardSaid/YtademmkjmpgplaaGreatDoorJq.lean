/- Contracts: own, what a role says and hears along a walk. -/
import Derived.Test.YtademmkjmpgplaaGreatDoorJk
import Derived.Test.YtademmkjmpgplaaGreatDoorMj5
set_option linter.unusedSimpArgs false
set_option linter.unusedVariables false
set_option linter.unusedSectionVars false
namespace Go.Sy
open Go.Proofs
set_option maxRecDepth 100000
attribute [local irreducible] SOps Goes DOps EOps GOps
end Go.Sy
