/- Contracts: project.All. -/
import Derived.Test.YtadimhaolhpglaaGreatDoorJi
set_option linter.unusedSimpArgs false
set_option linter.unusedVariables false
set_option linter.unusedSectionVars false
namespace Go.Sy
open Go.Proofs
set_option maxRecDepth 100000
attribute [local irreducible] SOps Goes DOps EOps FOps GOps

end Go.Sy
