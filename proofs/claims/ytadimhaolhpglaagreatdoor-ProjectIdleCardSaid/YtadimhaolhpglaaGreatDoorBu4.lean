/- Contracts of the reference, bundle Bu4. -/
import Derived.Test.YtadimhaolhpglaaGreatDoorBu3
import Derived.Test.YtadimhaolhpglaaGreatDoorBu1
import Derived.Test.YtadimhaolhpglaaGreatDoorBn1
import Derived.Test.YtadimhaolhpglaaGreatDoorBl1
/- Contracts: turns.Trim. -/
set_option linter.unusedSimpArgs false
set_option linter.unusedVariables false
set_option linter.unusedSectionVars false
namespace Go.Sy
open Go.Proofs
set_option maxRecDepth 100000
attribute [local irreducible] SOps Goes DOps EOps

end Go.Sy

/- Contracts: turns.Walk. -/
namespace Go.Sy
open Go.Proofs
set_option maxRecDepth 100000
attribute [local irreducible] SOps Goes DOps EOps

end Go.Sy

/- Contracts: turns.Same. -/
namespace Go.Sy
open Go.Proofs
set_option maxRecDepth 100000
attribute [local irreducible] SOps Goes DOps EOps

end Go.Sy
