/- Contracts of the reference, bundle Bu4. -/
import Derived.Test.YtademmkjmpgplaaGreatDoorBu3
import Derived.Test.YtademmkjmpgplaaGreatDoorBu1
import Derived.Test.YtademmkjmpgplaaGreatDoorBn1
import Derived.Test.YtademmkjmpgplaaGreatDoorBl1
set_option linter.unusedSimpArgs false
set_option linter.unusedVariables false
set_option linter.unusedSectionVars false
namespace Go.Sy
open Go.Proofs
set_option maxRecDepth 100000
attribute [local irreducible] SOps Goes DOps EOps
end Go.Sy
namespace Go.Sy
open Go.Proofs
set_option maxRecDepth 100000
attribute [local irreducible] SOps Goes DOps EOps
end Go.Sy
namespace Go.Sy
open Go.Proofs
set_option maxRecDepth 100000
attribute [local irreducible] SOps Goes DOps EOps
end Go.Sy
