/- Contracts: the first example of layer 8, its protocol of numbers whose first is 2, two local types. -/
import Derived.Test.YtademmkjmpgplaaGreatDoorMj3
import Derived.Test.YtademmkjmpgplaaGreatDoorMj1
import Derived.Test.YtademmkjmpgplaaGreatDoorBw3
import Derived.Test.YtademmkjmpgplaaGreatDoorWl
import Derived.Test.YtademmkjmpgplaaGreatDoorBd1
set_option linter.unusedSimpArgs false
set_option linter.unusedVariables false
set_option linter.unusedSectionVars false
namespace Go.Sy
open Go.Proofs
set_option maxRecDepth 100000
attribute [local irreducible] SOps Goes DOps EOps GOps
end Go.Sy
