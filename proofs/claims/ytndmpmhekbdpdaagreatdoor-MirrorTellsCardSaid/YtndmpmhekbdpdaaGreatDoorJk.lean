/- Contracts: the first example of layer 8, its protocol of numbers whose first is 2, two local types. -/
import Derived.Test.YtndmpmhekbdpdaaGreatDoorMj3
import Derived.Test.YtndmpmhekbdpdaaGreatDoorMj1
import Derived.Test.YtndmpmhekbdpdaaGreatDoorBw3
import Derived.Test.YtndmpmhekbdpdaaGreatDoorWl
import Derived.Test.YtndmpmhekbdpdaaGreatDoorBd1
set_option linter.unusedSimpArgs false
set_option linter.unusedVariables false
set_option linter.unusedSectionVars false
namespace Go.Sy
open Go.Proofs
set_option maxRecDepth 100000
attribute [local irreducible] SOps Goes DOps EOps GOps
end Go.Sy
