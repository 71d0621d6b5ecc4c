/- Contracts of the reference, bundle Bw3. -/
import Derived.Test.YtndmpmhekbdpdaaGreatDoorBw2
import Derived.Test.YtndmpmhekbdpdaaGreatDoorBd1
import Derived.Test.YtndmpmhekbdpdaaGreatDoorBn1
set_option linter.unusedSimpArgs false
set_option linter.unusedVariables false
set_option linter.unusedSectionVars false
namespace Go.Sy
open Go.Proofs
set_option maxRecDepth 100000
attribute [local irreducible] SOps Goes DOps EOps GOps
end Go.Sy
namespace Go.Sy
open Go.Proofs
set_option maxRecDepth 100000
attribute [local irreducible] SOps Goes DOps EOps GOps
end Go.Sy
namespace Go.Sy
open Go.Proofs
set_option maxRecDepth 100000
attribute [local irreducible] SOps Goes DOps EOps GOps
end Go.Sy
