/- Contracts: reparteemake.Protocol where the first number picks two roles; what comes of free points is valid, for every number of roles. -/
import Derived.Test.YtndmpmhekbdpdaaGreatDoorBw3
set_option linter.unusedSimpArgs false
set_option linter.unusedVariables false
set_option linter.unusedSectionVars false
namespace Go.Sy
open Go.Proofs
set_option maxRecDepth 100000
attribute [local irreducible] SOps Goes DOps EOps GOps
end Go.Sy
