/- Contracts: reparteemake.Local, its turns as a row of one's own; layer 12's pair. -/
import Derived.Test.YtadimhaolhpglaaBd1
import Derived.Test.YtadimhaolhpglaaBu1
import Derived.Test.YtadimhaolhpglaaSymZr
set_option linter.unusedSimpArgs false
set_option linter.unusedVariables false
set_option linter.unusedSectionVars false
namespace Go.Sy
open Go.Proofs
set_option maxRecDepth 100000
attribute [local irreducible] SOps Goes DOps EOps GOps

/-! ### Types of one peer -/
end Go.Sy
