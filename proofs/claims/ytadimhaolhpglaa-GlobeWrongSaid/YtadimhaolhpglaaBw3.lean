/- Contracts of the reference, bundle Bw3. -/
import Derived.Test.YtadimhaolhpglaaBw2
import Derived.Test.YtadimhaolhpglaaBd1
import Derived.Test.YtadimhaolhpglaaBn1
/- Contracts: reparteemake.any, exactly. -/
set_option linter.unusedSimpArgs false
set_option linter.unusedVariables false
set_option linter.unusedSectionVars false
namespace Go.Sy
open Go.Proofs
set_option maxRecDepth 100000
attribute [local irreducible] SOps Goes DOps EOps GOps

end Go.Sy

/- Contracts: reparteemake.Protocol where the first number picks three roles and free points; what comes is valid. -/
namespace Go.Sy
open Go.Proofs
set_option maxRecDepth 100000
attribute [local irreducible] SOps Goes DOps EOps GOps

/-! ### What comes is a valid protocol -/
end Go.Sy

/- Contracts: layer 7's protocol, of numbers whose first is 2. -/
namespace Go.Sy
open Go.Proofs
set_option maxRecDepth 100000
attribute [local irreducible] SOps Goes DOps EOps GOps

end Go.Sy
