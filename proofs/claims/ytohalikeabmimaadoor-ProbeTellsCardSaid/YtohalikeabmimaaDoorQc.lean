/- Contracts: strconv.Itoa at small numbers. -/
import Derived.Test.YtohalikeabmimaaDoorBq1
import Derived.Test.YtohalikeabmimaaDoorLayp
set_option linter.unusedSimpArgs false
set_option linter.unusedVariables false
set_option linter.unusedSectionVars false
namespace Go.Sy
open Go.Proofs

end Go.Sy
