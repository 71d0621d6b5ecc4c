/- The law TurnsTrim. -/
import Derived.Test.YtadimhaolhpglaaBd1
import Derived.Test.YtadimhaolhpglaaBu4
set_option linter.unusedSimpArgs false
set_option linter.unusedVariables false
set_option linter.unusedSectionVars false
namespace Go.Sy
open Go.Proofs
set_option maxRecDepth 100000
attribute [local irreducible] SOps Goes DOps EOps

theorem loc_ok (l : List Int) (name : ByteArray) : locB (locV name [] l 0).1 = true ∧ LocBig (locV name [] l 0).1 := by
  have h := locV_ok (name := name) (types := []) (fun t h => by cases h) (by simp) l 0
  exact ⟨h.1, h.2.1⟩
end Go.Sy
