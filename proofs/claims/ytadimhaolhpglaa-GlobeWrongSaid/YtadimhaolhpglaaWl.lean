/- Contracts: reparteemake.Protocol where the first number picks two roles; what comes of free points is valid, for every number of roles. -/
import Derived.Test.YtadimhaolhpglaaBw3
set_option linter.unusedSimpArgs false
set_option linter.unusedVariables false
set_option linter.unusedSectionVars false
namespace Go.Sy
open Go.Proofs
set_option maxRecDepth 100000
attribute [local irreducible] SOps Goes DOps EOps GOps

/-! ### What comes is a valid protocol, for every number of roles -/
theorem roleN_place {nr : Nat} (h : 2 ≤ nr ∧ nr ≤ 5) : ∀ m : Nat, m < nr → placeI (rolesL.take nr) (rolesL.getD m ⟨#[]⟩) = (m : Int) := by
  intro m hm
  have h1 : nr = 2 ∨ nr = 3 ∨ nr = 4 ∨ nr = 5 := by omega
  have h3 : m = 0 ∨ m = 1 ∨ m = 2 ∨ m = 3 ∨ m = 4 := by omega
  rcases h1 with rfl | rfl | rfl | rfl <;> rcases h3 with rfl | rfl | rfl | rfl | rfl <;> first | (exfalso; omega) | decide
theorem roleN_inj {nr : Nat} (hn : 2 ≤ nr ∧ nr ≤ 5) : ∀ a b : Nat, a < nr → b < nr → rolesL.getD a ⟨#[]⟩ = rolesL.getD b ⟨#[]⟩ → a = b := fun a b ha hb h => by
  have h1 := roleN_place hn a ha
  rw [h, roleN_place hn b hb] at h1
  omega
theorem roleN_once {nr : Nat} (h : 2 ≤ nr ∧ nr ≤ 5) : onceB (rolesL.take nr) = true ∧ (rolesL.take nr).all nameB = true ∧ (rolesL.take nr).length = nr := by
  have h1 : nr = 2 ∨ nr = 3 ∨ nr = 4 ∨ nr = 5 := by omega
  rcases h1 with rfl | rfl | rfl | rfl <;> refine ⟨?_, ?_, ?_⟩ <;> decide
end Go.Sy
