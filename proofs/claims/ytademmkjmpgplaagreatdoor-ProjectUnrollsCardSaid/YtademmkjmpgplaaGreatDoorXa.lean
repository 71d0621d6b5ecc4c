/- Contracts: reparteemake.Local, its turns as a row of one's own; layer 12's pair. -/
import Derived.Test.YtademmkjmpgplaaGreatDoorBd1
import Derived.Test.YtademmkjmpgplaaGreatDoorBu1
import Derived.Test.YtademmkjmpgplaaGreatDoorMj4
set_option linter.unusedSimpArgs false
set_option linter.unusedVariables false
set_option linter.unusedSectionVars false
namespace Go.Sy
open Go.Proofs
set_option maxRecDepth 100000
attribute [local irreducible] SOps Goes DOps EOps GOps
theorem set_mid' {α β : Type} (f : α → α) (g : α → β) (l : List α) (m : Nat) (hm : m < l.length) :
    (((l.take m).map f ++ l.drop m).map g).set m (g (f l[m])) = ((l.take (m + 1)).map f ++ l.drop (m + 1)).map g := by
  rw [← List.map_set]
  congr 1
  rw [List.set_append_right _ _ (by simp; omega), List.take_succ_eq_append_getElem hm, List.map_append, List.append_assoc]
  congr 1
  have : m - ((l.take m).map f).length = 0 := by simp; omega
  rw [this, List.drop_eq_getElem_cons hm]
  rfl
theorem mid_get' {α β : Type} (f : α → α) (g : α → β) (l : List α) (m : Nat) (hm : m < l.length) : (((l.take m).map f ++ l.drop m).map g)[m]? = some (g l[m]) := by
  rw [List.getElem?_map, List.getElem?_append_right (by simp; omega), List.getElem?_drop]
  have : m + (m - ((l.take m).map f).length) = m := by simp; omega
  rw [this, List.getElem?_eq_getElem hm]; rfl
end Go.Sy
