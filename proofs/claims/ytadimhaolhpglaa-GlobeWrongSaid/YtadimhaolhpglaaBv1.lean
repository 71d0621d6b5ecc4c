/- Contracts of the reference, bundle Bv1. -/
import Derived.Test.YtadimhaolhpglaaBu3
import Derived.Test.YtadimhaolhpglaaBn1
import Derived.Test.YtadimhaolhpglaaBu1
import Derived.Test.YtadimhaolhpglaaBl1
import Derived.Test.YtadimhaolhpglaaLayp
import Derived.Shelf.Slices.In.SortNone
/- Contracts: slices.Sort and slices.Compact of texts, in place, on a row of one's own; names.Put. -/
set_option linter.unusedSimpArgs false
set_option linter.unusedVariables false
set_option linter.unusedSectionVars false
namespace Go.Sy
open Go.Proofs Go.Shelf Go.RowKit Go.Sort
set_option maxRecDepth 100000
attribute [local irreducible] SOps Goes DOps EOps FOps

theorem putCells_map {α : Type} [Inhabited α] (enc : α → Value) (off : Nat) (d : Array α) (c : Array Value) : putCells enc off d c = putCells id off (d.map enc) c := by
  unfold putCells
  apply Array.ext
  · simp
  · intro i h1 h2
    simp only [Array.getElem_mapIdx, Array.size_map, id]
    split
    · rename_i h
      rw [getElem!_pos d (i - off) (by omega), getElem!_pos (d.map enc) (i - off) (by simp; omega), Array.getElem_map]
    · rfl
theorem putRow_map {α : Type} [Inhabited α] (enc : α → Value) (w : World) (g off : Nat) (d : Array α) : putRow enc w g off d = putRow id w g off (d.map enc) := by
  unfold putRow
  congr 1
  funext c
  exact putCells_map enc off d c
theorem holds_map {α : Type} [Inhabited α] {enc : α → Value} {w : World} {g off : Nat} {d : Array α} (h : Holds id w g off (d.map enc)) : Holds enc w g off d := fun j hj => by
  have := h j (by simpa using hj)
  rw [getElem!_pos (d.map enc) j (by simpa using hj), Array.getElem_map] at this
  rw [getElem!_pos d j hj]
  exact this
/-! ### Fewer in front, in place -/
end Go.Sy

/- Contracts: turns.Peers; SameNames of the reference. -/
namespace Go.Sy
open Go.Proofs
set_option maxRecDepth 100000
attribute [local irreducible] SOps Goes DOps EOps

end Go.Sy
