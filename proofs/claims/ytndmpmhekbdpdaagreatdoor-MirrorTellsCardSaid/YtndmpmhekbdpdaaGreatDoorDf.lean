/- The law TurnsTrim. -/
import Derived.Test.YtndmpmhekbdpdaaGreatDoorBd1
import Derived.Test.YtndmpmhekbdpdaaGreatDoorBu4
set_option linter.unusedSimpArgs false
set_option linter.unusedVariables false
set_option linter.unusedSectionVars false
namespace Go.Sy
open Go.Proofs
set_option maxRecDepth 100000
attribute [local irreducible] SOps Goes DOps EOps
theorem loc_ok (l : List Int) (name : ByteArray) : locB (locV name [] l 0).1 = true ∧ LocBig (locV name [] l 0).1 := by
  have h := locV_ok (name := name) (types := []) (fun t h => by cases h) (by simp) l 0
  exact ⟨h.1, h.2.1⟩
theorem trim_big {l : Loc} (h : LocBig l) : LocBig (trimT l) := by
  intro t ht a ha
  obtain ⟨x, _, rfl⟩ := List.mem_map.1 (show t ∈ List.map _ (reachG l.g) from ht)
  have ha : a ∈ movA (reachG l.g) (trnAt l x).arms := ha
  rw [movA_ren] at ha
  obtain ⟨b, hb, rfl⟩ := List.mem_map.1 ha
  have hb := risA_mem.1 hb
  unfold trnAt at hb
  rw [List.getD_eq_getElem?_getD] at hb
  cases hx : l.turns[x.toNat]? with
  | none => rw [hx] at hb; cases hb
  | some t => rw [hx] at hb; exact h t (List.mem_of_getElem? hx) b hb
theorem trim_L {l : Loc} (h : locB l = true) : trimL l = trimT l := if_pos h
end Go.Sy
