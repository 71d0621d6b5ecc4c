/- The law ProjectWalks. -/
import Derived.Test.YtademmkjmpgplaaGreatDoorJq
import Derived.Test.YtademmkjmpgplaaGreatDoorBu4
set_option linter.unusedSimpArgs false
set_option linter.unusedVariables false
set_option linter.unusedSectionVars false
namespace Go.Sy
open Go.Proofs
set_option maxRecDepth 100000
attribute [local irreducible] SOps Goes DOps EOps GOps
theorem proj_big {p : Prt} {role : ByteArray} {S : List (List Int)} {l : Loc} (h : Proj p role S l) (hB : PrtBig p) : LocBig l := by
  intro t ht a ha
  obtain ⟨j, hj, rfl⟩ := List.mem_iff_getElem.1 ht
  have hjS : j < S.length := by rw [← h.turns]; exact hj
  rcases h.turn j S[j] l.turns[j] (List.getElem?_eq_getElem hjS) (List.getElem?_eq_getElem hj) with ⟨_, h2⟩ | ⟨_, h2⟩
  · rw [h2] at ha; cases ha
  · have q1 := (h2.arm a ha).1
    have hs : a.label ∈ allL p S[j] := by rw [← h2.labs]; exact List.mem_map_of_mem ha
    obtain ⟨b, hb, _, e2⟩ := carA_some (allL_mem.1 hs)
    obtain ⟨y, _, hby⟩ := armsN_mem.1 hb
    rw [e2] at q1
    injection q1 with _ k2
    rw [k2]
    rcases pntAt_or p y with hm | hm
    · exact hB _ hm b hby
    · rw [hm] at hby; cases hby
end Go.Sy
