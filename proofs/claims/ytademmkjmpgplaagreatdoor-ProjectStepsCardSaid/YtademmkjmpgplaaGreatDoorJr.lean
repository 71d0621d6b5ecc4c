/- The law ProjectWalks. -/
import Derived.Test.YtademmkjmpgplaaGreatDoorJq
import Derived.Test.YtademmkjmpgplaaGreatDoorBu4
set_option linter.unusedSimpArgs false
set_option linter.unusedVariables false
set_option linter.unusedSectionVars false
namespace Go.Sy
open Go.Proofs
set_option maxRecDepth 100000
attribute [local irreducible] SOps Goes DOps EOps GOps

theorem proj_big {p : Prt} {role : ByteArray} {S : List (List Int)} {l : Loc} (h : Proj p role S l) (hB : PrtBig p) : LocBig l := by
  intro t ht a ha
  obtain ⟨j, hj, rfl⟩ := List.mem_iff_getElem.1 ht
  have hjS : j < S.length := by rw [← h.turns]; exact hj
  rcases h.turn j S[j] l.turns[j] (List.getElem?_eq_getElem hjS) (List.getElem?_eq_getElem hj) with ⟨_, h2⟩ | ⟨_, h2⟩
  · rw [h2] at ha; cases ha
  · have q1 := (h2.arm a ha).1
    have hs : a.label ∈ allL p S[j] := by rw [← h2.labs]; exact List.mem_map_of_mem ha
    obtain ⟨b, hb, _, e2⟩ := carA_some (allL_mem.1 hs)
    obtain ⟨y, _, hby⟩ := armsN_mem.1 hb
    rw [e2] at q1
    injection q1 with _ k2
    rw [k2]
    rcases pntAt_or p y with hm | hm
    · exact hB _ hm b hby
    · rw [hm] at hby; cases hby
theorem walkG_snoc {g : Grp} {z : ByteArray} {a : Arm} : ∀ (w : List ByteArray) {x y : Int}, walkG g x w = some y → (armsAt g y).find? (fun b => decide (b.label = z)) = some a → walkG g x (w ++ [z]) = some a.next
  | [], x, y, h, hf => by
    rw [walkG] at h; injection h with h; subst h
    rw [List.nil_append, walkG, hf]
    rfl
  | s :: w, x, y, h, hf => by
    rw [walkG] at h
    rw [List.cons_append, walkG]
    split at h
    · cases h
    · exact walkG_snoc w h hf
theorem gwalk_rng {p : Prt} (hv : prtB p = true) : ∀ (w : List ByteArray) {x y : Int}, 0 ≤ x ∧ x < (p.points.length : Int) → walkG p.g x w = some y → 0 ≤ y ∧ y < (p.points.length : Int)
  | [], x, y, hx, h => by simp [walkG] at h; subst h; exact hx
  | s :: w, x, y, hx, h => by
    rw [walkG] at h
    split at h
    · cases h
    · rename_i a ha
      have hm := List.mem_of_find?_eq_some ha
      rw [armsAt_prt] at hm
      exact gwalk_rng hv w (prt_in hv x a hm) h

end Go.Sy
