/- The law ProjectNames. -/
import Derived.Test.YtademmkjmpgplaaGreatDoorJn
import Derived.Test.YtademmkjmpgplaaGreatDoorBw3
set_option linter.unusedSimpArgs false
set_option linter.unusedVariables false
set_option linter.unusedSectionVars false
namespace Go.Sy
open Go.Proofs
set_option maxRecDepth 100000
attribute [local irreducible] SOps Goes DOps EOps GOps

/-! ### Roles under other names -/
theorem arms_pos {n : Int} {l : List Arm} (h : armsOK n l = true) : 0 < l.length := by
  unfold armsOK at h
  simp only [Bool.and_eq_true, decide_eq_true_eq] at h
  omega
theorem pnt_kind {roles : List ByteArray} {n : Int} {x : Pnt} (h : pntB roles n x = true) : (x.from_ = ⟨#[]⟩ ∧ x.to = ⟨#[]⟩ ∧ x.arms = []) ∨ (x.from_ ∈ roles ∧ x.to ∈ roles ∧ x.from_ ≠ x.to ∧ armsOK n x.arms = true) := by
  unfold pntB endP at h
  simp only [Bool.or_eq_true, Bool.and_eq_true, decide_eq_true_eq, List.isEmpty_iff] at h
  rcases h with h | h
  · exact .inl h
  · exact .inr ⟨hasB_iff.1 (decide_eq_true h.1), hasB_iff.1 (decide_eq_true h.2.1), h.2.2⟩
/-- What a law asks of a projection's turns. -/
theorem trn_small {l : Loc} (h : locB l = true) : ∀ t ∈ l.turns, t.arms.length ≤ 6 ∧ t.peer.size ≤ 100 := fun t ht => by
  unfold locB at h
  simp only [Bool.and_eq_true, List.all_eq_true] at h
  have hb := h.2.2 t ht
  unfold trnB armsOK at hb
  split at hb
  · simp only [Bool.and_eq_true, decide_eq_true_eq, List.isEmpty_iff] at hb
    rw [hb.1, hb.2]; exact ⟨by simp, by decide⟩
  · split at hb
    · simp only [Bool.and_eq_true, decide_eq_true_eq] at hb
      exact ⟨hb.2.2.1, nameB_size hb.1⟩
    · cases hb
/-! ### The contracts -/
end Go.Sy
