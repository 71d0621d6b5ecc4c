/- Symbolic states: regions that draw their order and make variables. -/
import Derived.Test.YthjpcefjgmklfaaSymN
namespace Go.Sy
set_option linter.unusedSimpArgs false
set_option linter.unusedVariables false
set_option linter.unusedSectionVars false
open Go.RowKit

theorem valE_monoM {Θ : Tab} {tm : TM} {mm mm' : MM} {p : Op} {st : ST} (hmm : ∀ i o, getM mm i = some o → getM mm' i = some o) (h : valE Θ tm mm p = some st) : valE Θ tm mm' p = some st := by
  have key : ∀ i, getM mm i = none ∨ getM mm' i = getM mm i := by
    intro i
    cases hg : getM mm i with
    | none => exact .inl rfl
    | some o => exact .inr (hmm i o hg)
  unfold valE at h ⊢
  split at h <;> first | exact h | skip
  · -- load
    split at h
    · rename_i ht
      try simp only [ht]
      split at h
      · rename_i i off hx
        try simp only [hx]
        rcases key i with h0 | h0
        · simp only [h0] at h; cases h
        · rw [h0]; exact h
      · rename_i hx; (try simp only [hx]); exact h
      · cases h
    · cases h
  · -- makeFunc
    rename_i f caps
    cases hc : capsOf tm caps.toList with
    | none => simp [hc] at h
    | some ids =>
      simp only [hc] at h ⊢
      split at h
      · rename_i ha
        split
        · exact h
        · rename_i hf
          exfalso
          obtain ⟨i, hi, h2⟩ := List.all_eq_false.1 hf
          have h1 := List.all_eq_true.1 ha i hi
          rcases key i with h0 | h0
          · simp only [h0] at h1; cases h1
          · rw [h0] at h2; exact h2 h1
      · cases h
  · -- len
    split at h
    · rename_i ht
      try simp only [ht]
      split at h
      · rename_i s hx
        try simp only [hx]
        split at h
        · rename_i m hm
          have : lenOfC mm' s = some m := by
            unfold lenOfC at hm ⊢
            split at hm <;> first | exact hm | skip
            rename_i i
            rcases key i with h0 | h0
            · rw [h0] at hm; cases hm
            · rw [h0]; exact hm
          simp only [this]; exact h
        · cases h
      · cases h
    · rename_i ht; (try simp only [ht]); exact h
    · rename_i ht
      try simp only [ht]
      split at h
      · rename_i i hx
        try simp only [hx]
        rcases key i with h0 | h0
        · simp only [h0] at h; cases h
        · rw [h0]; exact h
      · cases h
    · cases h
end Go.Sy
