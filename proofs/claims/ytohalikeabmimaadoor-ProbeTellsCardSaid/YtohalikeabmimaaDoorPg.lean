/- The plain law: the order of labels; the arms of a valid node, in pairs (for seats without package under). -/
import Derived.Test.YtohalikeabmimaaDoorBf2
set_option linter.unusedSimpArgs false
set_option linter.unusedVariables false
set_option linter.unusedSectionVars false
namespace Go.Sy
/-! The order of labels. -/
theorem bl_irr : ∀ l : List UInt8, Op.bytesLess l l = false
  | [] => rfl
  | a :: l => by simp [Op.bytesLess, bl_irr l]
theorem bl_trans : ∀ {x y z : List UInt8}, Op.bytesLess x y = true → Op.bytesLess y z = true → Op.bytesLess x z = true
  | _, [], _, h, _ => by cases ‹List UInt8› <;> simp [Op.bytesLess] at h
  | _, _ :: _, [], _, h => by simp [Op.bytesLess] at h
  | [], _ :: _, _ :: _, _, _ => rfl
  | a :: x, b :: y, c :: z, h1, h2 => by
    simp only [Op.bytesLess, Bool.or_eq_true, decide_eq_true_eq, Bool.and_eq_true, beq_iff_eq] at h1 h2 ⊢
    rcases h1 with h1 | ⟨rfl, h1⟩
    · rcases h2 with h2 | ⟨rfl, h2⟩
      · exact .inl (UInt8.lt_trans h1 h2)
      · exact .inl h1
    · rcases h2 with h2 | ⟨rfl, h2⟩
      · exact .inl h2
      · exact .inr ⟨rfl, bl_trans h1 h2⟩
theorem sLt_irr (s : ByteArray) : sLt s s = false := bl_irr _
theorem sLt_trans {a b c : ByteArray} (h1 : sLt a b = true) (h2 : sLt b c = true) : sLt a c = true := bl_trans h1 h2

/-- The labels of these arms rise. -/
def Rise (l : List Edge) : Prop := ∀ i (h : i + 1 < l.length), sLt l[i].label l[i + 1].label = true
theorem Rise.lt {l : List Edge} (h : Rise l) : ∀ (d i : Nat) (hj : i + d + 1 < l.length), sLt l[i].label l[i + d + 1].label = true
  | 0, i, hj => h i hj
  | d + 1, i, hj => sLt_trans (h.lt d i (by omega)) (h (i + d + 1) hj)
theorem Rise.inj {l : List Edge} (h : Rise l) {i j : Nat} (hi : i < l.length) (hj : j < l.length) (he : l[i].label = l[j].label) : i = j := by
  rcases Nat.lt_trichotomy i j with hlt | heq | hlt
  · obtain ⟨d, rfl⟩ : ∃ d, j = i + d + 1 := ⟨j - i - 1, by omega⟩
    have := h.lt d i hj
    rw [he, sLt_irr] at this; cases this
  · exact heq
  · obtain ⟨d, rfl⟩ : ∃ d, i = j + d + 1 := ⟨i - j - 1, by omega⟩
    have := h.lt d j hi
    rw [he, sLt_irr] at this; cases this

theorem armsB_iff {n : Int} {l : List Edge} : armsB n l = true ↔ (∀ e ∈ l, nameB e.label = true ∧ 0 ≤ e.next ∧ e.next < n ∧ sortB e.kind e.at_ n = true) ∧ l.Pairwise fun a b => sLt a.label b.label = true := by
  constructor
  · intro h
    have hok : ∀ i, i < l.length → okAt n l i = true := fun i hi => List.all_eq_true.1 h i (List.mem_range.2 hi)
    have hrise : Rise l := by
      intro i hi
      have := hok (i + 1) hi
      rw [okAt_succ hi] at this
      simp only [Bool.and_eq_true] at this
      exact this.2.1
    refine ⟨fun e he => ?_, List.pairwise_iff_getElem.2 fun i j hi hj hij => ?_⟩
    · obtain ⟨i, hi, rfl⟩ := List.mem_iff_getElem.1 he
      have := hok i hi
      cases i with
      | zero =>
        rw [okAt_zero hi] at this
        simp only [Bool.and_eq_true, decide_eq_true_eq] at this
        exact ⟨this.1, this.2.1, this.2.2.1, this.2.2.2⟩
      | succ j =>
        rw [okAt_succ hi] at this
        simp only [Bool.and_eq_true, decide_eq_true_eq] at this
        exact ⟨this.1, this.2.2.1, this.2.2.2.1, this.2.2.2.2⟩
    · obtain ⟨d, rfl⟩ : ∃ d, j = i + d + 1 := ⟨j - i - 1, by omega⟩
      exact hrise.lt d i hj
  · rintro ⟨h1, h2⟩
    unfold armsB
    rw [List.all_eq_true]
    intro i hi
    have hi := List.mem_range.1 hi
    obtain ⟨g1, g2, g3, g4⟩ := h1 _ (List.getElem_mem hi)
    cases i with
    | zero => rw [okAt_zero hi]; simp [g1, g2, g3, g4]
    | succ j =>
      rw [okAt_succ hi]
      have hr := List.pairwise_iff_getElem.1 h2 j (j + 1) (by omega) hi (by omega)
      simp [g1, g2, g3, g4, hr]
end Go.Sy
