/- The plain law: a valid book; what a pair asks for is in the book. -/
import Derived.Test.YthjpcefjgmklfaaDoorPa
set_option linter.unusedSimpArgs false
set_option linter.unusedVariables false
set_option linter.unusedSectionVars false
namespace Go.Sy

theorem book_node {b : Bk} (h : bookB b = true) {x : Nd} (hx : x ∈ b.nodes) : nodeB b.nodes.length x = true := by
  simp only [bookB, Bool.and_eq_true] at h
  exact List.all_eq_true.1 h.2.2.2 x hx
theorem book_n {b : Bk} (h : bookB b = true) : b.nodes.length ≤ 400 := by
  simp only [bookB, Bool.and_eq_true, decide_eq_true_eq] at h
  exact h.1
theorem node_arms {n : Int} {x : Nd} (h : nodeB n x = true) : x.arms.length ≤ 6 ∧ ∀ i, i < x.arms.length → okAt n x.arms i = true := by
  unfold nodeB at h
  split at h
  · simp only [Bool.and_eq_true, decide_eq_true_eq] at h
    exact ⟨by omega, fun i hi => by omega⟩
  · simp only [Bool.and_eq_true, decide_eq_true_eq] at h
    exact ⟨h.2.2.2.1, fun i hi => List.all_eq_true.1 h.2.2.2.2 i (List.mem_range.2 hi)⟩
theorem node_edge {n : Int} {x : Nd} (h : nodeB n x = true) {e : Edge} (he : e ∈ x.arms) : nameB e.label = true ∧ 0 ≤ e.next ∧ e.next < n ∧ sortB e.kind e.at_ n = true := by
  obtain ⟨i, hi, rfl⟩ := List.mem_iff_getElem.1 he
  have := (node_arms h).2 i hi
  cases i with
  | zero =>
    rw [okAt_zero hi] at this
    simp only [Bool.and_eq_true, decide_eq_true_eq] at this
    exact ⟨this.1, this.2.1, this.2.2.1, this.2.2.2⟩
  | succ j =>
    rw [okAt_succ hi] at this
    simp only [Bool.and_eq_true, decide_eq_true_eq] at this
    exact ⟨this.1, this.2.2.1, this.2.2.2.1, this.2.2.2.2⟩

theorem edgeS_mem {x : Nd} {s : ByteArray} {e : Edge} (h : edgeS x s = some e) : e ∈ x.arms ∧ e.label = s := by
  unfold edgeS at h
  exact ⟨List.mem_of_find?_eq_some h, by simpa using List.find?_some h⟩

theorem askE_range {n : Nat} {k : Int} {y : Nd} (hy : nodeB n y = true) {x : Nd} (hx : nodeB n x = true) {a : Edge} (ha : a ∈ x.arms) {u : List (Int × Int)} (h : askE k y a = some u) : ∀ p ∈ u, inR n p := by
  unfold askE at h
  split at h
  · injection h with h; subst h; simp
  · rename_i c hc
    split at h
    · rename_i hk
      injection h with h; subst h
      obtain ⟨_, a1, a2, a3⟩ := node_edge hx ha
      obtain ⟨_, c1, c2, c3⟩ := node_edge hy (edgeS_mem hc).1
      intro p hp
      have hs : a.kind = 5 → 0 ≤ a.at_ ∧ a.at_ < n ∧ 0 ≤ c.at_ ∧ c.at_ < n := by
        intro h5
        have hc5 : c.kind = 5 := by omega
        simp only [sortB, h5, hc5, if_true, Bool.and_eq_true, decide_eq_true_eq] at a3 c3
        omega
      rcases List.mem_append.1 hp with hp | hp
      · split at hp
        · rename_i h5; have := hs h5.1; simp at hp; subst hp; exact ⟨this.2.2.1, this.2.2.2, this.1, this.2.1⟩
        · cases hp
      · rcases List.mem_append.1 hp with hp | hp
        · split at hp
          · rename_i h5; have := hs h5.1; simp at hp; subst hp; exact ⟨this.1, this.2.1, this.2.2.1, this.2.2.2⟩
          · cases hp
        · simp at hp; subst hp; exact ⟨a1, a2, c1, c2⟩
    · cases h
theorem asksL_range {n : Nat} {k : Int} {y : Nd} (hy : nodeB n y = true) {x : Nd} (hx : nodeB n x = true) : ∀ {l : List Edge} {u : List (Int × Int)}, (∀ a ∈ l, a ∈ x.arms) → asksL k y l = some u → ∀ p ∈ u, inR n p
  | [], u, _, h => by simp [asksL] at h; subst h; simp
  | a :: l, u, hl, h => by
    unfold asksL at h
    split at h
    · cases h
    · rename_i v hv
      split at h
      · cases h
      · rename_i v' hv'
        injection h with h; subst h
        intro p hp
        rcases List.mem_append.1 hp with hp | hp
        · exact askE_range hy hx (hl a List.mem_cons_self) hv p hp
        · exact asksL_range hy hx (fun a ha => hl a (List.mem_cons_of_mem _ ha)) hv' p hp
theorem ndAt_mem {b : Bk} {x : Int} (h0 : 0 ≤ x) (h1 : x < b.nodes.length) : ndAt b x ∈ b.nodes ∧ ∃ i : Nat, x = i ∧ ∃ hi : i < b.nodes.length, ndAt b x = b.nodes[i] := by
  have hi : x.toNat < b.nodes.length := by omega
  have : ndAt b x = b.nodes[x.toNat] := by simp [ndAt, hi]
  exact ⟨by rw [this]; exact List.getElem_mem hi, x.toNat, by omega, hi, this⟩
theorem asksAt_range {b : Bk} (hb : bookB b = true) {p : Int × Int} (hp : inR b.nodes.length p) {u : List (Int × Int)} (h : asksAt b p = some u) : ∀ q ∈ u, inR b.nodes.length q := by
  obtain ⟨h1, h2, h3, h4⟩ := hp
  have hx := book_node hb (ndAt_mem h1 h2).1
  have hy := book_node hb (ndAt_mem h3 h4).1
  unfold asksAt asksS at h
  split at h
  · exact asksL_range hy hx (fun a ha => ha) h
  · cases h
end Go.Sy
