/- The plain law: one step of a subtype and its supertype. -/
import Derived.Test.YthjpcefjgmklfaaPc
set_option linter.unusedSimpArgs false
set_option linter.unusedVariables false
set_option linter.unusedSectionVars false
namespace Go.Sy

structure StepOk (b : Bk) (p q : Int) (A C : Nd) : Prop where
  rp : 0 ≤ p ∧ p < b.nodes.length
  rq : 0 ≤ q ∧ q < b.nodes.length
  atp : (b.nodes.map Nd.cs)[p.toNat]? = some A.cs
  atq : (b.nodes.map Nd.cs)[q.toNat]? = some C.cs
  kind : C.kind = A.kind
  peer : C.peer = A.peer
  la : A.arms.length ≤ 6
  lc : C.arms.length ≤ 6
  cases : (A.kind = 0 ∧ A.arms = []) ∨ (A.kind = 1 ∧ 1 ≤ C.arms.length ∧ ∀ c ∈ C.arms, ∃ a ∈ A.arms, a.label = c.label) ∨ (A.kind = 2 ∧ 1 ≤ A.arms.length ∧ ∀ a ∈ A.arms, ∃ c ∈ C.arms, c.label = a.label)
  arms : ∀ a ∈ A.arms, ∀ c ∈ C.arms, a.label = c.label → a.kind = c.kind ∧ isB b a.next c.next = true
  una : ∀ i j (hi : i < A.arms.length) (hj : j < A.arms.length), A.arms[i].label = A.arms[j].label → i = j
  unc : ∀ i j (hi : i < C.arms.length) (hj : j < C.arms.length), C.arms[i].label = C.arms[j].label → i = j

theorem node_pos {n : Int} {x : Nd} (h : nodeB n x = true) (hk : x.kind ≠ 0) : 1 ≤ x.arms.length := by
  unfold nodeB at h
  rw [if_neg hk] at h
  simp only [Bool.and_eq_true, decide_eq_true_eq] at h
  exact h.2.2.1
theorem ndAt_cs {b : Bk} {x : Int} (h0 : 0 ≤ x) (h1 : x < b.nodes.length) : (b.nodes.map Nd.cs)[x.toNat]? = some (ndAt b x).cs := by
  have hi : x.toNat < b.nodes.length := by omega
  simp [ndAt, hi]
theorem step_ok {b : Bk} {p q : Int} (h : isB b p q = true) : StepOk b p q (ndAt b p) (ndAt b q) := by
  have hb := isB_book h
  obtain ⟨⟨h1, h2, h3, h4⟩, hA⟩ := isB_sim (b := b) (p, q) h
  simp only at h1 h2 h3 h4 hA
  have hx := node_at hb h1 h2
  have hy := node_at hb h3 h4
  refine ⟨⟨h1, h2⟩, ⟨h3, h4⟩, ndAt_cs h1 h2, ndAt_cs h3 h4, hA.kind.symm, hA.peer.symm, (node_arms hx).1, (node_arms hy).1, ?_, ?_, fun i j hi hj he => (node_rise hx).inj hi hj he, fun i j hi hj he => (node_rise hy).inj hi hj he⟩
  · rcases node_kind hx with h0 | hk | hk
    · exact .inl h0
    · exact .inr (.inl ⟨hk, node_pos hy (by rw [← hA.kind, hk]; decide), withinB_iff.1 (hA.send hk)⟩)
    · exact .inr (.inr ⟨hk, node_pos hx (by rw [hk]; decide), withinB_iff.1 (hA.recv hk)⟩)
  · intro a ha c hc he
    have hs : edgeS (ndAt b q) a.label = some c := by rw [he]; exact edgeS_self hy hc
    have := hA.arms a ha c hs
    exact ⟨this.kind, this.next⟩
end Go.Sy
