/- The plain law: a node with an arm less. -/
import Derived.Test.YthjpcefjgmklfaaDoorPd
set_option linter.unusedSimpArgs false
set_option linter.unusedVariables false
set_option linter.unusedSectionVars false
namespace Go.Sy

theorem armsB_iff {n : Int} {l : List Edge} : armsB n l = true ↔ (∀ e ∈ l, nameB e.label = true ∧ 0 ≤ e.next ∧ e.next < n ∧ sortB e.kind e.at_ n = true) ∧ l.Pairwise fun a b => sLt a.label b.label = true := by
  constructor
  · intro h
    have hok : ∀ i, i < l.length → okAt n l i = true := fun i hi => List.all_eq_true.1 h i (List.mem_range.2 hi)
    have hrise : Rise l := by
      intro i hi
      have := hok (i + 1) hi
      rw [okAt_succ hi] at this
      simp only [Bool.and_eq_true] at this
      exact this.2.1
    refine ⟨fun e he => ?_, List.pairwise_iff_getElem.2 fun i j hi hj hij => ?_⟩
    · obtain ⟨i, hi, rfl⟩ := List.mem_iff_getElem.1 he
      have := hok i hi
      cases i with
      | zero =>
        rw [okAt_zero hi] at this
        simp only [Bool.and_eq_true, decide_eq_true_eq] at this
        exact ⟨this.1, this.2.1, this.2.2.1, this.2.2.2⟩
      | succ j =>
        rw [okAt_succ hi] at this
        simp only [Bool.and_eq_true, decide_eq_true_eq] at this
        exact ⟨this.1, this.2.2.1, this.2.2.2.1, this.2.2.2.2⟩
    · obtain ⟨d, rfl⟩ : ∃ d, j = i + d + 1 := ⟨j - i - 1, by omega⟩
      exact hrise.lt d i hj
  · rintro ⟨h1, h2⟩
    unfold armsB
    rw [List.all_eq_true]
    intro i hi
    have hi := List.mem_range.1 hi
    obtain ⟨g1, g2, g3, g4⟩ := h1 _ (List.getElem_mem hi)
    cases i with
    | zero => rw [okAt_zero hi]; simp [g1, g2, g3, g4]
    | succ j =>
      rw [okAt_succ hi]
      have hr := List.pairwise_iff_getElem.1 h2 j (j + 1) (by omega) hi (by omega)
      simp [g1, g2, g3, g4, hr]
theorem sortB_mono {k a n m : Int} (h : n ≤ m) (hs : sortB k a n = true) : sortB k a m = true := by
  unfold sortB at hs ⊢
  split at hs
  · rename_i h5
    rw [if_pos h5]
    simp only [Bool.and_eq_true, decide_eq_true_eq] at hs ⊢
    omega
  · rename_i h5
    rw [if_neg h5]; exact hs
theorem armsB_mono {n m : Int} (h : n ≤ m) {l l' : List Edge} (hs : l'.Sublist l) (ha : armsB n l = true) : armsB m l' = true := by
  obtain ⟨h1, h2⟩ := armsB_iff.1 ha
  refine armsB_iff.2 ⟨fun e he => ?_, h2.sublist hs⟩
  obtain ⟨g1, g2, g3, g4⟩ := h1 e (hs.subset he)
  exact ⟨g1, g2, by omega, sortB_mono h g4⟩
theorem nodeB_mono {n m : Int} (h : n ≤ m) {x : Nd} (hx : nodeB n x = true) : nodeB m x = true := by
  unfold nodeB at hx ⊢
  split at hx
  · rename_i h0; rw [if_pos h0]; exact hx
  · rename_i h0
    rw [if_neg h0]
    simp only [Bool.and_eq_true] at hx ⊢
    exact ⟨hx.1, hx.2.1, hx.2.2.1, hx.2.2.2.1, armsB_mono h (List.Sublist.refl _) hx.2.2.2.2⟩

def lessN (A : Nd) (k : Nat) : Nd := ⟨A.kind, A.peer, A.arms.take k ++ A.arms.drop (k + 1)⟩
theorem less_sub (A : Nd) (k : Nat) : (lessN A k).arms.Sublist A.arms := by
  show (A.arms.take k ++ A.arms.drop (k + 1)).Sublist A.arms
  rw [← List.eraseIdx_eq_take_drop_succ]
  exact List.eraseIdx_sublist _ _
theorem less_len {A : Nd} {k : Nat} (hk : k < A.arms.length) : (lessN A k).arms.length + 1 = A.arms.length := by
  show (A.arms.take k ++ A.arms.drop (k + 1)).length + 1 = _
  simp; omega
def bookC (b : Bk) (A : Nd) (k : Nat) : Bk := ⟨b.nodes ++ [lessN A k], [], []⟩

structure FewerOk (b : Bk) (p : Int) (A : Nd) : Prop where
  hb : bookB b = true
  h8 : b.nodes.length ≤ 8
  hp : 0 ≤ p ∧ p < b.nodes.length
  at_ : ndAt b p = A
  two : 2 ≤ A.arms.length
theorem FewerOk.node {b : Bk} {p : Int} {A : Nd} (h : FewerOk b p A) : nodeB b.nodes.length A = true := by
  rw [← h.at_]; exact node_at h.hb h.hp.1 h.hp.2
theorem FewerOk.kind {b : Bk} {p : Int} {A : Nd} (h : FewerOk b p A) : A.kind = 1 ∨ A.kind = 2 := by
  rcases node_kind h.node with ⟨_, h0⟩ | h1
  · have := h.two; rw [h0] at this; simp at this
  · exact h1
theorem FewerOk.less {b : Bk} {p : Int} {A : Nd} (h : FewerOk b p A) {k : Nat} (hk : k < A.arms.length) : nodeB ((b.nodes.length : Int) + 1) (lessN A k) = true := by
  have hn := h.node
  have hl := less_len hk
  have h2 := h.two
  have hne : A.kind ≠ 0 := by rcases h.kind with h | h <;> omega
  unfold nodeB at hn ⊢
  rw [if_neg hne] at hn
  rw [if_neg (show (lessN A k).kind ≠ 0 from hne)]
  simp only [Bool.and_eq_true, decide_eq_true_eq] at hn ⊢
  exact ⟨hn.1, hn.2.1, by omega, by omega, armsB_mono (by omega) (less_sub A k) hn.2.2.2.2⟩
theorem FewerOk.book {b : Bk} {p : Int} {A : Nd} (h : FewerOk b p A) {k : Nat} (hk : k < A.arms.length) : bookB (bookC b A k) = true := by
  have h8 := h.h8
  have hl : ((bookC b A k).nodes.length : Int) = (b.nodes.length : Int) + 1 := by simp [bookC]
  simp only [bookB, Bool.and_eq_true, decide_eq_true_eq]
  refine ⟨by simp [bookC]; omega, rfl, rfl, List.all_eq_true.2 fun x hx => ?_⟩
  rw [hl]
  rcases List.mem_append.1 hx with hx | hx
  · exact nodeB_mono (by omega) (book_node h.hb hx)
  · simp at hx; subst hx; exact h.less hk
theorem FewerOk.atP {b : Bk} {p : Int} {A : Nd} (h : FewerOk b p A) (k : Nat) : ndAt (bookC b A k) p = A := by
  have hp := h.hp
  have hi : p.toNat < b.nodes.length := by omega
  have := h.at_
  simp only [ndAt, bookC] at this ⊢
  rw [List.getElem?_append_left hi]; exact this
theorem FewerOk.atN {b : Bk} {A : Nd} (k : Nat) : ndAt (bookC b A k) b.nodes.length = lessN A k := by
  simp [ndAt, bookC]
theorem less_uniq {n : Int} {A : Nd} (hA : nodeB n A = true) {k : Nat} {a c : Edge} (ha : a ∈ A.arms) (hc : c ∈ A.arms) (he : c.label = a.label) : c = a := by
  have h1 := edgeS_self hA ha
  have h2 := edgeS_self hA hc
  rw [he] at h2
  rw [h1] at h2
  injection h2 with h2; exact h2.symm
theorem less_gone {n : Int} {A : Nd} (hA : nodeB n A = true) {k : Nat} (hk : k < A.arms.length) : ∀ e ∈ (lessN A k).arms, e.label ≠ A.arms[k].label := by
  intro e he heq
  have : (A.arms.take k ++ A.arms.drop (k + 1)) = A.arms.eraseIdx k := (List.eraseIdx_eq_take_drop_succ _ _).symm
  have he' : e ∈ A.arms.eraseIdx k := by rw [← this]; exact he
  obtain ⟨i, hi, hik, rfl⟩ : ∃ i, ∃ hi : i < A.arms.length, i ≠ k ∧ A.arms[i] = e := by
    rw [List.mem_eraseIdx_iff_getElem] at he'
    obtain ⟨i, hi, hne, h⟩ := he'
    exact ⟨i, hi, hne, h⟩
  exact hik ((node_rise hA).inj hi hk heq)

theorem FewerOk.edge {b : Bk} {p : Int} {A : Nd} (h : FewerOk b p A) {k : Nat} (kd : Int) {a : Edge} (ha : a ∈ A.arms) {x y : Int} :
    EdgeOk (fun q => q = (x, y) ∨ (q.1 = q.2 ∧ 0 ≤ q.1 ∧ q.1 < (bookC b A k).nodes.length)) kd a a := by
  obtain ⟨a1, a2, a3⟩ := edge_range h.node ha
  have hl : ((bookC b A k).nodes.length : Int) = (b.nodes.length : Int) + 1 := by simp [bookC]
  refine ⟨rfl, fun h5 _ => .inr ⟨rfl, (a3 h5).1, ?_⟩, fun h5 _ => .inr ⟨rfl, (a3 h5).1, ?_⟩, .inr ⟨rfl, a1, ?_⟩⟩
  · rw [hl]; have := (a3 h5).2; simp only; omega
  · rw [hl]; have := (a3 h5).2; simp only; omega
  · rw [hl]; simp only; omega
theorem FewerOk.diag {b : Bk} {p : Int} {A : Nd} (h : FewerOk b p A) {k : Nat} (hk : k < A.arms.length) {x y : Int} (hxy : inR (bookC b A k).nodes.length (x, y)) (hA : AskOk (fun q => q = (x, y) ∨ (q.1 = q.2 ∧ 0 ≤ q.1 ∧ q.1 < (bookC b A k).nodes.length)) (ndAt (bookC b A k) x) (ndAt (bookC b A k) y)) :
    isB (bookC b A k) x y = true := by
  refine isB_of (h.book hk) (S := fun q => q = (x, y) ∨ (q.1 = q.2 ∧ 0 ≤ q.1 ∧ q.1 < (bookC b A k).nodes.length)) ?_ (.inl rfl)
  rintro q (rfl | hq)
  · exact ⟨hxy, hA⟩
  · have := diag_sim (h.book hk) q hq
    exact ⟨this.1, this.2.mono fun p hp => .inr hp⟩
theorem FewerOk.send {b : Bk} {p : Int} {A : Nd} (h : FewerOk b p A) {k : Nat} (hk : k < A.arms.length) (h1 : A.kind = 1) :
    isB (bookC b A k) p b.nodes.length = true ∧ isB (bookC b A k) b.nodes.length p = false := by
  have hp := h.hp
  have hl : ((bookC b A k).nodes.length : Int) = (b.nodes.length : Int) + 1 := by simp [bookC]
  have hsub := (less_sub A k).subset
  constructor
  · refine h.diag hk ⟨hp.1, by simp only; omega, by simp only; omega, by simp only; omega⟩ ?_
    rw [h.atP k, FewerOk.atN]
    refine ⟨rfl, rfl, fun _ => withinB_iff.2 fun a ha => ⟨a, hsub ha, rfl⟩, fun h2 => by omega, fun a ha c hc => ?_⟩
    obtain ⟨c1, c2⟩ := edgeS_mem hc
    obtain rfl := less_uniq h.node (k := k) ha (hsub c1) c2
    exact h.edge _ ha
  · cases hi : isB (bookC b A k) b.nodes.length p with
    | false => rfl
    | true =>
      obtain ⟨_, hA⟩ := isB_sim (b := bookC b A k) ((b.nodes.length : Int), p) hi
      simp only at hA
      rw [h.atP k, FewerOk.atN] at hA
      obtain ⟨e, he, hle⟩ := withinB_iff.1 (hA.send h1) A.arms[k] (List.getElem_mem hk)
      exact absurd hle (less_gone h.node hk e he)
theorem FewerOk.recv {b : Bk} {p : Int} {A : Nd} (h : FewerOk b p A) {k : Nat} (hk : k < A.arms.length) (h2 : A.kind = 2) :
    isB (bookC b A k) b.nodes.length p = true ∧ isB (bookC b A k) p b.nodes.length = false := by
  have hp := h.hp
  have hl : ((bookC b A k).nodes.length : Int) = (b.nodes.length : Int) + 1 := by simp [bookC]
  have hsub := (less_sub A k).subset
  constructor
  · refine h.diag hk ⟨by simp only; omega, by simp only; omega, hp.1, by simp only; omega⟩ ?_
    rw [h.atP k, FewerOk.atN]
    refine ⟨rfl, rfl, fun h1 => by have : A.kind = 1 := h1; omega, fun _ => withinB_iff.2 fun a ha => ⟨a, hsub ha, rfl⟩, fun a ha c hc => ?_⟩
    obtain ⟨c1, c2⟩ := edgeS_mem hc
    obtain rfl := less_uniq h.node (k := k) (hsub ha) c1 c2
    exact h.edge _ c1
  · cases hi : isB (bookC b A k) p b.nodes.length with
    | false => rfl
    | true =>
      obtain ⟨_, hA⟩ := isB_sim (b := bookC b A k) (p, (b.nodes.length : Int)) hi
      simp only at hA
      rw [h.atP k, FewerOk.atN] at hA
      obtain ⟨e, he, hle⟩ := withinB_iff.1 (hA.recv h2) A.arms[k] (List.getElem_mem hk)
      exact absurd hle (less_gone h.node hk e he)
end Go.Sy
