/- The plain law of UnderEqual: equal nodes are those of which each is under the other. -/
import Derived.Test.YthjpcefjgmklfaaDoorQo
set_option linter.unusedSimpArgs false
set_option linter.unusedVariables false
set_option linter.unusedSectionVars false
namespace Go.Sy

theorem rise_eq : ∀ {l m : List ByteArray}, l.Pairwise (fun a b => sLt a b = true) → m.Pairwise (fun a b => sLt a b = true) → (∀ s, s ∈ l ↔ s ∈ m) → l = m
  | [], [], _, _, _ => rfl
  | [], c :: m, _, _, h => by
    have := (h c).2 List.mem_cons_self
    cases this
  | a :: l, [], _, _, h => by
    have := (h a).1 List.mem_cons_self
    cases this
  | a :: l, c :: m, hl, hm, h => by
    obtain ⟨l1, l2⟩ := List.pairwise_cons.1 hl
    obtain ⟨m1, m2⟩ := List.pairwise_cons.1 hm
    have hac : a = c := by
      rcases List.mem_cons.1 ((h a).1 List.mem_cons_self) with h1 | h1
      · exact h1
      · rcases List.mem_cons.1 ((h c).2 List.mem_cons_self) with h2 | h2
        · exact h2.symm
        · have := sLt_trans (m1 a h1) (l1 c h2)
          rw [sLt_irr] at this; cases this
    subst hac
    have := rise_eq l2 m2 fun s => by
      constructor
      · intro hs
        rcases List.mem_cons.1 ((h s).1 (List.mem_cons_of_mem _ hs)) with h1 | h1
        · subst h1
          have := l1 s hs
          rw [sLt_irr] at this; cases this
        · exact h1
      · intro hs
        rcases List.mem_cons.1 ((h s).2 (List.mem_cons_of_mem _ hs)) with h1 | h1
        · subst h1
          have := m1 s hs
          rw [sLt_irr] at this; cases this
        · exact h1
    rw [this]
theorem node_labels {n : Int} {x : Nd} (h : nodeB n x = true) : (x.arms.map Edge.label).Pairwise fun a b => sLt a b = true := by
  rw [List.pairwise_map]
  refine List.pairwise_iff_getElem.2 fun i j hi hj hij => ?_
  obtain ⟨d, rfl⟩ : ∃ d, j = i + d + 1 := ⟨j - i - 1, by omega⟩
  exact (node_rise h).lt d i hj
theorem labels_at {x y : Nd} (h : x.arms.map Edge.label = y.arms.map Edge.label) : x.arms.length = y.arms.length ∧ ∀ i (hi : i < x.arms.length) (hi' : i < y.arms.length), x.arms[i].label = y.arms[i].label := by
  have hl : x.arms.length = y.arms.length := by simpa using congrArg List.length h
  refine ⟨hl, fun i hi hi' => ?_⟩
  have := congrArg (fun l : List ByteArray => l[i]?) h
  simpa [hi, hi'] using this

section
variable {b : Bk} (hb : bookB b = true)
include hb
/-- Equal nodes are under one another. -/
theorem bis_is {x y : Int} (h : Bis b x y) : isB b x y = true := by
  refine isB_of hb (S := fun p => Bis b p.1 p.2) ?_ h
  rintro ⟨x, y⟩ hxy
  have hxy : Bis b x y := hxy
  obtain ⟨r0, r1, r2, r3⟩ := hxy.range
  have f := hxy.fit
  have hx := node_at hb r0 r1
  have hy := node_at hb r2 r3
  have f : FitP (Bis b) (ndAt b x) (ndAt b y) := f
  refine ⟨⟨r0, r1, r2, r3⟩, f.kind, f.peer, fun _ => ?_, fun _ => ?_, fun a ha c hc => ?_⟩
  · refine withinB_iff.2 fun a ha => ?_
    obtain ⟨i, hi, rfl⟩ := List.mem_iff_getElem.1 ha
    have hi' : i < (ndAt b x).arms.length := by rw [f.len]; exact hi
    exact ⟨_, List.getElem_mem hi', (f.arm i hi' hi).label⟩
  · refine withinB_iff.2 fun a ha => ?_
    obtain ⟨i, hi, rfl⟩ := List.mem_iff_getElem.1 ha
    have hi' : i < (ndAt b y).arms.length := by rw [← f.len]; exact hi
    exact ⟨_, List.getElem_mem hi', (f.arm i hi hi').label.symm⟩
  · obtain ⟨i, hi, rfl⟩ := List.mem_iff_getElem.1 ha
    have hi' : i < (ndAt b y).arms.length := by rw [← f.len]; exact hi
    have fa := f.arm i hi hi'
    rw [fa.label, edgeS_self hy (List.getElem_mem hi')] at hc
    have hc := Option.some.inj hc
    subst hc
    exact ⟨fa.kind, fun h5 _ => bis_symm (fa.at_ h5), fun h5 _ => fa.at_ h5, fa.next⟩
/-- Nodes of which each is under the other are equal. -/
theorem is_bis {x y : Int} (h1 : isB b x y = true) (h2 : isB b y x = true) : Bis b x y := by
  refine ⟨fun x y => isB b x y = true ∧ isB b y x = true, ?_, h1, h2⟩
  rintro x y ⟨h1, h2⟩
  obtain ⟨⟨r0, r1, r2, r3⟩, g1⟩ := isB_sim (b := b) (x, y) h1
  obtain ⟨_, g2⟩ := isB_sim (b := b) (y, x) h2
  simp only at r0 r1 r2 r3 g1 g2
  have hx := node_at hb r0 r1
  have hy := node_at hb r2 r3
  have hw : withinB (ndAt b x) (ndAt b y) = true ∧ withinB (ndAt b y) (ndAt b x) = true := by
    rcases node_kind hx with ⟨k0, a0⟩ | hk | hk
    · rcases node_kind hy with ⟨k1, c0⟩ | hk | hk
      · constructor
        · rw [withinB_iff, a0]
          intro a ha; cases ha
        · rw [withinB_iff, c0]
          intro a ha; cases ha
      · have := g1.kind; omega
      · have := g1.kind; omega
    · exact ⟨g2.send (by rw [g2.kind]; exact hk), g1.send hk⟩
    · exact ⟨g1.recv hk, g2.recv (by rw [g2.kind]; exact hk)⟩
  have hlab : (ndAt b x).arms.map Edge.label = (ndAt b y).arms.map Edge.label := by
    refine rise_eq (node_labels hx) (node_labels hy) fun s => ?_
    constructor
    · intro hs
      obtain ⟨a, ha, rfl⟩ := List.mem_map.1 hs
      obtain ⟨e, he, hl⟩ := withinB_iff.1 hw.1 a ha
      exact List.mem_map.2 ⟨e, he, hl⟩
    · intro hs
      obtain ⟨a, ha, rfl⟩ := List.mem_map.1 hs
      obtain ⟨e, he, hl⟩ := withinB_iff.1 hw.2 a ha
      exact List.mem_map.2 ⟨e, he, hl⟩
  obtain ⟨hlen, hat⟩ := labels_at hlab
  refine ⟨⟨r0, r1, r2, r3⟩, g1.kind, g1.peer, hlen, fun i hi hi' => ?_⟩
  have hi : i < (ndAt b x).arms.length := hi
  have hi' : i < (ndAt b y).arms.length := hi'
  have hl := hat i hi hi'
  have e1 := g1.arms _ (List.getElem_mem hi) _ (by rw [hl]; exact edgeS_self hy (List.getElem_mem hi'))
  have e2 := g2.arms _ (List.getElem_mem hi') _ (by rw [← hl]; exact edgeS_self hx (List.getElem_mem hi))
  have hk12 : (ndAt b x).kind = 1 ∨ (ndAt b x).kind = 2 := by
    rcases node_kind hx with ⟨_, a0⟩ | hk | hk
    · rw [a0] at hi; simp at hi
    · exact .inl hk
    · exact .inr hk
  show FitA _ (ndAt b x).arms[i] (ndAt b y).arms[i]
  refine ⟨hl, e1.kind, ⟨e1.next, e2.next⟩, fun h5 => ?_⟩
  have h5' : (ndAt b y).arms[i].kind = 5 := e1.kind ▸ h5
  rcases hk12 with hk | hk
  · exact ⟨e2.send h5' (by rw [← g1.kind]; exact hk), e1.send h5 hk⟩
  · exact ⟨e1.recv h5 hk, e2.recv h5' (by rw [← g1.kind]; exact hk)⟩
theorem bis_iff_is {x y : Int} : Bis b x y ↔ isB b x y = true ∧ isB b y x = true :=
  ⟨fun h => ⟨bis_is hb h, bis_is hb (bis_symm h)⟩, fun h => is_bis hb h.1 h.2⟩
end
end Go.Sy
