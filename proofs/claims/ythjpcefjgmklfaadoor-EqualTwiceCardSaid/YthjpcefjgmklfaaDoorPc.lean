/- The plain law: subtyping is the largest simulation; it is reflexive and transitive on valid books. -/
import Derived.Test.YthjpcefjgmklfaaDoorFj
set_option linter.unusedSimpArgs false
set_option linter.unusedVariables false
set_option linter.unusedSectionVars false
namespace Go.Sy

/-! The order of labels. -/
theorem bl_irr : ∀ l : List UInt8, Op.bytesLess l l = false
  | [] => rfl
  | a :: l => by simp [Op.bytesLess, bl_irr l]
theorem bl_trans : ∀ {x y z : List UInt8}, Op.bytesLess x y = true → Op.bytesLess y z = true → Op.bytesLess x z = true
  | _, [], _, h, _ => by cases ‹List UInt8› <;> simp [Op.bytesLess] at h
  | _, _ :: _, [], _, h => by simp [Op.bytesLess] at h
  | [], _ :: _, _ :: _, _, _ => rfl
  | a :: x, b :: y, c :: z, h1, h2 => by
    simp only [Op.bytesLess, Bool.or_eq_true, decide_eq_true_eq, Bool.and_eq_true, beq_iff_eq] at h1 h2 ⊢
    rcases h1 with h1 | ⟨rfl, h1⟩
    · rcases h2 with h2 | ⟨rfl, h2⟩
      · exact .inl (UInt8.lt_trans h1 h2)
      · exact .inl h1
    · rcases h2 with h2 | ⟨rfl, h2⟩
      · exact .inl h2
      · exact .inr ⟨rfl, bl_trans h1 h2⟩
theorem sLt_irr (s : ByteArray) : sLt s s = false := bl_irr _
theorem sLt_trans {a b c : ByteArray} (h1 : sLt a b = true) (h2 : sLt b c = true) : sLt a c = true := bl_trans h1 h2

/-- The labels of these arms rise. -/
def Rise (l : List Edge) : Prop := ∀ i (h : i + 1 < l.length), sLt l[i].label l[i + 1].label = true
theorem Rise.lt {l : List Edge} (h : Rise l) : ∀ (d i : Nat) (hj : i + d + 1 < l.length), sLt l[i].label l[i + d + 1].label = true
  | 0, i, hj => h i hj
  | d + 1, i, hj => sLt_trans (h.lt d i (by omega)) (h (i + d + 1) hj)
theorem Rise.inj {l : List Edge} (h : Rise l) {i j : Nat} (hi : i < l.length) (hj : j < l.length) (he : l[i].label = l[j].label) : i = j := by
  rcases Nat.lt_trichotomy i j with hlt | heq | hlt
  · obtain ⟨d, rfl⟩ : ∃ d, j = i + d + 1 := ⟨j - i - 1, by omega⟩
    have := h.lt d i hj
    rw [he, sLt_irr] at this; cases this
  · exact heq
  · obtain ⟨d, rfl⟩ : ∃ d, i = j + d + 1 := ⟨i - j - 1, by omega⟩
    have := h.lt d j hi
    rw [he, sLt_irr] at this; cases this
theorem node_rise {n : Int} {x : Nd} (h : nodeB n x = true) : Rise x.arms := by
  intro i hi
  have := (node_arms h).2 (i + 1) hi
  rw [okAt_succ hi] at this
  simp only [Bool.and_eq_true] at this
  exact this.2.1
theorem edgeS_self {n : Int} {x : Nd} (h : nodeB n x = true) {a : Edge} (ha : a ∈ x.arms) : edgeS x a.label = some a := by
  cases hs : edgeS x a.label with
  | none =>
    unfold edgeS at hs
    rw [List.find?_eq_none] at hs
    exact absurd (by simp) (hs a ha)
  | some c =>
    obtain ⟨hc, hl⟩ := edgeS_mem hs
    obtain ⟨i, hi, rfl⟩ := List.mem_iff_getElem.1 ha
    obtain ⟨j, hj, rfl⟩ := List.mem_iff_getElem.1 hc
    obtain rfl := (node_rise h).inj hj hi hl
    rfl
theorem edgeS_none {x : Nd} {s : ByteArray} : edgeS x s = none ↔ ∀ e ∈ x.arms, e.label ≠ s := by
  unfold edgeS
  rw [List.find?_eq_none]
  simp
theorem edgeS_some {x : Nd} {s : ByteArray} : (edgeS x s).isSome = true ↔ ∃ e ∈ x.arms, e.label = s := by
  cases h : edgeS x s with
  | none =>
    simp only [Option.isSome_none, Bool.false_eq_true, false_iff]
    rintro ⟨e, he, hs⟩
    exact edgeS_none.1 h e he hs
  | some c =>
    simp only [Option.isSome_some, true_iff]
    exact ⟨c, edgeS_mem h⟩
theorem withinB_iff {x y : Nd} : withinB x y = true ↔ ∀ a ∈ x.arms, ∃ e ∈ y.arms, e.label = a.label := by
  have h0 : withinB x y = true ↔ ∀ a ∈ x.arms, (edgeS y a.label).isSome = true := by simp [withinB, Option.isSome_iff_ne_none]
  rw [h0]
  exact ⟨fun h a ha => edgeS_some.1 (h a ha), fun h a ha => edgeS_some.2 (h a ha)⟩

/-! What a pair asks for, as a relation. -/
structure EdgeOk (S : Int × Int → Prop) (k : Int) (a c : Edge) : Prop where
  kind : a.kind = c.kind
  send : a.kind = 5 → k = 1 → S (c.at_, a.at_)
  recv : a.kind = 5 → k = 2 → S (a.at_, c.at_)
  next : S (a.next, c.next)
structure AskOk (S : Int × Int → Prop) (x y : Nd) : Prop where
  kind : x.kind = y.kind
  peer : x.peer = y.peer
  send : x.kind = 1 → withinB y x = true
  recv : x.kind = 2 → withinB x y = true
  arms : ∀ a ∈ x.arms, ∀ c, edgeS y a.label = some c → EdgeOk S x.kind a c

theorem askE_ok {S : Int × Int → Prop} {k : Int} {y : Nd} {a : Edge} : (∃ u, askE k y a = some u ∧ ∀ q ∈ u, S q) ↔ ∀ c, edgeS y a.label = some c → EdgeOk S k a c := by
  unfold askE
  cases h : edgeS y a.label with
  | none => simp
  | some c =>
    simp only [Option.some.injEq, forall_eq']
    by_cases hk : a.kind = c.kind
    · rw [if_pos hk]
      constructor
      · rintro ⟨u, hu, hS⟩
        injection hu with hu; subst hu
        refine ⟨hk, fun h5 h1 => hS _ ?_, fun h5 h1 => hS _ ?_, hS _ (by simp)⟩
        · rw [if_pos ⟨h5, h1⟩]; simp
        · rw [if_pos (⟨h5, h1⟩ : a.kind = 5 ∧ k = 2)]; simp
      · intro hE
        refine ⟨_, rfl, fun q hq => ?_⟩
        rcases List.mem_append.1 hq with hq | hq
        · split at hq
          · rename_i h5; simp at hq; subst hq; exact hE.send h5.1 h5.2
          · cases hq
        · rcases List.mem_append.1 hq with hq | hq
          · split at hq
            · rename_i h5; simp at hq; subst hq; exact hE.recv h5.1 h5.2
            · cases hq
          · simp at hq; subst hq; exact hE.next
    · rw [if_neg hk]
      constructor
      · rintro ⟨u, hu, _⟩; cases hu
      · intro hE; exact absurd hE.kind hk
theorem asksL_ok {S : Int × Int → Prop} {k : Int} {y : Nd} : ∀ {l : List Edge}, (∃ u, asksL k y l = some u ∧ ∀ q ∈ u, S q) ↔ ∀ a ∈ l, ∀ c, edgeS y a.label = some c → EdgeOk S k a c
  | [] => by simp [asksL]
  | a :: l => by
    have ih := asksL_ok (S := S) (k := k) (y := y) (l := l)
    have hE := askE_ok (S := S) (k := k) (y := y) (a := a)
    rw [List.forall_mem_cons, ← ih, ← hE]
    show (∃ u', (match askE k y a with | none => none | some u => match asksL k y l with | none => none | some v => some (u ++ v)) = some u' ∧ ∀ q ∈ u', S q) ↔ _
    clear ih hE
    cases h1 : askE k y a with
    | none => simp
    | some u =>
      cases h2 : asksL k y l with
      | none => simp
      | some v =>
        simp only [Option.some.injEq, exists_eq_left']
        constructor
        · intro h; exact ⟨fun q hq => h q (List.mem_append_left _ hq), fun q hq => h q (List.mem_append_right _ hq)⟩
        · rintro ⟨h1, h2⟩ q hq
          rcases List.mem_append.1 hq with hq | hq
          · exact h1 q hq
          · exact h2 q hq
theorem asksS_ok {S : Int × Int → Prop} {x y : Nd} : (∃ u, asksS x y = some u ∧ ∀ q ∈ u, S q) ↔ AskOk S x y := by
  unfold asksS
  by_cases hl : localB x y = true
  · rw [if_pos hl, asksL_ok]
    simp only [localB, Bool.and_eq_true, decide_eq_true_eq, Bool.or_eq_true, Bool.not_eq_true', decide_eq_false_iff_not] at hl
    obtain ⟨h1, h2, h3, h4⟩ := hl
    constructor
    · intro h; exact ⟨h1, h2, fun hk => h3.resolve_left (by simp [hk]), fun hk => h4.resolve_left (by simp [hk]), h⟩
    · intro h; exact h.arms
  · rw [if_neg hl]
    constructor
    · rintro ⟨u, hu, _⟩; cases hu
    · intro h
      refine absurd ?_ hl
      simp only [localB, Bool.and_eq_true, decide_eq_true_eq, Bool.or_eq_true, Bool.not_eq_true', decide_eq_false_iff_not]
      refine ⟨h.kind, h.peer, ?_, ?_⟩
      · by_cases hk : x.kind = 1
        · exact .inr (h.send hk)
        · exact .inl hk
      · by_cases hk : x.kind = 2
        · exact .inr (h.recv hk)
        · exact .inl hk

/-- A simulation: pairs of nodes, closed under what they ask for. -/
def Sim (b : Bk) (S : Int × Int → Prop) : Prop := ∀ p, S p → inR b.nodes.length p ∧ AskOk S (ndAt b p.1) (ndAt b p.2)
theorem ask_ok {b : Bk} {S : Int × Int → Prop} {p : Int × Int} : (∃ u, asksAt b p = some u ∧ ∀ q ∈ u, S q) ↔ AskOk S (ndAt b p.1) (ndAt b p.2) := asksS_ok
theorem EdgeOk.mono {S T : Int × Int → Prop} (h : ∀ p, S p → T p) {k : Int} {a c : Edge} (hE : EdgeOk S k a c) : EdgeOk T k a c := ⟨hE.kind, fun h1 h2 => h _ (hE.send h1 h2), fun h1 h2 => h _ (hE.recv h1 h2), h _ hE.next⟩
theorem AskOk.mono {S T : Int × Int → Prop} (h : ∀ p, S p → T p) {x y : Nd} (hA : AskOk S x y) : AskOk T x y := ⟨hA.kind, hA.peer, hA.send, hA.recv, fun a ha c hc => (hA.arms a ha c hc).mono h⟩

/-! What Pairs tells is a simulation, and it finds one where there is one. -/
theorem runP_sound {b : Bk} : ∀ (f i : Nat) (out R : List (Int × Int)), runP b f i out = some R → (∀ j (h : j < out.length), j < i → ∃ u, asksAt b out[j] = some u ∧ ∀ q ∈ u, q ∈ out) →
    (∃ r, R = out ++ r) ∧ ∀ p ∈ R, ∃ u, asksAt b p = some u ∧ ∀ q ∈ u, q ∈ R
  | 0, _, _, _, h, _ => by simp [runP] at h
  | f + 1, i, out, R, h, hd => by
    unfold runP at h
    cases hx : out[i]? with
    | none =>
      rw [hx] at h
      injection h with h; subst h
      refine ⟨⟨[], by simp⟩, fun p hp => ?_⟩
      obtain ⟨j, hj, rfl⟩ := List.mem_iff_getElem.1 hp
      exact hd j hj (by rw [List.getElem?_eq_none_iff] at hx; omega)
    | some p =>
      rw [hx] at h
      obtain ⟨hi, hpe⟩ := List.getElem?_eq_some_iff.1 hx
      simp only at h
      cases ha : asksAt b p with
      | none => rw [ha] at h; cases h
      | some l =>
        rw [ha] at h
        obtain ⟨r, hr⟩ := addAll_pre l out
        obtain ⟨⟨r', hr'⟩, hc⟩ := runP_sound f (i + 1) _ R h (fun j hj hji => by
          have hsub : ∀ q ∈ out, q ∈ addAll out l := fun q hq => addAll_mem.2 (.inl hq)
          by_cases hjo : j < out.length
          · have hje : (addAll out l)[j] = out[j] := by simp [hr, List.getElem_append_left hjo]
            rw [hje]
            by_cases hj' : j < i
            · obtain ⟨u, hu, hq⟩ := hd j hjo hj'
              exact ⟨u, hu, fun q hq' => hsub q (hq q hq')⟩
            · obtain rfl : j = i := by omega
              rw [hpe]
              exact ⟨l, ha, fun q hq => addAll_mem.2 (.inr hq)⟩
          · omega)
        exact ⟨⟨r ++ r', by rw [hr', hr, List.append_assoc]⟩, hc⟩
theorem runP_range {b : Bk} (hb : bookB b = true) : ∀ (f i : Nat) (out R : List (Int × Int)), runP b f i out = some R → (∀ p ∈ out, inR b.nodes.length p) → ∀ p ∈ R, inR b.nodes.length p
  | 0, _, _, _, h, _ => by simp [runP] at h
  | f + 1, i, out, R, h, hd => by
    unfold runP at h
    cases hx : out[i]? with
    | none => rw [hx] at h; injection h with h; subst h; exact hd
    | some p =>
      rw [hx] at h
      simp only at h
      cases ha : asksAt b p with
      | none => rw [ha] at h; cases h
      | some l =>
        rw [ha] at h
        have hp := hd p (List.mem_of_getElem? hx)
        exact runP_range hb f (i + 1) _ R h (fun q hq => by
          rcases addAll_mem.1 hq with hq | hq
          · exact hd q hq
          · exact asksAt_range hb hp ha q hq)
theorem runP_complete {b : Bk} (hb : bookB b = true) {S : Int × Int → Prop} (hS : Sim b S) : ∀ (f i : Nat) (out : List (Int × Int)), b.nodes.length * b.nodes.length + 1 ≤ f + i → i ≤ out.length → out.Nodup → (∀ p ∈ out, S p) → (runP b f i out).isSome = true
  | 0, i, out, hf, hi, hn, hd => by
    have := inR_le hn (fun p hp => (hS p (hd p hp)).1)
    omega
  | f + 1, i, out, hf, hi, hn, hd => by
    unfold runP
    cases hx : out[i]? with
    | none => rfl
    | some p =>
      obtain ⟨hil, _⟩ := List.getElem?_eq_some_iff.1 hx
      obtain ⟨u, hu, hq⟩ := ask_ok.2 (hS p (hd p (List.mem_of_getElem? hx))).2
      simp only [hu]
      obtain ⟨r, hr⟩ := addAll_pre u out
      refine runP_complete hb hS f (i + 1) _ (by omega) (by rw [hr, List.length_append]; omega) (addAll_nodup hn) (fun q hq' => ?_)
      rcases addAll_mem.1 hq' with h | h
      · exact hd q h
      · exact hq q h

theorem places_iff {n : Nat} {x y : Int} : placesB n x y = true ↔ inR n (x, y) := by
  simp [placesB, inR]; omega

theorem pairs_spec {b : Bk} {x y : Int} {R : List (Int × Int)} (h : pairsS b x y = some R) :
    bookB b = true ∧ (∃ r, R = (x, y) :: r) ∧ Sim b (· ∈ R) := by
  unfold pairsS at h
  split at h
  · rename_i hc
    simp only [Bool.and_eq_true] at hc
    obtain ⟨hb, hp⟩ := hc
    have hr := runP_range hb _ _ _ _ h (fun p hp' => by simp at hp'; subst hp'; exact places_iff.1 hp)
    obtain ⟨⟨r, h1⟩, h2⟩ := runP_sound _ _ _ _ h (fun j hj hj0 => by omega)
    exact ⟨hb, ⟨r, h1⟩, fun p hp => ⟨hr p hp, ask_ok.1 (h2 p hp)⟩⟩
  · cases h
theorem isB_of {b : Bk} (hb : bookB b = true) {S : Int × Int → Prop} (hS : Sim b S) {x y : Int} (h : S (x, y)) : isB b x y = true := by
  unfold isB pairsS
  rw [if_pos]
  · exact runP_complete hb hS _ 0 _ (by omega) (Nat.zero_le _) (by simp) (fun p hp => by simp at hp; subst hp; exact h)
  · rw [Bool.and_eq_true]
    exact ⟨hb, places_iff.2 (hS _ h).1⟩
theorem isB_sim {b : Bk} : Sim b (fun p => isB b p.1 p.2 = true) := by
  rintro ⟨x, y⟩ h
  simp only [isB, Option.isSome_iff_exists] at h
  obtain ⟨R, hR⟩ := h
  obtain ⟨hb, ⟨r, h1⟩, h2⟩ := pairs_spec hR
  have h3 := h2 (x, y) (by rw [h1]; simp)
  exact ⟨h3.1, h3.2.mono fun p hp => isB_of hb h2 hp⟩
theorem isB_book {b : Bk} {x y : Int} (h : isB b x y = true) : bookB b = true := by
  simp only [isB, Option.isSome_iff_exists] at h
  obtain ⟨R, hR⟩ := h
  exact (pairs_spec hR).1

/-! Reflexive and transitive. -/
theorem ask_refl {n : Int} {x : Nd} (hx : nodeB n x = true) {S : Int × Int → Prop} (hS : ∀ a ∈ x.arms, S (a.next, a.next) ∧ (a.kind = 5 → S (a.at_, a.at_))) : AskOk S x x := by
  have hw : withinB x x = true := withinB_iff.2 fun a ha => ⟨a, ha, rfl⟩
  refine ⟨rfl, rfl, fun _ => hw, fun _ => hw, fun a ha c hc => ?_⟩
  rw [edgeS_self hx ha] at hc
  injection hc with hc; subst hc
  exact ⟨rfl, fun h _ => (hS a ha).2 h, fun h _ => (hS a ha).2 h, (hS a ha).1⟩
theorem node_at {b : Bk} (hb : bookB b = true) {x : Int} (h0 : 0 ≤ x) (h1 : x < b.nodes.length) : nodeB b.nodes.length (ndAt b x) = true := book_node hb (ndAt_mem h0 h1).1
theorem edge_range {n : Nat} {x : Nd} (hx : nodeB n x = true) {a : Edge} (ha : a ∈ x.arms) : 0 ≤ a.next ∧ a.next < n ∧ (a.kind = 5 → 0 ≤ a.at_ ∧ a.at_ < n) := by
  obtain ⟨_, a1, a2, a3⟩ := node_edge hx ha
  refine ⟨a1, a2, fun h5 => ?_⟩
  simp only [sortB, h5, if_true, Bool.and_eq_true, decide_eq_true_eq] at a3
  omega
theorem diag_sim {b : Bk} (hb : bookB b = true) : Sim b (fun p => p.1 = p.2 ∧ 0 ≤ p.1 ∧ p.1 < b.nodes.length) := by
  rintro ⟨x, y⟩ ⟨h, h0, h1⟩
  simp only at h h0 h1
  subst h
  refine ⟨⟨h0, h1, h0, h1⟩, ask_refl (node_at hb h0 h1) fun a ha => ?_⟩
  obtain ⟨a1, a2, a3⟩ := edge_range (node_at hb h0 h1) ha
  exact ⟨⟨rfl, a1, a2⟩, fun h5 => ⟨rfl, a3 h5⟩⟩
theorem isB_refl {b : Bk} (hb : bookB b = true) {x : Int} (h0 : 0 ≤ x) (h1 : x < b.nodes.length) : isB b x x = true :=
  isB_of hb (diag_sim hb) ⟨rfl, h0, h1⟩

theorem node_kind {n : Int} {x : Nd} (h : nodeB n x = true) : (x.kind = 0 ∧ x.arms = []) ∨ x.kind = 1 ∨ x.kind = 2 := by
  unfold nodeB at h
  split at h
  · rename_i h0
    simp only [Bool.and_eq_true, decide_eq_true_eq, List.length_eq_zero_iff] at h
    exact .inl ⟨h0, h.2⟩
  · simp only [Bool.and_eq_true, decide_eq_true_eq, Bool.or_eq_true] at h
    exact .inr h.1
theorem isB_trans {b : Bk} {x y z : Int} (h1 : isB b x y = true) (h2 : isB b y z = true) : isB b x z = true := by
  have hb := isB_book h1
  refine isB_of hb (S := fun p => ∃ y, isB b p.1 y = true ∧ isB b y p.2 = true) ?_ ⟨y, h1, h2⟩
  clear h1 h2 x y z
  rintro ⟨x, z⟩ ⟨y, h1, h2⟩
  simp only at h1 h2
  obtain ⟨⟨r1, r2, r3, r4⟩, g1⟩ := isB_sim (b := b) (x, y) h1
  obtain ⟨⟨q1, q2, q3, q4⟩, g2⟩ := isB_sim (b := b) (y, z) h2
  simp only at r1 r2 r3 r4 q1 q2 q3 q4 g1 g2 ⊢
  have hx := node_at hb r1 r2
  have hz := node_at hb q3 q4
  refine ⟨⟨r1, r2, q3, q4⟩, g1.kind.trans g2.kind, g1.peer.trans g2.peer, fun hk => ?_, fun hk => ?_, fun a ha c hc => ?_⟩
  · have w1 := withinB_iff.1 (g1.send hk)
    have w2 := withinB_iff.1 (g2.send (by rw [← g1.kind]; exact hk))
    refine withinB_iff.2 fun a ha => ?_
    obtain ⟨e, he, hl⟩ := w2 a ha
    obtain ⟨e', he', hl'⟩ := w1 e he
    exact ⟨e', he', hl'.trans hl⟩
  · have w1 := withinB_iff.1 (g1.recv hk)
    have w2 := withinB_iff.1 (g2.recv (by rw [← g1.kind]; exact hk))
    refine withinB_iff.2 fun a ha => ?_
    obtain ⟨e, he, hl⟩ := w1 a ha
    obtain ⟨e', he', hl'⟩ := w2 e he
    exact ⟨e', he', hl'.trans hl⟩
  · obtain ⟨hc1, hc2⟩ := edgeS_mem hc
    have hy : ∃ e ∈ (ndAt b y).arms, e.label = a.label := by
      rcases node_kind hx with ⟨_, h0⟩ | hk | hk
      · rw [h0] at ha; cases ha
      · obtain ⟨e, he, hl⟩ := withinB_iff.1 (g2.send (by rw [← g1.kind]; exact hk)) c hc1
        exact ⟨e, he, hl.trans hc2⟩
      · exact withinB_iff.1 (g1.recv hk) a ha
    obtain ⟨e, he⟩ := Option.isSome_iff_exists.1 (edgeS_some.2 hy)
    obtain ⟨he1, he2⟩ := edgeS_mem he
    have k1 := g1.arms a ha e he
    have k2 := g2.arms e he1 c (by rw [he2]; exact hc)
    refine ⟨k1.kind.trans k2.kind, fun h5 hk => ⟨e.at_, ?_, ?_⟩, fun h5 hk => ⟨e.at_, ?_, ?_⟩, ⟨e.next, k1.next, k2.next⟩⟩
    · exact k2.send (by rw [← k1.kind]; exact h5) (by rw [← g1.kind]; exact hk)
    · exact k1.send h5 hk
    · exact k1.recv h5 hk
    · exact k2.recv (by rw [← k1.kind]; exact h5) (by rw [← g1.kind]; exact hk)

/-! What Holds accepts are such pairs only; what Pairs tells is accepted. -/
theorem holds_sim {b : Bk} {l : List (Int × Int)} (h : holdsB b l = true) : bookB b = true ∧ Sim b (· ∈ l) := by
  simp only [holdsB, Bool.and_eq_true, List.all_eq_true] at h
  obtain ⟨hb, h1, h2⟩ := h
  refine ⟨hb, fun p hp => ⟨places_inR (h1 p hp), ask_ok.1 ?_⟩⟩
  have := h2 p hp
  unfold heldB at this
  cases ha : asksAt b p with
  | none => rw [ha] at this; cases this
  | some u =>
    rw [ha] at this
    exact ⟨u, rfl, fun q hq => by simpa using List.all_eq_true.1 this q hq⟩
theorem holds_is {b : Bk} {l : List (Int × Int)} (h : holdsB b l = true) {p : Int × Int} (hp : p ∈ l) : isB b p.1 p.2 = true := by
  obtain ⟨hb, hS⟩ := holds_sim h
  exact isB_of hb hS hp
theorem holds_of {b : Bk} {l : List (Int × Int)} (hb : bookB b = true) (h : Sim b (· ∈ l)) : holdsB b l = true := by
  simp only [holdsB, Bool.and_eq_true, List.all_eq_true]
  refine ⟨hb, fun p hp => places_iff.2 (h p hp).1, fun p hp => ?_⟩
  obtain ⟨u, hu, hq⟩ := ask_ok.2 (h p hp).2
  simp [heldB, hu]
  exact fun a b' hq' => hq (a, b') hq'
end Go.Sy
