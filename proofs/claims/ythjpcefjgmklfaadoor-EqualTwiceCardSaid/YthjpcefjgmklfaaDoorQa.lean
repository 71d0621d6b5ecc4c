/- The plain law of equality: keys as rows of bytes, the numbering of keys. -/
import Derived.Lib.ItoaNum
set_option linter.unusedSimpArgs false
set_option linter.unusedVariables false
set_option linter.unusedSectionVars false
namespace Go.Sy

/-! ### Rows of bytes -/
/-- No separator. -/
def pln (l : List UInt8) : Prop := ∀ c ∈ l, c ≠ 32 ∧ c ≠ 44 ∧ c ≠ 58
/-- Empty, or a separator ahead. -/
def sepd : List UInt8 → Prop
  | [] => True
  | c :: _ => c = 32 ∨ c = 44 ∨ c = 58
theorem pln_sepd {c : UInt8} {u r : List UInt8} (h : pln (c :: u)) (hs : sepd (c :: r)) : False := by
  obtain ⟨h1, h2, h3⟩ := h c List.mem_cons_self
  rcases hs with h | h | h
  · exact h1 h
  · exact h2 h
  · exact h3 h
theorem pln.tail {c : UInt8} {u : List UInt8} (h : pln (c :: u)) : pln u := fun x hx => h x (List.mem_cons_of_mem _ hx)
theorem pln_split : ∀ {u v r s : List UInt8}, pln u → pln v → sepd r → sepd s → u ++ r = v ++ s → u = v ∧ r = s
  | [], [], _, _, _, _, _, _, h => ⟨rfl, h⟩
  | [], c :: v, r, s, _, hv, hr, _, h => by
    simp only [List.nil_append, List.cons_append] at h
    subst h
    exact (pln_sepd hv hr).elim
  | c :: u, [], r, s, hu, _, _, hs, h => by
    simp only [List.nil_append, List.cons_append] at h
    subst h
    exact (pln_sepd hu hs).elim
  | c :: u, d :: v, r, s, hu, hv, hr, hs, h => by
    simp only [List.cons_append, List.cons.injEq] at h
    obtain ⟨rfl, h⟩ := h
    obtain ⟨h1, h2⟩ := pln_split hu.tail hv.tail hr hs h
    exact ⟨by rw [h1], h2⟩

def digs (k : Nat) : List UInt8 := if k < 10 then [UInt8.ofNat (48 + k)] else [UInt8.ofNat (48 + k / 10), UInt8.ofNat (48 + k % 10)]
theorem digs_eq {k : Nat} (h : k < 100) : Lib.decDigits k = digs k := by
  unfold digs
  rw [Lib.decDigits]
  split
  · simp_all
  · rename_i hk
    rw [Lib.decDigits, dif_pos (by omega)]; rfl
def undig : List UInt8 → Nat
  | [a] => a.toNat - 48
  | [a, b] => (a.toNat - 48) * 10 + (b.toNat - 48)
  | _ => 0
theorem digs_all : ∀ k : Fin 100, undig (digs k.val) = k.val ∧ (digs k.val).all (fun c => decide (c ≠ 32 ∧ c ≠ 44 ∧ c ≠ 58)) = true := by decide +kernel
theorem digs_pln {k : Nat} (h : k < 100) : pln (digs k) := by
  have := (digs_all ⟨k, h⟩).2
  rw [List.all_eq_true] at this
  exact fun c hc => by simpa using this c hc
theorem digs_inj {k m : Nat} (hk : k < 100) (hm : m < 100) (h : digs k = digs m) : k = m := by
  have h1 := (digs_all ⟨k, hk⟩).1
  have h2 := (digs_all ⟨m, hm⟩).1
  simp only at h1 h2
  rw [← h1, ← h2, h]

/-! ### The numbering of keys -/
section
variable {α β : Type} [DecidableEq α] [DecidableEq β]
def addG (l : List α) (a : α) : List α := if a ∈ l then l else l ++ [a]
def ddG (l : List α) : List α := l.foldl addG []
/-- Of each key the number of its first appearance among the keys. -/
def ranks (l : List α) : List Nat := l.map fun a => (ddG l).idxOf a
/-- Of each key the least place at which it stands. -/
def leastOf (l : List α) : List Nat := l.map fun a => l.idxOf a

theorem mem_addG {l : List α} {a b : α} : b ∈ addG l a ↔ b ∈ l ∨ b = a := by
  unfold addG
  split
  · constructor
    · exact .inl
    · rintro (h | rfl)
      · exact h
      · assumption
  · simp
theorem ddG_snoc (l : List α) (a : α) : ddG (l ++ [a]) = addG (ddG l) a := by simp [ddG, List.foldl_append]
theorem snoc_ind {P : List α → Prop} (h0 : P []) (h1 : ∀ l a, P l → P (l ++ [a])) (l : List α) : P l := by
  rw [← List.reverse_reverse l]
  induction l.reverse with
  | nil => exact h0
  | cons a r ih => rw [List.reverse_cons]; exact h1 _ _ ih
theorem mem_ddG {l : List α} {b : α} : b ∈ ddG l ↔ b ∈ l := by
  induction l using snoc_ind with
  | h0 => simp [ddG]
  | h1 l a ih => rw [ddG_snoc, mem_addG, ih]; simp
theorem ddG_take {l : List α} {i : Nat} (hi : i < l.length) : ddG (l.take (i + 1)) = addG (ddG (l.take i)) l[i] := by
  rw [List.take_succ_eq_append_getElem hi, ddG_snoc]
theorem ddG_pre (l r : List α) : ∃ s, ddG (l ++ r) = ddG l ++ s := by
  induction r using snoc_ind with
  | h0 => exact ⟨[], by simp⟩
  | h1 r a ih =>
    obtain ⟨s, hs⟩ := ih
    rw [← List.append_assoc, ddG_snoc, hs]
    unfold addG
    split
    · exact ⟨s, rfl⟩
    · exact ⟨s ++ [a], by simp⟩
theorem idx_pre {l s : List α} {a : α} (h : a ∈ l) : (l ++ s).idxOf a = l.idxOf a := by
  rw [List.idxOf_append, if_pos h]
theorem ranks_take {l : List α} {i j : Nat} (hi : i < l.length) (hj : i < j) : (ddG (l.take j)).idxOf l[i] = (ddG l).idxOf l[i] := by
  obtain ⟨s, hs⟩ := ddG_pre (l.take j) (l.drop j)
  rw [List.take_append_drop] at hs
  rw [hs, idx_pre (mem_ddG.2 (List.mem_take_iff_getElem.2 ⟨i, by omega, rfl⟩))]
theorem ddG_len (l : List α) : (ddG l).length ≤ l.length := by
  induction l using snoc_ind with
  | h0 => simp [ddG]
  | h1 l a ih => rw [ddG_snoc]; unfold addG; split <;> simp <;> omega
theorem ranks_length (l : List α) : (ranks l).length = l.length := by simp [ranks]
theorem leastOf_length (l : List α) : (leastOf l).length = l.length := by simp [leastOf]
theorem ranks_get {l : List α} {i : Nat} (hi : i < l.length) : (ranks l)[i]? = some ((ddG l).idxOf l[i]) := by simp [ranks, hi]
theorem leastOf_get {l : List α} {i : Nat} (hi : i < l.length) : (leastOf l)[i]? = some (l.idxOf l[i]) := by simp [leastOf, hi]
theorem ranks_lt {l : List α} {k : Nat} (h : k ∈ ranks l) : k < (ddG l).length := by
  simp only [ranks, List.mem_map] at h
  obtain ⟨a, ha, rfl⟩ := h
  exact List.idxOf_lt_length_iff.2 (mem_ddG.2 ha)
theorem idxOf_inj {l : List α} {a b : α} (ha : a ∈ l) (h : l.idxOf a = l.idxOf b) : a = b := by
  have h1 : l.idxOf a < l.length := List.idxOf_lt_length_iff.2 ha
  have h2 : l[l.idxOf a] = a := List.getElem_idxOf h1
  have h4 : l.idxOf b < l.length := by omega
  have h3 : l[l.idxOf b] = b := List.getElem_idxOf h4
  rw [← h2, ← h3]
  simp only [h]
theorem ranks_eq {l : List α} {i j : Nat} (hi : i < l.length) (hj : j < l.length) : (ranks l)[i]? = (ranks l)[j]? ↔ l[i]? = l[j]? := by
  rw [ranks_get hi, ranks_get hj]
  simp only [hi, hj, List.getElem?_eq_getElem, Option.some.injEq]
  exact ⟨fun h => idxOf_inj (mem_ddG.2 (List.getElem_mem hi)) h, fun h => by rw [h]⟩
theorem leastOf_eq {l : List α} {i j : Nat} (hi : i < l.length) (hj : j < l.length) : (leastOf l)[i]? = (leastOf l)[j]? ↔ l[i]? = l[j]? := by
  rw [leastOf_get hi, leastOf_get hj]
  simp only [hi, hj, List.getElem?_eq_getElem, Option.some.injEq]
  exact ⟨fun h => idxOf_inj (List.getElem_mem hi) h, fun h => by rw [h]⟩
theorem idxOf_first {l : List α} {i : Nat} (hi : i < l.length) : l.idxOf l[i] ≤ i := by
  induction l generalizing i with
  | nil => simp at hi
  | cons a l ih =>
    cases i with
    | zero => simp
    | succ i =>
      simp only [List.getElem_cons_succ, List.idxOf_cons]
      have := ih (i := i) (by simpa using hi)
      generalize hc : (a == l[i]'(by simpa using hi)) = c
      cases c with
      | true => simp
      | false => simpa using this
theorem idxOf_least {l : List α} {a : α} {i : Nat} (hi : i < l.length) (he : l[i] = a) (hm : ∀ j (h : j < i), l[j]'(by omega) ≠ a) : l.idxOf a = i := by
  have h1 : l.idxOf a ≤ i := by rw [← he]; exact idxOf_first hi
  apply Nat.le_antisymm h1
  apply Nat.le_of_not_lt
  intro h
  have h2 : l[l.idxOf a]'(by omega) = a := List.getElem_idxOf (by omega)
  exact hm _ h h2
/-- Two rows of keys that tell the same places apart have the same least places. -/
theorem leastOf_same {l : List α} {m : List β} (hl : l.length = m.length) (h : ∀ i j, i < l.length → j < l.length → (l[i]? = l[j]? ↔ m[i]? = m[j]?)) : leastOf l = leastOf m := by
  apply List.ext_getElem
  · simp [leastOf, hl]
  intro i h1 h2
  simp only [leastOf_length] at h1 h2
  simp only [leastOf, List.getElem_map]
  have q1 : m.idxOf m[i] ≤ i := idxOf_first h2
  have q2 : m.idxOf m[i] < m.length := by omega
  have q3 : m[m.idxOf m[i]] = m[i] := List.getElem_idxOf q2
  refine idxOf_least (by omega) ?_ fun j hj => ?_
  · have := (h (m.idxOf m[i]) i (by omega) h1).2 (by simp [q2, h2])
    rw [List.getElem?_eq_getElem (by omega), List.getElem?_eq_getElem h1] at this
    simpa using this
  · intro e
    have := (h j i (by omega) h1).1 (by rw [List.getElem?_eq_getElem (by omega), List.getElem?_eq_getElem h1, e])
    rw [List.getElem?_eq_getElem (by omega), List.getElem?_eq_getElem h2] at this
    have hji : m.idxOf m[i] ≤ j := by
      have := Option.some.inj this
      rw [← this]
      exact idxOf_first (by omega)
    omega
theorem leastOf_idem (l : List α) : leastOf (leastOf l) = leastOf l :=
  leastOf_same (leastOf_length l) fun i j hi hj => by
    rw [leastOf_length] at hi hj
    exact leastOf_eq hi hj
theorem leastOf_le {l : List α} {i k : Nat} (h : (leastOf l)[i]? = some k) : k ≤ i := by
  have hi := (List.getElem?_eq_some_iff.1 h).1
  rw [leastOf_length] at hi
  rw [leastOf_get hi] at h
  have := Option.some.inj h
  have := idxOf_first hi
  omega

/-! How many keys there are. -/
def firstsG (l : List α) (k : Nat) : List Nat := (List.range k).filter fun i => match l[i]? with | some a => decide (a ∉ l.take i) | none => false
theorem dd_firsts (l : List α) : ∀ k, k ≤ l.length → (ddG (l.take k)).length = (firstsG l k).length
  | 0, _ => by simp [ddG, firstsG]
  | k + 1, h => by
    have hk : k < l.length := h
    have ih := dd_firsts l k (by omega)
    rw [ddG_take hk]
    simp only [firstsG, List.range_succ, List.filter_append, List.length_append]
    rw [show (List.filter (fun i => match l[i]? with | some a => decide (a ∉ l.take i) | none => false) (List.range k)).length = (firstsG l k).length from rfl, ← ih]
    unfold addG
    by_cases hm : l[k] ∈ l.take k
    · rw [if_pos (mem_ddG.2 hm)]
      simp [hk, hm]
    · rw [if_neg (fun h => hm (mem_ddG.1 h))]
      simp [hk, hm]
theorem mem_firsts {l : List α} {i : Nat} : i ∈ firstsG l l.length ↔ ∃ h : i < l.length, ∀ j (hj : j < i), l[j]'(by omega) ≠ l[i] := by
  simp only [firstsG, List.mem_filter, List.mem_range]
  constructor
  · rintro ⟨h1, h2⟩
    refine ⟨h1, fun j hj e => ?_⟩
    simp only [h1, List.getElem?_eq_getElem] at h2
    simp only [decide_eq_true_eq] at h2
    exact h2 (List.mem_take_iff_getElem.2 ⟨j, by omega, e⟩)
  · rintro ⟨h1, h2⟩
    refine ⟨h1, ?_⟩
    simp only [h1, List.getElem?_eq_getElem, decide_eq_true_eq]
    intro hm
    obtain ⟨j, hj, e⟩ := List.mem_take_iff_getElem.1 hm
    exact h2 j (by omega) e
theorem filter_count {l : List Nat} {p q : Nat → Bool} (h : ∀ x ∈ l, p x = true → q x = true) : (l.filter p).length ≤ (l.filter q).length ∧ ((l.filter p).length = (l.filter q).length → ∀ x ∈ l, q x = true → p x = true) := by
  induction l with
  | nil => simp
  | cons a l ih =>
    obtain ⟨h1, h2⟩ := ih fun x hx => h x (List.mem_cons_of_mem _ hx)
    have ha := h a List.mem_cons_self
    cases hp : p a <;> cases hq : q a
    · simp only [List.filter_cons, hp, hq, Bool.false_eq_true, if_false]
      refine ⟨h1, fun e x hx hqx => ?_⟩
      rcases List.mem_cons.1 hx with rfl | hx
      · rw [hq] at hqx; cases hqx
      · exact h2 e x hx hqx
    · simp only [List.filter_cons, hp, hq, Bool.false_eq_true, if_false, if_true, List.length_cons]
      exact ⟨by omega, fun e => by omega⟩
    · rw [ha hp] at hq; cases hq
    · simp only [List.filter_cons, hp, hq, if_true, List.length_cons]
      refine ⟨by omega, fun e x hx hqx => ?_⟩
      rcases List.mem_cons.1 hx with rfl | hx
      · exact hp
      · exact h2 (by omega) x hx hqx
/-- A finer row of keys has at least as many keys; if it has as many, it tells no more places apart. -/
theorem finer_count {l : List α} {m : List β} (hl : l.length = m.length) (h : ∀ i j, i < l.length → j < l.length → m[i]? = m[j]? → l[i]? = l[j]?) :
    (ddG l).length ≤ (ddG m).length ∧ ((ddG l).length = (ddG m).length → ∀ i j, i < l.length → j < l.length → l[i]? = l[j]? → m[i]? = m[j]?) := by
  have h1 := dd_firsts l l.length (Nat.le_refl _)
  have h2 := dd_firsts m m.length (Nat.le_refl _)
  rw [List.take_length] at h1 h2
  have hsub : ∀ x, x ∈ firstsG l l.length → x ∈ firstsG m m.length := by
    intro x hx
    obtain ⟨hx1, hx2⟩ := mem_firsts.1 hx
    refine mem_firsts.2 ⟨by omega, fun j hj e => hx2 j hj ?_⟩
    have := h j x (by omega) hx1 (by rw [List.getElem?_eq_getElem (by omega), List.getElem?_eq_getElem (by omega), e])
    rw [List.getElem?_eq_getElem (by omega), List.getElem?_eq_getElem (by omega)] at this
    exact Option.some.inj this
  have hc := filter_count (l := List.range l.length) (p := fun i => match l[i]? with | some a => decide (a ∉ l.take i) | none => false) (q := fun i => match m[i]? with | some a => decide (a ∉ m.take i) | none => false) (fun x hx hp => by
    have := hsub x (List.mem_filter.2 ⟨hx, hp⟩)
    exact (List.mem_filter.1 this).2)
  rw [h1, h2]
  obtain ⟨c1, c2⟩ := hc
  have e2 : firstsG m m.length = (List.range l.length).filter (fun i => match m[i]? with | some a => decide (a ∉ m.take i) | none => false) := by rw [hl]; rfl
  rw [e2]
  refine ⟨c1, fun e i j hi hj hij => ?_⟩
  have c3 := c2 e
  -- the least places in the finer row
  have key : ∀ i (hi : i < m.length), ∃ f, ∃ hf : f < m.length, m[f] = m[i] ∧ f ∈ firstsG l l.length := by
    intro i hi
    have hf : m.idxOf m[i] < m.length := Nat.lt_of_le_of_lt (idxOf_first hi) hi
    refine ⟨m.idxOf m[i], hf, List.getElem_idxOf hf, ?_⟩
    refine List.mem_filter.2 ⟨List.mem_range.2 (by omega), c3 _ (List.mem_range.2 (by omega)) ?_⟩
    have : m.idxOf m[i] ∈ firstsG m m.length := mem_firsts.2 ⟨hf, fun j hj e => by
      rw [List.getElem_idxOf hf] at e
      have := idxOf_first (l := m) (i := j) (by omega)
      rw [e] at this; omega⟩
    rw [e2] at this
    exact (List.mem_filter.1 this).2
  obtain ⟨f, hf, ef, mf⟩ := key i (by omega)
  obtain ⟨g, hg, eg, mg⟩ := key j (by omega)
  have lf := h f i (by omega) hi (by rw [List.getElem?_eq_getElem (by omega), List.getElem?_eq_getElem (by omega), ef])
  have lg := h g j (by omega) hj (by rw [List.getElem?_eq_getElem (by omega), List.getElem?_eq_getElem (by omega), eg])
  have hfg : l[f]? = l[g]? := by rw [lf, lg, hij]
  obtain ⟨f1, f2⟩ := mem_firsts.1 mf
  obtain ⟨g1, g2⟩ := mem_firsts.1 mg
  rw [List.getElem?_eq_getElem f1, List.getElem?_eq_getElem g1] at hfg
  have hfg := Option.some.inj hfg
  have : f = g := by
    rcases Nat.lt_trichotomy f g with h | h | h
    · exact absurd hfg (g2 f h)
    · exact h
    · exact absurd hfg.symm (f2 g h)
  subst this
  rw [List.getElem?_eq_getElem (by omega), List.getElem?_eq_getElem (by omega), ← ef, ← eg]
end
end Go.Sy
