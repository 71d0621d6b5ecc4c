/- Contracts of the reference, bundle Bq1. -/
import Derived.Lib.ItoaNum
import Derived.Test.YtohalikeabmimaaDoorBf1
import Derived.Test.YtohalikeabmimaaDoorSy8
/- The plain law of equality: keys as rows of bytes, the numbering of keys. -/
set_option linter.unusedSimpArgs false
set_option linter.unusedVariables false
set_option linter.unusedSectionVars false
namespace Go.Sy

/-! ### Rows of bytes -/
/-- No separator. -/
def pln (l : List UInt8) : Prop := ∀ c ∈ l, c ≠ 32 ∧ c ≠ 44 ∧ c ≠ 58
/-- Empty, or a separator ahead. -/
def sepd : List UInt8 → Prop
  | [] => True
  | c :: _ => c = 32 ∨ c = 44 ∨ c = 58
theorem pln_sepd {c : UInt8} {u r : List UInt8} (h : pln (c :: u)) (hs : sepd (c :: r)) : False := by
  obtain ⟨h1, h2, h3⟩ := h c List.mem_cons_self
  rcases hs with h | h | h
  · exact h1 h
  · exact h2 h
  · exact h3 h
theorem pln.tail {c : UInt8} {u : List UInt8} (h : pln (c :: u)) : pln u := fun x hx => h x (List.mem_cons_of_mem _ hx)
theorem pln_split : ∀ {u v r s : List UInt8}, pln u → pln v → sepd r → sepd s → u ++ r = v ++ s → u = v ∧ r = s
  | [], [], _, _, _, _, _, _, h => ⟨rfl, h⟩
  | [], c :: v, r, s, _, hv, hr, _, h => by
    simp only [List.nil_append, List.cons_append] at h
    subst h
    exact (pln_sepd hv hr).elim
  | c :: u, [], r, s, hu, _, _, hs, h => by
    simp only [List.nil_append, List.cons_append] at h
    subst h
    exact (pln_sepd hu hs).elim
  | c :: u, d :: v, r, s, hu, hv, hr, hs, h => by
    simp only [List.cons_append, List.cons.injEq] at h
    obtain ⟨rfl, h⟩ := h
    obtain ⟨h1, h2⟩ := pln_split hu.tail hv.tail hr hs h
    exact ⟨by rw [h1], h2⟩

def digs (k : Nat) : List UInt8 := if k < 10 then [UInt8.ofNat (48 + k)] else [UInt8.ofNat (48 + k / 10), UInt8.ofNat (48 + k % 10)]
theorem digs_eq {k : Nat} (h : k < 100) : Lib.decDigits k = digs k := by
  unfold digs
  rw [Lib.decDigits]
  split
  · simp_all
  · rename_i hk
    rw [Lib.decDigits, dif_pos (by omega)]; rfl
def undig : List UInt8 → Nat
  | [a] => a.toNat - 48
  | [a, b] => (a.toNat - 48) * 10 + (b.toNat - 48)
  | _ => 0
theorem digs_all : ∀ k : Fin 100, undig (digs k.val) = k.val ∧ (digs k.val).all (fun c => decide (c ≠ 32 ∧ c ≠ 44 ∧ c ≠ 58)) = true := by decide +kernel
theorem digs_pln {k : Nat} (h : k < 100) : pln (digs k) := by
  have := (digs_all ⟨k, h⟩).2
  rw [List.all_eq_true] at this
  exact fun c hc => by simpa using this c hc
theorem digs_inj {k m : Nat} (hk : k < 100) (hm : m < 100) (h : digs k = digs m) : k = m := by
  have h1 := (digs_all ⟨k, hk⟩).1
  have h2 := (digs_all ⟨m, hm⟩).1
  simp only at h1 h2
  rw [← h1, ← h2, h]

/-! ### The numbering of keys -/
section
variable {α β : Type} [DecidableEq α] [DecidableEq β]
def addG (l : List α) (a : α) : List α := if a ∈ l then l else l ++ [a]
def ddG (l : List α) : List α := l.foldl addG []
/-- Of each key the number of its first appearance among the keys. -/
def ranks (l : List α) : List Nat := l.map fun a => (ddG l).idxOf a
/-- Of each key the least place at which it stands. -/
def leastOf (l : List α) : List Nat := l.map fun a => l.idxOf a

theorem mem_addG {l : List α} {a b : α} : b ∈ addG l a ↔ b ∈ l ∨ b = a := by
  unfold addG
  split
  · constructor
    · exact .inl
    · rintro (h | rfl)
      · exact h
      · assumption
  · simp
theorem ddG_snoc (l : List α) (a : α) : ddG (l ++ [a]) = addG (ddG l) a := by simp [ddG, List.foldl_append]
theorem snoc_ind {P : List α → Prop} (h0 : P []) (h1 : ∀ l a, P l → P (l ++ [a])) (l : List α) : P l := by
  rw [← List.reverse_reverse l]
  induction l.reverse with
  | nil => exact h0
  | cons a r ih => rw [List.reverse_cons]; exact h1 _ _ ih
theorem mem_ddG {l : List α} {b : α} : b ∈ ddG l ↔ b ∈ l := by
  induction l using snoc_ind with
  | h0 => simp [ddG]
  | h1 l a ih => rw [ddG_snoc, mem_addG, ih]; simp
theorem ddG_take {l : List α} {i : Nat} (hi : i < l.length) : ddG (l.take (i + 1)) = addG (ddG (l.take i)) l[i] := by
  rw [List.take_succ_eq_append_getElem hi, ddG_snoc]
theorem ddG_pre (l r : List α) : ∃ s, ddG (l ++ r) = ddG l ++ s := by
  induction r using snoc_ind with
  | h0 => exact ⟨[], by simp⟩
  | h1 r a ih =>
    obtain ⟨s, hs⟩ := ih
    rw [← List.append_assoc, ddG_snoc, hs]
    unfold addG
    split
    · exact ⟨s, rfl⟩
    · exact ⟨s ++ [a], by simp⟩
theorem idx_pre {l s : List α} {a : α} (h : a ∈ l) : (l ++ s).idxOf a = l.idxOf a := by
  rw [List.idxOf_append, if_pos h]
theorem ranks_take {l : List α} {i j : Nat} (hi : i < l.length) (hj : i < j) : (ddG (l.take j)).idxOf l[i] = (ddG l).idxOf l[i] := by
  obtain ⟨s, hs⟩ := ddG_pre (l.take j) (l.drop j)
  rw [List.take_append_drop] at hs
  rw [hs, idx_pre (mem_ddG.2 (List.mem_take_iff_getElem.2 ⟨i, by omega, rfl⟩))]
theorem ddG_len (l : List α) : (ddG l).length ≤ l.length := by
  induction l using snoc_ind with
  | h0 => simp [ddG]
  | h1 l a ih => rw [ddG_snoc]; unfold addG; split <;> simp <;> omega
theorem ranks_length (l : List α) : (ranks l).length = l.length := by simp [ranks]
theorem leastOf_length (l : List α) : (leastOf l).length = l.length := by simp [leastOf]
theorem ranks_get {l : List α} {i : Nat} (hi : i < l.length) : (ranks l)[i]? = some ((ddG l).idxOf l[i]) := by simp [ranks, hi]
theorem leastOf_get {l : List α} {i : Nat} (hi : i < l.length) : (leastOf l)[i]? = some (l.idxOf l[i]) := by simp [leastOf, hi]
theorem ranks_lt {l : List α} {k : Nat} (h : k ∈ ranks l) : k < (ddG l).length := by
  simp only [ranks, List.mem_map] at h
  obtain ⟨a, ha, rfl⟩ := h
  exact List.idxOf_lt_length_iff.2 (mem_ddG.2 ha)
theorem idxOf_inj {l : List α} {a b : α} (ha : a ∈ l) (h : l.idxOf a = l.idxOf b) : a = b := by
  have h1 : l.idxOf a < l.length := List.idxOf_lt_length_iff.2 ha
  have h2 : l[l.idxOf a] = a := List.getElem_idxOf h1
  have h4 : l.idxOf b < l.length := by omega
  have h3 : l[l.idxOf b] = b := List.getElem_idxOf h4
  rw [← h2, ← h3]
  simp only [h]
theorem ranks_eq {l : List α} {i j : Nat} (hi : i < l.length) (hj : j < l.length) : (ranks l)[i]? = (ranks l)[j]? ↔ l[i]? = l[j]? := by
  rw [ranks_get hi, ranks_get hj]
  simp only [hi, hj, List.getElem?_eq_getElem, Option.some.injEq]
  exact ⟨fun h => idxOf_inj (mem_ddG.2 (List.getElem_mem hi)) h, fun h => by rw [h]⟩
theorem leastOf_eq {l : List α} {i j : Nat} (hi : i < l.length) (hj : j < l.length) : (leastOf l)[i]? = (leastOf l)[j]? ↔ l[i]? = l[j]? := by
  rw [leastOf_get hi, leastOf_get hj]
  simp only [hi, hj, List.getElem?_eq_getElem, Option.some.injEq]
  exact ⟨fun h => idxOf_inj (List.getElem_mem hi) h, fun h => by rw [h]⟩
theorem idxOf_first {l : List α} {i : Nat} (hi : i < l.length) : l.idxOf l[i] ≤ i := by
  induction l generalizing i with
  | nil => simp at hi
  | cons a l ih =>
    cases i with
    | zero => simp
    | succ i =>
      simp only [List.getElem_cons_succ, List.idxOf_cons]
      have := ih (i := i) (by simpa using hi)
      generalize hc : (a == l[i]'(by simpa using hi)) = c
      cases c with
      | true => simp
      | false => simpa using this
theorem idxOf_least {l : List α} {a : α} {i : Nat} (hi : i < l.length) (he : l[i] = a) (hm : ∀ j (h : j < i), l[j]'(by omega) ≠ a) : l.idxOf a = i := by
  have h1 : l.idxOf a ≤ i := by rw [← he]; exact idxOf_first hi
  apply Nat.le_antisymm h1
  apply Nat.le_of_not_lt
  intro h
  have h2 : l[l.idxOf a]'(by omega) = a := List.getElem_idxOf (by omega)
  exact hm _ h h2
/-- Two rows of keys that tell the same places apart have the same least places. -/
theorem leastOf_same {l : List α} {m : List β} (hl : l.length = m.length) (h : ∀ i j, i < l.length → j < l.length → (l[i]? = l[j]? ↔ m[i]? = m[j]?)) : leastOf l = leastOf m := by
  apply List.ext_getElem
  · simp [leastOf, hl]
  intro i h1 h2
  simp only [leastOf_length] at h1 h2
  simp only [leastOf, List.getElem_map]
  have q1 : m.idxOf m[i] ≤ i := idxOf_first h2
  have q2 : m.idxOf m[i] < m.length := by omega
  have q3 : m[m.idxOf m[i]] = m[i] := List.getElem_idxOf q2
  refine idxOf_least (by omega) ?_ fun j hj => ?_
  · have := (h (m.idxOf m[i]) i (by omega) h1).2 (by simp [q2, h2])
    rw [List.getElem?_eq_getElem (by omega), List.getElem?_eq_getElem h1] at this
    simpa using this
  · intro e
    have := (h j i (by omega) h1).1 (by rw [List.getElem?_eq_getElem (by omega), List.getElem?_eq_getElem h1, e])
    rw [List.getElem?_eq_getElem (by omega), List.getElem?_eq_getElem h2] at this
    have hji : m.idxOf m[i] ≤ j := by
      have := Option.some.inj this
      rw [← this]
      exact idxOf_first (by omega)
    omega
theorem leastOf_idem (l : List α) : leastOf (leastOf l) = leastOf l :=
  leastOf_same (leastOf_length l) fun i j hi hj => by
    rw [leastOf_length] at hi hj
    exact leastOf_eq hi hj
theorem leastOf_le {l : List α} {i k : Nat} (h : (leastOf l)[i]? = some k) : k ≤ i := by
  have hi := (List.getElem?_eq_some_iff.1 h).1
  rw [leastOf_length] at hi
  rw [leastOf_get hi] at h
  have := Option.some.inj h
  have := idxOf_first hi
  omega

/-! How many keys there are. -/
def firstsG (l : List α) (k : Nat) : List Nat := (List.range k).filter fun i => match l[i]? with | some a => decide (a ∉ l.take i) | none => false
theorem dd_firsts (l : List α) : ∀ k, k ≤ l.length → (ddG (l.take k)).length = (firstsG l k).length
  | 0, _ => by simp [ddG, firstsG]
  | k + 1, h => by
    have hk : k < l.length := h
    have ih := dd_firsts l k (by omega)
    rw [ddG_take hk]
    simp only [firstsG, List.range_succ, List.filter_append, List.length_append]
    rw [show (List.filter (fun i => match l[i]? with | some a => decide (a ∉ l.take i) | none => false) (List.range k)).length = (firstsG l k).length from rfl, ← ih]
    unfold addG
    by_cases hm : l[k] ∈ l.take k
    · rw [if_pos (mem_ddG.2 hm)]
      simp [hk, hm]
    · rw [if_neg (fun h => hm (mem_ddG.1 h))]
      simp [hk, hm]
theorem mem_firsts {l : List α} {i : Nat} : i ∈ firstsG l l.length ↔ ∃ h : i < l.length, ∀ j (hj : j < i), l[j]'(by omega) ≠ l[i] := by
  simp only [firstsG, List.mem_filter, List.mem_range]
  constructor
  · rintro ⟨h1, h2⟩
    refine ⟨h1, fun j hj e => ?_⟩
    simp only [h1, List.getElem?_eq_getElem] at h2
    simp only [decide_eq_true_eq] at h2
    exact h2 (List.mem_take_iff_getElem.2 ⟨j, by omega, e⟩)
  · rintro ⟨h1, h2⟩
    refine ⟨h1, ?_⟩
    simp only [h1, List.getElem?_eq_getElem, decide_eq_true_eq]
    intro hm
    obtain ⟨j, hj, e⟩ := List.mem_take_iff_getElem.1 hm
    exact h2 j (by omega) e
theorem filter_count {l : List Nat} {p q : Nat → Bool} (h : ∀ x ∈ l, p x = true → q x = true) : (l.filter p).length ≤ (l.filter q).length ∧ ((l.filter p).length = (l.filter q).length → ∀ x ∈ l, q x = true → p x = true) := by
  induction l with
  | nil => simp
  | cons a l ih =>
    obtain ⟨h1, h2⟩ := ih fun x hx => h x (List.mem_cons_of_mem _ hx)
    have ha := h a List.mem_cons_self
    cases hp : p a <;> cases hq : q a
    · simp only [List.filter_cons, hp, hq, Bool.false_eq_true, if_false]
      refine ⟨h1, fun e x hx hqx => ?_⟩
      rcases List.mem_cons.1 hx with rfl | hx
      · rw [hq] at hqx; cases hqx
      · exact h2 e x hx hqx
    · simp only [List.filter_cons, hp, hq, Bool.false_eq_true, if_false, if_true, List.length_cons]
      exact ⟨by omega, fun e => by omega⟩
    · rw [ha hp] at hq; cases hq
    · simp only [List.filter_cons, hp, hq, if_true, List.length_cons]
      refine ⟨by omega, fun e x hx hqx => ?_⟩
      rcases List.mem_cons.1 hx with rfl | hx
      · exact hp
      · exact h2 (by omega) x hx hqx
/-- A finer row of keys has at least as many keys; if it has as many, it tells no more places apart. -/
theorem finer_count {l : List α} {m : List β} (hl : l.length = m.length) (h : ∀ i j, i < l.length → j < l.length → m[i]? = m[j]? → l[i]? = l[j]?) :
    (ddG l).length ≤ (ddG m).length ∧ ((ddG l).length = (ddG m).length → ∀ i j, i < l.length → j < l.length → l[i]? = l[j]? → m[i]? = m[j]?) := by
  have h1 := dd_firsts l l.length (Nat.le_refl _)
  have h2 := dd_firsts m m.length (Nat.le_refl _)
  rw [List.take_length] at h1 h2
  have hsub : ∀ x, x ∈ firstsG l l.length → x ∈ firstsG m m.length := by
    intro x hx
    obtain ⟨hx1, hx2⟩ := mem_firsts.1 hx
    refine mem_firsts.2 ⟨by omega, fun j hj e => hx2 j hj ?_⟩
    have := h j x (by omega) hx1 (by rw [List.getElem?_eq_getElem (by omega), List.getElem?_eq_getElem (by omega), e])
    rw [List.getElem?_eq_getElem (by omega), List.getElem?_eq_getElem (by omega)] at this
    exact Option.some.inj this
  have hc := filter_count (l := List.range l.length) (p := fun i => match l[i]? with | some a => decide (a ∉ l.take i) | none => false) (q := fun i => match m[i]? with | some a => decide (a ∉ m.take i) | none => false) (fun x hx hp => by
    have := hsub x (List.mem_filter.2 ⟨hx, hp⟩)
    exact (List.mem_filter.1 this).2)
  rw [h1, h2]
  obtain ⟨c1, c2⟩ := hc
  have e2 : firstsG m m.length = (List.range l.length).filter (fun i => match m[i]? with | some a => decide (a ∉ m.take i) | none => false) := by rw [hl]; rfl
  rw [e2]
  refine ⟨c1, fun e i j hi hj hij => ?_⟩
  have c3 := c2 e
  -- the least places in the finer row
  have key : ∀ i (hi : i < m.length), ∃ f, ∃ hf : f < m.length, m[f] = m[i] ∧ f ∈ firstsG l l.length := by
    intro i hi
    have hf : m.idxOf m[i] < m.length := Nat.lt_of_le_of_lt (idxOf_first hi) hi
    refine ⟨m.idxOf m[i], hf, List.getElem_idxOf hf, ?_⟩
    refine List.mem_filter.2 ⟨List.mem_range.2 (by omega), c3 _ (List.mem_range.2 (by omega)) ?_⟩
    have : m.idxOf m[i] ∈ firstsG m m.length := mem_firsts.2 ⟨hf, fun j hj e => by
      rw [List.getElem_idxOf hf] at e
      have := idxOf_first (l := m) (i := j) (by omega)
      rw [e] at this; omega⟩
    rw [e2] at this
    exact (List.mem_filter.1 this).2
  obtain ⟨f, hf, ef, mf⟩ := key i (by omega)
  obtain ⟨g, hg, eg, mg⟩ := key j (by omega)
  have lf := h f i (by omega) hi (by rw [List.getElem?_eq_getElem (by omega), List.getElem?_eq_getElem (by omega), ef])
  have lg := h g j (by omega) hj (by rw [List.getElem?_eq_getElem (by omega), List.getElem?_eq_getElem (by omega), eg])
  have hfg : l[f]? = l[g]? := by rw [lf, lg, hij]
  obtain ⟨f1, f2⟩ := mem_firsts.1 mf
  obtain ⟨g1, g2⟩ := mem_firsts.1 mg
  rw [List.getElem?_eq_getElem f1, List.getElem?_eq_getElem g1] at hfg
  have hfg := Option.some.inj hfg
  have : f = g := by
    rcases Nat.lt_trichotomy f g with h | h | h
    · exact absurd hfg (g2 f h)
    · exact h
    · exact absurd hfg.symm (f2 g h)
  subst this
  rw [List.getElem?_eq_getElem (by omega), List.getElem?_eq_getElem (by omega), ← ef, ← eg]
end
end Go.Sy

/- The plain law of equality: keys of nodes, the coarsest equality, the classes. -/
namespace Go.Sy

theorem q_node {b : Bk} (h : bookB b = true) {x : Nd} (hx : x ∈ b.nodes) : nodeB b.nodes.length x = true := by
  simp only [bookB, Bool.and_eq_true] at h
  exact List.all_eq_true.1 h.2.2.2 x hx
theorem q_arms {n : Int} {x : Nd} (h : nodeB n x = true) : x.arms.length ≤ 6 ∧ ∀ i, i < x.arms.length → okAt n x.arms i = true := by
  unfold nodeB at h
  split at h
  · simp only [Bool.and_eq_true, decide_eq_true_eq] at h
    exact ⟨by omega, fun i hi => by omega⟩
  · simp only [Bool.and_eq_true, decide_eq_true_eq] at h
    exact ⟨h.2.2.2.1, fun i hi => List.all_eq_true.1 h.2.2.2.2 i (List.mem_range.2 hi)⟩
theorem q_edge {n : Int} {x : Nd} (h : nodeB n x = true) {e : Edge} (he : e ∈ x.arms) : nameB e.label = true ∧ 0 ≤ e.next ∧ e.next < n ∧ sortB e.kind e.at_ n = true := by
  obtain ⟨i, hi, rfl⟩ := List.mem_iff_getElem.1 he
  have := (q_arms h).2 i hi
  cases i with
  | zero =>
    rw [okAt_zero hi] at this
    simp only [Bool.and_eq_true, decide_eq_true_eq] at this
    exact ⟨this.1, this.2.1, this.2.2.1, this.2.2.2⟩
  | succ j =>
    rw [okAt_succ hi] at this
    simp only [Bool.and_eq_true, decide_eq_true_eq] at this
    exact ⟨this.1, this.2.2.1, this.2.2.2.1, this.2.2.2.2⟩
theorem q_name {s : ByteArray} (h : nameB s = true) : pln s.data.toList := by
  unfold nameB at h
  split at h
  · cases h
  · rename_i c r hs
    simp only [Bool.and_eq_true, List.all_eq_true] at h
    obtain ⟨_, h1, _, h2⟩ := h
    rw [hs]
    have key : ∀ c : UInt8, nchB c = true → c ≠ 32 ∧ c ≠ 44 ∧ c ≠ 58 := by
      intro c hc
      refine ⟨?_, ?_, ?_⟩ <;> rintro rfl <;> revert hc <;> decide
    intro x hx
    rcases List.mem_cons.1 hx with rfl | hx
    · exact key _ (by simp [nchB, h1])
    · exact key _ (h2 x hx)

theorem q_nlen {s : ByteArray} (h : nameB s = true) : s.data.toList.length ≤ 12 := by
  unfold nameB at h
  split at h
  · cases h
  · rename_i c r hs
    simp only [Bool.and_eq_true, decide_eq_true_eq] at h
    rw [hs, List.length_cons]; omega

/-- What equality needs to know of an edge, of a node. -/
structure GE (n : Int) (e : Edge) : Prop where
  lab : pln e.label.data.toList
  ll : e.label.data.toList.length ≤ 12
  k0 : 0 ≤ e.kind
  k6 : e.kind < 6
  nx : 0 ≤ e.next ∧ e.next < n
  at_ : e.kind = 5 → 0 ≤ e.at_ ∧ e.at_ < n
structure GN (n : Int) (x : Nd) : Prop where
  k0 : 0 ≤ x.kind
  k3 : x.kind < 3
  peer : pln x.peer.data.toList
  pl : x.peer.data.toList.length ≤ 12
  len : x.arms.length ≤ 6
  arm : ∀ e ∈ x.arms, GE n e
theorem q_ge {n : Int} {x : Nd} (h : nodeB n x = true) {e : Edge} (he : e ∈ x.arms) : GE n e := by
  obtain ⟨h1, h2, h3, h4⟩ := q_edge h he
  unfold sortB at h4
  split at h4
  · rename_i hk
    simp only [Bool.and_eq_true, decide_eq_true_eq] at h4
    exact ⟨q_name h1, q_nlen h1, by omega, by omega, ⟨h2, h3⟩, fun _ => h4⟩
  · rename_i hk
    simp only [Bool.and_eq_true, decide_eq_true_eq] at h4
    exact ⟨q_name h1, q_nlen h1, by omega, by omega, ⟨h2, h3⟩, fun h => absurd h hk⟩
theorem q_gn {n : Int} {x : Nd} (h : nodeB n x = true) : GN n x := by
  have ha := fun e he => q_ge h (e := e) he
  have hl := (q_arms h).1
  unfold nodeB at h
  split at h
  · simp only [Bool.and_eq_true, decide_eq_true_eq] at h
    refine ⟨by omega, by omega, ?_, by rw [h.1]; simp, hl, ha⟩
    rw [h.1]; intro c hc; cases hc
  · simp only [Bool.and_eq_true, Bool.or_eq_true, decide_eq_true_eq] at h
    exact ⟨by omega, by omega, q_name h.2.1, q_nlen h.2.1, hl, ha⟩

/-! ### Signs and keys -/
def cl (c : List Nat) (x : Int) : Nat := (c[x.toNat]?).getD 0
def relO : Option (List Nat) → Int → Int → Prop
  | none, _, _ => True
  | some c, x, y => cl c x = cl c y
structure FitA (R : Int → Int → Prop) (a e : Edge) : Prop where
  label : a.label = e.label
  kind : a.kind = e.kind
  next : R a.next e.next
  at_ : a.kind = 5 → R a.at_ e.at_
structure FitP (R : Int → Int → Prop) (x y : Nd) : Prop where
  kind : x.kind = y.kind
  peer : x.peer = y.peer
  len : x.arms.length = y.arms.length
  arm : ∀ i (h : i < x.arms.length) (h' : i < y.arms.length), FitA R x.arms[i] y.arms[i]
theorem FitA.mono {R S : Int → Int → Prop} {a e : Edge} (h : FitA R a e) (hn : R a.next e.next → S a.next e.next) (ha : a.kind = 5 → R a.at_ e.at_ → S a.at_ e.at_) : FitA S a e := ⟨h.label, h.kind, hn h.next, fun k => ha k (h.at_ k)⟩

def armU (c : Option (List Nat)) (a : Edge) : List UInt8 :=
  44 :: (a.label.data.toList ++ 32 :: (digs a.kind.toNat ++ (match c with
    | none => []
    | some c => 32 :: (digs (cl c a.next) ++ (if a.kind = 5 then 32 :: digs (cl c a.at_) else [])))))
def armsU (c : Option (List Nat)) (l : List Edge) : List UInt8 := l.flatMap (armU c)
def signU (c : Option (List Nat)) (x : Nd) : List UInt8 := digs x.kind.toNat ++ 32 :: (x.peer.data.toList ++ armsU c x.arms)
def keyU (c : Option (List Nat)) (i : Nat) (x : Nd) : List UInt8 :=
  match c with
  | none => signU none x
  | some l => digs (cl l i) ++ 58 :: signU (some l) x

theorem ba_ext {s t : ByteArray} (h : s.data.toList = t.data.toList) : s = t := ByteArray.ext (Array.ext' h)
theorem cl_lt {c : List Nat} (h : ∀ k ∈ c, k < 100) (x : Int) : cl c x < 100 := by
  unfold cl
  cases hx : c[x.toNat]? with
  | none => simp
  | some k => exact h k (List.mem_of_getElem? hx)
theorem sep44 (r : List UInt8) : sepd (44 :: r) := .inr (.inl rfl)
theorem sep32 (r : List UInt8) : sepd (32 :: r) := .inl rfl
theorem sep58 (r : List UInt8) : sepd (58 :: r) := .inr (.inr rfl)
theorem sep_arms (c : Option (List Nat)) (l : List Edge) : sepd (armsU c l) := by
  cases l with
  | nil => exact trivial
  | cons a l => exact sep44 _

theorem armU_inj {n : Int} {c : Option (List Nat)} (hc : ∀ l, c = some l → ∀ k ∈ l, k < 100) {a e : Edge} (ha : GE n a) (he : GE n e) {r s : List UInt8} (hr : sepd r) (hs : sepd s) (h : armU c a ++ r = armU c e ++ s) : FitA (relO c) a e ∧ r = s := by
  have ak := ha.k0; have ek := he.k0; have a6 := ha.k6; have e6 := he.k6
  simp only [armU, List.cons_append, List.append_assoc, List.cons.injEq, true_and] at h
  obtain ⟨h1, h⟩ := pln_split ha.lab he.lab (sep32 _) (sep32 _) h
  simp only [List.cons.injEq, true_and] at h
  cases c with
  | none =>
    simp only [List.nil_append] at h
    obtain ⟨h2, h⟩ := pln_split (digs_pln (by omega)) (digs_pln (by omega)) hr hs h
    have h2 := digs_inj (by omega) (by omega) h2
    exact ⟨⟨ba_ext h1, by omega, trivial, fun _ => trivial⟩, h⟩
  | some l =>
    simp only [List.cons_append, List.append_assoc] at h
    obtain ⟨h2, h⟩ := pln_split (digs_pln (by omega)) (digs_pln (by omega)) (sep32 _) (sep32 _) h
    have h2 := digs_inj (by omega) (by omega) h2
    have hk : a.kind = e.kind := by omega
    simp only [List.cons.injEq, true_and, hk] at h
    have hl := fun x => cl_lt (hc l rfl) x
    by_cases h5 : e.kind = 5
    · simp only [h5, if_true, List.cons_append] at h
      obtain ⟨h3, h⟩ := pln_split (digs_pln (hl _)) (digs_pln (hl _)) (sep32 _) (sep32 _) h
      simp only [List.cons.injEq, true_and] at h
      obtain ⟨h4, h⟩ := pln_split (digs_pln (hl _)) (digs_pln (hl _)) hr hs h
      exact ⟨⟨ba_ext h1, hk, digs_inj (hl _) (hl _) h3, fun _ => digs_inj (hl _) (hl _) h4⟩, h⟩
    · simp only [h5, if_false, List.nil_append] at h
      obtain ⟨h3, h⟩ := pln_split (digs_pln (hl _)) (digs_pln (hl _)) hr hs h
      exact ⟨⟨ba_ext h1, hk, digs_inj (hl _) (hl _) h3, fun h => absurd (hk ▸ h) h5⟩, h⟩
theorem armU_eq {c : Option (List Nat)} {a e : Edge} (h : FitA (relO c) a e) : armU c a = armU c e := by
  obtain ⟨h1, h2, h3, h4⟩ := h
  unfold armU
  cases c with
  | none => simp only [h1, h2]
  | some l =>
    have h3 : cl l a.next = cl l e.next := h3
    have h4 : a.kind = 5 → cl l a.at_ = cl l e.at_ := h4
    simp only [h1, h2, h3]
    by_cases h5 : e.kind = 5
    · simp only [h5, if_true, h4 (h2.trans h5)]
    · simp only [h5, if_false]
theorem armsU_inj {n : Int} {c : Option (List Nat)} (hc : ∀ l, c = some l → ∀ k ∈ l, k < 100) : ∀ {l m : List Edge}, (∀ e ∈ l, GE n e) → (∀ e ∈ m, GE n e) → armsU c l = armsU c m →
    l.length = m.length ∧ ∀ i (h : i < l.length) (h' : i < m.length), FitA (relO c) l[i] m[i]
  | [], [], _, _, _ => ⟨rfl, fun i h => by simp at h⟩
  | [], e :: m, _, _, h => by simp [armsU, armU] at h
  | a :: l, [], _, _, h => by simp [armsU, armU] at h
  | a :: l, e :: m, ha, he, h => by
    simp only [armsU, List.flatMap_cons] at h
    obtain ⟨h1, h2⟩ := armU_inj hc (ha a List.mem_cons_self) (he e List.mem_cons_self) (sep_arms c l) (sep_arms c m) h
    obtain ⟨h3, h4⟩ := armsU_inj hc (fun x hx => ha x (List.mem_cons_of_mem _ hx)) (fun x hx => he x (List.mem_cons_of_mem _ hx)) h2
    refine ⟨by simp [h3], fun i hi hi' => ?_⟩
    cases i with
    | zero => exact h1
    | succ i => exact h4 i (by simpa using hi) (by simpa using hi')
theorem signU_iff {n : Int} {c : Option (List Nat)} (hc : ∀ l, c = some l → ∀ k ∈ l, k < 100) {x y : Nd} (hx : GN n x) (hy : GN n y) : signU c x = signU c y ↔ FitP (relO c) x y := by
  have x0 := hx.k0; have x3 := hx.k3; have y0 := hy.k0; have y3 := hy.k3
  constructor
  · intro h
    obtain ⟨h1, h⟩ := pln_split (digs_pln (by omega)) (digs_pln (by omega)) (sep32 _) (sep32 _) h
    have h1 := digs_inj (by omega) (by omega) h1
    simp only [List.cons.injEq, true_and] at h
    obtain ⟨h2, h⟩ := pln_split hx.peer hy.peer (sep_arms c _) (sep_arms c _) h
    obtain ⟨h3, h4⟩ := armsU_inj hc hx.arm hy.arm h
    exact ⟨by omega, ba_ext h2, h3, h4⟩
  · rintro ⟨h1, h2, h3, h4⟩
    have : armsU c x.arms = armsU c y.arms := by
      unfold armsU
      rw [List.flatMap_def, List.flatMap_def]
      congr 1
      apply List.ext_getElem (by simpa using h3)
      intro i q1 q2
      simp only [List.getElem_map]
      exact armU_eq (h4 i (by simpa using q1) (by simpa using q2))
    unfold signU
    rw [h1, h2, this]
theorem keyU_iff {n : Int} {c : Option (List Nat)} (hc : ∀ l, c = some l → ∀ k ∈ l, k < 100) {x y : Nd} (hx : GN n x) (hy : GN n y) (i j : Nat) : keyU c i x = keyU c j y ↔ relO c i j ∧ FitP (relO c) x y := by
  rw [← signU_iff hc hx hy]
  cases c with
  | none => simp [keyU, relO]
  | some l =>
    have hl := fun x => cl_lt (hc l rfl) x
    simp only [keyU, relO]
    constructor
    · intro h
      obtain ⟨h1, h⟩ := pln_split (digs_pln (hl _)) (digs_pln (hl _)) (sep58 _) (sep58 _) h
      simp only [List.cons.injEq, true_and] at h
      exact ⟨digs_inj (hl _) (hl _) h1, h⟩
    · rintro ⟨h1, h2⟩
      rw [h1, h2]

/-- The keys of a book's nodes. -/
def keyB (c : Option (List Nat)) (i : Nat) (x : Nd) : ByteArray := ⟨(keyU c i x).toArray⟩
def keysB (b : Bk) (c : Option (List Nat)) : List ByteArray := b.nodes.mapIdx (keyB c)
theorem keysB_length (b : Bk) (c : Option (List Nat)) : (keysB b c).length = b.nodes.length := by simp [keysB]
theorem keysB_get {b : Bk} {i : Nat} (hi : i < b.nodes.length) (c : Option (List Nat)) : (keysB b c)[i]? = some (keyB c i b.nodes[i]) := by simp [keysB, hi]
theorem keyB_iff {n : Int} {c : Option (List Nat)} (hc : ∀ l, c = some l → ∀ k ∈ l, k < 100) {x y : Nd} (hx : GN n x) (hy : GN n y) (i j : Nat) : keyB c i x = keyB c j y ↔ relO c i j ∧ FitP (relO c) x y := by
  rw [← keyU_iff hc hx hy]
  constructor
  · intro h
    simpa [keyB] using congrArg (fun s : ByteArray => s.data.toList) h
  · intro h
    simp [keyB, h]

/-! ### The coarsest equality -/
def ndE (b : Bk) (x : Int) : Nd := (b.nodes[x.toNat]?).getD ⟨0, ⟨#[]⟩, []⟩
theorem ndE_nat {b : Bk} {i : Nat} (hi : i < b.nodes.length) : ndE b (i : Int) = b.nodes[i] := by simp [ndE, hi]
def inQ (n : Nat) (x y : Int) : Prop := 0 ≤ x ∧ x < n ∧ 0 ≤ y ∧ y < n
def BisE (b : Bk) (E : Int → Int → Prop) : Prop := ∀ x y, E x y → inQ b.nodes.length x y ∧ FitP E (ndE b x) (ndE b y)
/-- Two nodes are equal (P10.1). -/
def Bis (b : Bk) (x y : Int) : Prop := ∃ E, BisE b E ∧ E x y
theorem bis_self (b : Bk) : BisE b (Bis b) := by
  rintro x y ⟨E, hE, h⟩
  obtain ⟨h1, h2⟩ := hE x y h
  exact ⟨h1, h2.kind, h2.peer, h2.len, fun i hi hi' => (h2.arm i hi hi').mono (fun h => ⟨E, hE, h⟩) (fun _ h => ⟨E, hE, h⟩)⟩
/-- A book that is known in its nodes. -/
def GB (b : Bk) : Prop := ∀ x ∈ b.nodes, GN b.nodes.length x
theorem q_gb {b : Bk} (h : bookB b = true) : GB b := fun _ hx => q_gn (q_node h hx)
theorem GB.at {b : Bk} (h : GB b) {x : Int} (h0 : 0 ≤ x) (h1 : x < b.nodes.length) : GN b.nodes.length (ndE b x) := by
  have hi : x.toNat < b.nodes.length := by omega
  have : ndE b x = b.nodes[x.toNat] := by simp [ndE, hi]
  rw [this]
  exact h _ (List.getElem_mem hi)
theorem bis_refl {b : Bk} (h : GB b) {x : Int} (h0 : 0 ≤ x) (h1 : x < b.nodes.length) : Bis b x x := by
  refine ⟨fun x y => x = y ∧ 0 ≤ x ∧ x < b.nodes.length, ?_, rfl, h0, h1⟩
  rintro x y ⟨rfl, h0, h1⟩
  have hn := h.at h0 h1
  exact ⟨⟨h0, h1, h0, h1⟩, rfl, rfl, rfl, fun i hi hi' => ⟨rfl, rfl, ⟨rfl, (hn.arm _ (List.getElem_mem hi)).nx⟩, fun h5 => ⟨rfl, (hn.arm _ (List.getElem_mem hi)).at_ h5⟩⟩⟩
theorem bis_symm {b : Bk} {x y : Int} (h : Bis b x y) : Bis b y x := by
  refine ⟨fun x y => Bis b y x, ?_, h⟩
  intro x y hyx
  obtain ⟨⟨h1, h2, h3, h4⟩, hf⟩ := bis_self b y x hyx
  exact ⟨⟨h3, h4, h1, h2⟩, hf.kind.symm, hf.peer.symm, hf.len.symm, fun i hi hi' => by
    have := hf.arm i hi' hi
    exact ⟨this.label.symm, this.kind.symm, this.next, fun h5 => this.at_ (this.kind.trans h5)⟩⟩
theorem bis_trans {b : Bk} {x y z : Int} (h : Bis b x y) (h' : Bis b y z) : Bis b x z := by
  refine ⟨fun x z => ∃ y, Bis b x y ∧ Bis b y z, ?_, y, h, h'⟩
  rintro x z ⟨y, h1, h2⟩
  obtain ⟨⟨a1, a2, _, _⟩, f⟩ := bis_self b x y h1
  obtain ⟨⟨_, _, a3, a4⟩, g⟩ := bis_self b y z h2
  exact ⟨⟨a1, a2, a3, a4⟩, f.kind.trans g.kind, f.peer.trans g.peer, f.len.trans g.len, fun i hi hi' => by
    have p := f.arm i hi (by rw [← f.len]; exact hi)
    have q := g.arm i (by rw [← f.len]; exact hi) hi'
    exact ⟨p.label.trans q.label, p.kind.trans q.kind, ⟨_, p.next, q.next⟩, fun h5 => ⟨_, p.at_ h5, q.at_ (p.kind ▸ h5)⟩⟩⟩

theorem cl_nat {c : List Nat} {i j : Nat} (hi : i < c.length) (hj : j < c.length) : cl c i = cl c j ↔ c[i]? = c[j]? := by
  simp [cl, hi, hj]
/-- A row of keys (of classes) that never parts equal nodes. -/
structure Coarse {α : Type} (b : Bk) (ks : List α) : Prop where
  len : ks.length = b.nodes.length
  le : ∀ i j : Nat, Bis b i j → ks[i]? = ks[j]?
theorem bis_nat {b : Bk} {x y : Int} (h : Bis b x y) : ∃ i j : Nat, x = i ∧ y = j ∧ i < b.nodes.length ∧ j < b.nodes.length := by
  obtain ⟨⟨h0, h1, h2, h3⟩, _⟩ := bis_self b x y h
  exact ⟨x.toNat, y.toNat, by omega, by omega, by omega, by omega⟩
theorem Coarse.cl {b : Bk} {c : List Nat} (h : Coarse b c) {x y : Int} (hxy : Bis b x y) : cl c x = cl c y := by
  obtain ⟨i, j, rfl, rfl, hi, hj⟩ := bis_nat hxy
  exact (cl_nat (by rw [h.len]; exact hi) (by rw [h.len]; exact hj)).2 (h.le i j hxy)
theorem keys_iff {b : Bk} (h : GB b) {c : Option (List Nat)} (hc : ∀ l, c = some l → ∀ k ∈ l, k < 100) {i j : Nat} (hi : i < b.nodes.length) (hj : j < b.nodes.length) :
    (keysB b c)[i]? = (keysB b c)[j]? ↔ relO c i j ∧ FitP (relO c) b.nodes[i] b.nodes[j] := by
  rw [keysB_get hi, keysB_get hj, Option.some.injEq]
  exact keyB_iff hc (h _ (List.getElem_mem hi)) (h _ (List.getElem_mem hj)) i j
theorem keys_coarse {b : Bk} (h : GB b) {c : Option (List Nat)} (hc : ∀ l, c = some l → ∀ k ∈ l, k < 100) (hco : ∀ l, c = some l → Coarse b l) : Coarse b (keysB b c) := by
  refine ⟨keysB_length b c, fun i j hij => ?_⟩
  obtain ⟨⟨_, hi, _, hj⟩, hf⟩ := bis_self b _ _ hij
  have hi : i < b.nodes.length := by omega
  have hj : j < b.nodes.length := by omega
  rw [ndE_nat hi, ndE_nat hj] at hf
  have hR : ∀ x y, Bis b x y → relO c x y := by
    intro x y hxy
    cases c with
    | none => exact trivial
    | some l => exact (hco l rfl).cl hxy
  exact (keys_iff h hc hi hj).2 ⟨hR _ _ hij, hf.kind, hf.peer, hf.len, fun k hk hk' => (hf.arm k hk hk').mono (hR _ _) (fun _ => hR _ _)⟩
theorem Coarse.of {α β : Type} {b : Bk} {ks : List α} {ms : List β} (h : Coarse b ks) (hl : ms.length = ks.length) (he : ∀ i j, i < ks.length → j < ks.length → ks[i]? = ks[j]? → ms[i]? = ms[j]?) : Coarse b ms := by
  refine ⟨hl.trans h.len, fun i j hij => ?_⟩
  obtain ⟨⟨_, hi, _, hj⟩, _⟩ := bis_self b _ _ hij
  have hl := h.len
  exact he i j (by omega) (by omega) (h.le i j hij)
/-- Classes that one round more leaves as they are. -/
theorem stable_iff {b : Bk} (h : GB b) {c : List Nat} (hc : ∀ k ∈ c, k < 100) (hco : Coarse b c)
    (hst : ∀ i j, i < b.nodes.length → j < b.nodes.length → c[i]? = c[j]? → (keysB b (some c))[i]? = (keysB b (some c))[j]?) {i j : Nat} (hi : i < b.nodes.length) (hj : j < b.nodes.length) :
    c[i]? = c[j]? ↔ Bis b i j := by
  refine ⟨fun hij => ⟨fun x y => inQ b.nodes.length x y ∧ cl c x = cl c y, ?_, ⟨by omega, by omega, by omega, by omega⟩, ?_⟩, hco.le i j⟩
  · rintro x y ⟨⟨h0, h1, h2, h3⟩, he⟩
    refine ⟨⟨h0, h1, h2, h3⟩, ?_⟩
    have hx : x = (x.toNat : Int) := by omega
    have hy : y = (y.toNat : Int) := by omega
    have hx1 : x.toNat < b.nodes.length := by omega
    have hy1 : y.toNat < b.nodes.length := by omega
    rw [hx, hy] at he
    have hk := hst _ _ hx1 hy1 ((cl_nat (by rw [hco.len]; exact hx1) (by rw [hco.len]; exact hy1)).1 he)
    obtain ⟨_, hf⟩ := (keys_iff h (c := some c) (fun l hl => by injection hl with hl; subst hl; exact hc) hx1 hy1).1 hk
    have ex : ndE b x = b.nodes[x.toNat] := by simp [ndE, hx1]
    have ey : ndE b y = b.nodes[y.toNat] := by simp [ndE, hy1]
    rw [ex, ey]
    have gx := h _ (List.getElem_mem hx1)
    have gy := h _ (List.getElem_mem hy1)
    exact ⟨hf.kind, hf.peer, hf.len, fun k hk hk' => by
      have fa := hf.arm k hk hk'
      have g1 := gx.arm _ (List.getElem_mem hk)
      have g2 := gy.arm _ (List.getElem_mem hk')
      exact ⟨fa.label, fa.kind, ⟨⟨g1.nx.1, g1.nx.2, g2.nx.1, g2.nx.2⟩, fa.next⟩, fun h5 => ⟨⟨(g1.at_ h5).1, (g1.at_ h5).2, (g2.at_ (fa.kind ▸ h5)).1, (g2.at_ (fa.kind ▸ h5)).2⟩, fa.at_ h5⟩⟩⟩
  · have hl := hco.len
    exact (cl_nat (by omega) (by omega)).2 hij

/-! ### The classes -/
def refIt (b : Bk) : Nat → List Nat
  | 0 => List.replicate b.nodes.length 0
  | k + 1 => leastOf (keysB b (some (refIt b k)))
/-- Of each node the least one that is equal to it (P10.1). -/
def classesS (b : Bk) : List Nat := if bookB b then refIt b b.nodes.length else []

theorem refIt_length (b : Bk) (k : Nat) : (refIt b k).length = b.nodes.length := by
  cases k with
  | zero => simp [refIt]
  | succ k => simp [refIt, leastOf_length, keysB_length]
theorem refIt_le {b : Bk} {k i m : Nat} (h : (refIt b k)[i]? = some m) : m ≤ i := by
  cases k with
  | zero =>
    have := List.mem_of_getElem? h
    simp [refIt] at this
    omega
  | succ k => exact leastOf_le h
theorem refIt_lt {b : Bk} (hn : b.nodes.length ≤ 99) (k : Nat) : ∀ m ∈ refIt b k, m < 100 := by
  intro m hm
  obtain ⟨i, hi, rfl⟩ := List.mem_iff_getElem.1 hm
  have h1 := refIt_le (List.getElem?_eq_getElem hi)
  rw [refIt_length] at hi
  omega
theorem refIt_least (b : Bk) (k : Nat) : leastOf (refIt b k) = refIt b k := by
  cases k with
  | zero =>
    apply List.ext_getElem
    · simp [leastOf]
    intro i h1 h2
    simp only [refIt, List.length_replicate] at h2
    simp only [leastOf, refIt, List.getElem_map, List.getElem_replicate]
    refine idxOf_least (by simp; omega) (by simp) fun j hj => by omega
  | succ k => exact leastOf_idem _
section
variable {b : Bk} (h : GB b) (hn : b.nodes.length ≤ 99)
include h hn
theorem refO (k : Nat) : ∀ l, some (refIt b k) = some l → ∀ m ∈ l, m < 100 := fun l hl => by injection hl with hl; subst hl; exact refIt_lt hn k
theorem refIt_coarse : ∀ k, Coarse b (refIt b k)
  | 0 => ⟨refIt_length b 0, fun i j hij => by
      obtain ⟨⟨_, hi, _, hj⟩, _⟩ := bis_self b _ _ hij
      simp [refIt, show i < b.nodes.length by omega, show j < b.nodes.length by omega]⟩
  | k + 1 => (keys_coarse h (refO h hn k) (fun l hl => by injection hl with hl; subst hl; exact refIt_coarse k)).of (leastOf_length _) fun i j hi hj he => (leastOf_eq hi hj).2 he
/-- A round makes the classes no coarser. -/
theorem refIt_finer (k : Nat) {i j : Nat} (hi : i < b.nodes.length) (hj : j < b.nodes.length) (he : (keysB b (some (refIt b k)))[i]? = (keysB b (some (refIt b k)))[j]?) : (refIt b k)[i]? = (refIt b k)[j]? := by
  have := ((keys_iff h (refO h hn k) hi hj).1 he).1
  exact (cl_nat (by rw [refIt_length]; exact hi) (by rw [refIt_length]; exact hj)).1 this
theorem refIt_count (k : Nat) : (ddG (refIt b k)).length ≤ (ddG (refIt b (k + 1))).length ∧ ((ddG (refIt b k)).length = (ddG (refIt b (k + 1))).length → refIt b (k + 1) = refIt b k) := by
  have hl := refIt_length b k
  have hl2 := refIt_length b (k + 1)
  have hkl := keysB_length b (some (refIt b k))
  have hf : ∀ i j, i < (refIt b k).length → j < (refIt b k).length → (refIt b (k + 1))[i]? = (refIt b (k + 1))[j]? → (refIt b k)[i]? = (refIt b k)[j]? := fun i j hi hj he =>
    refIt_finer h hn k (by omega) (by omega) ((leastOf_eq (by omega) (by omega)).1 he)
  obtain ⟨c1, c2⟩ := finer_count (l := refIt b k) (m := refIt b (k + 1)) (by omega) hf
  refine ⟨c1, fun e => ?_⟩
  rw [← refIt_least b k, ← refIt_least b (k + 1)]
  exact leastOf_same (by omega) fun i j hi hj => ⟨hf i j (by omega) (by omega), c2 e i j (by omega) (by omega)⟩
theorem refIt_stop {k : Nat} (hs : refIt b (k + 1) = refIt b k) : ∀ m, refIt b (k + m) = refIt b k
  | 0 => rfl
  | m + 1 => by
    have := refIt_stop hs m
    rw [show k + (m + 1) = (k + m) + 1 from rfl]
    show leastOf (keysB b (some (refIt b (k + m)))) = _
    rw [this]; exact hs
/-- Before the classes stop, there are more of them than rounds. -/
theorem refIt_many (hpos : 0 < b.nodes.length) : ∀ k, (∀ j, j < k → refIt b (j + 1) ≠ refIt b j) → k + 1 ≤ (ddG (refIt b k)).length
  | 0, _ => by
    have : 0 ∈ ddG (refIt b 0) := mem_ddG.2 (by rw [refIt, List.mem_replicate]; exact ⟨by omega, rfl⟩)
    exact List.length_pos_iff.2 (List.ne_nil_of_mem this)
  | k + 1, hk => by
    have h1 := refIt_many hpos k fun j hj => hk j (by omega)
    obtain ⟨c1, c2⟩ := refIt_count h hn k
    have : (ddG (refIt b k)).length ≠ (ddG (refIt b (k + 1))).length := fun e => hk k (by omega) (c2 e)
    omega
theorem refIt_end : refIt b (b.nodes.length + 1) = refIt b b.nodes.length := by
  by_cases hpos : 0 < b.nodes.length
  · by_cases hex : ∃ j, j < b.nodes.length ∧ refIt b (j + 1) = refIt b j
    · obtain ⟨j, hj, hs⟩ := hex
      have q1 := refIt_stop h hn hs (b.nodes.length - j)
      have q2 := refIt_stop h hn hs (b.nodes.length + 1 - j)
      rw [show j + (b.nodes.length - j) = b.nodes.length by omega] at q1
      rw [show j + (b.nodes.length + 1 - j) = b.nodes.length + 1 by omega] at q2
      rw [q1, q2]
    · have := refIt_many h hn hpos b.nodes.length fun j hj e => hex ⟨j, hj, e⟩
      have h2 := ddG_len (refIt b b.nodes.length)
      rw [refIt_length] at h2
      omega
  · have : b.nodes.length = 0 := by omega
    rw [List.eq_nil_of_length_eq_zero ((refIt_length b _).trans this), List.eq_nil_of_length_eq_zero ((refIt_length b _).trans this)]
theorem refIt_bis {k : Nat} (hs : refIt b (k + 1) = refIt b k) {i j : Nat} (hi : i < b.nodes.length) (hj : j < b.nodes.length) : (refIt b k)[i]? = (refIt b k)[j]? ↔ Bis b i j :=
  stable_iff h (refIt_lt hn k) (refIt_coarse h hn k) (fun i j hi hj he => by
    rw [← hs] at he
    exact (leastOf_eq (by rw [keysB_length]; exact hi) (by rw [keysB_length]; exact hj)).1 he) hi hj
/-- Classes that tell apart just what is not equal have one row of least places. -/
theorem least_bis {α : Type} [DecidableEq α] {c : List α} (hl : c.length = b.nodes.length) (hc : ∀ i j, i < b.nodes.length → j < b.nodes.length → (c[i]? = c[j]? ↔ Bis b i j)) : leastOf c = refIt b b.nodes.length := by
  rw [← refIt_least b b.nodes.length]
  refine leastOf_same (by rw [hl, refIt_length]) fun i j hi hj => ?_
  rw [hc i j (by omega) (by omega), refIt_bis h hn (refIt_end h hn) (by omega) (by omega)]
end
theorem cls_eq {b : Bk} (hb : bookB b = true) : classesS b = refIt b b.nodes.length := by simp [classesS, hb]
theorem cls_length {b : Bk} (hb : bookB b = true) : (classesS b).length = b.nodes.length := by rw [cls_eq hb, refIt_length]
theorem cls_bis {b : Bk} (hb : bookB b = true) (hn : b.nodes.length ≤ 99) {i j : Nat} (hi : i < b.nodes.length) (hj : j < b.nodes.length) : (classesS b)[i]? = (classesS b)[j]? ↔ Bis b i j := by
  rw [cls_eq hb]
  exact refIt_bis (q_gb hb) hn (refIt_end (q_gb hb) hn) hi hj
theorem cls_of {b : Bk} (hb : bookB b = true) (hn : b.nodes.length ≤ 99) {α : Type} [DecidableEq α] {c : List α} (hl : c.length = b.nodes.length) (hc : ∀ i j, i < b.nodes.length → j < b.nodes.length → (c[i]? = c[j]? ↔ Bis b i j)) : leastOf c = classesS b := by
  rw [cls_eq hb]; exact least_bis (q_gb hb) hn hl hc
theorem cls_stop {b : Bk} (hb : bookB b = true) (hn : b.nodes.length ≤ 99) {k : Nat} (hs : refIt b (k + 1) = refIt b k) : refIt b k = classesS b := by
  rw [← refIt_least b k]
  exact cls_of hb hn (refIt_length b k) fun i j hi hj => refIt_bis (q_gb hb) hn hs hi hj
theorem cls_least {b : Bk} (hb : bookB b = true) : leastOf (classesS b) = classesS b := by rw [cls_eq hb]; exact refIt_least b _
theorem cls_le {b : Bk} (hb : bookB b = true) {i k : Nat} (h : (classesS b)[i]? = some k) : k ≤ i := by rw [cls_eq hb] at h; exact refIt_le h
end Go.Sy

/- Layer: a slice compared with nil, maps with keys of one kind and the lookup that tells whether, a field of a struct's value, a closure that reads a map. -/
namespace Go.Sy
open Go.RowKit

/-! ### A slice compared with nil -/
def isNilC : CT → Option Bool
  | .nils => some true
  | .slice true _ _ => some false
  | _ => none
section
variable {C : Ctx} {n : Nat} {tm : TM} {mm : MM} {o : Oper} {d : Nat} {x y : Operand} {ty ty' : TypeId}
theorem op_isNil {Θ : Tab} (hΘ : tabOK C.P Θ) {p : BinOp} {z bts e : Nat} {ag : Bool} {zr : Option (List CT)} {c : CT} {b : Bool}
    (ho : o.op = .binOp p ty x y ty') (hp : p = .eql ∨ p = .neq) (ht : tyGet Θ ty = some ⟨z, bts, ag, zr, .slice e⟩) (hx : evalC tm x = some (.c c)) (hy : evalC tm y = some (.c .nils)) (hc : isNilC c = some b)
    (hd : o.dst = some d) (hn : Nat.blt d n = true) : OpV C n o tm mm d (.v (.one (.c (.bool (match p with | .eql => b | _ => !b))))) :=
  OpV.val hd hn _ fun H Z a w hm => by
    have h1 : RepC w (Mof C H mm) (a.eval x) c := evalC_rep hm hx
    have h2 : a.eval y = .slice none 0 0 := RepC.nils_inv (evalC_rep hm hy)
    obtain ⟨ad, len, cap, hA, hb⟩ : ∃ ad len cap, a.eval x = .slice ad len cap ∧ ad.isNone = b := by
      generalize a.eval x = v at h1
      cases h1 with
      | nils => simp [isNilC] at hc; exact ⟨_, _, _, rfl, by simp [← hc]⟩
      | @slice nn sz xs ad len cap u hlen hcap hmax hnn hszs had hrep =>
        cases nn with
        | false => simp [isNilC] at hc
        | true =>
          simp [isNilC] at hc
          have h3 := hnn rfl
          exact ⟨_, _, _, rfl, by cases ad <;> simp_all⟩
      | _ => simp [isNilC] at hc
    obtain ⟨inf, de, hf⟩ := tyF hΘ ht
    have hde : de = .slice e := by
      have := hf.sh
      cases de <;> simp [shChk] at this ⊢
      exact this
    subst hde
    refine ⟨.bool (match p with | .eql => b | _ => !b), ?_, .bool _⟩
    rcases hp with rfl | rfl
    · simp only [execOp, ho, hA, h2, Sem.run_bind]
      simp [eqGuard, binOp, Sem.run_bind, run_equal_slice_nil w ty e ad len cap hf.und, Sem.run_pure, hb]
    · simp only [execOp, ho, hA, h2, Sem.run_bind]
      simp [eqGuard, binOp, Sem.run_bind, run_equal_slice_nil w ty e ad len cap hf.und, Sem.run_pure, hb]
end

/-! ### Keys of one kind -/
theorem now_find {α : Type} [DecidableEq α] {rep : α → Value} {kind : TypeDesc} (hnow : ∀ a b, Instr.sameNow kind (rep a) (rep b) = some (decide (a = b))) (a : α) :
    ∀ (es : List MapEntry) (m : List α) (i : Nat), es.map (·.key) = m.map rep →
      Instr.findNow kind (rep a) es i = some ((m.findIdx? (fun b => decide (a = b))).bind fun j => (es[j]?).map fun x => (j + i, x.val))
  | [], m, i, h => by cases m <;> simp at h; simp [Instr.findNow]
  | x :: es, [], i, h => by simp at h
  | x :: es, b :: m, i, h => by
    simp only [List.map_cons, List.cons.injEq] at h
    obtain ⟨h1, h2⟩ := h
    rw [Instr.findNow, h1, hnow]
    by_cases hab : a = b
    · subst hab; simp [List.findIdx?_cons]
    · have := now_find hnow a es m (i + 1) h2
      simp only [hab, decide_false, this, List.findIdx?_cons, Bool.false_eq_true, if_false]
      cases m.findIdx? fun b => decide (a = b) with
      | none => simp
      | some j =>
        have : j + (i + 1) = j + 1 + i := by omega
        simp [this]
theorem keyL_now {P : Program} {k : TypeId} {ik : TyI} {infk : TypeInfo} {kind : TypeDesc} {α : Type} [DecidableEq α] {rep : α → Value} (hk : TyF P k ik infk kind)
    (hnow : ∀ a b, Instr.sameNow kind (rep a) (rep b) = some (decide (a = b))) (hchk : ∀ em a w, (Instr.checkKey em 10000 k (rep a)).run P w = .ok () w) (hbits : ∀ a, Instr.sameBits 10000 (rep a) (rep a) = true) : KeyL P k rep := by
  refine ⟨hchk, fun a es m w hm => ?_, hbits⟩
  unfold Instr.findKey
  simp only [Sem.run_bind, run_underlying hk.und, Result.andThen_ok]
  rw [now_find hnow a es m 0 hm]
  simp
theorem ba_beq (a b : ByteArray) : (a == b) = decide (a = b) := by
  obtain ⟨x⟩ := a
  obtain ⟨y⟩ := b
  have : (ByteArray.mk x == ByteArray.mk y) = (x == y) := rfl
  rw [this]
  by_cases h : x = y
  · subst h; simp
  · simp [h]
abbrev intV (a : Int) : Value := .int .i64 a
abbrev strV (s : ByteArray) : Value := .string s
abbrev intF (a : Int) : FV := .one (.int .i64 a)
abbrev strF (s : ByteArray) : FV := .one (.str s)
theorem int_keyL {P : Program} {k : TypeId} {ik : TyI} {infk : TypeInfo} (hk : TyF P k ik infk (.int .i64)) : KeyL P k intV := by
  refine keyL_now hk (fun a b => by simp [Instr.sameNow]; rfl) (fun em a w => ?_) (fun a => by simp [Instr.sameBits])
  rw [show (10000 : Nat) = 9999 + 1 from rfl, Instr.checkKey]
  simp [Sem.run_bind, run_underlying hk.und]
theorem str_keyL {P : Program} {k : TypeId} {ik : TyI} {infk : TypeInfo} (hk : TyF P k ik infk .string) : KeyL P k strV := by
  refine keyL_now hk (fun a b => ?_) (fun em a w => ?_) (fun a => by simp [Instr.sameBits, ba_beq])
  · show some (a == b) = some (decide (a = b))
    rw [ba_beq]
  rw [show (10000 : Nat) = 9999 + 1 from rfl, Instr.checkKey]
  simp [Sem.run_bind, run_underlying hk.und]
theorem intF_iff (w : World) (M : Nat → Prop) (v : Value) (a : Int) : RepF w M v (intF a) ↔ v = intV a := ⟨fun h => RepC.int_inv h, fun h => by subst h; exact RepC.int _ _⟩
theorem strF_iff (w : World) (M : Nat → Prop) (v : Value) (a : ByteArray) : RepF w M v (strF a) ↔ v = strV a := ⟨fun h => RepC.str_inv h, fun h => by subst h; exact RepC.str _⟩
theorem tyF_int {P : Program} {Θ : Tab} (hΘ : tabOK P Θ) {t : Nat} {z bts : Nat} {ag : Bool} {zt : Option (List CT)} (h : tyGet Θ t = some ⟨z, bts, ag, zt, .int .i64⟩) : KeyL P t intV := by
  obtain ⟨inf, de, hf⟩ := tyF hΘ h
  have h1 : de = .int .i64 := by
    have := hf.sh
    cases de <;> simp [shChk] at this ⊢
    exact this
  subst h1
  exact int_keyL hf
theorem tyF_str {P : Program} {Θ : Tab} (hΘ : tabOK P Θ) {t : Nat} {z bts : Nat} {ag : Bool} {zt : Option (List CT)} (h : tyGet Θ t = some ⟨z, bts, ag, zt, .string⟩) : KeyL P t strV := by
  obtain ⟨inf, de, hf⟩ := tyF hΘ h
  have h1 : de = .string := by
    have := hf.sh
    cases de <;> simp [shChk] at this ⊢
  subst h1
  exact str_keyL hf

/-! ### The lookup that tells whether -/
def hasC {α : Type} [DecidableEq α] (m : List (α × CT)) (a : α) : Bool := (m.find? fun q => decide (a = q.1)).isSome
section
variable {C : Ctx} {n : Nat} {tm : TM} {mm : MM} {o : Oper} {d : Nat} {α : Type} [DecidableEq α]
theorem op_lookupOk {Θ : Tab} (hΘ : tabOK C.P Θ) {t k e : TypeId} {x y : Operand} {z bts : Nat} {ag : Bool} {zt : Option (List CT)} {ei : TyI} {zc : CT} {i : Nat} {rep : α → Value} {kf : α → FV} {m : List (α × CT)} {a0 : α} {s : SV}
    (ho : o.op = .lookup t x y true) (ht : tyGet Θ t = some ⟨z, bts, ag, zt, .map k e⟩) (hei : tyGet Θ e = some ei) (hz : ei.zero = some [zc]) (hna : ei.agg = false)
    (hK : KeyL C.P k rep) (hkf : ∀ (w : World) (M : Nat → Prop) (v : Value) (a : α), RepF w M v (kf a) → v = rep a)
    (hx : evalC tm x = some (.mp i)) (hi : getM mm i = some (.mpo (entF kf m))) (hy : evalV tm y = some s) (hs : ∀ I H Z w M v, RepSV I H Z w M v s → v = rep a0) (hd : o.dst = some d) (hn : Nat.blt d n = true) :
    OpV C n o tm mm d (.tup [.one (.c (lookC m a0 zc)), .one (.c (.bool (hasC m a0)))]) :=
  OpV.val hd hn _ fun H Z a w hm => by
    have hpair : ∀ (v : Value) (b : Bool) (c : CT), RepC w (Mof C H mm) v c → RepST (Iof mm) H Z w (Mof C H mm) (.tuple #[v, .bool b]) (.tup [.one (.c c), .one (.c (.bool b))]) := by
      intro v b c hv
      refine ⟨_, rfl, rfl, fun j s hs => ?_⟩
      match j, hs with
      | 0, hs => simp at hs; subst hs; exact ⟨v, rfl, hv⟩
      | 1, hs => simp at hs; subst hs; exact ⟨.bool b, rfl, RepC.bool b⟩
      | j + 2, hs => simp at hs
    obtain ⟨inf, de, hf⟩ := tyF hΘ ht
    obtain ⟨inf', de', hf'⟩ := tyF hΘ hei
    obtain ⟨zv, hzv, hzc, hzl⟩ := hf'.zero _ hz
    have hde : de = .map k e := by
      have := hf.sh
      cases de <;> simp [shChk] at this ⊢
      exact this
    subst hde
    obtain ⟨_, hv⟩ := evalC_rep hm hx
    obtain ⟨r, es, ck, h1, h2, h3, h4⟩ := hm.mem _ (getM_mem hi)
    have hk := hs _ _ _ _ _ _ (evalV_rep hm hy)
    have hkeys := ent_keys hkf h3 h4
    have hfind := hK.find a0 es.toList (m.map (·.1)) w (by simpa using hkeys)
    rw [find_ent] at hfind
    have hget : (getObj r).run C.P w = .ok (.map es ck) w := by simp [getObj, Sem.run, h2]
    have hz1 := hf'.zeroValue (w := w) hzv
    have hzrep : RepC w (Mof C H mm) zv zc := by
      obtain ⟨q1, q2⟩ := zchk_cells (w := w) (M := Mof C H mm) hzc
      obtain ⟨u, hu, hr⟩ := q2 0 zc rfl
      rw [hna] at hzc
      have : u = zv := by
        cases zv <;> first
          | (simp [Value.cells] at hu; exact hu.symm)
          | (cases zc <;> simp [zchk, zchkL, zchk1] at hzc)
      rw [← this]; exact hr
    cases hfi : m.findIdx? fun q => decide (a0 = q.1) with
    | none =>
      have hnf : m.find? (fun q => decide (a0 = q.1)) = none := by
        rw [List.find?_eq_none]
        intro q hq
        rw [List.findIdx?_eq_none_iff] at hfi
        simp [hfi q hq]
      have hl : lookC m a0 zc = zc := by simp [lookC, hnf]
      have hb : hasC m a0 = false := by simp [hasC, hnf]
      rw [hl, hb]
      refine ⟨.tuple #[zv, .bool false], ?_, hpair _ _ _ hzrep⟩
      rw [hfi] at hfind
      simp only [execOp, ho, Instr.lookup, Sem.run_bind, hf.underlying, Result.andThen_ok, hv, h1, hk, hget, hK.chk, Sem.run_pure]
      simp at hfind
      simp [hfind, hz1, Sem.run_bind]
    | some j =>
      have hfi' := hfi
      rw [List.findIdx?_eq_some_iff_getElem] at hfi'
      obtain ⟨hj, hj1, hj2⟩ := hfi'
      have hsf : m.find? (fun q => decide (a0 = q.1)) = some m[j] := by
        rw [List.find?_eq_some_iff_getElem]
        exact ⟨hj1, j, hj, rfl, fun i hi => by simpa using hj2 i hi⟩
      have hl : lookC m a0 zc = m[j].2 := by simp [lookC, hsf]
      have hb : hasC m a0 = true := by simp [hasC, hsf]
      rw [hl, hb]
      obtain ⟨en, g1, g2, g3⟩ := h4 j (kf m[j].1, .one m[j].2) (by simp [entF, hj])
      refine ⟨.tuple #[en.val, .bool true], ?_, hpair _ _ _ g3⟩
      rw [hfi] at hfind
      have g1' : es.toList[j]? = some en := by simpa using g1
      simp only [Option.bind_some, g1', Option.map_some] at hfind
      simp only [execOp, ho, Instr.lookup, Sem.run_bind, hf.underlying, Result.andThen_ok, hv, h1, hk, hget, hK.chk, Sem.run_pure, hfind]
      simp
end
section
variable {C : Ctx} {n : Nat} {tm : TM} {mm : MM} {o : Oper} {d : Nat} {x y : Operand}
theorem intS_rep {a : Int} (I : Nat → Prop) (H : Nat → Value) (Z : Nat → Nat) (w : World) (M : Nat → Prop) (v : Value) (h : RepSV I H Z w M v (.one (.c (.int .i64 a)))) : v = intV a := RepC.int_inv h
theorem strS_rep {a : ByteArray} (I : Nat → Prop) (H : Nat → Value) (Z : Nat → Nat) (w : World) (M : Nat → Prop) (v : Value) (h : RepSV I H Z w M v (.one (.c (.str a)))) : v = strV a := RepC.str_inv h
/-- Maps with int keys. -/
theorem op_lookI {Θ : Tab} (hΘ : tabOK C.P Θ) {t k e : TypeId} {z bts zk bk : Nat} {ag agk : Bool} {zt ztk : Option (List CT)} {ei : TyI} {zc : CT} {i : Nat} {m : List (Int × CT)} {a0 : Int}
    (ho : o.op = .lookup t x y false) (ht : tyGet Θ t = some ⟨z, bts, ag, zt, .map k e⟩) (hk : tyGet Θ k = some ⟨zk, bk, agk, ztk, .int .i64⟩) (hei : tyGet Θ e = some ei) (hz : ei.zero = some [zc]) (hna : ei.agg = false)
    (hx : evalC tm x = some (.mp i)) (hi : getM mm i = some (.mpo (entF intF m))) (hy : evalV tm y = some (.one (.c (.int .i64 a0)))) (hd : o.dst = some d) (hn : Nat.blt d n = true) : OpV C n o tm mm d (.v (.one (.c (lookC m a0 zc)))) :=
  op_lookup hΘ ho ht hei hz hna (tyF_int hΘ hk) (fun w M v a h => (intF_iff w M v a).1 h) hx hi hy intS_rep hd hn
theorem op_lookIOk {Θ : Tab} (hΘ : tabOK C.P Θ) {t k e : TypeId} {z bts zk bk : Nat} {ag agk : Bool} {zt ztk : Option (List CT)} {ei : TyI} {zc : CT} {i : Nat} {m : List (Int × CT)} {a0 : Int}
    (ho : o.op = .lookup t x y true) (ht : tyGet Θ t = some ⟨z, bts, ag, zt, .map k e⟩) (hk : tyGet Θ k = some ⟨zk, bk, agk, ztk, .int .i64⟩) (hei : tyGet Θ e = some ei) (hz : ei.zero = some [zc]) (hna : ei.agg = false)
    (hx : evalC tm x = some (.mp i)) (hi : getM mm i = some (.mpo (entF intF m))) (hy : evalV tm y = some (.one (.c (.int .i64 a0)))) (hd : o.dst = some d) (hn : Nat.blt d n = true) : OpV C n o tm mm d (.tup [.one (.c (lookC m a0 zc)), .one (.c (.bool (hasC m a0)))]) :=
  op_lookupOk hΘ ho ht hei hz hna (tyF_int hΘ hk) (fun w M v a h => (intF_iff w M v a).1 h) hx hi hy intS_rep hd hn
theorem op_lookSOk {Θ : Tab} (hΘ : tabOK C.P Θ) {t k e : TypeId} {z bts zk bk : Nat} {ag agk : Bool} {zt ztk : Option (List CT)} {ei : TyI} {zc : CT} {i : Nat} {m : List (ByteArray × CT)} {a0 : ByteArray}
    (ho : o.op = .lookup t x y true) (ht : tyGet Θ t = some ⟨z, bts, ag, zt, .map k e⟩) (hk : tyGet Θ k = some ⟨zk, bk, agk, ztk, .string⟩) (hei : tyGet Θ e = some ei) (hz : ei.zero = some [zc]) (hna : ei.agg = false)
    (hx : evalC tm x = some (.mp i)) (hi : getM mm i = some (.mpo (entF strF m))) (hy : evalV tm y = some (.one (.c (.str a0)))) (hd : o.dst = some d) (hn : Nat.blt d n = true) : OpV C n o tm mm d (.tup [.one (.c (lookC m a0 zc)), .one (.c (.bool (hasC m a0)))]) :=
  op_lookupOk hΘ ho ht hei hz hna (tyF_str hΘ hk) (fun w M v a h => (strF_iff w M v a).1 h) hx hi hy strS_rep hd hn
end
section
variable {C : Ctx} {n : Nat} {tm : TM} {mm : MM} {L l : List Oper} {T : TM → MM → Prop} {o : Oper} {d : Nat} {x y vx : Operand}
theorem s_putI {Θ : Tab} (hΘ : tabOK C.P Θ) {t k e : TypeId} {z bts zk bk : Nat} {ag agk : Bool} {zt ztk : Option (List CT)} {c : CT} {i : Nat} {m : List (Int × CT)} {a0 : Int}
    (ho : o.op = .mapUpdate t x y vx ∨ o.op = .insert t x y vx) (ht : tyGet Θ t = some ⟨z, bts, ag, zt, .map k e⟩) (hk : tyGet Θ k = some ⟨zk, bk, agk, ztk, .int .i64⟩)
    (hx : evalC tm x = some (.mp i)) (hi : getM mm i = some (.mpo (entF intF m))) (hy : evalV tm y = some (.one (.c (.int .i64 a0)))) (hvx : evalD tm vx = some (.one (.c c))) (hd : o.dst = none) (hg : guardL L tm o = some true)
    (g : SOps C n L.toArray l tm (updM mm i (.mpo (entF intF (putC m a0 c)))) T) : SOps C n L.toArray (o :: l) tm mm T :=
  s_step (op_mapUpdate (n := n) hΘ ho ht (tyF_int hΘ hk) intF_iff hx hi hy intS_rep hvx hd).wp hg g
theorem s_putS {Θ : Tab} (hΘ : tabOK C.P Θ) {t k e : TypeId} {z bts zk bk : Nat} {ag agk : Bool} {zt ztk : Option (List CT)} {c : CT} {i : Nat} {m : List (ByteArray × CT)} {a0 : ByteArray}
    (ho : o.op = .mapUpdate t x y vx ∨ o.op = .insert t x y vx) (ht : tyGet Θ t = some ⟨z, bts, ag, zt, .map k e⟩) (hk : tyGet Θ k = some ⟨zk, bk, agk, ztk, .string⟩)
    (hx : evalC tm x = some (.mp i)) (hi : getM mm i = some (.mpo (entF strF m))) (hy : evalV tm y = some (.one (.c (.str a0)))) (hvx : evalD tm vx = some (.one (.c c))) (hd : o.dst = none) (hg : guardL L tm o = some true)
    (g : SOps C n L.toArray l tm (updM mm i (.mpo (entF strF (putC m a0 c)))) T) : SOps C n L.toArray (o :: l) tm mm T :=
  s_step (op_mapUpdate (n := n) hΘ ho ht (tyF_str hΘ hk) strF_iff hx hi hy strS_rep hvx hd).wp hg g
end

/-! ### A field of a struct's value, of one cell -/
section
variable {C : Ctx} {n : Nat} {tm : TM} {mm : MM} {o : Oper} {d : Nat} {x : Operand}
theorem op_field1 {Θ : Tab} (hΘ : tabOK C.P Θ) {t tt : TypeId} {z bts : Nat} {ag : Bool} {zr : Option (List CT)} {fs : List (Nat × Nat)} {k off : Nat} {xs : List SC} {s : SC} {ei : TyI}
    (ho : o.op = .field t x k) (ht : tyGet Θ t = some ⟨z, bts, ag, zr, .struct fs⟩) (hx : evalV tm x = some (.agg xs)) (hk : fs[k]? = some (off, tt)) (hei : tyGet Θ tt = some ei) (hna : ei.agg = false) (hs : xs[off]? = some s)
    (hd : o.dst = some d) (hn : Nat.blt d n = true) : OpV C n o tm mm d (.v (.one s)) :=
  OpV.val hd hn _ fun H Z a w hm => by
    obtain ⟨inf, de, hf⟩ := tyF hΘ ht
    obtain ⟨inf', de', hf'⟩ := tyF hΘ hei
    obtain ⟨vs, hv, hvs, hr⟩ := evalV_rep hm hx
    have hsh := hf.sh
    cases de <;> simp only [shChk] at hsh <;> try (cases hsh; done)
    rename_i fields
    simp only [Bool.and_eq_true] at hsh
    have hfs : fields.toList.map (fun f => (f.offset, f.type)) = fs := by simpa using hsh.1
    rw [← hfs] at hk
    simp only [List.getElem?_map, Option.map_eq_some_iff, Prod.mk.injEq] at hk
    obtain ⟨f, hf1, hf2, hf3⟩ := hk
    have hf1 : fields[k]? = some f := by simpa using hf1
    obtain ⟨u, hu, hru⟩ := hr off s hs
    refine ⟨u, ?_, hru⟩
    have ha : (isAgg tt).run C.P w = .ok false w := by rw [← hna]; exact hf'.isAgg
    simp only [execOp, ho, hv, Instr.field, Sem.run_bind, hf.underlying, Result.andThen_ok, hf1, asAgg, Sem.run_pure]
    simp [part, Sem.run_bind, hf2, hf3, ha, hu]
end
/-! ### A store to an element of one's own row -/
section
variable {C : Ctx} {n : Nat} {tm : TM} {mm : MM} {o : Oper} {x y : Operand}
theorem op_storea {Θ : Tab} (hΘ : tabOK C.P Θ) {t : TypeId} {ti : TyI} {i j e sz : Nat} {nn : Bool} {xs : List (List CT)} {s : SV} {cs : List CT}
    (ho : o.op = .store t x y) (ht : tyGet Θ t = some ti) (hx : evalC tm x = some (.aptr i j 0)) (hi : getM mm i = some (.arr nn e sz xs)) (hj : j < xs.length)
    (hy : evalV tm y = some s) (hc : ctsOf s.cells = some cs) (hsz : Nat.beq cs.length ti.size = true) (hts : Nat.beq ti.size sz = true) (hkn : s.cells.all SC.known = true) (hd : o.dst = none) :
    OpR C n o tm mm tm (updM mm i (.arr nn e sz (xs.set j cs))) := by
  intro a w ⟨H, Z, hm⟩
  obtain ⟨inf, de, hf⟩ := tyF hΘ ht
  obtain ⟨hz, us, hown, hnn, hlen, hrep⟩ := hm.mem _ (getM_mem hi)
  obtain ⟨_, bb, hbb, hx'⟩ := evalC_rep hm hx
  simp only at hz hown hnn hrep
  have htsE : ti.size = sz := Nat.eq_of_beq_eq_true hts
  have hcl : cs.length = sz := by rw [← htsE]; exact Nat.eq_of_beq_eq_true hsz
  obtain ⟨c1, c2⟩ := (evalV_rep hm hy).cells hm hkn
  have hcp : Pw (fun u c => RepC w (Mof C H mm) u c) (a.eval y).cells.toList cs :=
    ctsOf_pw hc ⟨by simpa using c1, fun j c hc => let ⟨u, hu, _, hr⟩ := c2 j c hc; ⟨u, by simpa using hu, hr⟩⟩
  have hone : ∀ v ∈ (a.eval y).cells.toList, v.oneCell' = true := by
    intro v hv
    obtain ⟨j, hj, hjv⟩ := List.mem_iff_getElem.1 hv
    have hjl : j < cs.length := by rw [← hcp.1]; exact hj
    obtain ⟨u, hu, hr⟩ := hcp.2 j cs[j] (List.getElem?_eq_getElem hjl)
    rw [List.getElem?_eq_getElem hj, hjv] at hu
    injection hu with hu
    rw [hu]; exact hr.one
  have hcsl : (a.eval y).cells.toList.length = sz := by rw [hcp.1, hcl]
  rcases hown.2 with ⟨_, h0⟩ | ⟨g, cap, cur, hv, hg0, hheap, hcap, hmax, hcur, htake⟩
  · omega
  have hb : bb = g := by rw [hv] at hbb; simp [hblk] at hbb; exact hbb.symm
  subst hb
  rw [hz, Nat.add_zero] at hx'
  have hjs : j * sz + sz ≤ xs.length * sz := by
    have := Nat.mul_le_mul_right sz (show j + 1 ≤ xs.length from hj)
    rw [Nat.add_mul] at this; omega
  have hcaps : xs.length * sz ≤ cap * sz := Nat.mul_le_mul_right _ hcap
  have hrun := run_storeCells_at (P := C.P) bb (j * sz) e (a.eval y).cells.toList 0 cur w hheap (by rw [hcsl, hcur]; omega) hone
  have hsize : (a.eval y).cells.size = ti.size := by rw [htsE, ← hcsl]; simp
  have hrow := setRow_heap w bb cur (cur.toList.take (j * sz + 0) ++ (a.eval y).cells.toList ++ cur.toList.drop (j * sz + 0 + (a.eval y).cells.toList.length)).toArray e (0, 0) hheap
  have hext := setRow_ext w bb (cur.toList.take (j * sz + 0) ++ (a.eval y).cells.toList ++ cur.toList.drop (j * sz + 0 + (a.eval y).cells.toList.length)).toArray
  generalize hw' : w.setRow bb (cur.toList.take (j * sz + 0) ++ (a.eval y).cells.toList ++ cur.toList.drop (j * sz + 0 + (a.eval y).cells.toList.length)).toArray = w' at hrow hext hrun
  have hus : us = cur.toList.take (xs.length * sz) := htake.symm
  have hcurl : cur.toList.length = cap * sz := by simpa using hcur
  refine .inr ⟨w', ?_, H, Z, ?_⟩
  · simp only [execOp, ho, hx', Instr.storeAt, Instr.sureAddr, storeVar, Sem.run_bind, Sem.run_pure, Result.andThen_ok, hf.sizeOf, hsize, ne_eq, not_true, if_false, hrun]
  · rw [hd]
    refine hm.upd (b0 := bb) ⟨_, getM_mem hi, rfl⟩ (by rw [hv]; rfl) hext hm.defers hm.size ?_ (fun p hp => ⟨hp, rfl⟩)
    intro hMM hfr
    refine ⟨hz, us.take (j * sz) ++ (a.eval y).cells.toList ++ us.drop (j * sz + sz), ⟨?_, .inr ⟨bb, cap, _, by rw [hv]; simp, hg0, hrow, by simpa using hcap, hmax, ?_, ?_⟩⟩, hnn, fun q hq => ?_, fun l q hq m ct hct => ?_⟩
    · have hul := hown.1
      rw [List.length_append, List.length_append, List.length_take, List.length_drop, hcsl, hul, List.length_set]; omega
    · rw [List.size_toArray, List.length_append, List.length_append, List.length_take, List.length_drop, hcsl, hcurl]; omega
    · simp only [List.length_set, Nat.add_zero]
      rw [splice_take (by rw [hcsl]; omega) (by omega), htake, hcsl]
    · rcases List.mem_or_eq_of_mem_set hq with hq | rfl
      · exact hlen q hq
      · exact hcl
    · have hul : us.length = xs.length * sz := hown.1
      rw [List.getElem?_set] at hq
      have hlsz : ∀ {q : List CT}, q.length = sz → q[m]? = some ct → m < sz := fun h1 h2 => by rw [← h1]; exact (List.getElem?_eq_some_iff.1 h2).1
      split at hq
      · rename_i hjl; subst hjl
        injection hq with hq; subst hq
        have hm' := hlsz hcl hct
        obtain ⟨u, hu, hr⟩ := hcp.2 m ct hct
        refine ⟨u, ?_, RepC.mono hr hext.size hfr hMM⟩
        rw [List.getElem?_append_left (by rw [List.length_append, List.length_take, hcsl, hul]; omega), List.getElem?_append_right (by rw [List.length_take, hul]; omega)]
        rw [← hu]; congr 1; rw [List.length_take, hul]; omega
      · rename_i hjl
        have hl : l < xs.length := (List.getElem?_eq_some_iff.1 hq).1
        have hm' := hlsz (hlen q (List.mem_of_getElem? hq)) hct
        obtain ⟨u, hu, hr⟩ := hrep l q hq m ct hct
        refine ⟨u, ?_, RepC.mono hr hext.size hfr hMM⟩
        rcases Nat.lt_or_ge l j with hlt | hge
        · have hle : l * sz + sz ≤ j * sz := by
            have := Nat.mul_le_mul_right sz (show l + 1 ≤ j from hlt)
            rw [Nat.add_mul] at this; omega
          rw [List.append_assoc, List.getElem?_append_left (by rw [List.length_take, hul]; omega), List.getElem?_take, if_pos (by omega)]
          exact hu
        · have hle : j * sz + sz ≤ l * sz := by
            have := Nat.mul_le_mul_right sz (show j + 1 ≤ l by omega)
            rw [Nat.add_mul] at this; omega
          rw [List.getElem?_append_right (by rw [List.length_append, List.length_take, hcsl, hul]; omega), List.getElem?_drop]
          rw [← hu]; congr 1; rw [List.length_append, List.length_take, hcsl, hul]; omega
end
section
variable {C : Ctx} {n : Nat} {tm : TM} {mm : MM} {L l : List Oper} {T : TM → MM → Prop} {o : Oper} {d : Nat} {x y : Operand} {ty ty' : TypeId}
theorem s_storea {Θ : Tab} (hΘ : tabOK C.P Θ) {t : TypeId} {ti : TyI} {i j e sz : Nat} {nn : Bool} {xs : List (List CT)} {s : SV} {cs : List CT}
    (ho : o.op = .store t x y) (ht : tyGet Θ t = some ti) (hx : evalC tm x = some (.aptr i j 0)) (hi : getM mm i = some (.arr nn e sz xs))
    (hy : evalV tm y = some s) (hc : ctsOf s.cells = some cs) (hsz : Nat.beq cs.length ti.size = true) (hts : Nat.beq ti.size sz = true) (hkn : s.cells.all SC.known = true) (hd : o.dst = none) (hg : guardL L tm o = some true) (hj : j < xs.length)
    (k : SOps C n L.toArray l tm (updM mm i (.arr nn e sz (xs.set j cs))) T) : SOps C n L.toArray (o :: l) tm mm T :=
  s_step (op_storea hΘ ho ht hx hi hj hy hc hsz hts hkn hd).wp hg k
theorem s_nilE {Θ : Tab} (hΘ : tabOK C.P Θ) {z bts e : Nat} {ag : Bool} {zr : Option (List CT)} {c : CT} {b : Bool}
    (ho : o.op = .binOp .eql ty x y ty') (ht : tyGet Θ ty = some ⟨z, bts, ag, zr, .slice e⟩) (hx : evalC tm x = some (.c c)) (hy : evalC tm y = some (.c .nils)) (hc : isNilC c = some b)
    (hd : o.dst = some d) (hn : Nat.blt d n = true) (hg : guardL L tm o = some true) (k : SOps C n L.toArray l ((d, .v (.one (.c (.bool b)))) :: delL tm d) mm T) : SOps C n L.toArray (o :: l) tm mm T :=
  s_step (op_isNil hΘ ho (.inl rfl) ht hx hy hc hd hn).wp hg k
theorem s_nilN {Θ : Tab} (hΘ : tabOK C.P Θ) {z bts e : Nat} {ag : Bool} {zr : Option (List CT)} {c : CT} {b : Bool}
    (ho : o.op = .binOp .neq ty x y ty') (ht : tyGet Θ ty = some ⟨z, bts, ag, zr, .slice e⟩) (hx : evalC tm x = some (.c c)) (hy : evalC tm y = some (.c .nils)) (hc : isNilC c = some b)
    (hd : o.dst = some d) (hn : Nat.blt d n = true) (hg : guardL L tm o = some true) (k : SOps C n L.toArray l ((d, .v (.one (.c (.bool (!b))))) :: delL tm d) mm T) : SOps C n L.toArray (o :: l) tm mm T :=
  s_step (op_isNil hΘ ho (.inr rfl) ht hx hy hc hd hn).wp hg k
theorem s_cat {a b : ByteArray} (ho : o.op = .binOp .add ty x y ty') (hx : evalC tm x = some (.c (.str a))) (hy : evalC tm y = some (.c (.str b))) (hd : o.dst = some d) (hn : Nat.blt d n = true) (hg : guardL L tm o = some true)
    (hr : a.size + b.size ≤ 9223372036854775807) (k : SOps C n L.toArray l ((d, .v (.one (.c (.str (a ++ b))))) :: delL tm d) mm T) : SOps C n L.toArray (o :: l) tm mm T :=
  s_step (op_catS ho hx hy hr hd hn).wp hg k
end
section
variable {C : Ctx} {n : Nat} {tm tm0 : TM} {mm : MM} {L l : List Oper} {T : TM → Prop} {o : Oper} {d : Nat} {x y : Operand} {ty ty' : TypeId}
theorem d_cat {a b : ByteArray} (ho : o.op = .binOp .add ty x y ty') (hx : evalC (onlyE (looksE L o) tm) x = some (.c (.str a))) (hy : evalC (onlyE (looksE L o) tm) y = some (.c (.str b))) (hd : o.dst = some d) (hn : Nat.blt d n = true) (hg : guardL L (onlyE (looksE L o) tm) o = some true)
    (hr : a.size + b.size ≤ 9223372036854775807) (k : DOps C n mm L tm0 l ((d, .v (.one (.c (.str (a ++ b))))) :: delL tm d) T) : DOps C n mm L tm0 (o :: l) tm T :=
  d_step (op_catS ho hx hy hr hd hn) hg k
end

/-! ### Numbered keys -/
section
variable {α : Type} [DecidableEq α]
def numK : Nat → List α → List (α × CT)
  | _, [] => []
  | k, a :: l => (a, .int .i64 (k : Int)) :: numK (k + 1) l
/-- Each key with its number. -/
def numM (l : List α) : List (α × CT) := numK 0 l
theorem numK_len (l : List α) : ∀ k, (numK k l).length = l.length := by
  induction l with
  | nil => intro k; rfl
  | cons a l ih => intro k; simp [numK, ih]
theorem numK_app (l : List α) (a : α) : ∀ k, numK k (l ++ [a]) = numK k l ++ [(a, .int .i64 ((k + l.length : Nat) : Int))] := by
  induction l with
  | nil => intro k; simp [numK]
  | cons b l ih =>
    intro k
    simp only [List.cons_append, numK, ih, List.length_cons]
    rw [show k + 1 + l.length = k + (l.length + 1) by omega]
theorem numK_find (a : α) (l : List α) : ∀ k, (numK k l).find? (fun q => decide (a = q.1)) = if a ∈ l then some (a, .int .i64 ((k + l.idxOf a : Nat) : Int)) else none := by
  induction l with
  | nil => intro k; simp [numK]
  | cons b l ih =>
    intro k
    by_cases h : a = b
    · subst h; simp [numK]
    · have hb : (b == a) = false := by simpa using fun e : b = a => h e.symm
      rw [numK, List.find?_cons]
      simp only [h, decide_false, ih, List.mem_cons, false_or, List.idxOf_cons, hb, cond_false]
      split
      · rw [show k + 1 + l.idxOf a = k + (l.idxOf a + 1) by omega]
      · rfl
def numI (l : List α) (a : α) : Nat := if a ∈ l then l.idxOf a else 0
theorem num_look (l : List α) (a : α) : lookC (numM l) a (.int .i64 0) = .int .i64 ((numI l a : Nat) : Int) := by
  unfold lookC numM
  rw [numK_find, numI]
  by_cases h : a ∈ l <;> simp [h]
theorem num_has (l : List α) (a : α) : hasC (numM l) a = decide (a ∈ l) := by
  unfold hasC numM
  rw [numK_find]
  by_cases h : a ∈ l <;> simp [h]
theorem num_put {l : List α} {a : α} (h : a ∉ l) : putC (numM l) a (.int .i64 (l.length : Int)) = numM (l ++ [a]) := by
  have hn : (numM l).findIdx? (fun q => decide (a = q.1)) = none := by
    have := numK_find a l 0
    rw [if_neg h] at this
    rw [List.findIdx?_eq_none_iff]
    intro q hq
    have := List.find?_eq_none.1 this q hq
    simpa using this
  unfold putC
  rw [hn]
  simp only
  rw [numM, numM, numK_app, Nat.zero_add]
end

/-! ### Maps looked through (one value), and sets of keys -/
section
variable {C : Ctx} {n : Nat} {tm : TM} {mm : MM} {L l : List Oper} {T : TM → MM → Prop} {o : Oper} {d : Nat} {x y : Operand}
theorem s_lookI {Θ : Tab} (hΘ : tabOK C.P Θ) {t k e : TypeId} {z bts zk bk : Nat} {ag agk : Bool} {zt ztk : Option (List CT)} {ei : TyI} {zc : CT} {i : Nat} {m : List (Int × CT)} {a0 : Int}
    (ho : o.op = .lookup t x y false) (ht : tyGet Θ t = some ⟨z, bts, ag, zt, .map k e⟩) (hk : tyGet Θ k = some ⟨zk, bk, agk, ztk, .int .i64⟩) (hei : tyGet Θ e = some ei) (hz : ei.zero = some [zc]) (hna : ei.agg = false)
    (hx : evalC tm x = some (.mp i)) (hi : getM mm i = some (.mpo (entF intF m))) (hy : evalV tm y = some (.one (.c (.int .i64 a0)))) (hd : o.dst = some d) (hn : Nat.blt d n = true) (hg : guardL L tm o = some true)
    (g : SOps C n L.toArray l ((d, .v (.one (.c (lookC m a0 zc)))) :: delL tm d) mm T) : SOps C n L.toArray (o :: l) tm mm T :=
  s_step (op_lookI hΘ ho ht hk hei hz hna hx hi hy hd hn).wp hg g
theorem s_lookS {Θ : Tab} (hΘ : tabOK C.P Θ) {t k e : TypeId} {z bts zk bk : Nat} {ag agk : Bool} {zt ztk : Option (List CT)} {ei : TyI} {zc : CT} {i : Nat} {m : List (ByteArray × CT)} {a0 : ByteArray}
    (ho : o.op = .lookup t x y false) (ht : tyGet Θ t = some ⟨z, bts, ag, zt, .map k e⟩) (hk : tyGet Θ k = some ⟨zk, bk, agk, ztk, .string⟩) (hei : tyGet Θ e = some ei) (hz : ei.zero = some [zc]) (hna : ei.agg = false)
    (hx : evalC tm x = some (.mp i)) (hi : getM mm i = some (.mpo (entF strF m))) (hy : evalV tm y = some (.one (.c (.str a0)))) (hd : o.dst = some d) (hn : Nat.blt d n = true) (hg : guardL L tm o = some true)
    (g : SOps C n L.toArray l ((d, .v (.one (.c (lookC m a0 zc)))) :: delL tm d) mm T) : SOps C n L.toArray (o :: l) tm mm T :=
  s_step (op_lookup hΘ ho ht hei hz hna (tyF_str hΘ hk) (fun w M v a h => (strF_iff w M v a).1 h) hx hi hy strS_rep hd hn).wp hg g
end
section
variable {α : Type} [DecidableEq α]
/-- A set of keys: a map to bools of which each entry is true. -/
abbrev setK (l : List α) : List (α × CT) := l.map fun a => (a, CT.bool true)
theorem setK_find {l : List α} {a : α} : (setK l).find? (fun q => decide (a = q.1)) = if a ∈ l then some (a, .bool true) else none := by
  induction l with
  | nil => simp
  | cons b l ih =>
    simp only [setK, List.map_cons, List.find?_cons]
    by_cases h : a = b
    · subst h; simp
    · simp only [h, decide_false, List.mem_cons, false_or]; exact ih
theorem setK_look (l : List α) (a : α) : lookC (setK l) a (.bool false) = .bool (decide (a ∈ l)) := by
  unfold lookC
  rw [setK_find]
  by_cases h : a ∈ l <;> simp [h]
theorem setK_put {l : List α} {a : α} (h : a ∉ l) : putC (setK l) a (.bool true) = setK (l ++ [a]) := by
  have hn : (setK l).findIdx? (fun q => decide (a = q.1)) = none := by
    rw [List.findIdx?_eq_none_iff]
    intro q hq
    obtain ⟨b, hb, rfl⟩ := List.mem_map.1 hq
    simp only [decide_eq_false_iff_not]
    rintro rfl; exact h hb
  unfold putC
  rw [hn]
  simp
end
end Go.Sy

/- Layer: a closure over a map and a row that it only reads. -/
namespace Go.Sy
open Go.RowKit

/-- What such a closure has in hand: a variable that holds a map, a variable that holds a frozen value, the map. -/
def mmS (es : List (FV × FV)) (ct : CT) : MM := [(given, .box [.mp (given + 2)]), (given + 1, .box [.c ct]), (given + 2, .mpo es)]
structure ConS (P : Program) (f : FuncId) (es : List (FV × FV)) (ct : CT) (args : List SV) (res : ST) : Prop where
  ok : CallOK P f
  calls : ∀ (w : World) (M0 : Nat → Prop) (H : Nat → Value) (Z : Nat → Nat) (vs : List Value), Pre w M0 H Z (mmS es ct) →
    Pw (fun v s => RepSV (Iof (mmS es ct)) H Z w (fun b => M0 b ∨ blksOf H (mmS es ct) b) v s) vs args →
    Calls P f vs.toArray w fun e w' => ∃ v, e = .returned v ∧ Ext (blksOf H (mmS es ct)) w w' ∧
      (∃ H' Z', H' given = H given ∧ H' (given + 1) = H (given + 1) ∧ H' (given + 2) = H (given + 2) ∧ ∀ p ∈ mmS es ct, MemOK (Iof (mmS es ct)) H' Z' w' (fun b => M0 b ∨ blksOf H (mmS es ct) b) p.1 p.2) ∧
      RepST (Iof (mmS es ct)) H Z w' (fun b => M0 b ∨ blksOf H (mmS es ct) b) v res
def EndS (H : Nat → Value) (Z : Nat → Nat) (es : List (FV × FV)) (ct : CT) (w : World) (M0 : Nat → Prop) (res : ST) (e : Ending) (w' : World) : Prop :=
  ∃ v, e = .returned v ∧ Ext (blksOf H (mmS es ct)) w w' ∧
      (∃ H' Z', H' given = H given ∧ H' (given + 1) = H (given + 1) ∧ H' (given + 2) = H (given + 2) ∧ ∀ p ∈ mmS es ct, MemOK (Iof (mmS es ct)) H' Z' w' (fun b => M0 b ∨ blksOf H (mmS es ct) b) p.1 p.2) ∧
      RepST (Iof (mmS es ct)) H Z w' (fun b => M0 b ∨ blksOf H (mmS es ct) b) v res

theorem mmS_mem {es : List (FV × FV)} {ct : CT} {p : Nat × MO} (h : p ∈ mmS es ct) : p = (given, .box [.mp (given + 2)]) ∨ p = (given + 1, .box [.c ct]) ∨ p = (given + 2, .mpo es) := by
  simpa [mmS] using h
theorem mmS_ge {es : List (FV × FV)} {ct : CT} {p : Nat × MO} (h : p ∈ mmS es ct) : given ≤ p.1 := by
  rcases mmS_mem h with rfl | rfl | rfl <;> simp
theorem mmS_uniq {es : List (FV × FV)} {ct : CT} {p q : Nat × MO} (hp : p ∈ mmS es ct) (hq : q ∈ mmS es ct) (h : p.1 = q.1) : p = q := by
  rcases mmS_mem hp with rfl | rfl | rfl <;> rcases mmS_mem hq with rfl | rfl | rfl <;> first | rfl | (simp [given] at h)

theorem conS_of {P : Program} {f : FuncId} {fn : Func} {c : Code} {es : List (FV × FV)} {ct : CT} {args : List SV} {res : ST}
    (hf : P.funcs[f]? = some fn) (hb : fn.body = some c) (hn : Nat.ble args.length fn.ntmps = true) (hng : Nat.ble fn.ntmps given = true) (hnm : (fn.name == "runtime.NumGoroutine") = false)
    (h : ∀ (w : World) (M0 : Nat → Prop) (H : Nat → Value) (Z : Nat → Nat),
      Goes ⟨P, w, M0, blksOf H (mmS es ct), H⟩ f fn.ntmps (EndS H Z es ct w M0 res) [.code c] (argT 0 args) (mmS es ct)) :
    ConS P f es ct args res := by
  refine ⟨callOK hf hb hnm, ?_⟩
  intro w M0 H Z vs hpre hargs cs
  have hlen : vs.length = args.length := hargs.1
  let a : Act := { tmps := vs.toArray ++ Array.replicate (fn.ntmps - vs.toArray.size) undef, defers := [] }
  have hn := Nat.ble_eq.mp hn
  have hmod : Mod ⟨P, w, M0, blksOf H (mmS es ct), H⟩ H Z fn.ntmps (argT 0 args) (mmS es ct) a w := by
    refine ⟨rfl, by simp [a]; omega, Nat.ble_eq.mp hng, fun _ _ _ => rfl, Ext.refl _ _, hpre.m0, fun p hp q hq he => mmS_uniq hp hq he, hpre.mem, ?_, hpre.sep, ?_⟩
    · intro p hp b hb
      have := mmS_ge hp
      exact ⟨.inr ⟨this, .inl ⟨p, hp, hb⟩⟩, hpre.lt p hp b hb⟩
    · intro p hp
      obtain ⟨j, s, rfl, hj⟩ := argT_mem hp
      obtain ⟨u, hu, hr⟩ := hargs.2 j s hj
      have hjl : j < vs.length := (List.getElem?_eq_some_iff.1 hu).1
      have : a.tmps.getD (0 + j) undef = u := by
        have hju : vs[j] = u := by
          have := List.getElem?_eq_getElem hjl
          rw [hu] at this
          injection this with this; exact this.symm
        simp [a, Array.getD_eq_getD_getElem?, Array.getElem?_append, hjl, hju]
      rw [this]
      exact hr
  let b : Frame := { (default : Frame) with fn := f, kind := .normal }
  have henter : Frame.enter P f vs.toArray .normal = b.at a [.code c] := by
    simp [Frame.enter, Frame.at, hf, hb, b, a]
  obtain ⟨e, w', fr, h1, h2, h3, h4⟩ := h w M0 H Z a w ⟨H, Z, hmod⟩ b cs rfl rfl
  rw [henter]
  exact ⟨e, w', fr, h1, h2, h3, h4⟩

theorem g_endS {P : Program} {w0 : World} {M0 : Nat → Prop} {f : FuncId} {n : Nat} {tm : TM} {es : List (FV × FV)} {ct : CT} {H : Nat → Value} {Z : Nat → Nat} {Θ : Tab} (hΘ : tabOK P Θ)
    {fn : Func} (hf : P.funcs[f]? = some fn) {rs : List SV} {res : ST} {t : List Item} (ht : t = [] ∨ ∃ k, t = .code .ret :: k)
    (hr : resE Θ tm (mmS es ct) fn.results.toList = some rs) (hp : pureS (packS rs) = true) (he : packS rs = res) :
    Goes ⟨P, w0, M0, blksOf H (mmS es ct), H⟩ f n (EndS H Z es ct w0 M0 res) t tm (mmS es ct) := by
  subst he
  intro a w ⟨H', Z', hm⟩ b cs hb hk
  obtain ⟨v, h1, h2⟩ := results_run hΘ hm hr
  have hH : ∀ p ∈ mmS es ct, H' p.1 = H p.1 := fun p hp => hm.hg p hp (mmS_ge hp)
  have hsub : ∀ q, (M0 q ∨ blksOf H (mmS es ct) q) → Mof ⟨P, w0, M0, blksOf H (mmS es ct), H⟩ H' (mmS es ct) q := by
    rintro q (hq | ⟨p, hp, hpb⟩)
    · exact .inl hq
    · exact .inr ⟨p, hp, by rw [hH p hp]; exact hpb⟩
  have hfin : EndS H Z es ct w0 M0 (packS rs) (.returned v) w := by
    refine ⟨v, rfl, hm.ext, ⟨H', Z', hH (given, .box [.mp (given + 2)]) (by simp [mmS]), hH (given + 1, .box [.c ct]) (by simp [mmS]), hH (given + 2, .mpo es) (by simp [mmS]), fun p hp => ?_⟩,
      h2.mono (fun i hi => by rw [pureS_uses hp] at hi; cases hi) (Nat.le_refl _) (fun _ _ _ => rfl) (fun q _ hq => hsub q hq)⟩
    exact (hm.mem p hp).mono ⟨rfl, rfl⟩ (fun _ _ => rfl) (fun q _ hIq => ⟨hIq, rfl, rfl⟩) (Nat.le_refl _) (fun _ _ _ => rfl) (fun q _ hq => hsub q hq)
  rcases ht with rfl | ⟨k, rfl⟩
  · exact ⟨.returned v, w, _, hfin, Steps.one step_end, hb, rfl, hm.defers, hk, fn, hb ▸ hf, h1⟩
  · exact ⟨.returned v, w, _, hfin, Steps.one step_ret, hb, rfl, hm.defers, hk, fn, hb ▸ hf, h1⟩

/-! ### The call -/
section
variable {C : Ctx} {n : Nat} {tm : TM} {mm : MM} {o : Oper} {d : Nat}
theorem clos_core {f : FuncId} {es : List (FV × FV)} {ct : CT} {args : List SV} {res : ST} (hc : ConS C.P f es ct args res) {i1 i2 i3 : Nat} {H : Nat → Value} {Z : Nat → Nat} {a : Act} {w : World}
    (hm : Mod C H Z n tm mm a w) (h12 : i1 ≠ i2) (h13 : i1 ≠ i3) (h23 : i2 ≠ i3) (g1 : getM mm i1 = some (.box [.mp i3])) (g2 : getM mm i2 = some (.box [.c ct])) (g3 : getM mm i3 = some (.mpo es)) {vs : List Value}
    (hv : ∀ (H' : Nat → Value) (Z' : Nat → Nat) (M' : Nat → Prop), H' given = H i1 → H' (given + 1) = H i2 → (∀ b, M' b → Mof C H mm b) → Pw (fun v s => RepSV (Iof (mmS es ct)) H' Z' w M' v s) vs args) (hpure : pureS res = true) (hd : d < n)
    (K : Act → World → Prop) (Q : Exit → Act → World → Prop) (hK : ∀ a' w', Has C n ((d, res) :: delL tm d) mm a' w' → K a' w') :
    Calls C.P f vs.toArray w fun
      | .returned v, w'' => K (a.put (some d) v) w''
      | .panicked chain, w'' => Q (.panic chain) a w''
      | .outgrown, _ => LetsOut Q := by
  have m1 := getM_mem g1
  have m2 := getM_mem g2
  have m3 := getM_mem g3
  let Hc : Nat → Value := fun j => if j = given then H i1 else if j = given + 1 then H i2 else H i3
  have c1 : Hc given = H i1 := by simp [Hc]
  have c2 : Hc (given + 1) = H i2 := by simp [Hc]
  have c3 : Hc (given + 2) = H i3 := by simp [Hc]
  have hblk : ∀ b, blksOf Hc (mmS es ct) b → Hb (H i1) b ∨ Hb (H i2) b ∨ Hb (H i3) b := by
    rintro b ⟨p, hp, hpb⟩
    rcases mmS_mem hp with rfl | rfl | rfl
    · exact .inl (by rw [← c1]; exact hpb)
    · exact .inr (.inl (by rw [← c2]; exact hpb))
    · exact .inr (.inr (by rw [← c3]; exact hpb))
  have hblkM : ∀ b, blksOf Hc (mmS es ct) b → Mof C H mm b := by
    intro b hb
    rcases hblk b hb with h | h | h
    · exact .inr ⟨_, m1, h⟩
    · exact .inr ⟨_, m2, h⟩
    · exact .inr ⟨_, m3, h⟩
  have hM : ∀ b, b < w.heap.size → (Mof C H mm b ∨ blksOf Hc (mmS es ct) b) → Mof C H mm b := fun b _ hb => hb.elim id (hblkM b)
  have hI3 : Iof (mmS es ct) (given + 2) := ⟨(given + 2, .mpo es), by simp [mmS], rfl⟩
  have hPre : Pre w (Mof C H mm) Hc Z (mmS es ct) := by
    refine ⟨?_, ?_, ?_, ?_⟩
    · rintro b (hb | ⟨p, hp, hpb⟩)
      · exact Nat.lt_of_lt_of_le (hm.m0 b hb) hm.ext.size
      · exact (hm.fresh p hp b hpb).2
    · intro p hp
      rcases mmS_mem hp with rfl | rfl | rfl
      · obtain ⟨b, ty, vs', q1, q2, q3, q4⟩ := hm.mem _ m1
        refine ⟨b, ty, vs', by rw [c1]; exact q1, q2, q3, fun j c hc => ?_⟩
        match j, hc with
        | 0, hc =>
          simp at hc; subst hc
          obtain ⟨u, hu, ho, hr⟩ := q4 0 _ rfl
          exact ⟨u, hu, ho, hI3, by rw [c3]; exact hr.2⟩
        | j + 1, hc => simp at hc
      · obtain ⟨b, ty, vs', q1, q2, q3, q4⟩ := hm.mem _ m2
        refine ⟨b, ty, vs', by rw [c2]; exact q1, q2, q3, fun j c hc => ?_⟩
        match j, hc with
        | 0, hc =>
          simp at hc; subst hc
          obtain ⟨u, hu, ho, hr⟩ := q4 0 _ rfl
          exact ⟨u, hu, ho, RepC.mono hr (Nat.le_refl _) (fun _ _ _ => rfl) hM⟩
        | j + 1, hc => simp at hc
      · obtain ⟨r, es', ck, q1, q2, q3, q4⟩ := hm.mem _ m3
        refine ⟨r, es', ck, by rw [c3]; exact q1, q2, q3, fun j p hp => ?_⟩
        obtain ⟨en, e1, e2, e3⟩ := q4 j p hp
        exact ⟨en, e1, e2.mono (Nat.le_refl _) (fun _ _ _ => rfl) hM, e3.mono (Nat.le_refl _) (fun _ _ _ => rfl) hM⟩
    · intro p hp b hb
      have := hblkM b ⟨p, hp, hb⟩
      rcases this with h0 | ⟨q, hq, hqb⟩
      · exact Nat.lt_of_lt_of_le (hm.m0 b h0) hm.ext.size
      · exact (hm.fresh q hq b hqb).2
    · intro p hp q hq hpq b hpb hqb
      rcases mmS_mem hp with rfl | rfl | rfl <;> rcases mmS_mem hq with rfl | rfl | rfl <;> first
        | exact absurd rfl hpq
        | (simp only [c1, c2, c3] at hpb hqb
           first
           | exact hm.sep _ m1 _ m2 h12 b hpb hqb
           | exact hm.sep _ m1 _ m3 h13 b hpb hqb
           | exact hm.sep _ m2 _ m1 (Ne.symm h12) b hpb hqb
           | exact hm.sep _ m2 _ m3 h23 b hpb hqb
           | exact hm.sep _ m3 _ m1 (Ne.symm h13) b hpb hqb
           | exact hm.sep _ m3 _ m2 (Ne.symm h23) b hpb hqb)
  refine (hc.calls w (Mof C H mm) Hc Z vs hPre (hv Hc Z _ c1 c2 (fun b hb => hb.elim id (hblkM b)))).mono ?_
  rintro e w' ⟨v, rfl, hext, ⟨H', Z', k1, k2, k3, hpost⟩, hres⟩
  refine hK _ _ ⟨H, Z, ?_⟩
  refine hm.build (blksOf Hc (mmS es ct)) hext (fun b _ hb => ?_) (by simpa [Act.put] using hm.defers) (by simp [Act.put, hm.size]) hm.hg hm.ids ?_ hm.sep ?_
  · rcases hblk b hb with h | h | h
    · exact ⟨_, m1, h⟩
    · exact ⟨_, m2, h⟩
    · exact ⟨_, m3, h⟩
  · intro p hp
    by_cases p1 : p.1 = i1
    · have : p = (i1, .box [.mp i3]) := hm.ids _ hp _ m1 p1
      subst this
      refine .inr ⟨fun b hb => .inr ⟨_, m1, hb, .inl rfl⟩, fun hMM hfr => ?_⟩
      obtain ⟨b, ty, vs', q1, q2, q3, q4⟩ := hpost (given, .box [.mp (given + 2)]) (by simp [mmS])
      refine ⟨b, ty, vs', by rw [← c1, ← k1]; exact q1, q2, q3, fun j c hc => ?_⟩
      match j, hc with
      | 0, hc =>
        simp at hc; subst hc
        obtain ⟨u, hu, ho, hr⟩ := q4 0 _ rfl
        exact ⟨u, hu, ho, ⟨_, m3, rfl⟩, by rw [← c3, ← k3]; exact hr.2⟩
      | j + 1, hc => simp at hc
    by_cases p2 : p.1 = i2
    · have : p = (i2, .box [.c ct]) := hm.ids _ hp _ m2 p2
      subst this
      refine .inr ⟨fun b hb => .inr ⟨_, m2, hb, .inl rfl⟩, fun hMM hfr => ?_⟩
      obtain ⟨b, ty, vs', q1, q2, q3, q4⟩ := hpost (given + 1, .box [.c ct]) (by simp [mmS])
      refine ⟨b, ty, vs', by rw [← c2, ← k2]; exact q1, q2, q3, fun j c hc => ?_⟩
      match j, hc with
      | 0, hc =>
        simp at hc; subst hc
        obtain ⟨u, hu, ho, hr⟩ := q4 0 _ rfl
        exact ⟨u, hu, ho, RepC.mono hr (Nat.le_refl _) (fun _ _ _ => rfl) (fun q _ hq => .inl hq)⟩
      | j + 1, hc => simp at hc
    by_cases p3 : p.1 = i3
    · have : p = (i3, .mpo es) := hm.ids _ hp _ m3 p3
      subst this
      refine .inr ⟨fun b hb => .inr ⟨_, m3, hb, .inl rfl⟩, fun hMM hfr => ?_⟩
      obtain ⟨r, es', ck, q1, q2, q3, q4⟩ := hpost (given + 2, .mpo es) (by simp [mmS])
      refine ⟨r, es', ck, by rw [← c3, ← k3]; exact q1, q2, q3, fun j p hp => ?_⟩
      obtain ⟨en, e1, e2, e3⟩ := q4 j p hp
      exact ⟨en, e1, e2.mono (Nat.le_refl _) (fun _ _ _ => rfl) (fun q _ hq => .inl hq), e3.mono (Nat.le_refl _) (fun _ _ _ => rfl) (fun q _ hq => .inl hq)⟩
    · refine .inl ⟨hp, rfl, rfl, fun b hb hx => ?_, fun j _ hj => ⟨hj, rfl, rfl⟩⟩
      rcases hblk b hx with h | h | h
      · exact hm.sep p hp _ m1 p1 b hb h
      · exact hm.sep p hp _ m2 p2 b hb h
      · exact hm.sep p hp _ m3 p3 b hb h
  · intro p hp
    rcases List.mem_cons.1 hp with rfl | hp
    · refine .inr fun _ _ => ?_
      rw [put_self (by rw [hm.size]; exact hd)]
      exact hres.mono (fun i hi => by rw [pureS_uses hpure] at hi; cases hi) (Nat.le_refl _) (fun _ _ _ => rfl) (fun q _ hq => .inl hq)
    · obtain ⟨h1, h2⟩ := delL_mem hp
      exact .inl ⟨p, h1, rfl, put_other h2, fun j _ hj => ⟨hj, rfl, rfl⟩⟩

/-- A call of such a closure with one frozen argument. -/
theorem op_clos {f : FuncId} {es : List (FV × FV)} {ct : CT} {c : CT} {res : ST} (hc : ConS C.P f es ct [.one (.c c), .one (.ptr given 0), .one (.ptr (given + 1) 0)] res) {x y : Operand} {i1 i2 i3 : Nat} {ts : Array TypeId}
    (ho : o.op = .call { callee := .value x, args := #[y], argTypes := ts }) (hx : evalC tm x = some (.clo f [i1, i2])) (hy : evalD tm y = some (.one (.c c)))
    (h12 : Nat.beq i1 i2 = false) (h13 : Nat.beq i1 i3 = false) (h23 : Nat.beq i2 i3 = false) (g1 : getM mm i1 = some (.box [.mp i3])) (g2 : getM mm i2 = some (.box [.c ct])) (g3 : getM mm i3 = some (.mpo es))
    (hpure : pureS res = true) (hd : o.dst = some d) (hn : Nat.blt d n = true) : OpX C n mm o tm d res := by
  refine ⟨⟨hd, hn⟩, fun tm' hs => ?_⟩
  intro a w K Q ⟨H, Z, hm'⟩ hK
  have hm := hm'.sub hs
  obtain ⟨hcI, cvs, hcv, hcl, hcg⟩ := evalC_rep hm hx
  have hcvs : cvs = [H i1, H i2] := by
    match cvs, hcl with
    | [u, v], _ =>
      have q1 := hcg 0 i1 rfl
      have q2 := hcg 1 i2 rfl
      simp at q1 q2
      rw [q1, q2]
  have hya : RepC w (Mof C H mm) (a.eval y) c := evalD_rep hm hy
  obtain ⟨b1, _, _, e1, _⟩ := hm.box g1
  obtain ⟨b2, _, _, e2, _⟩ := hm.box g2
  have hcore := clos_core (d := d) (vs := [a.eval y, H i1, H i2]) hc hm' (fun e => by subst e; rw [Nat.beq_refl] at h12; cases h12) (fun e => by subst e; rw [Nat.beq_refl] at h13; cases h13) (fun e => by subst e; rw [Nat.beq_refl] at h23; cases h23) g1 g2 g3 (fun H' Z' M' k1 k2 hM' => ?_) hpure (Nat.blt_eq.mp hn) K Q hK
  · unfold Oper.wp
    have hrun : (execOp a.eval o).run C.P w = .ok (.enter f [a.eval y, H i1, H i2].toArray) w := by
      simp only [execOp, ho, resolve, hcv, hcvs, Deferred.ofValue, invoke, Sem.run_bind, Sem.run_pure, Result.andThen_ok, Array.empty_append, hc.ok w, List.append_toArray, List.nil_append]
      simp
    rw [hrun]
    show Calls _ _ _ _ _
    rw [hd]
    exact hcore
  · refine Pw.cons ?_ (Pw.cons ?_ (Pw.cons ?_ Pw.nil))
    · exact RepC.mono hya (Nat.le_refl _) (fun _ _ _ => rfl) (fun b _ hb => hM' b hb)
    · exact ⟨⟨(given, .box [.mp (given + 2)]), by simp [mmS], rfl⟩, b1, by rw [k1, e1]; rfl, e1⟩
    · exact ⟨⟨(given + 1, .box [.c ct]), by simp [mmS], rfl⟩, b2, by rw [k2, e2]; rfl, e2⟩
end
end Go.Sy

/- Layer: a region that draws its order, of which the last operation waits for all others and may set what the others read. -/
namespace Go.Sy
open Go.RowKit

def splitE : List Oper → Option (List Oper × Oper)
  | [] => none
  | [z] => some ([], z)
  | o :: r => match splitE r with
    | some (l, z) => some (o :: l, z)
    | none => none
theorem splitE_eq : ∀ {L L' : List Oper} {z : Oper}, splitE L = some (L', z) → L = L' ++ [z]
  | [], _, _, h => by simp [splitE] at h
  | [o], _, _, h => by simp [splitE] at h; obtain ⟨rfl, rfl⟩ := h; rfl
  | o :: p :: r, L', z, h => by
    simp only [splitE] at h
    split at h
    · rename_i l z' hs
      simp only [Option.some.injEq, Prod.mk.injEq] at h
      obtain ⟨rfl, rfl⟩ := h
      rw [splitE_eq hs]; rfl
    · cases h
def covE (af : List Nat) : Nat → Bool
  | 0 => true
  | k + 1 => match memN af k with
    | true => covE af k
    | false => false
theorem covE_spec {af : List Nat} : ∀ {n : Nat}, covE af n = true → ∀ k, k < n → k ∈ af
  | n + 1, h, k, hk => by
    unfold covE at h
    split at h
    · rename_i hm
      by_cases hkn : k = n
      · subst hkn; exact memN_iff.1 hm
      · exact covE_spec h k (by omega)
    · cases h
def guardsE (n : Nat) : List Oper → Bool
  | [] => true
  | o :: r => match o.guard with
    | none => guardsE n r
    | some (j, _) => match Nat.blt j n with
      | true => guardsE n r
      | false => false
theorem guardsE_spec {n : Nat} : ∀ {l : List Oper}, guardsE n l = true → ∀ o ∈ l, ∀ j b, o.guard = some (j, b) → j < n
  | [], _, _, ho, _, _, _ => by cases ho
  | o :: r, h, o', ho, j, b, hg => by
    unfold guardsE at h
    rcases List.mem_cons.1 ho with rfl | ho
    · rw [hg] at h
      simp only at h
      split at h
      · rename_i hb; exact Nat.blt_eq.mp hb
      · cases h
    · split at h
      · exact guardsE_spec h o' ho j b hg
      · split at h
        · exact guardsE_spec h o' ho j b hg
        · cases h
theorem ons_mem {e : Go.Edge} : ∀ {l : List Go.Edge}, e ∈ l → Region.binds .any e = true → e.on ∈ ons l
  | x :: l, h, hb => by
    unfold ons
    rcases List.mem_cons.1 h with rfl | h
    · rw [hb]; exact List.mem_cons_self
    · split
      · exact List.mem_cons_of_mem _ (ons_mem h hb)
      · exact ons_mem h hb
theorem ons_of {j : Nat} : ∀ {l : List Go.Edge}, j ∈ ons l → ∃ e ∈ l, Region.binds .any e = true ∧ e.on = j
  | [], h => by simp [ons] at h
  | x :: l, h => by
    unfold ons at h
    split at h
    · rename_i hb
      rcases List.mem_cons.1 h with rfl | h
      · exact ⟨x, List.mem_cons_self, hb, rfl⟩
      · obtain ⟨e, h1, h2⟩ := ons_of h
        exact ⟨e, List.mem_cons_of_mem _ h1, h2⟩
    · obtain ⟨e, h1, h2⟩ := ons_of h
      exact ⟨e, List.mem_cons_of_mem _ h1, h2⟩

section
variable {C : Ctx} {n : Nat} {mm : MM} {L : List Oper} {z : Oper}
theorem wanted_app {o : Oper} {a : Act} (h : ∀ j b, o.guard = some (j, b) → j < L.length) : Region.wanted o (yielded (L ++ [z]).toArray a.tmps) = Region.wanted o (yielded L.toArray a.tmps) := by
  unfold Region.wanted
  split
  · rfl
  · rename_i j want hg
    have hj := h j want hg
    have : yielded (L ++ [z]).toArray a.tmps j = yielded L.toArray a.tmps j := by
      unfold yielded
      simp [List.getElem?_append_left hj]
    rw [this]

theorem any_last {tmF : TM} (hok : okR L [] L 0 = true) (hF : ∀ o ∈ L, OkO C n mm L tmF o) (keyF : ∀ p ∈ tmF, ∀ q ∈ tmF, p.1 = q.1 → p = q)
    (hcov : ∀ k, k < L.length → k ∈ ons z.after.toList) (hlt : allLt (ons z.after.toList) L.length = true) (hgd : ∀ o ∈ L, ∀ j b, o.guard = some (j, b) → j < L.length)
    {P : TM → MM → Prop} (hP : SOps C n (L ++ [z]).toArray [z] tmF mm P) :
    ∀ (fuel : Nat) (listed : Array Bool) (a : Act) (w : World) (tm : TM), listed.size = L.length + 1 → listed.getD L.length true = false → (listed.toList.filter (!·)).length ≤ fuel → (∀ p, keepT L listed tmF p → p ∈ tm) → Has C n tm mm a w →
      wpAny C.P .any (L ++ [z]).toArray (QT C n P) fuel listed a w := by
  have hLz : (L ++ [z])[L.length]? = some z := by simp
  have hLk : ∀ k, k < L.length → (L ++ [z])[k]? = L[k]? := fun k hk => List.getElem?_append_left hk
  -- all are listed where only the last may come up
  have hall : ∀ (listed : Array Bool), listed.size = L.length + 1 → (∀ j, j ∈ Region.ready .any (L ++ [z]).toArray listed → j = L.length) → ∀ k, k < L.length → listed.getD k false = true := by
    intro listed hsz hr k
    induction k using Nat.strongRecOn with
    | _ k ih =>
      intro hk
      cases hl : listed.getD k false with
      | true => rfl
      | false =>
        have hmem : k ∈ Region.ready .any (L ++ [z]).toArray listed := by
          rw [mem_ready]
          refine ⟨?_, L[k], by rw [List.getElem?_toArray, hLk k hk, List.getElem?_eq_getElem hk], fun e he hb => ?_⟩
          · have hks : k < listed.size := by omega
            simp [Array.getD, hks] at hl ⊢; exact hl
          · obtain ⟨_, _, h3⟩ := okR_get hok k L[k] (List.getElem?_eq_getElem hk)
            have := ons_mem (l := L[k].after.toList) (by simpa using he) hb
            have hlt := allLt_spec h3 _ this
            exact ih e.on (by omega) (by omega)
        have := hr k hmem
        omega
  have hlast : ∀ (listed : Array Bool), listed.size = L.length + 1 → listed.getD L.length true = false → (∀ k, k < L.length → listed.getD k false = true) → L.length ∈ Region.ready .any (L ++ [z]).toArray listed := by
    intro listed hsz hz ha
    rw [mem_ready]
    refine ⟨hz, z, by simp, fun e he hb => ?_⟩
    exact ha _ (allLt_spec hlt _ (ons_mem (by simpa using he) hb))
  -- the last operation
  have hend : ∀ (fuel : Nat) (listed : Array Bool) (a : Act) (w : World) (tm : TM), listed.size = L.length + 1 → (∀ k, k < L.length → listed.getD k false = true) → (∀ p, keepT L listed tmF p → p ∈ tm) → Has C n tm mm a w →
      wpOp C.P (L ++ [z]).toArray (QT C n P) L.length (wpAny C.P .any (L ++ [z]).toArray (QT C n P) fuel (listed.setIfInBounds L.length true)) a w := by
    intro fuel listed a w tm hsz ha hk hh
    have hF' : Has C n tmF mm a w := hh.incl fun p hp => hk p ⟨hp, by
      by_cases hd : p.1 ∈ dstsE L
      · obtain ⟨k, o, h1, h2⟩ := dstsE_get hd
        exact .inr ⟨k, o, h1, h2, ha k (List.getElem?_eq_some_iff.1 h1).1⟩
      · exact .inl hd⟩
    have hnone : Region.ready .any (L ++ [z]).toArray (listed.setIfInBounds L.length true) = [] := by
      rw [List.eq_nil_iff_forall_not_mem]
      intro j hj
      obtain ⟨h1, o, h2, _⟩ := mem_ready.1 hj
      have hjl : j < (L ++ [z]).length := by simpa using (Array.getElem?_eq_some_iff.1 h2).1
      simp only [List.length_append, List.length_singleton] at hjl
      by_cases hjz : j = L.length
      · subst hjz
        have : L.length < listed.size := by omega
        simp [Array.getD, this] at h1
      · have h3 := ha j (by omega)
        have hjs : j < listed.size := by omega
        have hne : L.length ≠ j := fun e => hjz e.symm
        rw [getD_set_ne true hne] at h1
        simp [Array.getD, hjs] at h1 h3
        rw [h3] at h1; cases h1
    have hw := hP a w hF'
    have hmono : ∀ a' w', QT C n P .normal a' w' → wpAny C.P .any (L ++ [z]).toArray (QT C n P) fuel (listed.setIfInBounds L.length true) a' w' := by
      intro a' w' hq
      cases fuel with
      | zero => exact ⟨hnone, hq⟩
      | succ fuel => exact ⟨fun _ => hq, fun i hi => by rw [hnone] at hi; cases hi⟩
    unfold wpOp
    simp only [List.getElem?_toArray, hLz]
    unfold wpList at hw
    split at hw
    · rename_i hwd
      rw [if_pos hwd]
      rcases hw with hw | hw
      · exact .inl (Oper.wp_mono (fun a' w' h' => hmono a' w' h') hw)
      · exact .inr hw
    · rename_i hwd
      rw [if_neg hwd]
      exact hmono _ _ hw
  intro fuel
  induction fuel with
  | zero =>
    intro listed a w tm hsz hz hc hk hh
    exfalso
    have hm : false ∈ listed.toList.filter (!·) := by
      rw [List.mem_filter]
      have hs : L.length < listed.size := by omega
      have : listed[L.length] = false := by simpa [Array.getD, hs] using hz
      exact ⟨by rw [← this]; simp, rfl⟩
    have := List.length_pos_of_mem hm
    omega
  | succ fuel ih =>
    intro listed a w tm hsz hz hc hk hh
    refine ⟨fun hr => ?_, fun i hi => ?_⟩
    · exfalso
      have := hlast listed hsz hz (hall listed hsz fun j hj => by rw [hr] at hj; cases hj)
      rw [hr] at this; cases this
    obtain ⟨h1, o, h2, h3⟩ := mem_ready.1 hi
    have hil : i < (L ++ [z]).length := by simpa using (Array.getElem?_eq_some_iff.1 h2).1
    simp only [List.length_append, List.length_singleton] at hil
    by_cases hiz : i = L.length
    · subst hiz
      have hoz : o = z := by simpa using h2.symm
      subst hoz
      refine hend fuel listed a w tm hsz (fun k hkl => ?_) hk hh
      obtain ⟨e, he, hb, heo⟩ := ons_of (hcov k hkl)
      have := h3 e (by simpa using he) hb
      rwa [heo] at this
    have hil' : i < L.length := by omega
    have hL : L[i]? = some o := by
      have : (L ++ [z])[i]? = some o := by simpa using h2
      rwa [hLk i hil'] at this
    have his : i < listed.size := by omega
    have hfalse : listed[i] = false := by simpa [Array.getD, his] using h1
    obtain ⟨_, hw, _⟩ := okR_get hok i o hL
    obtain ⟨d, s, e1, e2, e3⟩ := hF o (List.mem_of_getElem? hL)
    have hon : ∀ j, j ∈ ons o.after.toList → listed.getD j false = true := by
      intro j hj
      obtain ⟨e, he, hb, heo⟩ := ons_of hj
      have := h3 e (by simpa using he) hb
      rwa [heo] at this
    have hpre : ∀ p ∈ tmF, p.1 ∈ looksE L o → p ∈ tm := by
      intro p hp hl
      refine hk p ⟨hp, ?_⟩
      by_cases hd : p.1 ∈ dstsE L
      · obtain ⟨k, o', k1, k2⟩ := dstsE_get hd
        have := waitE_spec hw k o' p.1 k1 k2 hl
        exact .inr ⟨k, o', k1, k2, hon k (by simpa using this)⟩
      · exact .inl hd
    have hcount : ((listed.setIfInBounds i true).toList.filter (!·)).length ≤ fuel := by
      have h5 : ((listed.setIfInBounds i true).toList.filter (!·)).length + 1 = (listed.toList.filter (!·)).length := by
        rw [show (listed.setIfInBounds i true).toList = listed.toList.set i true by simp]
        exact count_set (by simp [his, hfalse])
      omega
    have hnext : ∀ a' w', Has C n ((d, s) :: delL tm d) mm a' w' → wpAny C.P .any (L ++ [z]).toArray (QT C n P) fuel (listed.setIfInBounds i true) a' w' := by
      intro a' w' h'
      refine ih (listed.setIfInBounds i true) a' w' _ (by simpa using hsz) (by rw [getD_set_ne true hiz]; exact hz) hcount (fun p hp => ?_) h'
      obtain ⟨g1, g2⟩ := hp
      by_cases hpd : p.1 = d
      · have : p = (d, s) := keyF p g1 (d, s) e2 hpd
        rw [this]; exact List.mem_cons_self
      · refine List.mem_cons_of_mem _ (mem_delL (hk p ⟨g1, ?_⟩) hpd)
        rcases g2 with g2 | ⟨k, o', k1, k2, k3⟩
        · exact .inl g2
        · refine .inr ⟨k, o', k1, k2, ?_⟩
          have hki : i ≠ k := by
            intro e; subst e
            rw [hL] at k1; injection k1 with k1; subst k1
            rw [e1] at k2; injection k2 with k2; exact hpd k2.symm
          rwa [getD_set_ne false hki] at k3
    unfold wpOp
    have h2' : (L ++ [z])[i]? = some o := by simpa using h2
    simp only [List.getElem?_toArray, h2']
    have h6 := e3 tm hpre a w (wpAny C.P .any (L ++ [z]).toArray (QT C n P) fuel (listed.setIfInBounds i true)) (QT C n P) hh hnext
    rw [← wanted_app (z := z) (a := a) (hgd o (List.mem_of_getElem? hL))] at h6
    split
    · rename_i hwd; rw [if_pos hwd] at h6; exact .inl h6
    · rename_i hwd; rw [if_neg hwd] at h6; exact h6

/-- A region that draws its order; its last operation waits for all others. -/
theorem g_drawA {Lf : List Oper} {f : FuncId} {R : Ending → World → Prop} {k : List Item} {id : Nat} {tm : TM} (hmix : C.P.follows .mixedOrders = true) (hsp : splitE Lf = some (L, z)) (hok : okR L [] L 0 = true) (hu : uniT (dstsE L) (cutT (dstsE L) tm) = true)
    (hcov : covE (ons z.after.toList) L.length = true) (hlt : allLt (ons z.after.toList) L.length = true) (hgd : guardsE L.length L = true)
    (h : DOps C n mm L (cutT (dstsE L) tm) L (cutT (dstsE L) tm) (fun tm' => SOps C n Lf.toArray [z] tm' mm (fun tm'' mm'' => Goes C f n R k tm'' mm''))) : Goes C f n R (.code (.region id Lf.toArray true) :: k) tm mm := by
  have hLf := splitE_eq hsp
  subst hLf
  obtain ⟨u1, u2⟩ := uniT_spec hu
  obtain ⟨tmF, hg, hF, hbase, hkeys⟩ := h [] 0 ⟨fun o ho => (by cases ho), u2, fun p hp _ => hp, hok, rfl⟩
  intro a w hh0 b cs hb hk
  have hh : Has C n (cutT (dstsE L) tm) mm a w := hh0.incl fun _ hp => cutT_mem hp
  have hany := any_last (z := z) (P := fun tm' mm' => Goes C f n R k tm' mm') hok hF hkeys (covE_spec hcov) hlt (guardsE_spec hgd) hg (L.length + 1) (Array.replicate (L.length + 1) false) a { w with drawn := w.drawn + 1 } (cutT (dstsE L) tm) (by simp) (by simp [Array.getD])
    (by rw [show (Array.replicate (L.length + 1) false).toList = List.replicate (L.length + 1) false by simp]; exact Nat.le_trans (List.length_filter_le _ _) (by simp))
    (fun p hp => by
      obtain ⟨g1, g2 | ⟨k, o, k1, k2, k3⟩⟩ := hp
      · exact hbase p g1 g2
      · have hkl := (List.getElem?_eq_some_iff.1 k1).1
        simp [Array.getD, show k < L.length + 1 by omega] at k3) hh.drawn
  have hwp := wp_region_any (id := id) (Q := QT C n (fun tm' mm' => Goes C f n R k tm' mm')) (ops := (L ++ [z]).toArray) (a := a) (w := w) hmix (by simpa using hany)
  obtain ⟨e, a', w', hq, harr⟩ := hwp b k cs
  cases e with
  | normal =>
    obtain ⟨tm', mm', hg, hh'⟩ := hq
    obtain ⟨e, w'', fr, g1, g2, g3⟩ := hg a' w' hh' b cs hb hk
    exact ⟨e, w'', fr, g1, Comes.of_steps harr g2, g3⟩
  | _ => exact hq.elim
end
end Go.Sy

/- Layer: a region that draws its order, of which some operations make objects and the last waits for all others. -/
namespace Go.Sy
open Go.RowKit

section
variable {C : Ctx} {n : Nat} {mm0 : MM} {L : List Oper} {z : Oper}
abbrev MKs := List (Nat × (Nat × MO))

/-- What an operation of such a region does, wherever it comes up. -/
structure OkM (C : Ctx) (n : Nat) (mm0 : MM) (L : List Oper) (tmF : TM) (MK : MKs) (i : Nat) (o : Oper) (d : Nat) (s : ST) (add : MM) : Prop where
  dst : o.dst = some d
  tin : (d, s) ∈ tmF
  made : ∀ q, (i, q) ∈ MK ↔ q ∈ add
  ok : ∀ tm' mm', Looked L tmF o tm' → (∀ q ∈ mm0, q ∈ mm') → (∀ j q, (j, q) ∈ MK → j ∈ ons o.after.toList → q ∈ mm') → (∀ q ∈ add, ∀ r ∈ mm', r.1 ≠ q.1) →
    ∀ (a : Act) (w : World) (K : Act → World → Prop) (Q : Exit → Act → World → Prop), Has C n tm' mm' a w →
      (∀ a' w', Has C n ((d, s) :: delL tm' d) (add ++ mm') a' w' → K a' w') →
      if Region.wanted o (yielded L.toArray a.tmps) then o.wp C.P a w K Q else K (a.put o.dst undef) w

theorem any_lastM {tmF : TM} {MK : MKs} (hok : okR L [] L 0 = true) (hF : ∀ i o, L[i]? = some o → ∃ d s add, OkM C n mm0 L tmF MK i o d s add) (keyF : ∀ p ∈ tmF, ∀ q ∈ tmF, p.1 = q.1 → p = q)
    (hMd : ∀ p ∈ MK, ∀ q ∈ MK, p.2.1 = q.2.1 → p = q) (hM0 : ∀ p ∈ MK, ∀ q ∈ mm0, q.1 ≠ p.2.1) (hMl : ∀ p ∈ MK, p.1 < L.length) (hokT : okT (MK.map (·.2) ++ mm0) tmF = true) (hokM : okM (MK.map (·.2) ++ mm0) (MK.map (·.2) ++ mm0) = true)
    (hcov : ∀ k, k < L.length → k ∈ ons z.after.toList) (hlt : allLt (ons z.after.toList) L.length = true) (hgd : ∀ o ∈ L, ∀ j b, o.guard = some (j, b) → j < L.length)
    {P : TM → MM → Prop} (hP : SOps C n (L ++ [z]).toArray [z] tmF (MK.map (·.2) ++ mm0) P) :
    ∀ (fuel : Nat) (listed : Array Bool) (a : Act) (w : World) (tm : TM) (mm : MM), listed.size = L.length + 1 → listed.getD L.length true = false → (listed.toList.filter (!·)).length ≤ fuel → (∀ p, keepT L listed tmF p → p ∈ tm) →
      (∀ q ∈ mm0, q ∈ mm) → (∀ p ∈ MK, listed.getD p.1 false = true → p.2 ∈ mm) → (∀ q ∈ mm, q ∈ mm0 ∨ ∃ p ∈ MK, p.2 = q ∧ listed.getD p.1 false = true) → Has C n tm mm a w →
      wpAny C.P .any (L ++ [z]).toArray (QT C n P) fuel listed a w := by
  have hLz : (L ++ [z])[L.length]? = some z := by simp
  have hLk : ∀ k, k < L.length → (L ++ [z])[k]? = L[k]? := fun k hk => List.getElem?_append_left hk
  have hall : ∀ (listed : Array Bool), listed.size = L.length + 1 → (∀ j, j ∈ Region.ready .any (L ++ [z]).toArray listed → j = L.length) → ∀ k, k < L.length → listed.getD k false = true := by
    intro listed hsz hr k
    induction k using Nat.strongRecOn with
    | _ k ih =>
      intro hk
      cases hl : listed.getD k false with
      | true => rfl
      | false =>
        have hmem : k ∈ Region.ready .any (L ++ [z]).toArray listed := by
          rw [mem_ready]
          refine ⟨?_, L[k], by rw [List.getElem?_toArray, hLk k hk, List.getElem?_eq_getElem hk], fun e he hb => ?_⟩
          · have hks : k < listed.size := by omega
            simp [Array.getD, hks] at hl ⊢; exact hl
          · obtain ⟨_, _, h3⟩ := okR_get hok k L[k] (List.getElem?_eq_getElem hk)
            have := ons_mem (l := L[k].after.toList) (by simpa using he) hb
            have hlt := allLt_spec h3 _ this
            exact ih e.on (by omega) (by omega)
        have := hr k hmem
        omega
  have hlast : ∀ (listed : Array Bool), listed.size = L.length + 1 → listed.getD L.length true = false → (∀ k, k < L.length → listed.getD k false = true) → L.length ∈ Region.ready .any (L ++ [z]).toArray listed := by
    intro listed hsz hz ha
    rw [mem_ready]
    refine ⟨hz, z, by simp, fun e he hb => ?_⟩
    exact ha _ (allLt_spec hlt _ (ons_mem (by simpa using he) hb))
  have hend : ∀ (fuel : Nat) (listed : Array Bool) (a : Act) (w : World) (tm : TM) (mm : MM), listed.size = L.length + 1 → (∀ k, k < L.length → listed.getD k false = true) → (∀ p, keepT L listed tmF p → p ∈ tm) →
      (∀ q ∈ mm0, q ∈ mm) → (∀ p ∈ MK, listed.getD p.1 false = true → p.2 ∈ mm) → Has C n tm mm a w →
      wpOp C.P (L ++ [z]).toArray (QT C n P) L.length (wpAny C.P .any (L ++ [z]).toArray (QT C n P) fuel (listed.setIfInBounds L.length true)) a w := by
    intro fuel listed a w tm mm hsz ha hk hb hm hh
    have hF' : Has C n tmF (MK.map (·.2) ++ mm0) a w := hh.less (fun p hp => hk p ⟨hp, by
      by_cases hd : p.1 ∈ dstsE L
      · obtain ⟨k, o, h1, h2⟩ := dstsE_get hd
        exact .inr ⟨k, o, h1, h2, ha k (List.getElem?_eq_some_iff.1 h1).1⟩
      · exact .inl hd⟩) (fun q hq => by
      rcases List.mem_append.1 hq with hq | hq
      · obtain ⟨p, hp, rfl⟩ := List.mem_map.1 hq
        exact hm p hp (ha _ (hMl p hp))
      · exact hb q hq) hokT hokM
    have hnone : Region.ready .any (L ++ [z]).toArray (listed.setIfInBounds L.length true) = [] := by
      rw [List.eq_nil_iff_forall_not_mem]
      intro j hj
      obtain ⟨h1, o, h2, _⟩ := mem_ready.1 hj
      have hjl : j < (L ++ [z]).length := by simpa using (Array.getElem?_eq_some_iff.1 h2).1
      simp only [List.length_append, List.length_singleton] at hjl
      by_cases hjz : j = L.length
      · subst hjz
        have : L.length < listed.size := by omega
        simp [Array.getD, this] at h1
      · have h3 := ha j (by omega)
        have hjs : j < listed.size := by omega
        have hne : L.length ≠ j := fun e => hjz e.symm
        rw [getD_set_ne true hne] at h1
        simp [Array.getD, hjs] at h1 h3
        rw [h3] at h1; cases h1
    have hw := hP a w hF'
    have hmono : ∀ a' w', QT C n P .normal a' w' → wpAny C.P .any (L ++ [z]).toArray (QT C n P) fuel (listed.setIfInBounds L.length true) a' w' := by
      intro a' w' hq
      cases fuel with
      | zero => exact ⟨hnone, hq⟩
      | succ fuel => exact ⟨fun _ => hq, fun i hi => by rw [hnone] at hi; cases hi⟩
    unfold wpOp
    simp only [List.getElem?_toArray, hLz]
    unfold wpList at hw
    split at hw
    · rename_i hwd
      rw [if_pos hwd]
      rcases hw with hw | hw
      · exact .inl (Oper.wp_mono (fun a' w' h' => hmono a' w' h') hw)
      · exact .inr hw
    · rename_i hwd
      rw [if_neg hwd]
      exact hmono _ _ hw
  intro fuel
  induction fuel with
  | zero =>
    intro listed a w tm mm hsz hz hc
    exfalso
    have hm : false ∈ listed.toList.filter (!·) := by
      rw [List.mem_filter]
      have hs : L.length < listed.size := by omega
      have : listed[L.length] = false := by simpa [Array.getD, hs] using hz
      exact ⟨by rw [← this]; simp, rfl⟩
    have := List.length_pos_of_mem hm
    omega
  | succ fuel ih =>
    intro listed a w tm mm hsz hz hc hk hb hmade honly hh
    refine ⟨fun hr => ?_, fun i hi => ?_⟩
    · exfalso
      have := hlast listed hsz hz (hall listed hsz fun j hj => by rw [hr] at hj; cases hj)
      rw [hr] at this; cases this
    obtain ⟨h1, o, h2, h3⟩ := mem_ready.1 hi
    have hil : i < (L ++ [z]).length := by simpa using (Array.getElem?_eq_some_iff.1 h2).1
    simp only [List.length_append, List.length_singleton] at hil
    by_cases hiz : i = L.length
    · subst hiz
      have hoz : o = z := by simpa using h2.symm
      subst hoz
      refine hend fuel listed a w tm mm hsz (fun k hkl => ?_) hk hb hmade hh
      obtain ⟨e, he, hbi, heo⟩ := ons_of (hcov k hkl)
      have := h3 e (by simpa using he) hbi
      rwa [heo] at this
    have hil' : i < L.length := by omega
    have hL : L[i]? = some o := by
      have : (L ++ [z])[i]? = some o := by simpa using h2
      rwa [hLk i hil'] at this
    have his : i < listed.size := by omega
    have hfalse : listed[i] = false := by simpa [Array.getD, his] using h1
    have hfalse' : listed.getD i false = false := by simpa [Array.getD, his] using hfalse
    obtain ⟨_, hw, _⟩ := okR_get hok i o hL
    obtain ⟨d, s, add, hO⟩ := hF i o hL
    have hon : ∀ j, j ∈ ons o.after.toList → listed.getD j false = true := by
      intro j hj
      obtain ⟨e, he, hbi, heo⟩ := ons_of hj
      have := h3 e (by simpa using he) hbi
      rwa [heo] at this
    have hpre : Looked L tmF o tm := by
      intro p hp hl
      refine hk p ⟨hp, ?_⟩
      by_cases hd : p.1 ∈ dstsE L
      · obtain ⟨k, o', k1, k2⟩ := dstsE_get hd
        have := waitE_spec hw k o' p.1 k1 k2 hl
        exact .inr ⟨k, o', k1, k2, hon k (by simpa using this)⟩
      · exact .inl hd
    have hfresh : ∀ q ∈ add, ∀ r ∈ mm, r.1 ≠ q.1 := by
      intro q hq r hr
      have hqM := (hO.made q).2 hq
      rcases honly r hr with h0 | ⟨p, hp, hpr, hpl⟩
      · exact hM0 _ hqM r h0
      · intro e
        have : p = (i, q) := hMd p hp (i, q) hqM (by rw [hpr]; exact e)
        rw [this] at hpl
        rw [hfalse'] at hpl; cases hpl
    have hcount : ((listed.setIfInBounds i true).toList.filter (!·)).length ≤ fuel := by
      have h5 : ((listed.setIfInBounds i true).toList.filter (!·)).length + 1 = (listed.toList.filter (!·)).length := by
        rw [show (listed.setIfInBounds i true).toList = listed.toList.set i true by simp]
        exact count_set (by simp [his, hfalse])
      omega
    have hnext : ∀ a' w', Has C n ((d, s) :: delL tm d) (add ++ mm) a' w' → wpAny C.P .any (L ++ [z]).toArray (QT C n P) fuel (listed.setIfInBounds i true) a' w' := by
      intro a' w' h'
      have hset : ∀ j, listed.getD j false = true → (listed.setIfInBounds i true).getD j false = true := by
        intro j hj
        by_cases hij : i = j
        · subst hij; exact getD_set_self his
        · rw [getD_set_ne false hij]; exact hj
      refine ih (listed.setIfInBounds i true) a' w' _ _ (by simpa using hsz) (by rw [getD_set_ne true hiz]; exact hz) hcount (fun p hp => ?_) (fun q hq => List.mem_append_right _ (hb q hq)) (fun p hp hl => ?_) (fun q hq => ?_) h'
      · obtain ⟨g1, g2⟩ := hp
        by_cases hpd : p.1 = d
        · have : p = (d, s) := keyF p g1 (d, s) hO.tin hpd
          rw [this]; exact List.mem_cons_self
        · refine List.mem_cons_of_mem _ (mem_delL (hk p ⟨g1, ?_⟩) hpd)
          rcases g2 with g2 | ⟨k, o', k1, k2, k3⟩
          · exact .inl g2
          · refine .inr ⟨k, o', k1, k2, ?_⟩
            have hki : i ≠ k := by
              intro e; subst e
              rw [hL] at k1; injection k1 with k1; subst k1
              have e1 := hO.dst
              rw [e1] at k2; injection k2 with k2; exact hpd k2.symm
            rwa [getD_set_ne false hki] at k3
      · by_cases hpi : i = p.1
        · exact List.mem_append_left _ ((hO.made p.2).1 (by rw [hpi]; exact hp))
        · rw [getD_set_ne false hpi] at hl
          exact List.mem_append_right _ (hmade p hp hl)
      · rcases List.mem_append.1 hq with hq | hq
        · exact .inr ⟨(i, q), (hO.made q).2 hq, rfl, getD_set_self his⟩
        · rcases honly q hq with h0 | ⟨p, hp, hpr, hpl⟩
          · exact .inl h0
          · exact .inr ⟨p, hp, hpr, hset _ hpl⟩
    unfold wpOp
    have h2' : (L ++ [z])[i]? = some o := by simpa using h2
    simp only [List.getElem?_toArray, h2']
    have h6 := hO.ok tm mm hpre hb (fun j q hj ho => hmade (j, q) hj (hon j ho)) hfresh a w (wpAny C.P .any (L ++ [z]).toArray (QT C n P) fuel (listed.setIfInBounds i true)) (QT C n P) hh hnext
    rw [← wanted_app (z := z) (a := a) (hgd o (List.mem_of_getElem? hL))] at h6
    split
    · rename_i hwd; rw [if_pos hwd] at h6; exact .inl h6
    · rename_i hwd; rw [if_neg hwd] at h6; exact h6

/-! ### The tests -/
def uniK : TM → Bool
  | [] => true
  | (t, _) :: r => match keyT t r with
    | true => uniK r
    | false => false
theorem uniK_spec : ∀ {l : TM}, uniK l = true → ∀ p ∈ l, ∀ q ∈ l, p.1 = q.1 → p = q
  | [], _, p, hp => by cases hp
  | (t, s) :: r, h, p, hp => by
    unfold uniK at h
    split at h
    · rename_i hk
      have hk := keyT_spec hk
      intro q hq e
      rcases List.mem_cons.1 hp with rfl | hp <;> rcases List.mem_cons.1 hq with rfl | hq
      · rfl
      · exact absurd e.symm (hk q hq)
      · exact absurd e (hk p hp)
      · exact uniK_spec h p hp q hq e
    · cases h
def newM (mm : MM) : MKs → Bool
  | [] => true
  | p :: r => match hasI mm p.2.1 with
    | true => false
    | false => newM mm r
theorem newM_spec {mm : MM} : ∀ {l : MKs}, newM mm l = true → ∀ p ∈ l, ∀ q ∈ mm, q.1 ≠ p.2.1
  | [], _, p, hp => by cases hp
  | x :: r, h, p, hp => by
    unfold newM at h
    split at h
    · cases h
    · rename_i hf
      rcases List.mem_cons.1 hp with rfl | hp
      · exact fun q hq e => hasI_false hf ⟨q, hq, e⟩
      · exact newM_spec h p hp
def ltM (n : Nat) : MKs → Bool
  | [] => true
  | p :: r => match Nat.blt p.1 n with
    | true => ltM n r
    | false => false
theorem ltM_spec {n : Nat} : ∀ {l : MKs}, ltM n l = true → ∀ p ∈ l, p.1 < n
  | [], _, p, hp => by cases hp
  | x :: r, h, p, hp => by
    unfold ltM at h
    split at h
    · rename_i hb
      rcases List.mem_cons.1 hp with rfl | hp
      · exact Nat.blt_eq.mp hb
      · exact ltM_spec h p hp
    · cases h
def uniMK : MKs → Bool
  | [] => true
  | p :: r => match keyT p.2.1 (r.map fun q => (q.2.1, .tup [])) with
    | true => uniMK r
    | false => false
theorem uniMK_spec : ∀ {l : MKs}, uniMK l = true → ∀ p ∈ l, ∀ q ∈ l, p.2.1 = q.2.1 → p = q
  | [], _, p, hp => by cases hp
  | x :: r, h, p, hp => by
    unfold uniMK at h
    split at h
    · rename_i hk
      have hk := keyT_spec hk
      intro q hq e
      rcases List.mem_cons.1 hp with hp' | hp' <;> rcases List.mem_cons.1 hq with hq' | hq'
      · rw [hp', hq']
      · rw [hp'] at e; exact absurd e.symm (hk (q.2.1, .tup []) (List.mem_map.2 ⟨q, hq', rfl⟩))
      · rw [hq'] at e; exact absurd e (hk (p.2.1, .tup []) (List.mem_map.2 ⟨p, hp', rfl⟩))
      · exact uniMK_spec h p hp' q hq' e
    · cases h
def inE (l : List Nat) : TM → Bool
  | [] => true
  | (t, _) :: r => match memN l t with
    | true => inE l r
    | false => false
theorem inE_spec {l : List Nat} : ∀ {tm : TM}, inE l tm = true → ∀ p ∈ tm, p.1 ∈ l
  | [], _, p, hp => by cases hp
  | (t, s) :: r, h, p, hp => by
    unfold inE at h
    split at h
    · rename_i hm
      rcases List.mem_cons.1 hp with rfl | hp
      · exact memN_iff.1 hm
      · exact inE_spec h p hp
    · cases h

/-- A region that draws its order; some of its operations make objects; the last waits for all others. -/
theorem g_drawM {Lf : List Oper} {f : FuncId} {R : Ending → World → Prop} {k : List Item} {id : Nat} {tm : TM} (tmN : TM) (MK : MKs) (hmix : C.P.follows .mixedOrders = true) (hsp : splitE Lf = some (L, z)) (hok : okR L [] L 0 = true)
    (hu : uniK (tmN ++ cutT (dstsE L) tm) = true) (hin : inE (dstsE L) tmN = true) (hMd : uniMK MK = true) (hM0 : newM mm0 MK = true) (hMl : ltM L.length MK = true)
    (hokT : okT (MK.map (·.2) ++ mm0) (tmN ++ cutT (dstsE L) tm) = true) (hokM : okM (MK.map (·.2) ++ mm0) (MK.map (·.2) ++ mm0) = true)
    (hcov : covE (ons z.after.toList) L.length = true) (hlt : allLt (ons z.after.toList) L.length = true) (hgd : guardsE L.length L = true)
    (hF : ∀ i o, L[i]? = some o → ∃ d s add, OkM C n mm0 L (tmN ++ cutT (dstsE L) tm) MK i o d s add)
    (h : SOps C n Lf.toArray [z] (tmN ++ cutT (dstsE L) tm) (MK.map (·.2) ++ mm0) (fun tm'' mm'' => Goes C f n R k tm'' mm'')) : Goes C f n R (.code (.region id Lf.toArray true) :: k) tm mm0 := by
  have hLf := splitE_eq hsp
  subst hLf
  intro a w hh0 b cs hb hk
  have hany := any_lastM (z := z) (P := fun tm' mm' => Goes C f n R k tm' mm') hok hF (uniK_spec hu) (uniMK_spec hMd) (newM_spec hM0) (ltM_spec hMl) hokT hokM (covE_spec hcov) hlt (guardsE_spec hgd) h (L.length + 1) (Array.replicate (L.length + 1) false) a { w with drawn := w.drawn + 1 } tm mm0 (by simp) (by simp [Array.getD])
    (by rw [show (Array.replicate (L.length + 1) false).toList = List.replicate (L.length + 1) false by simp]; exact Nat.le_trans (List.length_filter_le _ _) (by simp))
    (fun p hp => by
      obtain ⟨g1, g2 | ⟨k, o, k1, k2, k3⟩⟩ := hp
      · rcases List.mem_append.1 g1 with g1 | g1
        · exact absurd (inE_spec hin p g1) g2
        · exact cutT_mem g1
      · have hkl := (List.getElem?_eq_some_iff.1 k1).1
        simp [Array.getD, show k < L.length + 1 by omega] at k3)
    (fun q hq => hq) (fun p hp hl => by
      have := ltM_spec hMl p hp
      simp [Array.getD, show p.1 < L.length + 1 by omega] at hl) (fun q hq => .inl hq) hh0.drawn
  have hwp := wp_region_any (id := id) (Q := QT C n (fun tm' mm' => Goes C f n R k tm' mm')) (ops := (L ++ [z]).toArray) (a := a) (w := w) hmix (by simpa using hany)
  obtain ⟨e, a', w', hq, harr⟩ := hwp b k cs
  cases e with
  | normal =>
    obtain ⟨tm', mm', hg, hh'⟩ := hq
    obtain ⟨e, w'', fr, g1, g2, g3⟩ := hg a' w' hh' b cs hb hk
    exact ⟨e, w'', fr, g1, Comes.of_steps harr g2, g3⟩
  | _ => exact hq.elim

/-! ### The operations -/
variable {tmF : TM} {MK : MKs} {i : Nat} {o : Oper} {d : Nat} {s : ST} {x y : Operand}
theorem okM_val (hd : o.dst = some d) (hin : (d, s) ∈ tmF) (hmk : ∀ q, (i, q) ∈ MK ↔ q ∈ ([] : MM)) (hg : guardL L (onlyE (looksE L o) tmF) o = some true)
    (h : ∀ mm', (∀ q ∈ mm0, q ∈ mm') → (∀ p ∈ mm', ∀ q ∈ mm', p.1 = q.1 → p = q) → OpX C n mm' o (onlyE (looksE L o) tmF) d s) : OkM C n mm0 L tmF MK i o d s [] :=
  ⟨hd, hin, hmk, fun tm' mm' hL hb _ _ a w K Q hh hK => by
    rw [if_pos (guard_looked hg hL hh)]
    exact (h mm' hb (has_uniq hh)).2 tm' (fun p hp => hL p (onlyE_mem.1 hp).1 (onlyE_mem.1 hp).2) a w K Q hh hK⟩
theorem okM_alloc {Θ : Tab} (hΘ : tabOK C.P Θ) {e : TypeId} {zz bts : Nat} {ag : Bool} {zr : List CT} {sh : Sh} (hg : guardL L (onlyE (looksE L o) tmF) o = some true) (ho : o.op = .alloc e)
    (ht : tyGet Θ e = some ⟨zz, bts, ag, some zr, sh⟩) (hd : o.dst = some d) (hn : Nat.blt d n = true) (hin : (d, .v (.one (.ptr d 0))) ∈ tmF) (hmk : ∀ q, (i, q) ∈ MK ↔ q ∈ [(d, MO.box (zr.map SC.c))]) :
    OkM C n mm0 L tmF MK i o d (.v (.one (.ptr d 0))) [(d, .box (zr.map SC.c))] :=
  ⟨hd, hin, hmk, fun tm' mm' hL _ _ hf a w K Q hh hK => by
    rw [if_pos (guard_looked hg hL hh)]
    have hnone : getM mm' d = none := by
      cases hg' : getM mm' d with
      | none => rfl
      | some x => exact absurd rfl (hf (d, .box (zr.map SC.c)) List.mem_cons_self (d, x) (getM_mem hg'))
    exact (op_alloc hΘ ho ht hnone hd hn).wp a w K Q hh hK⟩
theorem okM_appendN {Θ : Tab} (hΘ : tabOK C.P Θ) {t : TypeId} {zz bts e : Nat} {ag : Bool} {zt : Option (List CT)} {ei : TyI} {zr : List CT} {nn' : Bool} {sz : Nat} {ys : List (List CT)}
    (ho : o.op = .call { callee := .builtin .append, args := ⟨[x, y]⟩, argTypes := ⟨[t, t]⟩ }) (ht : tyGet Θ t = some ⟨zz, bts, ag, zt, .slice e⟩) (hei : tyGet Θ e = some ei) (hz : ei.zero = some zr)
    (hsz : Nat.beq ei.size sz = true) (hs0 : Nat.blt 0 ei.size = true) (hx : evalC (onlyE (looksE L o) tmF) x = some (.c .nils)) (hy : evalC (onlyE (looksE L o) tmF) y = some (.c (.slice nn' sz ys)))
    (hig : Nat.blt d given = true) (hd : o.dst = some d) (hn : Nat.blt d n = true) (hg : guardL L (onlyE (looksE L o) tmF) o = some true)
    (hbig : ys.length ≤ 9223372036854775807 ∧ ys.length * ei.bytes ≤ 140737488355328) (hin : (d, .v (.one (.own d))) ∈ tmF) (hmk : ∀ q, (i, q) ∈ MK ↔ q ∈ [(d, MO.arr false e sz ys)]) :
    OkM C n mm0 L tmF MK i o d (.v (.one (.own d))) [(d, .arr false e sz ys)] :=
  ⟨hd, hin, hmk, fun tm' mm' hL' _ _ hf a w K Q hh hK => by
    have hf : ∀ q ∈ mm', q.1 ≠ d := fun q hq => hf _ List.mem_cons_self q hq
    rw [if_pos (guard_looked hg hL' hh)]
    have hnone : hasI mm' d = false := by
      unfold hasI
      cases hg' : getM mm' d with
      | none => rfl
      | some x => exact absurd rfl (hf _ (getM_mem hg'))
    have hnu : noUse d ((d, .arr false e sz []) :: mm') = true := noUse_of fun q hq hu => by
      rcases List.mem_cons.1 hq with rfl | hq
      · simp [MO.uses] at hu
      · obtain ⟨q', h1, h2⟩ := hh.mm_uses q hq d hu
        exact hf q' h1 h2
    have hrun := (op_appendN (C := C) (n := n) (tm := onlyE (looksE L o) tmF ++ tm') hΘ d ho ht hei hz hsz hs0 (evalC_app hx) (evalC_app hy) hig hnone hnu hd hn hbig).wp
    refine hrun a w K Q (hh.incl fun p hp => (List.mem_append.1 hp).elim (fun hp => hL' p (onlyE_mem.1 hp).1 (onlyE_mem.1 hp).2) id) fun a' w' h' => hK a' w' (h'.incl fun p hp => ?_)
    rcases List.mem_cons.1 hp with rfl | hp
    · exact List.mem_cons_self
    · obtain ⟨h1, h2⟩ := delL_mem hp
      refine List.mem_cons_of_mem _ (mem_delL (dropU_in (fun hu => ?_) (List.mem_append_right _ h1)) h2)
      obtain ⟨q', g1, g2⟩ := hh.tm_uses p h1 d hu
      exact hf q' g1 g2⟩
end
end Go.Sy
