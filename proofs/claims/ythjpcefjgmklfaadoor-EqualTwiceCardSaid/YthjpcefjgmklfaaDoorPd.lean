/- The plain law: what reparteemake.Book makes is a valid book. -/
import Derived.Test.YthjpcefjgmklfaaDoorFm
import Derived.Test.YthjpcefjgmklfaaDoorSy5
import Derived.Test.YthjpcefjgmklfaaDoorPc
set_option linter.unusedSimpArgs false
set_option linter.unusedVariables false
set_option linter.unusedSectionVars false
namespace Go.Sy

/-- An edge as Book makes it. -/
structure GoodE (n : Int) (e : Edge) : Prop where
  label : e.label ∈ labelsL
  next : 0 ≤ e.next ∧ e.next < n
  sort : sortB e.kind e.at_ n = true
theorem label_name : ∀ s ∈ labelsL, nameB s = true := by decide
theorem sLt_eq (x y : ByteArray) : sLt x y = Op.bytesLess x.data.toList y.data.toList := by simp only [sLt, ByteArray.toList_eq]
theorem labels_rise : labelsL.Pairwise fun a b => sLt a b = true := by
  simp only [sLt_eq]
  decide
theorem sorted_mem {es : List Edge} {e : Edge} (h : e ∈ sortedE es) : e ∈ es := by
  unfold sortedE at h
  rw [List.mem_filterMap] at h
  obtain ⟨s, _, h⟩ := h
  exact List.mem_of_find?_eq_some h
theorem sorted_rise (es : List Edge) : (sortedE es).Pairwise fun a b => sLt a.label b.label = true := by
  unfold sortedE
  rw [List.pairwise_filterMap]
  refine labels_rise.imp fun {a b} hab x hx y hy => ?_
  have h1 := List.find?_some hx
  have h2 := List.find?_some hy
  simp at h1 h2
  rw [h1, h2]; exact hab
theorem sorted_len (es : List Edge) : (sortedE es).length ≤ 4 := List.length_filterMap_le _ _
theorem sorted_ne {n : Int} {es : List Edge} (h : ∀ e ∈ es, GoodE n e) (hne : es ≠ []) : 1 ≤ (sortedE es).length := by
  cases es with
  | nil => exact absurd rfl hne
  | cons e es =>
    have hl := (h e List.mem_cons_self).label
    have : (((e :: es).find? fun x => decide (x.label = e.label)).isSome) = true := by simp
    obtain ⟨x, hx⟩ := Option.isSome_iff_exists.1 this
    have : x ∈ sortedE (e :: es) := List.mem_filterMap.2 ⟨e.label, hl, hx⟩
    exact List.length_pos_iff.2 (List.ne_nil_of_mem this)
theorem sorted_arms {n : Int} {es : List Edge} (h : ∀ e ∈ es, GoodE n e) : armsB n (sortedE es) = true := by
  unfold armsB
  rw [List.all_eq_true]
  intro i hi
  have hi := List.mem_range.1 hi
  have hg := h _ (sorted_mem (List.getElem_mem hi))
  have hb : nameB (sortedE es)[i].label = true := label_name _ hg.label
  cases i with
  | zero =>
    rw [okAt_zero hi]
    simp [hb, hg.next.1, hg.next.2, hg.sort]
  | succ j =>
    rw [okAt_succ hi]
    have hr := List.pairwise_iff_getElem.1 (sorted_rise es) j (j + 1) (by omega) hi (by omega)
    simp [hb, hg.next.1, hg.next.2, hg.sort, hr]
theorem sorted_node {n : Int} {es : List Edge} {k : Int} {p : ByteArray} (h : ∀ e ∈ es, GoodE n e) (hne : es ≠ []) (hk : k = 1 ∨ k = 2) (hp : nameB p = true) : nodeB n ⟨k, p, sortedE es⟩ = true := by
  have h1 := sorted_len es
  have h2 := sorted_ne h hne
  unfold nodeB
  rw [if_neg (by simp only; omega)]
  simp only [Bool.and_eq_true, Bool.or_eq_true, decide_eq_true_eq]
  exact ⟨hk, hp, h2, by omega, sorted_arms h⟩
theorem end_node (n : Int) : nodeB n ⟨0, ⟨#[]⟩, []⟩ = true := by simp [nodeB]
def oneL : List ByteArray := [⟨#[111, 110, 101]⟩, ⟨#[116, 119, 111]⟩]
theorem book_ok {ns : List Nd} {r : Int} (hl : ns.length ≤ 8) (h1 : 1 ≤ ns.length) (hr : 0 ≤ r ∧ r < ns.length) (h : ∀ x ∈ ns, nodeB ns.length x = true) : bookB ⟨ns, oneL, [0, r]⟩ = true := by
  have hs : sLt ⟨#[111, 110, 101]⟩ ⟨#[116, 119, 111]⟩ = true := by rw [sLt_eq]; decide
  simp only [bookB, Bool.and_eq_true, decide_eq_true_eq, List.all_eq_true]
  refine ⟨by omega, rfl, fun i hi => ?_, h⟩
  have hi := List.mem_range.1 hi
  simp only [List.length_cons, List.length_nil] at hi
  match i, hi with
  | 0, _ => simp [rootAt]; omega
  | 1, _ => simp [rootAt, oneL, hs]; omega
theorem tmodB (a b : Int) (ha : 0 ≤ a) (hb : 0 < b) : 0 ≤ a.tmod b ∧ a.tmod b < b := ⟨Int.tmod_nonneg _ ha, Int.tmod_lt_of_pos _ hb⟩
def roleN (m : Int) : ByteArray := (rolesL[m.toNat]?).getD ⟨#[97]⟩
def labN (m : Int) : ByteArray := (labelsL[m.toNat]?).getD ⟨#[119]⟩
theorem role_at (m : Int) (h : 0 ≤ m ∧ m < 2) : (rolesL.map fun s => [CT.str s])[m.toNat]? = some [.str (roleN m)] := by
  have hl : rolesL.length = 5 := rfl
  have hj : m.toNat < rolesL.length := by omega
  simp [roleN, hj]
theorem roleN_name (m : Int) : nameB (roleN m) = true := by
  unfold roleN
  cases h : rolesL[m.toNat]? with
  | none => rfl
  | some s =>
    have : ∀ s ∈ rolesL, nameB s = true := by decide
    exact this _ (List.mem_of_getElem? h)
theorem lab_at (m : Int) (h : 0 ≤ m ∧ m < 4) : (labelsL.map fun s => [CT.str s])[m.toNat]? = some [.str (labN m)] := by
  have hl : labelsL.length = 4 := rfl
  have hj : m.toNat < labelsL.length := by omega
  simp [labN, hj]
theorem labN_mem (m : Int) : labN m ∈ labelsL := by
  unfold labN
  cases h : labelsL[m.toNat]? with
  | none => exact List.mem_cons_self
  | some s => exact List.mem_of_getElem? h

/-- One of the kinds of data that Book draws. -/
abbrev kindP : CT := .intP .i64 fun k => k = 0 ∨ k = 1 ∨ k = 3
theorem kinds_le : LeC (.slice true 1 [[.int .i64 1], [.int .i64 0], [.int .i64 3]]) (.slice true 1 [[kindP], [kindP], [kindP]]) := by
  refine .deep rfl ?_ ?_
  · intro i x y hx hy
    match i with
    | 0 => simp at hx hy; subst hx hy; rfl
    | 1 => simp at hx hy; subst hx hy; rfl
    | 2 => simp at hx hy; subst hx hy; rfl
    | i + 3 => simp at hx
  · intro i j x y c d hx hy hc hd
    match i with
    | 0 => simp at hx hy; subst hx hy; cases j <;> simp at hc hd; subst hc hd; exact .intP (by simp)
    | 1 => simp at hx hy; subst hx hy; cases j <;> simp at hc hd; subst hc hd; exact .intP (by simp)
    | 2 => simp at hx hy; subst hx hy; cases j <;> simp at hc hd; subst hc hd; exact .intP (by simp)
    | i + 3 => simp at hx
theorem kinds_at (m : Int) (h : 0 ≤ m ∧ m < 3) : ∃ j : Nat, m = (j : Int) ∧ ([[kindP], [kindP], [kindP]] : List (List CT))[j]? = some [kindP] := by
  refine ⟨m.toNat, by omega, ?_⟩
  have : m.toNat = 0 ∨ m.toNat = 1 ∨ m.toNat = 2 := by omega
  rcases this with h | h | h <;> rw [h] <;> rfl
end Go.Sy
