/- The plain law: what under.Pairs computes. -/
import Derived.Test.YthjpcefjgmklfaaDoorFg
import Derived.Test.YthjpcefjgmklfaaDoorSy4
set_option linter.unusedSimpArgs false
set_option linter.unusedVariables false
set_option linter.unusedSectionVars false
namespace Go.Sy

/-! Few pairs there are. -/
theorem nodup_lt : ∀ (N : Nat) (l : List Nat), l.Nodup → (∀ x ∈ l, x < N) → l.length ≤ N
  | 0, l, _, h => by
    cases l with
    | nil => simp
    | cons a l => exact absurd (h a List.mem_cons_self) (by omega)
  | N + 1, l, hn, h => by
    have h1 := nodup_lt N (l.erase N) (hn.erase N) (fun x hx => by
      have := (hn.mem_erase_iff).1 hx
      have := h x this.2
      omega)
    rw [List.length_erase] at h1
    split at h1 <;> omega

def inR (n : Nat) (p : Int × Int) : Prop := 0 ≤ p.1 ∧ p.1 < n ∧ 0 ≤ p.2 ∧ p.2 < n
theorem inR_le {n : Nat} {l : List (Int × Int)} (hn : l.Nodup) (h : ∀ p ∈ l, inR n p) : l.length ≤ n * n := by
  have h1 : (l.map fun p => p.1.toNat * n + p.2.toNat).Nodup := by
    rw [List.nodup_iff_pairwise_ne, List.pairwise_map]
    refine List.Pairwise.imp_of_mem ?_ hn
    intro a b ha hb hne e
    apply hne
    obtain ⟨a1, a2, a3, a4⟩ := h a ha
    obtain ⟨b1, b2, b3, b4⟩ := h b hb
    have ha2 : a.2.toNat < n := by omega
    have hb2 : b.2.toNat < n := by omega
    have e2 : a.2.toNat = b.2.toNat := by
      have := congrArg (· % n) e
      simpa [Nat.mul_add_mod_of_lt, Nat.add_comm, Nat.mul_comm, Nat.mod_eq_of_lt, ha2, hb2] using this
    have e1 : a.1.toNat = b.1.toNat := by
      rw [e2] at e
      exact Nat.eq_of_mul_eq_mul_right (by omega) (Nat.add_right_cancel e)
    exact Prod.ext (by omega) (by omega)
  have h2 := nodup_lt (n * n) _ h1 (fun x hx => by
    obtain ⟨p, hp, rfl⟩ := List.mem_map.1 hx
    obtain ⟨a1, a2, a3, a4⟩ := h p hp
    have h3 : p.1.toNat + 1 ≤ n := by omega
    have := Nat.mul_le_mul_right n h3
    rw [Nat.add_mul] at this
    omega)
  simpa using h2

theorem addS_nodup {l : List (Int × Int)} {p : Int × Int} (h : l.Nodup) : (addS l p).Nodup := by
  unfold addS
  split
  · exact h
  · rename_i hp
    rw [List.nodup_append]
    exact ⟨h, by simp, fun a ha b hb e => by simp at hb; subst hb; subst e; exact hp ha⟩
theorem addS_mem {l : List (Int × Int)} {p q : Int × Int} : q ∈ addS l p ↔ q ∈ l ∨ q = p := by
  unfold addS
  split
  · rename_i hp
    constructor
    · exact .inl
    · rintro (h | rfl)
      · exact h
      · exact hp
  · simp
def addAll (l m : List (Int × Int)) : List (Int × Int) := m.foldl addS l
theorem addAll_nodup : ∀ {m l : List (Int × Int)}, l.Nodup → (addAll l m).Nodup
  | [], _, h => h
  | p :: m, l, h => addAll_nodup (m := m) (addS_nodup h)
theorem addAll_mem {q : Int × Int} : ∀ {m l : List (Int × Int)}, q ∈ addAll l m ↔ q ∈ l ∨ q ∈ m
  | [], l => by simp [addAll]
  | p :: m, l => by
    have := addAll_mem (q := q) (m := m) (l := addS l p)
    show q ∈ addAll (addS l p) m ↔ _
    rw [this, addS_mem]
    simp [or_assoc]
theorem addS_pre (l : List (Int × Int)) (p : Int × Int) : ∃ r, addS l p = l ++ r := by
  unfold addS
  split
  · exact ⟨[], by simp⟩
  · exact ⟨[p], rfl⟩
theorem addAll_pre : ∀ (m l : List (Int × Int)), ∃ r, addAll l m = l ++ r
  | [], l => ⟨[], by simp [addAll]⟩
  | p :: m, l => by
    obtain ⟨r, hr⟩ := addS_pre l p
    obtain ⟨r', hr'⟩ := addAll_pre m (addS l p)
    exact ⟨r ++ r', by show addAll (addS l p) m = _; rw [hr', hr, List.append_assoc]⟩

/-! The nodes of a valid book. -/
def ndAt (b : Bk) (x : Int) : Nd := (b.nodes[x.toNat]?).getD ⟨0, ⟨#[]⟩, []⟩
def asksAt (b : Bk) (p : Int × Int) : Option (List (Int × Int)) := asksS (ndAt b p.1) (ndAt b p.2)
def runP (b : Bk) : Nat → Nat → List (Int × Int) → Option (List (Int × Int))
  | 0, _, _ => none
  | f + 1, i, out => match out[i]? with
    | none => some out
    | some p => match asksAt b p with
      | none => none
      | some l => runP b f (i + 1) (addAll out l)
def pairsS (b : Bk) (x y : Int) : Option (List (Int × Int)) :=
  if bookB b && placesB b.nodes.length x y then runP b (b.nodes.length * b.nodes.length + 1) 0 [(x, y)] else none
end Go.Sy
