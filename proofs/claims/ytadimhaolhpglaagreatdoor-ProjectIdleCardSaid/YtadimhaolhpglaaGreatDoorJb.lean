/- The plain law of projection: what a projection that does not fail is: its near sets, turn by turn. -/
import Derived.Test.YtadimhaolhpglaaGreatDoorJa
set_option linter.unusedSimpArgs false
set_option linter.unusedVariables false
set_option linter.unusedSectionVars false
namespace Go.Sy
variable {p : Prt} {role : ByteArray}

/-- A turn of a near set, among the near sets of all turns. -/
structure ActOf (p : Prt) (role : ByteArray) (S : List (List Int)) (near : List Int) (t : Trn) : Prop where
  kind : t.kind = 1 ∨ t.kind = 2
  side : ∀ x ∈ near, sideAt p role x = (decide (t.kind = 1), t.peer)
  says : t.kind = 1 → ∀ x ∈ near, labsL (pntAt p x) = allL p near
  len : (allL p near).length ≤ 6
  labs : t.arms.map Arm.label = allL p near
  once : clashB (armsN p near) = false
  arm : ∀ a ∈ t.arms, (a.kind, a.name) = carA (armsN p near) a.label ∧ mixE p role (nextN (armsN p near) a.label) = false ∧
    0 ≤ a.next ∧ S[a.next.toNat]? = some (nearL p role (nextN (armsN p near) a.label))
def TurnOf (p : Prt) (role : ByteArray) (S : List (List Int)) (near : List Int) (t : Trn) : Prop := (near = [] ∧ t = noTrn) ∨ (near ≠ [] ∧ ActOf p role S near t)
theorem get_app {α : Type} {l r : List α} {k : Nat} {x : α} (h : l[k]? = some x) : (l ++ r)[k]? = some x := by
  rw [List.getElem?_append_left (List.getElem?_eq_some_iff.1 h).1]; exact h
theorem ActOf.grow {S : List (List Int)} {near : List Int} {t : Trn} (h : ActOf p role S near t) (r : List (List Int)) : ActOf p role (S ++ r) near t :=
  ⟨h.kind, h.side, h.says, h.len, h.labs, h.once, fun a ha => let ⟨h1, h2, h3, h4⟩ := h.arm a ha; ⟨h1, h2, h3, get_app h4⟩⟩
theorem TurnOf.grow {S : List (List Int)} {near : List Int} {t : Trn} (h : TurnOf p role S near t) (r : List (List Int)) : TurnOf p role (S ++ r) near t := by
  rcases h with h | ⟨h1, h2⟩
  · exact .inl h
  · exact .inr ⟨h1, h2.grow r⟩

/-- The numbers below n. -/
def rng (n : Nat) : List Int := (List.range n).map Int.ofNat
theorem rng_mem {n : Nat} {x : Int} : x ∈ rng n ↔ 0 ≤ x ∧ x < (n : Int) := by
  unfold rng
  simp only [List.mem_map, List.mem_range]
  constructor
  · rintro ⟨k, hk, rfl⟩; exact ⟨Int.natCast_nonneg _, by show (k : Int) < n; omega⟩
  · intro h; exact ⟨x.toNat, by omega, by show ((x.toNat : Nat) : Int) = x; omega⟩
/-- The turns so far: one for each near set, places as they are first met. -/
structure Half (p : Prt) (role : ByteArray) (S : List (List Int)) (out : List Trn) : Prop where
  sets : SetsOK S
  le : out.length ≤ S.length
  turn : ∀ (i : Nat) (near : List Int) (t : Trn), S[i]? = some near → out[i]? = some t → TurnOf p role S near t
  met : out.foldl (fun row t => bfsIn row t.arms) [0] = rng S.length
/-- A projection that does not fail, with its near sets. -/
structure Proj (p : Prt) (role : ByteArray) (S : List (List Int)) (l : Loc) : Prop where
  may : prtB p = true
  has : hasB p.roles role = true
  name : l.name = dotN p.name role
  nodup : S.Nodup
  len : S.length ≤ 40
  turns : l.turns.length = S.length
  zero : S[0]? = some (nearL p role [0])
  one : mixE p role [0] = false
  turn : ∀ (i : Nat) (near : List Int) (t : Trn), S[i]? = some near → l.turns[i]? = some t → TurnOf p role S near t
  met : l.turns.foldl (fun row t => bfsIn row t.arms) [0] = rng S.length
theorem roleE_form (h : ¬ (prtB p && hasB p.roles role) = true) : roleE p role = (noLoc, 800) := by unfold roleE; rw [if_neg h]
end Go.Sy
