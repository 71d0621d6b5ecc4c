/- Contracts of the reference, bundle Bw3. -/
import Derived.Test.YtdjocfajcbhmgaaDoorBw2
import Derived.Test.YtdjocfajcbhmgaaDoorBd1
import Derived.Test.YtdjocfajcbhmgaaDoorBn1
import Derived.Test.YtdjocfajcbhmgaaDoorBl2
import Derived.Test.YtdjocfajcbhmgaaDoorBl1
set_option linter.unusedSimpArgs false
set_option linter.unusedVariables false
set_option linter.unusedSectionVars false
namespace Go.Sy
open Go.Proofs
set_option maxRecDepth 100000
attribute [local irreducible] SOps Goes DOps EOps GOps
end Go.Sy

/- The plain law of projection (P8.1): what project.Role and project.All compute. -/
set_option linter.unusedSimpArgs false
set_option linter.unusedVariables false
set_option linter.unusedSectionVars false
namespace Go.Sy
def noLoc : Loc := ⟨⟨#[]⟩, []⟩
def lostL (p : Prt) (role : ByteArray) (x : Int) : Bool := decide ((nearL p role [x]).length = 0)
def mixE (p : Prt) (role : ByteArray) (set : List Int) : Bool := (waitL p role set).any (fun x => lostL p role x) && (waitL p role set).any (fun x => !lostL p role x)
def lookS (p : Prt) (role : ByteArray) (S : List (List Int)) (set : List Int) : (Int × Int) × List (List Int) :=
  if mixE p role set then ((0, 801), S)
  else if nearL p role set ∈ S then ((((S.idxOf (nearL p role set) : Nat) : Int), 0), S)
  else if S.length = 40 then ((0, 805), S)
  else (((S.length : Int), 0), S ++ [nearL p role set])
def labsL (x : Pnt) : List ByteArray := x.arms.foldl (fun out a => putN out a.label) []
def sideL (role : ByteArray) (x : Pnt) : Bool × ByteArray := if x.from_ = role then (true, x.to) else (false, x.from_)
def sideAt (p : Prt) (role : ByteArray) (x : Int) : Bool × ByteArray := sideL role (pntAt p x)
def allL (p : Prt) (near : List Int) : List ByteArray := near.foldl (fun all x => (labsL (pntAt p x)).foldl putN all) []
def armsN (p : Prt) (near : List Int) : List Arm := near.flatMap fun x => (pntAt p x).arms
def nextN (arr : List Arm) (s : ByteArray) : List Int := (arr.filter fun a => decide (a.label = s)).map Arm.next
def carO (arr : List Arm) (s : ByteArray) : Option (Int × ByteArray) := (arr.find? fun a => decide (a.label = s)).map fun a => (a.kind, a.name)
def carA (arr : List Arm) (s : ByteArray) : Int × ByteArray := (carO arr s).getD (0, ⟨#[]⟩)
def clashB (arr : List Arm) : Bool := arr.any fun a => decide (carO arr a.label ≠ some (a.kind, a.name))
def armsS (p : Prt) (role : ByteArray) (arr : List Arm) : List ByteArray → List Arm → List (List Int) → (List Arm × Int) × List (List Int)
  | [], out, S => ((out, 0), S)
  | s :: ls, out, S =>
    if (lookS p role S (nextN arr s)).1.2 = 0 then
      armsS p role arr ls (out ++ [⟨s, (carA arr s).1, (carA arr s).2, (lookS p role S (nextN arr s)).1.1⟩]) (lookS p role S (nextN arr s)).2
    else (([], (lookS p role S (nextN arr s)).1.2), (lookS p role S (nextN arr s)).2)
def kindOf (b : Bool) : Int := if b then 1 else 2
def turnS (p : Prt) (role : ByteArray) (S : List (List Int)) (near : List Int) : (Trn × Int) × List (List Int) :=
  match near with
  | [] => ((noTrn, 0), S)
  | x0 :: r =>
    if (x0 :: r).any (fun x => decide (sideAt p role x ≠ sideAt p role x0)) then ((noTrn, 802), S)
    else if (sideAt p role x0).1 && (x0 :: r).any (fun x => decide (labsL (pntAt p x) ≠ allL p (x0 :: r))) then ((noTrn, 803), S)
    else if 6 < (allL p (x0 :: r)).length then ((noTrn, 805), S)
    else if clashB (armsN p (x0 :: r)) then ((noTrn, 804), S)
    else if (armsS p role (armsN p (x0 :: r)) (allL p (x0 :: r)) [] S).1.2 = 0 then
      ((⟨kindOf (sideAt p role x0).1, (sideAt p role x0).2, (armsS p role (armsN p (x0 :: r)) (allL p (x0 :: r)) [] S).1.1⟩, 0), (armsS p role (armsN p (x0 :: r)) (allL p (x0 :: r)) [] S).2)
    else ((noTrn, (armsS p role (armsN p (x0 :: r)) (allL p (x0 :: r)) [] S).1.2), (armsS p role (armsN p (x0 :: r)) (allL p (x0 :: r)) [] S).2)
def roleS (p : Prt) (role : ByteArray) : Nat → Nat → List Trn → List (List Int) → List Trn × Int
  | 0, _, out, _ => (out, 0)
  | f + 1, i, out, S => match S[i]? with
    | none => (out, 0)
    | some near => if (turnS p role S near).1.2 = 0 then roleS p role f (i + 1) (out ++ [(turnS p role S near).1.1]) (turnS p role S near).2 else ([], (turnS p role S near).1.2)
abbrev dotB : ByteArray := ⟨#[46]⟩
def dotN (a b : ByteArray) : ByteArray := a ++ dotB ++ b
def roleE (p : Prt) (role : ByteArray) : Loc × Int :=
  if prtB p && hasB p.roles role then
    if (lookS p role [] [0]).1.2 = 0 then
      if (roleS p role 41 0 [] (lookS p role [] [0]).2).2 = 0 then (⟨dotN p.name role, (roleS p role 41 0 [] (lookS p role [] [0]).2).1⟩, 0)
      else (noLoc, (roleS p role 41 0 [] (lookS p role [] [0]).2).2)
    else (noLoc, (lookS p role [] [0]).1.2)
  else (noLoc, 800)
variable {p : Prt} {role : ByteArray}
theorem look_cases (S : List (List Int)) (set : List Int) :
    (mixE p role set = true ∧ lookS p role S set = ((0, 801), S)) ∨
    (mixE p role set = false ∧ nearL p role set ∈ S ∧ lookS p role S set = ((((S.idxOf (nearL p role set) : Nat) : Int), 0), S)) ∨
    (mixE p role set = false ∧ nearL p role set ∉ S ∧ S.length = 40 ∧ lookS p role S set = ((0, 805), S)) ∨
    (mixE p role set = false ∧ nearL p role set ∉ S ∧ S.length ≠ 40 ∧ lookS p role S set = (((S.length : Int), 0), S ++ [nearL p role set])) := by
  unfold lookS
  cases hm : mixE p role set with
  | true => exact .inl ⟨rfl, rfl⟩
  | false =>
    simp only [Bool.false_eq_true, if_false]
    by_cases h1 : nearL p role set ∈ S
    · rw [if_pos h1]; exact .inr (.inl ⟨by simp, h1, rfl⟩)
    · rw [if_neg h1]
      by_cases h2 : S.length = 40
      · rw [if_pos h2]; exact .inr (.inr (.inl ⟨by simp, h1, h2, rfl⟩))
      · rw [if_neg h2]; exact .inr (.inr (.inr ⟨by simp, h1, h2, rfl⟩))
structure SetsOK (S : List (List Int)) : Prop where
  nodup : S.Nodup
  len : S.length ≤ 40
theorem look_ok {S : List (List Int)} (h : SetsOK S) (set : List Int) : SetsOK (lookS p role S set).2 := by
  rcases look_cases (p := p) (role := role) S set with ⟨_, e⟩ | ⟨_, _, e⟩ | ⟨_, _, _, e⟩ | ⟨_, h1, h2, e⟩
  · rw [e]; exact h
  · rw [e]; exact h
  · rw [e]; exact h
  · rw [e]
    have := h.len
    exact ⟨by rw [List.nodup_append]; exact ⟨h.nodup, by simp, fun x hx y hy e => by simp at hy; subst hy; exact h1 (e ▸ hx)⟩, by simp; omega⟩
theorem look_grows (S : List (List Int)) (set : List Int) : ∃ r, (lookS p role S set).2 = S ++ r := by
  rcases look_cases (p := p) (role := role) S set with ⟨_, e⟩ | ⟨_, _, e⟩ | ⟨_, _, _, e⟩ | ⟨_, _, _, e⟩
  · exact ⟨[], by rw [e]; simp⟩
  · exact ⟨[], by rw [e]; simp⟩
  · exact ⟨[], by rw [e]; simp⟩
  · exact ⟨[_], by rw [e]⟩
theorem arms_ok {arr : List Arm} : ∀ (ls : List ByteArray) {out : List Arm} {S : List (List Int)}, SetsOK S → SetsOK (armsS p role arr ls out S).2
  | [], _, _, h => h
  | s :: ls, out, S, h => by
    rw [armsS]
    split
    · exact arms_ok ls (look_ok h _)
    · exact look_ok h _
theorem turn_ok {S : List (List Int)} (h : SetsOK S) (near : List Int) : SetsOK (turnS p role S near).2 := by
  unfold turnS
  cases near with
  | nil => exact h
  | cons x0 r =>
    simp only
    repeat' split
    all_goals first
      | exact h
      | exact arms_ok _ h
end Go.Sy
