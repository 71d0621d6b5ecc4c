/- Layer: maps from texts to rows of one's own (the headers lie in the map, the rows in a pool). The plain law of what project's turned gathers. -/
import Derived.Test.YtndmpmhekbdpdaaGreatDoorMj2
import Derived.Test.YtndmpmhekbdpdaaGreatDoorBn1
import Derived.Laws.StructEq
import Derived.Test.YtndmpmhekbdpdaaGreatDoorMj1
set_option linter.unusedSimpArgs false
set_option linter.unusedVariables false
set_option linter.unusedSectionVars false
namespace Go.Sy
open Go.Proofs
set_option maxRecDepth 100000
abbrev RowM := List (ByteArray × Value × List Int)
def nxtX (x : RowM) (s : ByteArray) : List Int := ((x.find? fun q => decide (s = q.1)).map fun q => q.2.2).getD []
def updR (x : RowM) (s : ByteArray) (v : Value) (n : Int) : RowM :=
  match x with
  | [] => [(s, v, [n])]
  | q :: x => if s = q.1 then (s, v, q.2.2 ++ [n]) :: x else q :: updR x s v n
theorem nxt_upd : ∀ (x : RowM) (s : ByteArray) (v : Value) (n : Int) (s' : ByteArray), nxtX (updR x s v n) s' = if s' = s then nxtX x s ++ [n] else nxtX x s'
  | [], s, v, n, s' => by
    unfold updR nxtX
    by_cases h : s' = s <;> simp [h]
  | q :: x, s, v, n, s' => by
    have ih := nxt_upd x s v n s'
    unfold nxtX at ih
    unfold updR nxtX
    by_cases h : s = q.1
    · rw [if_pos h]
      by_cases h' : s' = s
      · subst h'; simp [h]
      · have h2 : ¬ s' = q.1 := fun e => h' (e.trans h.symm)
        simp [h', h2]
    · rw [if_neg h]
      by_cases h' : s' = q.1
      · have h2 : ¬ s' = s := fun e => h (e.symm.trans h')
        rw [if_neg h2]
        simp [h']
      · rw [List.find?_cons_of_neg (by simpa using h'), ih]
        by_cases h2 : s' = s
        · rw [if_pos h2, if_pos h2, List.find?_cons_of_neg (by simpa using h)]
        · rw [if_neg h2, if_neg h2, List.find?_cons_of_neg (by simpa using h')]
section
variable {C : Ctx} {n : Nat} {tm : TM} {mm : MM} {o : Oper} {d : Nat}
end
section
variable {C : Ctx} {n : Nat} {tm tm0 : TM} {mmf : Nat → MM} {L l : List Oper} {TF : TM → Prop} {o : Oper} {d i : Nat} {p q : Operand} {E : List Nat}
end
section
variable {C : Ctx} {n : Nat} {L : List Oper} {ι : Type} {tmF : TM} {ET : Nat → ι → TM} {MMx : Nat → ι → MM} {k : Nat} {x : ι} {o : Oper} {p q r : Operand}
end
section
variable {C : Ctx} {n : Nat} {tm : TM} {mm : MM} {f : FuncId} {R : Ending → World → Prop} {k : List Item}
end
section
variable {C : Ctx} {n : Nat} {tm : TM} {mm : MM} {f : FuncId} {R : Ending → World → Prop} {k : List Item}
end
section
variable {C : Ctx} {n : Nat} {tm : TM} {mm : MM} {o : Oper} {d : Nat}
end
section
variable {C : Ctx} {n : Nat} {tm : TM} {mm : MM} {L l : List Oper} {T : TM → MM → Prop} {o : Oper} {d : Nat} {x y : Operand}
end
theorem next_snoc (pre : List Arm) (a : Arm) (s : ByteArray) : nextN (pre ++ [a]) s = if s = a.label then nextN pre s ++ [a.next] else nextN pre s := by
  unfold nextN
  rw [List.filter_append, List.map_append]
  by_cases h : s = a.label
  · rw [if_pos h]; simp [h]
  · rw [if_neg h]
    have : ¬ a.label = s := fun e => h e.symm
    simp [this]
theorem carO_snoc (pre : List Arm) (a : Arm) (s : ByteArray) : carO (pre ++ [a]) s = (carO pre s).or (if a.label = s then some (a.kind, a.name) else none) := by
  unfold carO
  rw [List.find?_append]
  cases pre.find? fun a => decide (a.label = s) with
  | some b => rfl
  | none =>
    by_cases h : a.label = s <;> simp [h]
theorem carO_some {pre : List Arm} {b : Arm} (h : b ∈ pre) : (carO pre b.label).isSome = true := by
  unfold carO
  rw [Option.isSome_map, List.find?_isSome]
  exact ⟨b, h, by simp⟩
theorem clash_snoc {pre : List Arm} (h : clashB pre = false) (a : Arm) : clashB (pre ++ [a]) = decide (carO (pre ++ [a]) a.label ≠ some (a.kind, a.name)) := by
  unfold clashB at h ⊢
  rw [List.any_append]
  have h1 : pre.any (fun b => decide (carO (pre ++ [a]) b.label ≠ some (b.kind, b.name))) = false := by
    rw [List.any_eq_false] at h ⊢
    intro b hb
    have := h b hb
    obtain ⟨c, hc⟩ := Option.isSome_iff_exists.1 (carO_some hb)
    rw [carO_snoc, hc, Option.some_or]
    rw [hc] at this
    exact this
  rw [h1]; simp
theorem putK_cons (q : ByteArray × (Int × ByteArray)) (m : CarM) (a : ByteArray) (c : Int × ByteArray) : putK (q :: m) a c = if a = q.1 then (a, c) :: m else q :: putK m a c := by
  unfold putK
  rw [List.findIdx?_cons]
  by_cases h : a = q.1
  · simp [h]
  · simp only [h, decide_false, if_false, Bool.false_eq_true]
    cases m.findIdx? fun q => decide (a = q.1) <;> simp
theorem lookK_put : ∀ (m : CarM) (a : ByteArray) (c : Int × ByteArray) (s : ByteArray), lookK (putK m a c) s = if s = a then some c else lookK m s
  | [], a, c, s => by by_cases h : s = a <;> simp [putK, lookK, h]
  | q :: m, a, c, s => by
    have ih := lookK_put m a c s
    rw [putK_cons]
    unfold lookK at ih ⊢
    by_cases h : a = q.1
    · rw [if_pos h]
      by_cases h' : s = a
      · simp [h']
      · have h2 : ¬ s = q.1 := fun e => h' (e.trans h.symm)
        simp [h', h2]
    · rw [if_neg h]
      by_cases h' : s = q.1
      · have h2 : ¬ s = a := fun e => h (e.symm.trans h')
        rw [if_neg h2]; simp [h']
      · rw [List.find?_cons_of_neg (by simpa using h'), ih]
        by_cases h2 : s = a
        · rw [if_pos h2, if_pos h2]
        · rw [if_neg h2, if_neg h2, List.find?_cons_of_neg (by simpa using h')]
structure Gath (pre : List Arm) (cm : CarM) (x : RowM) : Prop where
  ok : clashB pre = false
  car : ∀ s, lookK cm s = carO pre s
  nxt : ∀ s, nxtX x s = nextN pre s
theorem Gath.nil : Gath [] [] [] := ⟨rfl, fun _ => rfl, fun _ => rfl⟩
theorem Gath.step {pre : List Arm} {cm : CarM} {x : RowM} (h : Gath pre cm x) (a : Arm) (hok : lookK cm a.label = none ∨ lookK cm a.label = some (a.kind, a.name)) (v : Value) : Gath (pre ++ [a]) (putK cm a.label (a.kind, a.name)) (updR x a.label v a.next) := by
  have hc : carO (pre ++ [a]) a.label = some (a.kind, a.name) := by
    rw [carO_snoc, ← h.car]
    rcases hok with h1 | h1 <;> rw [h1] <;> simp
  refine ⟨by rw [clash_snoc h.ok, hc]; simp, fun s => ?_, fun s => ?_⟩
  · rw [lookK_put]
    by_cases hs : s = a.label
    · rw [if_pos hs, hs, hc]
    · rw [if_neg hs, h.car, carO_snoc, if_neg (fun e => hs e.symm), Option.or_none]
  · rw [nxt_upd, next_snoc, h.nxt, h.nxt]
    by_cases hs : s = a.label
    · rw [if_pos hs, if_pos hs, hs]
    · rw [if_neg hs, if_neg hs]
end Go.Sy

/- Contracts: project's turned. -/
set_option linter.unusedSimpArgs false
set_option linter.unusedVariables false
set_option linter.unusedSectionVars false
namespace Go.Sy
open Go.Proofs
set_option maxRecDepth 100000
attribute [local irreducible] SOps Goes DOps EOps FOps GOps
section
variable {p : Prt} {role : ByteArray} {S : List (List Int)} {near r : List Int} {x0 : Int}
end
def FromN (p : Prt) (role : ByteArray) (S : List (List Int)) : Prop := ∀ m ∈ S, ∃ l, m = nearL p role l
section
variable {p : Prt} {role : ByteArray} {S : List (List Int)}
theorem FromN.look (h : FromN p role S) (set : List Int) : FromN p role (lookS p role S set).2 := by
  intro m hm
  rcases look_cases (p := p) (role := role) S set with ⟨_, e⟩ | ⟨_, _, e⟩ | ⟨_, _, _, e⟩ | ⟨_, _, _, e⟩
  · rw [e] at hm; exact h m hm
  · rw [e] at hm; exact h m hm
  · rw [e] at hm; exact h m hm
  · rw [e] at hm
    rcases List.mem_append.1 hm with hm | hm
    · exact h m hm
    · exact ⟨set, List.mem_singleton.1 hm⟩
theorem FromN.arms {arr : List Arm} : ∀ (ls : List ByteArray) {out : List Arm} {S : List (List Int)}, FromN p role S → FromN p role (armsS p role arr ls out S).2
  | [], _, _, h => h
  | s :: ls, out, S, h => by
    rw [armsS]
    split
    · exact FromN.arms ls (h.look _)
    · exact h.look _
theorem FromN.turn (h : FromN p role S) (near : List Int) : FromN p role (turnS p role S near).2 := by
  unfold turnS
  cases near with
  | nil => exact h
  | cons x0 r =>
    simp only
    repeat' split
    all_goals first
      | exact h
      | exact FromN.arms _ h
end
section
open Go.RowKit
variable {C : Ctx} {n : Nat} {tm : TM} {mm : MM} {o : Oper} {d : Nat}
end
section
variable {C : Ctx} {n : Nat} {tm : TM} {mm : MM} {L l : List Oper} {T : TM → MM → Prop} {o : Oper} {d : Nat}
end
end Go.Sy
