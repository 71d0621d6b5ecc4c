/- Contracts: strconv.Itoa at small numbers; project.key; keys of different sets differ. -/
import Derived.Test.YtndmpmhekbdpdaaGreatDoorQa
import Derived.Test.YtndmpmhekbdpdaaGreatDoorBu1
import Derived.Test.YtndmpmhekbdpdaaGreatDoorLayp
import Derived.Test.YtndmpmhekbdpdaaGreatDoorMj1
import Derived.Test.YtndmpmhekbdpdaaGreatDoorBw2
import Derived.Test.YtndmpmhekbdpdaaGreatDoorMj4
import Derived.Test.YtndmpmhekbdpdaaGreatDoorSymZp
set_option linter.unusedSimpArgs false
set_option linter.unusedVariables false
set_option linter.unusedSectionVars false
namespace Go.Sy
open Go.Proofs
set_option maxRecDepth 100000
attribute [local irreducible] SOps Goes DOps EOps
theorem itoaJ_c (k : Nat) (hk : k < 100) : Con Tryz.prog 163 [] [C1 (.int .i64 (k : Int))] (Rv (.str ⟨(digs k).toArray⟩)) [] := by
  refine ⟨callOK (c := _) Tryz.func163 rfl rfl, fun w M0 H Z vs hpre hargs => ?_⟩
  obtain ⟨v, rfl⟩ : ∃ v, vs = [v] := by
    match vs, hargs.1 with
    | [v], _ => exact ⟨v, rfl⟩
  obtain ⟨u, hu, hr⟩ := hargs.2 0 _ rfl
  simp only [List.getElem?_cons_zero, Option.some.injEq] at hu
  subst hu
  have hv : v = .int .i64 (k : Int) := RepC.int_inv hr
  subst hv
  refine Calls.mono (Any.strconv_Itoa_small { Tryz.laysItoa with } k hk w) ?_
  rintro e w' ⟨rfl, rfl⟩
  refine ⟨_, rfl, Ext.refl _ _, fun p hp => by simp [preMM] at hp, ?_⟩
  rw [digs_eq hk]
  exact RepC.str _
abbrev itJ (m : Int) : ByteArray := ⟨(digs m.toNat).toArray⟩
theorem itoaJ_i (m : Int) (h0 : 0 ≤ m) (h1 : m < 100) : Con Tryz.prog 163 [] [C1 (.int .i64 m)] (Rv (.str (itJ m))) [] := by
  have := itoaJ_c m.toNat (by omega)
  rw [show ((m.toNat : Nat) : Int) = m by omega] at this
  exact this
def SmallL (l : List Int) : Prop := ∀ a ∈ l, 0 ≤ a ∧ a < 100
end Go.Sy

/- Contracts: project's in, side, labels. -/
set_option linter.unusedSimpArgs false
set_option linter.unusedVariables false
set_option linter.unusedSectionVars false
namespace Go.Sy
open Go.Proofs
set_option maxRecDepth 100000
attribute [local irreducible] SOps Goes DOps EOps FOps GOps
section
variable {C : Ctx} {n : Nat} {tm tm0 : TM} {mm : MM} {L l : List Oper} {T : TM → Prop} {o : Oper} {d : Nat} {p q : Operand} {ty : TypeId}
end
section
variable {C : Ctx} {n : Nat} {tm tm0 : TM} {mm : MM} {L l : List Oper} {T : TM → Prop} {o : Oper} {d : Nat} {x : Operand}
end
variable {p : Prt} {role : ByteArray} {S : List (List Int)} {set : List Int}
theorem near_small (hv : prtB p = true) (role : ByteArray) (l : List Int) : SmallL (nearL p role l) ∧ (nearL p role l).length ≤ 24 ∧ ∀ x ∈ nearL p role l, 0 ≤ x ∧ x < (p.points.length : Int) := by
  have hpl := prt_len hv
  have hr : ∀ x ∈ nearL p role l, 0 ≤ x ∧ x < (p.points.length : Int) := fun x hx => by
    have h1 := (List.mem_filter.1 hx).1
    obtain ⟨k, hk, rfl⟩ := List.mem_map.1 h1
    have := List.mem_range.1 hk
    exact ⟨Int.natCast_nonneg _, by show ((k : Nat) : Int) < _; omega⟩
  refine ⟨fun x hx => by have := hr x hx; omega, ?_, hr⟩
  have := List.length_filter_le (fun x => decide (x ∈ waitL p role l) && inP (pntAt p x) role) ((List.range p.points.length).map Int.ofNat)
  rw [List.length_map, List.length_range] at this
  show (List.filter _ _).length ≤ 24
  omega
structure SeerOK (p : Prt) (S : List (List Int)) : Prop where
  sets : SetsOK S
  small : ∀ m ∈ S, SmallL m
theorem SeerOK.look (h : SeerOK p S) (hv : prtB p = true) (role : ByteArray) (set : List Int) : SeerOK p (lookS p role S set).2 := by
  refine ⟨look_ok h.sets set, fun m hm => ?_⟩
  rcases look_cases (p := p) (role := role) S set with ⟨_, e⟩ | ⟨_, _, e⟩ | ⟨_, _, _, e⟩ | ⟨_, _, _, e⟩
  · rw [e] at hm; exact h.small m hm
  · rw [e] at hm; exact h.small m hm
  · rw [e] at hm; exact h.small m hm
  · rw [e] at hm
    rcases List.mem_append.1 hm with hm | hm
    · exact h.small m hm
    · rw [List.mem_singleton] at hm; subst hm; exact (near_small hv role set).1
end Go.Sy
