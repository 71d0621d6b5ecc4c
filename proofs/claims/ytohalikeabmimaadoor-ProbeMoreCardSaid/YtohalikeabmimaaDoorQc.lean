/- Contracts: strconv.Itoa at small numbers. -/
import Derived.Test.YtohalikeabmimaaDoorBq1
import Derived.Test.YtohalikeabmimaaDoorLayp
set_option linter.unusedSimpArgs false
set_option linter.unusedVariables false
set_option linter.unusedSectionVars false
namespace Go.Sy
open Go.Proofs

theorem itoa_c (k : Nat) (hk : k < 100) : Con Tryd.prog 53 [] [C1 (.int .i64 (k : Int))] (Rv (.str ⟨(digs k).toArray⟩)) [] := by
  refine ⟨callOK (c := _) Tryd.func53 rfl rfl, fun w M0 H Z vs hpre hargs => ?_⟩
  obtain ⟨v, rfl⟩ : ∃ v, vs = [v] := by
    match vs, hargs.1 with
    | [v], _ => exact ⟨v, rfl⟩
  obtain ⟨u, hu, hr⟩ := hargs.2 0 _ rfl
  simp only [List.getElem?_cons_zero, Option.some.injEq] at hu
  subst hu
  have hv : v = .int .i64 (k : Int) := RepC.int_inv hr
  subst hv
  refine Calls.mono (Any.strconv_Itoa_small { Tryd.laysItoa with } k hk w) ?_
  rintro e w' ⟨rfl, rfl⟩
  refine ⟨_, rfl, Ext.refl _ _, fun p hp => by simp [preMM] at hp, ?_⟩
  rw [digs_eq hk]
  exact RepC.str _
end Go.Sy
