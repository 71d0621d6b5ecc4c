/- Contracts: reparteemake.New. -/
import Derived.Test.YtadimhaolhpglaaFl
set_option linter.unusedSimpArgs false
set_option linter.unusedVariables false
set_option linter.unusedSectionVars false
namespace Go.Sy
open Go.Proofs
set_option maxRecDepth 100000
attribute [local irreducible] SOps Goes DOps EOps

theorem new_c (l : List Int) (hb : l.length * 8 ≤ 140737488355328) : ConN Try.prog 22 [C1 (intsT l)] [intsT l, .int .i64 0] := by
  refine conN_of (c := _) Try.func22 rfl rfl rfl (by decide) fun w M0 H => ?_
  repeat' (first
   | refine gc_ rfl ?_
   | (refine g_region ?_; refine run_ th rfl ?_)
   | (refine g_drawC mix rfl rfl ?_; refine drun_ th rfl ?_)
   | (refine g_drawEC mix rfl rfl ?_; refine erun_ th rfl ?_)
   | refine SOps.nil ?_
   | refine DOps.nil ?_
   | refine EOps.nil ?_ rfl rfl
   | (refine s_split rfl rfl (fun hb => ?_) (fun hb => ?_) <;> (try simp only [hbL] at hb) <;> first | (exfalso; omega) | refine run_ th rfl ?_)
   | (refine d_split rfl rfl rfl (fun hb => ?_) (fun hb => ?_) <;> (try simp only [hbL] at hb) <;> first | (exfalso; omega) | refine drun_ th rfl ?_)
   | (refine g_if rfl (fun hb => ?_) (fun hb => ?_) <;> (try simp only [hbL] at hb) <;> (try (exfalso; omega)))
   | (refine s_assignAny rfl rfl rfl rfl ?_; refine run_ th rfl ?_)
   | (refine s_appendN th 4 rfl rfl rfl rfl rfl rfl rfl rfl rfl rfl rfl rfl rfl rfl (by constructor <;> simp <;> omega) ?_; refine run_ th rfl ?_)
   | (refine g_freeze 4 rfl rfl ?_)
   | exact g_endN th Try.func22 (.inr ⟨_, rfl⟩) rfl rfl rfl rfl rfl)

end Go.Sy
