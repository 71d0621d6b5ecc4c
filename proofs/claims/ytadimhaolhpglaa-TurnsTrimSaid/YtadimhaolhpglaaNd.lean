/- Contracts: slices.Clone as a row of one's own: texts, arms. -/
import Derived.Test.YtadimhaolhpglaaLa
import Derived.Test.YtadimhaolhpglaaSy8
set_option linter.unusedSimpArgs false
set_option linter.unusedVariables false
set_option linter.unusedSectionVars false
namespace Go.Sy
open Go.Proofs
set_option maxRecDepth 100000
attribute [local irreducible] SOps Goes DOps EOps FOps

abbrev rowS (l : List ByteArray) : List (List CT) := l.map fun r => [CT.str r]
abbrev rowA (l : List Arm) : List (List CT) := l.map Arm.cs
theorem cloneStrO_c (l : List ByteArray) (hbig : l.length * 16 ≤ 140737488355328) : ConO Try.prog 70 [C1 (namesT l)] (fun _ : Value => True) (fun v => .v (C1 (.val v))) (fun v => [(9, 1, [(v, rowS l)])]) := by
  refine conO_of (c := _) Try.func70 rfl rfl rfl (by decide) fun w M0 H => ?_
  repeat' (first
   | refine gc_ rfl ?_
   | (refine g_region ?_; refine run_ th rfl ?_)
   | (refine g_drawC mix rfl rfl ?_; refine drun_ th rfl ?_)
   | (refine g_drawEC mix rfl rfl ?_; refine erun_ th rfl ?_)
   | refine SOps.nil ?_
   | refine DOps.nil ?_
   | refine EOps.nil ?_ rfl rfl
   | (refine s_split rfl rfl (fun hb => ?_) (fun hb => ?_) <;> (try simp only [hbL] at hb) <;> first | (exfalso; omega) | refine run_ th rfl ?_)
   | (refine d_split rfl rfl rfl (fun hb => ?_) (fun hb => ?_) <;> (try simp only [hbL] at hb) <;> first | (exfalso; omega) | refine drun_ th rfl ?_)
   | (refine g_if rfl (fun hb => ?_) (fun hb => ?_) <;> (try simp only [hbL] at hb) <;> (try (exfalso; omega)))
   | (refine s_assignAny rfl rfl rfl rfl ?_; refine run_ th rfl ?_)
   | (refine s_isNil th rfl rfl rfl rfl rfl rfl rfl (fun b hnil => ?_); refine run_ th rfl ?_)
   | (refine s_appendF th rfl rfl rfl rfl rfl rfl rfl rfl rfl rfl rfl rfl rfl rfl (by constructor <;> simp <;> omega) ?_; refine run_ th rfl ?_))
  · have hl : l = [] := by simpa using hnil hb
    subst hl
    refine g_newPool 5 9 1 rfl rfl ?_
    refine g_nilPool 5 rfl rfl rfl rfl ?_
    refine g_nilT 2 rfl ?_
    exact g_endO th Try.func70 [5] (.slice none 0 0) (.inr ⟨_, rfl⟩) rfl rfl rfl rfl rfl rfl trivial
  · refine g_toPool 5 rfl rfl fun v => ?_
    exact g_endO th Try.func70 [5] v (.inr ⟨_, rfl⟩) rfl rfl rfl rfl rfl rfl trivial
theorem cloneArmO_c (l : List Arm) (hbig : l.length * 48 ≤ 140737488355328) : ConO Try.prog 80 [C1 (armsC l)] (fun _ : Value => True) (fun v => .v (C1 (.val v))) (fun v => [(41, 4, [(v, rowA l)])]) := by
  refine conO_of (c := _) Try.func80 rfl rfl rfl (by decide) fun w M0 H => ?_
  repeat' (first
   | refine gc_ rfl ?_
   | (refine g_region ?_; refine run_ th rfl ?_)
   | (refine g_drawC mix rfl rfl ?_; refine drun_ th rfl ?_)
   | (refine g_drawEC mix rfl rfl ?_; refine erun_ th rfl ?_)
   | refine SOps.nil ?_
   | refine DOps.nil ?_
   | refine EOps.nil ?_ rfl rfl
   | (refine s_split rfl rfl (fun hb => ?_) (fun hb => ?_) <;> (try simp only [hbL] at hb) <;> first | (exfalso; omega) | refine run_ th rfl ?_)
   | (refine d_split rfl rfl rfl (fun hb => ?_) (fun hb => ?_) <;> (try simp only [hbL] at hb) <;> first | (exfalso; omega) | refine drun_ th rfl ?_)
   | (refine g_if rfl (fun hb => ?_) (fun hb => ?_) <;> (try simp only [hbL] at hb) <;> (try (exfalso; omega)))
   | (refine s_assignAny rfl rfl rfl rfl ?_; refine run_ th rfl ?_)
   | (refine s_isNil th rfl rfl rfl rfl rfl rfl rfl (fun b hnil => ?_); refine run_ th rfl ?_)
   | (refine s_appendF th rfl rfl rfl rfl rfl rfl rfl rfl rfl rfl rfl rfl rfl rfl (by constructor <;> simp <;> omega) ?_; refine run_ th rfl ?_))
  · have hl : l = [] := by simpa using hnil hb
    subst hl
    refine g_newPool 5 41 4 rfl rfl ?_
    refine g_nilPool 5 rfl rfl rfl rfl ?_
    refine g_nilT 2 rfl ?_
    exact g_endO th Try.func80 [5] (.slice none 0 0) (.inr ⟨_, rfl⟩) rfl rfl rfl rfl rfl rfl trivial
  · refine g_toPool 5 rfl rfl fun v => ?_
    exact g_endO th Try.func80 [5] v (.inr ⟨_, rfl⟩) rfl rfl rfl rfl rfl rfl trivial
end Go.Sy
