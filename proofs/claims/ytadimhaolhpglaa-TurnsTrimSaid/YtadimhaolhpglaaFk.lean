/- Contracts: reparteemake.roles, labels. -/
import Derived.Test.YtadimhaolhpglaaFb
import Derived.Test.YtadimhaolhpglaaSy4
set_option linter.unusedSimpArgs false
set_option linter.unusedVariables false
set_option linter.unusedSectionVars false
namespace Go.Sy
open Go.Proofs
set_option maxRecDepth 100000
attribute [local irreducible] SOps Goes DOps EOps

def rolesL : List ByteArray := [⟨#[97]⟩, ⟨#[98]⟩, ⟨#[99]⟩, ⟨#[100]⟩, ⟨#[101]⟩]
def labelsL : List ByteArray := [⟨#[119]⟩, ⟨#[120]⟩, ⟨#[121]⟩, ⟨#[122]⟩]
theorem roles_c : Con Try.prog 50 [] [] (Rv (.slice true 1 (rolesL.map fun s => [CT.str s]))) [] := by
  refine con_of (c := _) Try.func50 rfl rfl rfl (by decide) fun w M0 H Z => ?_
  repeat' (first
   | refine gc_ rfl ?_
   | (refine g_region ?_; refine run_ th rfl ?_)
   | (refine g_drawC mix rfl rfl ?_; refine drun_ th rfl ?_)
   | (refine g_drawEC mix rfl rfl ?_; refine erun_ th rfl ?_)
   | refine SOps.nil ?_
   | refine DOps.nil ?_
   | refine EOps.nil ?_ rfl rfl
   | (refine s_split rfl rfl (fun hb => ?_) (fun hb => ?_) <;> (try simp only [hbL] at hb) <;> first | (exfalso; omega) | refine run_ th rfl ?_)
   | (refine d_split rfl rfl rfl (fun hb => ?_) (fun hb => ?_) <;> (try simp only [hbL] at hb) <;> first | (exfalso; omega) | refine drun_ th rfl ?_)
   | (refine g_if rfl (fun hb => ?_) (fun hb => ?_) <;> (try simp only [hbL] at hb) <;> (try (exfalso; omega)))
   | refine g_endL th Try.func50 (.inr ⟨_, rfl⟩) rfl rfl rfl ?_ rfl
   | (refine g_freeze 1 rfl rfl ?_))
  all_goals exact .refl _
theorem labels_c : Con Try.prog 78 [] [] (Rv (.slice true 1 (labelsL.map fun s => [CT.str s]))) [] := by
  refine con_of (c := _) Try.func78 rfl rfl rfl (by decide) fun w M0 H Z => ?_
  repeat' (first
   | refine gc_ rfl ?_
   | (refine g_region ?_; refine run_ th rfl ?_)
   | (refine g_drawC mix rfl rfl ?_; refine drun_ th rfl ?_)
   | (refine g_drawEC mix rfl rfl ?_; refine erun_ th rfl ?_)
   | refine SOps.nil ?_
   | refine DOps.nil ?_
   | refine EOps.nil ?_ rfl rfl
   | (refine s_split rfl rfl (fun hb => ?_) (fun hb => ?_) <;> (try simp only [hbL] at hb) <;> first | (exfalso; omega) | refine run_ th rfl ?_)
   | (refine d_split rfl rfl rfl (fun hb => ?_) (fun hb => ?_) <;> (try simp only [hbL] at hb) <;> first | (exfalso; omega) | refine drun_ th rfl ?_)
   | (refine g_if rfl (fun hb => ?_) (fun hb => ?_) <;> (try simp only [hbL] at hb) <;> (try (exfalso; omega)))
   | refine g_endL th Try.func78 (.inr ⟨_, rfl⟩) rfl rfl rfl ?_ rfl
   | (refine g_freeze 1 rfl rfl ?_))
  all_goals exact .refl _
end Go.Sy
