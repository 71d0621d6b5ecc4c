/- Contracts: turns.rising. -/
import Derived.Test.YtadimhaolhpglaaUe
import Derived.Test.YtadimhaolhpglaaNd
set_option linter.unusedSimpArgs false
set_option linter.unusedVariables false
set_option linter.unusedSectionVars false
namespace Go.Sy
open Go.Proofs
set_option maxRecDepth 100000
attribute [local irreducible] SOps Goes DOps EOps FOps

theorem risingO_c (l : List Arm) (hd : (l.map Arm.label).Nodup) (hl : l.length ≤ 1000) :
    ConO Try.prog 52 [C1 (armsC l)] (fun _ : Value => True) (fun v => .v (C1 (.val v))) (fun v => [(41, 4, [(v, (risA l).map Arm.cs)])]) := by
  refine conO_of (c := _) Try.func52 rfl rfl rfl (by decide) fun w M0 H => ?_
  repeat' (first
   | refine gc_ rfl ?_
   | (refine g_region ?_; refine run_ th rfl ?_)
   | (refine g_drawC mix rfl rfl ?_; refine drun_ th rfl ?_)
   | (refine g_drawEC mix rfl rfl ?_; refine erun_ th rfl ?_)
   | refine SOps.nil ?_
   | refine DOps.nil ?_
   | refine EOps.nil ?_ rfl rfl
   | (refine s_split rfl rfl (fun hb => ?_) (fun hb => ?_) <;> (try simp only [hbL] at hb) <;> first | (exfalso; omega) | refine run_ th rfl ?_)
   | (refine d_split rfl rfl rfl (fun hb => ?_) (fun hb => ?_) <;> (try simp only [hbL] at hb) <;> first | (exfalso; omega) | refine drun_ th rfl ?_)
   | (refine g_if rfl (fun hb => ?_) (fun hb => ?_) <;> (try simp only [hbL] at hb) <;> (try (exfalso; omega)))
   | (refine s_assignAny rfl rfl rfl rfl ?_; refine run_ th rfl ?_)
   | (refine s_callO (cloneArmO_c l (by omega)) [91] rfl rfl rfl rfl rfl rfl rfl rfl rfl (fun _ => rfl) (fun vA _ => ?_); refine run_ th rfl ?_)
   | (refine s_callM (sortF_c vA l hd (by omega)) [(1, 91)] rfl rfl rfl rfl ⟨rfl, trivial⟩ ⟨rfl, rfl, rfl, rfl, rfl⟩ (fun _ => ⟨rfl, rfl, rfl, rfl, rfl, rfl, rfl⟩) (fun _ => rfl) (fun _ => rfl) rfl rfl rfl (fun _ _ => ?_); refine run_ th rfl ?_))
  exact g_endO th Try.func52 [91] vA (.inr ⟨_, rfl⟩) rfl rfl rfl rfl rfl rfl trivial
theorem rising_c (l : List Arm) (hd : (l.map Arm.label).Nodup) (hl : l.length ≤ 1000) : Con Try.prog 52 [] [C1 (armsC l)] (Rv (armsC (risA l))) [] := by
  refine con_of (c := _) Try.func52 rfl rfl rfl (by decide) fun w M0 H Z => ?_
  repeat' (first
   | refine gc_ rfl ?_
   | (refine g_region ?_; refine run_ th rfl ?_)
   | (refine g_drawC mix rfl rfl ?_; refine drun_ th rfl ?_)
   | (refine g_drawEC mix rfl rfl ?_; refine erun_ th rfl ?_)
   | refine SOps.nil ?_
   | refine DOps.nil ?_
   | refine EOps.nil ?_ rfl rfl
   | (refine s_split rfl rfl (fun hb => ?_) (fun hb => ?_) <;> (try simp only [hbL] at hb) <;> first | (exfalso; omega) | refine run_ th rfl ?_)
   | (refine d_split rfl rfl rfl (fun hb => ?_) (fun hb => ?_) <;> (try simp only [hbL] at hb) <;> first | (exfalso; omega) | refine drun_ th rfl ?_)
   | (refine g_if rfl (fun hb => ?_) (fun hb => ?_) <;> (try simp only [hbL] at hb) <;> (try (exfalso; omega)))
   | (refine s_assignAny rfl rfl rfl rfl ?_; refine run_ th rfl ?_)
   | (refine s_callO (cloneArmO_c l (by omega)) [91] rfl rfl rfl rfl rfl rfl rfl rfl rfl (fun _ => rfl) (fun vA _ => ?_); refine run_ th rfl ?_)
   | (refine s_callM (sortF_c vA l hd (by omega)) [(1, 91)] rfl rfl rfl rfl ⟨rfl, trivial⟩ ⟨rfl, rfl, rfl, rfl, rfl⟩ (fun _ => ⟨rfl, rfl, rfl, rfl, rfl, rfl, rfl⟩) (fun _ => rfl) (fun _ => rfl) rfl rfl rfl (fun _ _ => ?_); refine run_ th rfl ?_))
  refine g_freezeT 91 2 rfl rfl rfl rfl rfl ?_
  refine g_endL th Try.func52 (.inr ⟨_, rfl⟩) rfl rfl rfl ?_ rfl
  exact .refl _
end Go.Sy
