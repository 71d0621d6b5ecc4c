/- Contracts: UnderRow. -/
import Derived.Test.YthjpcefjgmklfaaFp
namespace Go.Sy
set_option linter.unusedSimpArgs false
set_option linter.unusedVariables false
set_option linter.unusedSectionVars false
open Go.Proofs
set_option maxRecDepth 100000
attribute [local irreducible] SOps Goes DOps EOps

set_option maxHeartbeats 8000000 in
theorem underRow_c (l : List Int) (x y z : Int) (hbig : (l.length + 1) * 8 ≤ 140737488355328) :
    Con Try.prog 3 [] [C1 (intsT l), C1 (.int .i64 x), C1 (.int .i64 y), C1 (.int .i64 z)] (Rv (.bool true)) [] := by
  refine con_of (c := _) Try.func3 rfl rfl rfl (by decide) fun w M0 H Z => ?_
  repeat' (first
    | refine g_seq ?_
    | (refine g_region ?_; refine run_ th rfl ?_)
    | (refine g_drawC mix rfl rfl ?_; refine drun_ th rfl ?_)
    | (refine g_drawEC mix rfl rfl ?_; refine erun_ th rfl ?_)
    | refine SOps.nil ?_
    | refine DOps.nil ?_
    | refine EOps.nil ?_ rfl rfl
    | refine g_block ?_
    | refine g_inBlock ?_
    | refine g_skip ?_
    | refine g_exit rfl ?_
    | refine g_if_true rfl ?_
    | refine g_if_false rfl ?_
    | (refine s_split rfl rfl (fun hb => ?_) (fun hb => ?_) <;> (try simp only [decide_eq_true_eq, decide_eq_false_iff_not, Bool.not_eq_true', Bool.not_eq_false', Bool.not_eq_true, Bool.not_eq_false, Bool.not_true, Bool.not_false, Bool.false_eq_true, Bool.true_eq_false, reduceCtorEq, List.length_map] at hb) <;> first | (exfalso; omega) | refine run_ th rfl ?_)
    | (refine d_split rfl rfl rfl (fun hb => ?_) (fun hb => ?_) <;> (try simp only [decide_eq_true_eq, decide_eq_false_iff_not, Bool.not_eq_true', Bool.not_eq_false', Bool.not_eq_true, Bool.not_eq_false, Bool.not_true, Bool.not_false, Bool.false_eq_true, Bool.true_eq_false, reduceCtorEq, List.length_map] at hb) <;> first | (exfalso; omega) | refine drun_ th rfl ?_)
    | (refine g_if rfl (fun hb => ?_) (fun hb => ?_) <;> (try simp only [decide_eq_true_eq, decide_eq_false_iff_not, Bool.not_eq_true', Bool.not_eq_false', Bool.not_eq_true, Bool.not_eq_false, Bool.not_true, Bool.not_false, Bool.false_eq_true, Bool.true_eq_false, reduceCtorEq, List.length_map] at hb) <;> (try (exfalso; omega)))
    | (refine s_call first_c [] rfl rfl rfl rfl rfl rfl rfl rfl rfl rfl ?_; refine run_ th rfl ?_)
    | (refine s_call given_c [] rfl rfl rfl rfl rfl rfl rfl rfl rfl rfl ?_; refine run_ th rfl ?_)
    | (refine s_appendF th rfl rfl rfl rfl rfl rfl rfl rfl rfl rfl rfl rfl rfl rfl (by constructor <;> simp <;> omega) ?_; refine s_freeze 16 rfl rfl ?_; refine run_ th rfl ?_)
    | (refine s_callQ (made_c givenB (6 :: l) (by simp) (by simpa using hbig)) [] rfl rfl rfl rfl rfl rfl rfl rfl rfl (fun res hr => by obtain ⟨b, _, _, _, rfl⟩ := hr; rfl) (fun res hr => ?_); obtain ⟨b, hbk, hb1, hb8, rfl⟩ := hr; refine run_ th rfl ?_)
    | (refine d_call (picku_c b _ hb1 hb8) [] rfl rfl rfl rfl rfl rfl rfl rfl rfl rfl rfl ?_; refine drun_ th rfl ?_)
    | (refine s_call (is_c b _ _) [] rfl rfl rfl rfl rfl rfl rfl rfl rfl rfl ?_; refine run_ th rfl ?_))
  all_goals
    have hx := isB_refl hbk (pickI_range hb1 hb8 x).1 (pickI_range hb1 hb8 x).2
    first
    | (exfalso; simp_all; done)
    | refine g_endL th Try.func3 (.inr ⟨_, rfl⟩) rfl rfl rfl (.v (.one (.lit true))) rfl
    | refine g_endL th Try.func3 (.inr ⟨_, rfl⟩) rfl rfl rfl (.refl _) rfl
    | (refine g_endL th Try.func3 (.inr ⟨_, rfl⟩) rfl rfl rfl ?_ rfl
       rw [isB_trans (y := pickI b.nodes.length y) (by assumption) (by assumption)]
       exact .refl _)
end Go.Sy
