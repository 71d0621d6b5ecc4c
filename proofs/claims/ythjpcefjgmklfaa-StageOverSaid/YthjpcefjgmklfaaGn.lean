/- Contracts: StageOver. -/
import Derived.Test.YthjpcefjgmklfaaGm
set_option linter.unusedSimpArgs false
set_option linter.unusedVariables false
set_option linter.unusedSectionVars false
namespace Go.Sy
open Go.Proofs
set_option maxRecDepth 100000
attribute [local irreducible] SOps Goes DOps EOps

set_option maxHeartbeats 16000000 in
theorem stageOver_c (l : List Int) (at_ : Int) (label : ByteArray) (hbig : (l.length + 1) * 8 ≤ 140737488355328) :
    Con Try.prog 11 [] [C1 (intsT l), C1 (.int .i64 at_), C1 (.str label)] (Rv (.bool true)) [] := by
  refine con_of (c := _) Try.func11 rfl rfl rfl (by decide) fun w M0 H Z => ?_
  repeat' (first
    | (refine g_freeze 28 rfl rfl ?_)
    | (refine g_freeze 66 rfl rfl ?_)
    | (refine g_freeze 69 rfl rfl ?_)
    | (refine Goes.mono ?_ (fun _ _ h => Has.leB (i := 9) (j := 0) rfl rfl (cB_le _) h); refine Goes.mono ?_ (fun _ _ h => Has.leB (i := 9) (j := 1) rfl rfl (.nil 1) h); refine Goes.mono ?_ (fun _ _ h => Has.leB (i := 9) (j := 2) rfl rfl (.nil 1) h))
    | (refine Goes.mono ?_ (fun _ _ h => Has.leB (i := 12) (j := 0) rfl rfl (.nn true 1 _) h); refine Goes.mono ?_ (fun _ _ h => Has.leB (i := 12) (j := 1) rfl rfl (mail_le label) h); refine Goes.mono ?_ (fun _ _ h => Has.leB (i := 12) (j := 1) rfl rfl (.nn true 1 _) h))
    | (refine s_leT 13 (.v (C1 (.int .i64 ((pickI b.nodes.length at_).toNat : Int)))) rfl (le_int (show pickI b.nodes.length at_ = _ by have := pickI_range hb1 hb8 at_; omega)) ?_; refine run_ th rfl ?_)
    | refine g_seq ?_
    | (refine g_region ?_; refine run_ th rfl ?_)
    | (refine g_drawC mix rfl rfl ?_; refine drun_ th rfl ?_)
    | (refine g_drawEC mix rfl rfl ?_; refine erun_ th rfl ?_)
    | refine SOps.nil ?_
    | refine DOps.nil ?_
    | refine EOps.nil ?_ rfl rfl
    | refine g_block ?_
    | refine g_inBlock ?_
    | refine g_skip ?_
    | refine g_exit rfl ?_
    | refine g_if_true rfl ?_
    | refine g_if_false rfl ?_
    | (refine s_split rfl rfl (fun hb => ?_) (fun hb => ?_) <;> (try simp only [decide_eq_true_eq, decide_eq_false_iff_not, Bool.not_eq_true', Bool.not_eq_false', Bool.not_eq_true, Bool.not_eq_false, Bool.not_true, Bool.not_false, Bool.false_eq_true, Bool.true_eq_false, reduceCtorEq, not_true_eq_false, not_false_eq_true, List.length_map] at hb) <;> first | (exfalso; omega) | refine run_ th rfl ?_)
    | (refine d_split rfl rfl rfl (fun hb => ?_) (fun hb => ?_) <;> (try simp only [decide_eq_true_eq, decide_eq_false_iff_not, Bool.not_eq_true', Bool.not_eq_false', Bool.not_eq_true, Bool.not_eq_false, Bool.not_true, Bool.not_false, Bool.false_eq_true, Bool.true_eq_false, reduceCtorEq, not_true_eq_false, not_false_eq_true, List.length_map] at hb) <;> first | (exfalso; omega) | refine drun_ th rfl ?_)
    | (refine g_if rfl (fun hb => ?_) (fun hb => ?_) <;> (try simp only [decide_eq_true_eq, decide_eq_false_iff_not, Bool.not_eq_true', Bool.not_eq_false', Bool.not_eq_true, Bool.not_eq_false, Bool.not_true, Bool.not_false, Bool.false_eq_true, Bool.true_eq_false, reduceCtorEq, not_true_eq_false, not_false_eq_true, List.length_map] at hb) <;> (try (exfalso; omega)))
    | (refine s_call first13_c [] rfl rfl rfl rfl rfl rfl rfl rfl rfl rfl ?_; refine run_ th rfl ?_)
    | (refine s_appendF th rfl rfl rfl rfl rfl rfl rfl rfl rfl rfl rfl rfl rfl rfl (by constructor <;> simp <;> omega) ?_; refine s_freeze 18 rfl rfl ?_; refine run_ th rfl ?_)
    | (refine s_callN (new_c (7 :: l) (by simpa using hbig)) rfl rfl rfl rfl rfl rfl rfl ?_; refine run_ th rfl ?_)
    | (refine s_leB 21 1 (.intP .i64 fun a => 0 ≤ a ∧ a ≤ ((7 :: l).length : Int)) rfl rfl (.intP (by simp; omega)) ?_; refine s_callQ (book_c (7 :: l)) [21] rfl rfl rfl rfl rfl rfl rfl rfl rfl (fun res hr => by obtain ⟨b, _, _, _, rfl⟩ := hr; rfl) (fun res hr => ?_); obtain ⟨b, hbk, hb1, hb8, rfl⟩ := hr; refine run_ th rfl ?_)
    | (refine s_leT 8 (.v (C1 (.int .i64 (b.nodes.length : Int)))) rfl (le_int (show ((b.nodes.map Nd.cs).length : Int) = _ by simp)) ?_; refine run_ th rfl ?_)
    | (refine s_appendN th 28 rfl rfl rfl rfl rfl rfl rfl rfl rfl rfl rfl rfl rfl rfl (by constructor <;> simp <;> omega) ?_; refine run_ th rfl ?_)
    | (refine s_append th rfl rfl rfl rfl rfl rfl rfl rfl rfl rfl rfl rfl rfl rfl rfl (by constructor <;> simp <;> omega) ?_; refine run_ th rfl ?_)
    | (refine e_call ab_c rfl rfl rfl rfl rfl rfl rfl ?_; refine erun_ th rfl ?_)
    | (refine e_lit th rfl rfl rfl rfl rfl rfl rfl rfl rfl rfl rfl rfl (.nn true 1 _) ?_; refine erun_ th rfl ?_)
    | (refine e_call (c_begin hbk hb8 (Nat.le_refl _) (Nat.le_refl _)) rfl rfl rfl rfl rfl rfl rfl ?_; refine erun_ th rfl ?_)
    | (refine d_call ab_c [] rfl rfl rfl rfl rfl rfl rfl rfl rfl rfl rfl ?_; refine drun_ th rfl ?_)
    | (refine d_call (c_overE hbk hb8) [] rfl rfl rfl rfl rfl rfl rfl rfl rfl rfl rfl ?_; refine drun_ th rfl ?_)
    | (refine d_call (c_moves hbk hb8 []) [] rfl rfl rfl rfl rfl rfl rfl rfl rfl rfl rfl ?_; refine drun_ th rfl ?_)
    | (refine d_call (c_may hbk hb8) [] rfl rfl rfl rfl rfl rfl rfl rfl rfl rfl rfl ?_; refine drun_ th rfl ?_)
    | (refine s_freeze 68 rfl rfl ?_; refine run_ th rfl ?_)
    | (refine s_rem rfl rfl rfl rfl rfl rfl (by rw [wrapU_id (by omega) (by omega)]; omega) ?_; refine run_ th rfl ?_)
    | (refine e_call (c_begin hbk hb8 (Nat.le_refl _) (y := (pickI b.nodes.length at_).toNat) (by have := pickI_range hb1 hb8 at_; omega)) rfl rfl rfl rfl rfl rfl rfl ?_; refine erun_ th rfl ?_)
    | (refine d_call (c_overL b b.nodes.length b.nodes.length label) [] rfl rfl rfl rfl rfl rfl rfl rfl rfl rfl rfl ?_; refine drun_ th rfl ?_)
    | (refine d_call (c_moves hbk hb8 [label]) [] rfl rfl rfl rfl rfl rfl rfl rfl rfl rfl rfl ?_; refine drun_ th rfl ?_)
    | (refine d_call (c_over hbk hb8 (y := (pickI b.nodes.length at_).toNat) (by have := pickI_range hb1 hb8 at_; omega)) [] rfl rfl rfl rfl rfl rfl rfl rfl rfl rfl rfl ?_; refine drun_ th rfl ?_)
    | (refine d_call (c_same b.nodes.length b.nodes.length label) [] rfl rfl rfl rfl rfl rfl rfl rfl rfl rfl rfl ?_; refine drun_ th rfl ?_)
    | (refine d_idx th rfl rfl rfl rfl rfl rfl rfl rfl rfl (pickI b.nodes.length at_).toNat _ rfl (cB_idx (by have := pickI_range hb1 hb8 at_; omega)) ?_; refine drun_ th rfl ?_)
    | (exfalso; revert hb; simp; done))
  refine g_endL th Try.func11 (.inr ⟨_, rfl⟩) rfl rfl rfl (.refl _) rfl
end Go.Sy
