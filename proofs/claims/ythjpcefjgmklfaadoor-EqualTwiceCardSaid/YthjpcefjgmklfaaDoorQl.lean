/- Contracts: the laws of layer 10: loop, made, first. -/
import Derived.Test.YthjpcefjgmklfaaDoorFn
import Derived.Test.YthjpcefjgmklfaaDoorSy5
import Derived.Test.YthjpcefjgmklfaaDoorQk
set_option linter.unusedSimpArgs false
set_option linter.unusedVariables false
set_option linter.unusedSectionVars false
namespace Go.Sy
open Go.Proofs
set_option maxRecDepth 100000
attribute [local irreducible] SOps Goes DOps EOps

def xA : Edge := ⟨⟨#[120]⟩, 1, 0, 1⟩
def yA : Edge := ⟨⟨#[120]⟩, 1, 0, 0⟩
def loopB : Bk := ⟨[⟨1, ⟨#[98]⟩, [xA]⟩, ⟨1, ⟨#[98]⟩, [yA]⟩], [], []⟩
abbrev armsTq (l : List Edge) : CT := .slice true 4 (l.map Edge.cs)

set_option maxHeartbeats 4000000 in
theorem loop_c0 : Con Tryd.prog 20 [] [] (.v (Ag [.slice true 3 [[.int .i64 1, .str ⟨#[98]⟩, armsTq [xA]], [.int .i64 1, .str ⟨#[98]⟩, armsTq [yA]]], .nils, .nils])) [] := by
  refine con_of (c := _) Tryd.func20 rfl rfl rfl (by decide) fun w M0 H Z => ?_
  repeat' (first
    | refine g_seq ?_
    | (refine g_region ?_; refine run_ th rfl ?_)
    | (refine g_drawC mix rfl rfl ?_; refine drun_ th rfl ?_)
    | (refine g_drawEC mix rfl rfl ?_; refine erun_ th rfl ?_)
    | refine SOps.nil ?_
    | refine DOps.nil ?_
    | refine EOps.nil ?_ rfl rfl
    | refine g_block ?_
    | refine g_inBlock ?_
    | refine g_skip ?_
    | refine g_exit rfl ?_
    | refine g_if_true rfl ?_
    | refine g_if_false rfl ?_
    | (refine s_split rfl rfl (fun hb => ?_) (fun hb => ?_) <;> (try simp only [decide_eq_true_eq, decide_eq_false_iff_not, Bool.not_eq_true', Bool.not_eq_false', Bool.not_eq_true, Bool.not_eq_false, Bool.not_true, Bool.not_false, Bool.false_eq_true, Bool.true_eq_false, reduceCtorEq, not_true_eq_false, not_false_eq_true, List.length_map] at hb) <;> first | (exfalso; omega) | refine run_ th rfl ?_)
    | (refine d_split rfl rfl rfl (fun hb => ?_) (fun hb => ?_) <;> (try simp only [decide_eq_true_eq, decide_eq_false_iff_not, Bool.not_eq_true', Bool.not_eq_false', Bool.not_eq_true, Bool.not_eq_false, Bool.not_true, Bool.not_false, Bool.false_eq_true, Bool.true_eq_false, reduceCtorEq, not_true_eq_false, not_false_eq_true, List.length_map] at hb) <;> first | (exfalso; omega) | refine drun_ th rfl ?_)
    | (refine g_if rfl (fun hb => ?_) (fun hb => ?_) <;> (try simp only [decide_eq_true_eq, decide_eq_false_iff_not, Bool.not_eq_true', Bool.not_eq_false', Bool.not_eq_true, Bool.not_eq_false, Bool.not_true, Bool.not_false, Bool.false_eq_true, Bool.true_eq_false, reduceCtorEq, not_true_eq_false, not_false_eq_true, List.length_map] at hb) <;> (try (exfalso; omega)))
    | (refine s_freeze 8 rfl rfl ?_; refine run_ th rfl ?_)
    | (refine s_freeze 11 rfl rfl ?_; refine run_ th rfl ?_)
    | (refine g_freeze 13 rfl rfl ?_)
    | refine g_endL th Tryd.func20 (.inr ⟨_, rfl⟩) rfl rfl rfl ?_ rfl)
  all_goals exact .refl _
theorem loop_c : Con Tryd.prog 20 [] [] (.v (Ag loopB.cs)) [] := by
  refine (loop_c0.le (res' := .v (Ag [.slice true 3 (loopB.nodes.map Nd.cs), .slice false 1 [], .slice false 1 []])) ?_).le ?_
  · refine .v (.agg (.cons (.c (le_deep ?_)) (.cons (.c (.nil 1)) (.cons (.c (.nil 1)) .nil))))
    refine .cons (.cons (.refl _) (.cons (.refl _) (.cons (.nn true 4 _) .nil))) (.cons (.cons (.refl _) (.cons (.refl _) (.cons (.nn true 4 _) .nil))) .nil)
  · exact .v (.agg (.cons (.c (.nn true 3 _)) (.cons (.refl _) (.cons (.refl _) .nil))))

set_option maxHeartbeats 4000000 in
theorem made10_c (b : Bk) (l : List Int) (hl : l ≠ []) (hbig : l.length * 8 ≤ 140737488355328) : ConQ Tryd.prog 11 [] [Ag b.cs, C1 (intsT l)] BookQ2 [] := by
  have hlp : 0 < l.length := List.length_pos_iff.2 hl
  refine ConQ.of (c := _) Tryd.func11 rfl rfl rfl (by decide) fun w M0 H Z => ?_
  repeat' (first
    | refine g_seq ?_
    | (refine g_region ?_; refine run_ th rfl ?_)
    | (refine g_drawC mix rfl rfl ?_; refine drun_ th rfl ?_)
    | (refine g_drawEC mix rfl rfl ?_; refine erun_ th rfl ?_)
    | refine SOps.nil ?_
    | refine DOps.nil ?_
    | refine EOps.nil ?_ rfl rfl
    | refine g_block ?_
    | refine g_inBlock ?_
    | refine g_skip ?_
    | refine g_exit rfl ?_
    | refine g_if_true rfl ?_
    | refine g_if_false rfl ?_
    | (refine s_split rfl rfl (fun hb => ?_) (fun hb => ?_) <;> (try simp only [decide_eq_true_eq, decide_eq_false_iff_not, Bool.not_eq_true', Bool.not_eq_false', Bool.not_eq_true, Bool.not_eq_false, Bool.not_true, Bool.not_false, Bool.false_eq_true, Bool.true_eq_false, reduceCtorEq, not_true_eq_false, not_false_eq_true, List.length_map] at hb) <;> first | (exfalso; omega) | refine run_ th rfl ?_)
    | (refine d_split rfl rfl rfl (fun hb => ?_) (fun hb => ?_) <;> (try simp only [decide_eq_true_eq, decide_eq_false_iff_not, Bool.not_eq_true', Bool.not_eq_false', Bool.not_eq_true, Bool.not_eq_false, Bool.not_true, Bool.not_false, Bool.false_eq_true, Bool.true_eq_false, reduceCtorEq, not_true_eq_false, not_false_eq_true, List.length_map] at hb) <;> first | (exfalso; omega) | refine drun_ th rfl ?_)
    | (refine g_if rfl (fun hb => ?_) (fun hb => ?_) <;> (try simp only [decide_eq_true_eq, decide_eq_false_iff_not, Bool.not_eq_true', Bool.not_eq_false', Bool.not_eq_true, Bool.not_eq_false, Bool.not_true, Bool.not_false, Bool.false_eq_true, Bool.true_eq_false, reduceCtorEq, not_true_eq_false, not_false_eq_true, List.length_map] at hb) <;> (try (exfalso; omega)))
    | (refine s_callN (new_c l hbig) rfl rfl rfl rfl rfl rfl rfl ?_; refine run_ th rfl ?_)
    | (refine s_leB 9 1 (.intP .i64 fun a => 0 ≤ a ∧ a ≤ (l.length : Int)) rfl rfl (.intP (by omega)) ?_; refine s_callQ (book2_c l) [9] rfl rfl rfl rfl rfl rfl rfl rfl rfl (fun res hr => by obtain ⟨b, _, _, _, rfl⟩ := hr; rfl) (fun res hr => ?_); obtain ⟨c, hc, hc1, hc8, rfl⟩ := hr; refine run_ th rfl ?_))
  refine g_wit (.v (Ag c.cs)) ⟨c, hc, hc1, hc8, rfl⟩ ?_
  refine g_endL th Tryd.func11 (.inr ⟨_, rfl⟩) rfl rfl rfl (.refl _) rfl
set_option maxHeartbeats 4000000 in
theorem made10n_c (b : Bk) : Con Tryd.prog 11 [] [Ag b.cs, C1 (intsT [])] (.v (Ag b.cs)) [] := by
  refine con_of (c := _) Tryd.func11 rfl rfl rfl (by decide) fun w M0 H Z => ?_
  repeat' (first
    | refine g_seq ?_
    | (refine g_region ?_; refine run_ th rfl ?_)
    | (refine g_drawC mix rfl rfl ?_; refine drun_ th rfl ?_)
    | (refine g_drawEC mix rfl rfl ?_; refine erun_ th rfl ?_)
    | refine SOps.nil ?_
    | refine DOps.nil ?_
    | refine EOps.nil ?_ rfl rfl
    | refine g_block ?_
    | refine g_inBlock ?_
    | refine g_skip ?_
    | refine g_exit rfl ?_
    | refine g_if_true rfl ?_
    | refine g_if_false rfl ?_
    | (refine s_split rfl rfl (fun hb => ?_) (fun hb => ?_) <;> (try simp only [decide_eq_true_eq, decide_eq_false_iff_not, Bool.not_eq_true', Bool.not_eq_false', Bool.not_eq_true, Bool.not_eq_false, Bool.not_true, Bool.not_false, Bool.false_eq_true, Bool.true_eq_false, reduceCtorEq, not_true_eq_false, not_false_eq_true, List.length_map] at hb) <;> first | (exfalso; omega) | refine run_ th rfl ?_)
    | (refine d_split rfl rfl rfl (fun hb => ?_) (fun hb => ?_) <;> (try simp only [decide_eq_true_eq, decide_eq_false_iff_not, Bool.not_eq_true', Bool.not_eq_false', Bool.not_eq_true, Bool.not_eq_false, Bool.not_true, Bool.not_false, Bool.false_eq_true, Bool.true_eq_false, reduceCtorEq, not_true_eq_false, not_false_eq_true, List.length_map] at hb) <;> first | (exfalso; omega) | refine drun_ th rfl ?_)
    | (refine g_if rfl (fun hb => ?_) (fun hb => ?_) <;> (try simp only [decide_eq_true_eq, decide_eq_false_iff_not, Bool.not_eq_true', Bool.not_eq_false', Bool.not_eq_true, Bool.not_eq_false, Bool.not_true, Bool.not_false, Bool.false_eq_true, Bool.true_eq_false, reduceCtorEq, not_true_eq_false, not_false_eq_true, List.length_map] at hb) <;> (try (exfalso; omega)))
    | refine g_endL th Tryd.func11 (.inr ⟨_, rfl⟩) rfl rfl rfl ?_ rfl)
  all_goals first
    | exact .refl _
    | (exfalso; simp at *)

theorem loop_book : bookB loopB = true := by decide +kernel
theorem loop_cls : classesS loopB = [0, 0] := by decide +kernel
theorem loop_01 : eqB loopB 0 1 = true := by decide +kernel
theorem loop_02 : eqB loopB 0 2 = false := by decide +kernel
theorem loop_shr : (shrinkS loopB).nodes.length = 1 := by decide +kernel

set_option maxHeartbeats 8000000 in
theorem first10_c : Con Tryd.prog 9 [] [] (Rv (.bool true)) [] := by
  have hcl := classes_c loopB (by decide); rw [loop_cls] at hcl
  have h01 := same_c loopB (by decide) 0 1; rw [loop_01] at h01
  have h02 := same_c loopB (by decide) 0 2; rw [loop_02] at h02
  have hsh := shrink_c loopB (by decide) (by decide)
  have hln := loop_shr
  generalize shrinkS loopB = s at *
  refine con_of (c := _) Tryd.func9 rfl rfl rfl (by decide) fun w M0 H Z => ?_
  repeat' (first
    | refine g_seq ?_
    | (refine g_region ?_; refine run_ th rfl ?_)
    | (refine g_drawC mix rfl rfl ?_; refine drun_ th rfl ?_)
    | (refine g_drawEC mix rfl rfl ?_; refine erun_ th rfl ?_)
    | refine SOps.nil ?_
    | refine DOps.nil ?_
    | refine EOps.nil ?_ rfl rfl
    | refine g_block ?_
    | refine g_inBlock ?_
    | refine g_skip ?_
    | refine g_exit rfl ?_
    | refine g_if_true rfl ?_
    | refine g_if_false rfl ?_
    | (refine s_split rfl rfl (fun hb => ?_) (fun hb => ?_) <;> (try simp only [decide_eq_true_eq, decide_eq_false_iff_not, Bool.not_eq_true', Bool.not_eq_false', Bool.not_eq_true, Bool.not_eq_false, Bool.not_true, Bool.not_false, Bool.false_eq_true, Bool.true_eq_false, reduceCtorEq, not_true_eq_false, not_false_eq_true, List.length_map] at hb) <;> first | (exfalso; omega) | refine run_ th rfl ?_)
    | (refine d_split rfl rfl rfl (fun hb => ?_) (fun hb => ?_) <;> (try simp only [decide_eq_true_eq, decide_eq_false_iff_not, Bool.not_eq_true', Bool.not_eq_false', Bool.not_eq_true, Bool.not_eq_false, Bool.not_true, Bool.not_false, Bool.false_eq_true, Bool.true_eq_false, reduceCtorEq, not_true_eq_false, not_false_eq_true, List.length_map] at hb) <;> first | (exfalso; omega) | refine drun_ th rfl ?_)
    | (refine g_if rfl (fun hb => ?_) (fun hb => ?_) <;> (try simp only [decide_eq_true_eq, decide_eq_false_iff_not, Bool.not_eq_true', Bool.not_eq_false', Bool.not_eq_true, Bool.not_eq_false, Bool.not_true, Bool.not_false, Bool.false_eq_true, Bool.true_eq_false, reduceCtorEq, not_true_eq_false, not_false_eq_true, List.length_map] at hb) <;> (try (exfalso; omega)))
    | (refine s_call loop_c [] rfl rfl rfl rfl rfl rfl rfl rfl rfl rfl ?_; refine run_ th rfl ?_)
    | (refine s_call hcl [] rfl rfl rfl rfl rfl rfl rfl rfl rfl rfl ?_; refine run_ th rfl ?_)
    | (refine s_call h01 [] rfl rfl rfl rfl rfl rfl rfl rfl rfl rfl ?_; refine run_ th rfl ?_)
    | (refine s_call h02 [] rfl rfl rfl rfl rfl rfl rfl rfl rfl rfl ?_; refine run_ th rfl ?_)
    | (refine s_call hsh [] rfl rfl rfl rfl rfl rfl rfl rfl rfl rfl ?_; refine run_ th rfl ?_)
    | (refine s_idx th rfl rfl rfl rfl rfl rfl rfl rfl rfl 0 _ rfl rfl ?_; refine run_ th rfl ?_)
    | (refine s_idx th rfl rfl rfl rfl rfl rfl rfl rfl rfl 1 _ rfl rfl ?_; refine run_ th rfl ?_)
    | (refine s_step (op_field1 th rfl rfl rfl rfl rfl rfl rfl rfl rfl).wp rfl ?_; refine run_ th rfl ?_)
    | (exfalso; revert hb; simp; done))
  all_goals
    refine g_endL th Tryd.func9 (.inr ⟨_, rfl⟩) rfl rfl rfl ?_ rfl
    rw [List.length_map, hln]
    exact .refl _
end Go.Sy
