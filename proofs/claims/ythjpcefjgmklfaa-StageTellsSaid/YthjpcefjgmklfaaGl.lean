/- Contracts: the first example of layer 13. -/
import Derived.Test.YthjpcefjgmklfaaGk
set_option linter.unusedSimpArgs false
set_option linter.unusedVariables false
set_option linter.unusedSectionVars false
namespace Go.Sy
open Go.Proofs
set_option maxRecDepth 100000
attribute [local irreducible] SOps Goes DOps EOps

def x13 : Edge := ⟨⟨#[120]⟩, 0, 0, 2⟩
def given13 : Bk := ⟨[⟨1, ⟨#[98]⟩, [x13]⟩, ⟨2, ⟨#[97]⟩, [x13]⟩, ⟨0, ⟨#[]⟩, []⟩], [], []⟩
set_option maxHeartbeats 4000000 in
theorem given13_c0 : Con Try.prog 41 [] [] (.v (Ag [.slice true 3 [[.int .i64 1, .str ⟨#[98]⟩, .slice true 4 [x13.cs]], [.int .i64 2, .str ⟨#[97]⟩, .slice true 4 [x13.cs]], [.int .i64 0, .str ⟨#[]⟩, .nils]], .nils, .nils])) [] := by
  refine con_of (c := _) Try.func41 rfl rfl rfl (by decide) fun w M0 H Z => ?_
  repeat' (first
    | refine g_seq ?_
    | (refine g_region ?_; refine run_ th rfl ?_)
    | (refine g_drawC mix rfl rfl ?_; refine drun_ th rfl ?_)
    | (refine g_drawEC mix rfl rfl ?_; refine erun_ th rfl ?_)
    | refine SOps.nil ?_
    | refine DOps.nil ?_
    | refine EOps.nil ?_ rfl rfl
    | refine g_block ?_
    | refine g_inBlock ?_
    | refine g_skip ?_
    | refine g_exit rfl ?_
    | refine g_if_true rfl ?_
    | refine g_if_false rfl ?_
    | (refine s_split rfl rfl (fun hb => ?_) (fun hb => ?_) <;> (try simp only [decide_eq_true_eq, decide_eq_false_iff_not, Bool.not_eq_true', Bool.not_eq_false', Bool.not_eq_true, Bool.not_eq_false, Bool.not_true, Bool.not_false, Bool.false_eq_true, Bool.true_eq_false, reduceCtorEq, not_true_eq_false, not_false_eq_true, List.length_map] at hb) <;> first | (exfalso; omega) | refine run_ th rfl ?_)
    | (refine d_split rfl rfl rfl (fun hb => ?_) (fun hb => ?_) <;> (try simp only [decide_eq_true_eq, decide_eq_false_iff_not, Bool.not_eq_true', Bool.not_eq_false', Bool.not_eq_true, Bool.not_eq_false, Bool.not_true, Bool.not_false, Bool.false_eq_true, Bool.true_eq_false, reduceCtorEq, not_true_eq_false, not_false_eq_true, List.length_map] at hb) <;> first | (exfalso; omega) | refine drun_ th rfl ?_)
    | (refine g_if rfl (fun hb => ?_) (fun hb => ?_) <;> (try simp only [decide_eq_true_eq, decide_eq_false_iff_not, Bool.not_eq_true', Bool.not_eq_false', Bool.not_eq_true, Bool.not_eq_false, Bool.not_true, Bool.not_false, Bool.false_eq_true, Bool.true_eq_false, reduceCtorEq, not_true_eq_false, not_false_eq_true, List.length_map] at hb) <;> (try (exfalso; omega)))
    | (refine s_freeze 3 rfl rfl ?_; refine run_ th rfl ?_)
    | (refine g_freeze 9 rfl rfl ?_)
    | refine g_endL th Try.func41 (.inr ⟨_, rfl⟩) rfl rfl rfl ?_ rfl)
  all_goals exact .refl _
theorem given13_c : Con Try.prog 41 [] [] (.v (Ag given13.cs)) [] := by
  refine (given13_c0.le (res' := .v (Ag [.slice true 3 (given13.nodes.map Nd.cs), .slice false 1 [], .slice false 1 []])) ?_).le ?_
  · refine .v (.agg (.cons (.c (le_deep ?_)) (.cons (.c (.nil 1)) (.cons (.c (.nil 1)) .nil))))
    refine .cons (.cons (.refl _) (.cons (.refl _) (.cons (.nn true 4 _) .nil))) (.cons (.cons (.refl _) (.cons (.refl _) (.cons (.nn true 4 _) .nil))) (.cons (.cons (.refl _) (.cons (.refl _) (.cons (.nil 4) .nil))) .nil))
  · exact .v (.agg (.cons (.c (.nn true 3 _)) (.cons (.refl _) (.cons (.refl _) .nil))))

theorem book13 : bookB given13 = true := by
  have h1 : nameB ⟨#[98]⟩ = true := by decide
  have h2 : nameB ⟨#[120]⟩ = true := by decide
  have h3 : nameB ⟨#[97]⟩ = true := by decide
  simp [bookB, given13, nodeB, armsB, okAt, x13, sortB, h1, h2, h3, List.range, List.range.loop]
def s13 : Stg := ⟨[0, 1], [[], [], [], []]⟩
def t13 : Stg := ⟨[2, 1], [[], [⟨#[120]⟩], [], []]⟩
theorem may_s13 : mayS given13 abL s13 = true := by
  unfold mayS
  rw [book13]
  decide
theorem may_t13 : mayS given13 abL t13 = true := by
  unfold mayS
  rw [book13]
  decide
theorem moves_s13 : movesS given13 abL s13 = [⟨1, 0, ⟨#[120]⟩⟩] := by
  unfold movesS
  rw [if_pos may_s13]
  decide
theorem moves_t13 : movesS given13 abL t13 = [⟨2, 1, ⟨#[120]⟩⟩] := by
  unfold movesS
  rw [if_pos may_t13]
  decide
theorem begin13 : beginO given13 abL [0, 1] = (s13, 0) := by
  unfold beginO
  rw [if_neg (by decide), if_pos (by exact may_s13)]
  rfl
theorem do13 : doO given13 abL s13 ⟨1, 0, ⟨#[120]⟩⟩ = (t13, 0) := by
  unfold doO
  rw [if_neg (by rw [may_s13]; decide), if_neg (by rw [moves_s13]; simp)]
  have : doS given13 abL s13 ⟨1, 0, ⟨#[120]⟩⟩ = t13 := by
    have h1 : (doS given13 abL s13 ⟨1, 0, ⟨#[120]⟩⟩).at_ = t13.at_ := by decide
    have h2 : (doS given13 abL s13 ⟨1, 0, ⟨#[120]⟩⟩).mail = t13.mail := by decide
    generalize doS given13 abL s13 ⟨1, 0, ⟨#[120]⟩⟩ = q at h1 h2
    obtain ⟨a, b⟩ := q
    simp only at h1 h2
    rw [h1, h2]
  rw [this]
theorem over_t13 : overS given13 abL t13 = false := by
  unfold overS
  rw [may_t13]
  decide
theorem same_tt : sameS t13 t13 = true := by decide
theorem same_st : sameS s13 t13 = false := by decide

set_option maxHeartbeats 8000000 in
theorem first13_c : Con Try.prog 19 [] [] (Rv (.bool true)) [] := by
  have hbeg : Con Try.prog 23 [] [Ag given13.cs, C1 (namesT abL), C1 (intsT [0, 1])] (.tup [Ag s13.cs, C1 (.int .i64 0)]) [] := by
    have h := begin_c given13 abL [0, 1] (by decide); rw [begin13] at h; exact h
  have hmv := moves_c given13 abL s13 (book_few book13); rw [moves_s13] at hmv
  have hmt := moves_c given13 abL t13 (book_few book13); rw [moves_t13] at hmt
  have hdo : Con Try.prog 25 [] [Ag given13.cs, C1 (namesT abL), Ag s13.cs, Ag (Mv.cs ⟨1, 0, ⟨#[120]⟩⟩)] (.tup [Ag t13.cs, C1 (.int .i64 0)]) [] := by
    have h := do_c given13 abL s13 ⟨1, 0, ⟨#[120]⟩⟩ (book_few book13); rw [do13] at h; exact h
  have hov := over_c given13 abL t13; rw [over_t13] at hov
  have htt := same_c t13 t13; rw [same_tt] at htt
  have hst := same_c s13 t13; rw [same_st] at hst
  have hs1 := sameMoves_c [⟨1, 0, ⟨#[120]⟩⟩] [⟨1, 0, ⟨#[120]⟩⟩]; rw [show decide (([⟨1, 0, ⟨#[120]⟩⟩] : List Mv) = [⟨1, 0, ⟨#[120]⟩⟩]) = true by decide] at hs1
  have hs2 := sameMoves_c [⟨2, 1, ⟨#[120]⟩⟩] [⟨2, 1, ⟨#[120]⟩⟩]; rw [show decide (([⟨2, 1, ⟨#[120]⟩⟩] : List Mv) = [⟨2, 1, ⟨#[120]⟩⟩]) = true by decide] at hs2
  refine con_of (c := _) Try.func19 rfl rfl rfl (by decide) fun w M0 H Z => ?_
  repeat' (first
    | refine g_seq ?_
    | (refine g_region ?_; refine run_ th rfl ?_)
    | (refine g_drawC mix rfl rfl ?_; refine drun_ th rfl ?_)
    | (refine g_drawEC mix rfl rfl ?_; refine erun_ th rfl ?_)
    | refine SOps.nil ?_
    | refine DOps.nil ?_
    | refine EOps.nil ?_ rfl rfl
    | refine g_block ?_
    | refine g_inBlock ?_
    | refine g_skip ?_
    | refine g_exit rfl ?_
    | refine g_if_true rfl ?_
    | refine g_if_false rfl ?_
    | (refine s_split rfl rfl (fun hb => ?_) (fun hb => ?_) <;> (try simp only [decide_eq_true_eq, decide_eq_false_iff_not, Bool.not_eq_true', Bool.not_eq_false', Bool.not_eq_true, Bool.not_eq_false, Bool.not_true, Bool.not_false, Bool.false_eq_true, Bool.true_eq_false, reduceCtorEq, not_true_eq_false, not_false_eq_true, List.length_map] at hb) <;> first | (exfalso; omega) | refine run_ th rfl ?_)
    | (refine d_split rfl rfl rfl (fun hb => ?_) (fun hb => ?_) <;> (try simp only [decide_eq_true_eq, decide_eq_false_iff_not, Bool.not_eq_true', Bool.not_eq_false', Bool.not_eq_true, Bool.not_eq_false, Bool.not_true, Bool.not_false, Bool.false_eq_true, Bool.true_eq_false, reduceCtorEq, not_true_eq_false, not_false_eq_true, List.length_map] at hb) <;> first | (exfalso; omega) | refine drun_ th rfl ?_)
    | (refine g_if rfl (fun hb => ?_) (fun hb => ?_) <;> (try simp only [decide_eq_true_eq, decide_eq_false_iff_not, Bool.not_eq_true', Bool.not_eq_false', Bool.not_eq_true, Bool.not_eq_false, Bool.not_true, Bool.not_false, Bool.false_eq_true, Bool.true_eq_false, reduceCtorEq, not_true_eq_false, not_false_eq_true, List.length_map] at hb) <;> (try (exfalso; omega)))
    | (refine s_call given13_c [] rfl rfl rfl rfl rfl rfl rfl rfl rfl rfl ?_; refine run_ th rfl ?_)
    | (refine e_call ab_c rfl rfl rfl rfl rfl rfl rfl ?_; refine erun_ th rfl ?_)
    | (refine e_lit th rfl rfl rfl rfl rfl rfl rfl rfl rfl rfl rfl rfl (.nn true 1 _) ?_; refine erun_ th rfl ?_)
    | (refine e_call hbeg rfl rfl rfl rfl rfl rfl rfl ?_; refine erun_ th rfl ?_)
    | (refine e_call hdo rfl rfl rfl rfl rfl rfl rfl ?_; refine erun_ th rfl ?_)
    | (refine e_idx th rfl rfl rfl rfl rfl rfl rfl rfl rfl 0 _ rfl rfl ?_; refine erun_ th rfl ?_)
    | (refine d_call ab_c [] rfl rfl rfl rfl rfl rfl rfl rfl rfl rfl rfl ?_; refine drun_ th rfl ?_)
    | (refine d_call hmv [] rfl rfl rfl rfl rfl rfl rfl rfl rfl rfl rfl ?_; refine drun_ th rfl ?_)
    | (refine d_call hmt [] rfl rfl rfl rfl rfl rfl rfl rfl rfl rfl rfl ?_; refine drun_ th rfl ?_)
    | (refine d_call hs2 [] rfl rfl rfl rfl rfl rfl rfl rfl rfl rfl rfl ?_; refine drun_ th rfl ?_)
    | (refine d_call hov [] rfl rfl rfl rfl rfl rfl rfl rfl rfl rfl rfl ?_; refine drun_ th rfl ?_)
    | (refine d_call htt [] rfl rfl rfl rfl rfl rfl rfl rfl rfl rfl rfl ?_; refine drun_ th rfl ?_)
    | (refine d_call hst [] rfl rfl rfl rfl rfl rfl rfl rfl rfl rfl rfl ?_; refine drun_ th rfl ?_)
    | (refine DOps.step rfl (op_lit th rfl rfl rfl rfl rfl rfl rfl rfl rfl (.nn true 3 _) rfl rfl) ?_; refine drun_ th rfl ?_)
    | (refine s_freeze 24 rfl rfl ?_; refine run_ th rfl ?_)
    | (refine s_leT 24 (.v (C1 (movesT [⟨1, 0, ⟨#[120]⟩⟩]))) rfl (.v (.one (.c (.nn true 3 _)))) ?_; refine run_ th rfl ?_)
    | (refine s_call hs1 [] rfl rfl rfl rfl rfl rfl rfl rfl rfl rfl ?_; refine run_ th rfl ?_)
    | (exfalso; revert hb; decide))
  refine g_endL th Try.func19 (.inr ⟨_, rfl⟩) rfl rfl rfl (.refl _) rfl
end Go.Sy
