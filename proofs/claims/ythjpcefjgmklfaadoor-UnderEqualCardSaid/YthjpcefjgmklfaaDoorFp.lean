/- Contracts: the law's first example. -/
import Derived.Test.YthjpcefjgmklfaaDoorFo
import Derived.Test.YthjpcefjgmklfaaDoorSy5
set_option linter.unusedSimpArgs false
set_option linter.unusedVariables false
set_option linter.unusedSectionVars false
namespace Go.Sy
open Go.Proofs
set_option maxRecDepth 100000
attribute [local irreducible] SOps Goes DOps EOps

theorem xy_lt : sLt ⟨#[120]⟩ ⟨#[121]⟩ = true := by rw [sLt_eq]; decide
theorem given_book : bookB givenB = true := by
  have h1 : nameB ⟨#[98]⟩ = true := by decide
  have h2 : nameB ⟨#[120]⟩ = true := by decide
  have h3 : nameB ⟨#[121]⟩ = true := by decide
  simp [bookB, givenB, nodeB, armsB, okAt, xE, yE, sortB, h1, h2, h3, xy_lt, List.range, List.range.loop]
theorem given_pairs : pairsS givenB 0 1 = some [(0, 1), (4, 4)] := by
  unfold pairsS
  rw [if_pos (by rw [given_book]; decide)]
  decide
theorem given_01 : isB givenB 0 1 = true := by rw [isB, given_pairs]; rfl
theorem given_10 : isB givenB 1 0 = false := by
  unfold isB pairsS
  rw [if_pos (by rw [given_book]; decide)]
  decide
theorem given_23 : isB givenB 2 3 = true := by
  unfold isB pairsS
  rw [if_pos (by rw [given_book]; decide)]
  decide
theorem given_32 : isB givenB 3 2 = false := by
  unfold isB pairsS
  rw [if_pos (by rw [given_book]; decide)]
  decide
theorem given_holds : holdsB givenB [(0, 1), (4, 4)] = true := by
  unfold holdsB
  rw [given_book]
  decide

set_option maxHeartbeats 8000000 in
theorem first_c : Con Tryd.prog 23 [] [] (Rv (.bool true)) [] := by
  have h01 := is_c givenB 0 1; rw [given_01] at h01
  have h10 := is_c givenB 1 0; rw [given_10] at h10
  have h23 := is_c givenB 2 3; rw [given_23] at h23
  have h32 := is_c givenB 3 2; rw [given_32] at h32
  have hp := pairs_c givenB 0 1; rw [given_pairs] at hp
  have hh := holds_c givenB [(0, 1), (4, 4)]; rw [given_holds] at hh
  simp only [asksR, Option.getD_some, Option.isSome_some] at hp
  refine con_of (c := _) Tryd.func23 rfl rfl rfl (by decide) fun w M0 H Z => ?_
  repeat' (first
    | refine g_seq ?_
    | (refine g_region ?_; refine run_ th rfl ?_)
    | (refine g_drawC mix rfl rfl ?_; refine drun_ th rfl ?_)
    | (refine g_drawEC mix rfl rfl ?_; refine erun_ th rfl ?_)
    | refine SOps.nil ?_
    | refine DOps.nil ?_
    | refine EOps.nil ?_ rfl rfl
    | refine g_block ?_
    | refine g_inBlock ?_
    | refine g_skip ?_
    | refine g_exit rfl ?_
    | refine g_if_true rfl ?_
    | refine g_if_false rfl ?_
    | (refine s_split rfl rfl (fun hb => ?_) (fun hb => ?_) <;> (try simp only [decide_eq_true_eq, decide_eq_false_iff_not, Bool.not_eq_true', Bool.not_eq_false', Bool.not_eq_true, Bool.not_eq_false, Bool.not_true, Bool.not_false, Bool.false_eq_true, Bool.true_eq_false, reduceCtorEq, not_true_eq_false, not_false_eq_true, List.length_map] at hb) <;> first | (exfalso; omega) | refine run_ th rfl ?_)
    | (refine d_split rfl rfl rfl (fun hb => ?_) (fun hb => ?_) <;> (try simp only [decide_eq_true_eq, decide_eq_false_iff_not, Bool.not_eq_true', Bool.not_eq_false', Bool.not_eq_true, Bool.not_eq_false, Bool.not_true, Bool.not_false, Bool.false_eq_true, Bool.true_eq_false, reduceCtorEq, not_true_eq_false, not_false_eq_true, List.length_map] at hb) <;> first | (exfalso; omega) | refine drun_ th rfl ?_)
    | (refine g_if rfl (fun hb => ?_) (fun hb => ?_) <;> (try simp only [decide_eq_true_eq, decide_eq_false_iff_not, Bool.not_eq_true', Bool.not_eq_false', Bool.not_eq_true, Bool.not_eq_false, Bool.not_true, Bool.not_false, Bool.false_eq_true, Bool.true_eq_false, reduceCtorEq, not_true_eq_false, not_false_eq_true, List.length_map] at hb) <;> (try (exfalso; omega)))
    | (refine s_call given_c [] rfl rfl rfl rfl rfl rfl rfl rfl rfl rfl ?_; refine run_ th rfl ?_)
    | (refine s_call h01 [] rfl rfl rfl rfl rfl rfl rfl rfl rfl rfl ?_; refine run_ th rfl ?_)
    | (refine s_call h10 [] rfl rfl rfl rfl rfl rfl rfl rfl rfl rfl ?_; refine run_ th rfl ?_)
    | (refine s_call h23 [] rfl rfl rfl rfl rfl rfl rfl rfl rfl rfl ?_; refine run_ th rfl ?_)
    | (refine s_call h32 [] rfl rfl rfl rfl rfl rfl rfl rfl rfl rfl ?_; refine run_ th rfl ?_)
    | (refine s_call hp [] rfl rfl rfl rfl rfl rfl rfl rfl rfl rfl ?_; refine run_ th rfl ?_)
    | (refine s_call hh [] rfl rfl rfl rfl rfl rfl rfl rfl rfl rfl ?_; refine run_ th rfl ?_)
    | (refine s_idx th rfl rfl rfl rfl rfl rfl rfl rfl rfl 0 _ rfl rfl ?_; refine run_ th rfl ?_)
    | (refine s_idx th rfl rfl rfl rfl rfl rfl rfl rfl rfl 1 _ rfl rfl ?_; refine run_ th rfl ?_)
    | (refine s_cmpP th rfl rfl rfl Tryd.eqGuardType65 (.inl rfl) rfl rfl rfl rfl rfl ?_; refine run_ th rfl ?_)
    | (exfalso; revert hb; decide))
  refine g_endL th Tryd.func23 (.inr ⟨_, rfl⟩) rfl rfl rfl (.refl _) rfl
end Go.Sy
