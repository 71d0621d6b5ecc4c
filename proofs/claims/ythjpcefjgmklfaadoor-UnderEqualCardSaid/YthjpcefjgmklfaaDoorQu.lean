/- Contracts: UnderEqual. -/
import Derived.Test.YthjpcefjgmklfaaDoorQp
import Derived.Test.YthjpcefjgmklfaaDoorQl
import Derived.Test.YthjpcefjgmklfaaDoorFp
set_option linter.unusedSimpArgs false
set_option linter.unusedVariables false
set_option linter.unusedSectionVars false
namespace Go.Sy
open Go.Proofs
set_option maxRecDepth 100000
attribute [local irreducible] SOps Goes DOps EOps

set_option maxHeartbeats 16000000 in
theorem underEqual_c (l : List Int) (x y z : Int) (hbig : (l.length + 1) * 8 ≤ 140737488355328) :
    Con Tryd.prog 8 [] [C1 (intsT l), C1 (.int .i64 x), C1 (.int .i64 y), C1 (.int .i64 z)] (Rv (.bool true)) [] := by
  refine con_of (c := _) Tryd.func8 rfl rfl rfl (by decide) fun w M0 H Z => ?_
  repeat' (first
    | refine g_seq ?_
    | (refine g_region ?_; refine run_ th rfl ?_)
    | (refine g_drawC mix rfl rfl ?_; refine drun_ th rfl ?_)
    | (refine g_drawEC mix rfl rfl ?_; refine erun_ th rfl ?_)
    | refine SOps.nil ?_
    | refine DOps.nil ?_
    | refine EOps.nil ?_ rfl rfl
    | refine g_block ?_
    | refine g_inBlock ?_
    | refine g_skip ?_
    | refine g_exit rfl ?_
    | refine g_if_true rfl ?_
    | refine g_if_false rfl ?_
    | (refine s_split rfl rfl (fun hb => ?_) (fun hb => ?_) <;> (try simp only [decide_eq_true_eq, decide_eq_false_iff_not, Bool.not_eq_true', Bool.not_eq_false', Bool.not_eq_true, Bool.not_eq_false, Bool.not_true, Bool.not_false, Bool.false_eq_true, Bool.true_eq_false, reduceCtorEq, not_true_eq_false, not_false_eq_true, List.length_map] at hb) <;> first | (exfalso; omega) | refine run_ th rfl ?_)
    | (refine d_split rfl rfl rfl (fun hb => ?_) (fun hb => ?_) <;> (try simp only [decide_eq_true_eq, decide_eq_false_iff_not, Bool.not_eq_true', Bool.not_eq_false', Bool.not_eq_true, Bool.not_eq_false, Bool.not_true, Bool.not_false, Bool.false_eq_true, Bool.true_eq_false, reduceCtorEq, not_true_eq_false, not_false_eq_true, List.length_map] at hb) <;> first | (exfalso; omega) | refine drun_ th rfl ?_)
    | (refine g_if rfl (fun hb => ?_) (fun hb => ?_) <;> (try simp only [decide_eq_true_eq, decide_eq_false_iff_not, Bool.not_eq_true', Bool.not_eq_false', Bool.not_eq_true, Bool.not_eq_false, Bool.not_true, Bool.not_false, Bool.false_eq_true, Bool.true_eq_false, reduceCtorEq, not_true_eq_false, not_false_eq_true, List.length_map] at hb) <;> (try (exfalso; omega)))
    | (refine s_call first_c [] rfl rfl rfl rfl rfl rfl rfl rfl rfl rfl ?_; refine run_ th rfl ?_)
    | (refine s_call given_c [] rfl rfl rfl rfl rfl rfl rfl rfl rfl rfl ?_; refine run_ th rfl ?_)
    | (refine s_appendF th rfl rfl rfl rfl rfl rfl rfl rfl rfl rfl rfl rfl rfl rfl (by constructor <;> simp <;> omega) ?_; refine s_freeze 17 rfl rfl ?_; refine run_ th rfl ?_)
    | (refine s_callQ (made_c givenB (6 :: l) (by simp) (by simpa using hbig)) [] rfl rfl rfl rfl rfl rfl rfl rfl rfl (fun res hr => by obtain ⟨b, _, _, _, rfl⟩ := hr; rfl) (fun res hr => ?_); obtain ⟨b, hbk, hb1, hb8, rfl⟩ := hr; refine run_ th rfl ?_)
    | (refine d_call (picku_c b _ hb1 hb8) [] rfl rfl rfl rfl rfl rfl rfl rfl rfl rfl rfl ?_; refine drun_ th rfl ?_)
    | (exfalso; revert hb; simp; done))
  obtain ⟨p0, p1⟩ := pickI_range hb1 hb8 x
  obtain ⟨q0, q1⟩ := pickI_range hb1 hb8 y
  generalize pickI b.nodes.length x = p at *
  generalize pickI b.nodes.length y = q at *
  generalize pickI b.nodes.length z = r at *
  have hnb : b.nodes.length ≤ 60 := by omega
  have spq := same_c b hnb p q
  have s1 := is_c b p q
  have s2 := is_c b q p
  have s3 := is_c b r p
  have s4 := is_c b r q
  have s5 := is_c b p r
  have s6 := is_c b q r
  have hE : eqB b p q = (isB b p q && isB b q p) := by
    rw [Bool.eq_iff_iff, Bool.and_eq_true, eqB_bis hbk (by omega) p0 p1 q0 q1]
    exact bis_iff_is hbk
  rw [hE] at spq
  obtain ⟨u1, hu1⟩ : ∃ u, isB b p q = u := ⟨_, rfl⟩
  obtain ⟨u2, hu2⟩ : ∃ u, isB b q p = u := ⟨_, rfl⟩
  rw [hu1] at s1
  rw [hu2] at s2
  rw [hu1, hu2] at spq
  by_cases hT : u1 = true ∧ u2 = true
  · obtain ⟨h1, h2⟩ := hT
    subst h1 h2
    have e34 : isB b r q = isB b r p := by
      rw [Bool.eq_iff_iff]
      exact ⟨fun h => isB_trans h hu2, fun h => isB_trans h hu1⟩
    have e56 : isB b q r = isB b p r := by
      rw [Bool.eq_iff_iff]
      exact ⟨fun h => isB_trans hu1 h, fun h => isB_trans hu2 h⟩
    rw [e34] at s4
    rw [e56] at s6
    generalize isB b r p = a at *
    generalize isB b p r = d at *
    clear hu1 hu2 hE e34 e56
    cases a <;> cases d
    all_goals
      repeat' (first
        | (refine g_drawA mix rfl rfl rfl rfl rfl rfl ?_; refine drun_ th rfl ?_)
        | (refine DOps.nil ?_; refine run_ th rfl ?_)
        | refine g_seq ?_
        | (refine g_region ?_; refine run_ th rfl ?_)
        | (refine g_drawC mix rfl rfl ?_; refine drun_ th rfl ?_)
        | (refine g_drawEC mix rfl rfl ?_; refine erun_ th rfl ?_)
        | refine SOps.nil ?_
        | refine DOps.nil ?_
        | refine EOps.nil ?_ rfl rfl
        | refine g_block ?_
        | refine g_inBlock ?_
        | refine g_skip ?_
        | refine g_exit rfl ?_
        | refine g_if_true rfl ?_
        | refine g_if_false rfl ?_
        | (refine s_split rfl rfl (fun hb => ?_) (fun hb => ?_) <;> (try simp only [decide_eq_true_eq, decide_eq_false_iff_not, Bool.not_eq_true', Bool.not_eq_false', Bool.not_eq_true, Bool.not_eq_false, Bool.not_true, Bool.not_false, Bool.false_eq_true, Bool.true_eq_false, reduceCtorEq, not_true_eq_false, not_false_eq_true, List.length_map] at hb) <;> first | (exfalso; omega) | refine run_ th rfl ?_)
        | (refine d_split rfl rfl rfl (fun hb => ?_) (fun hb => ?_) <;> (try simp only [decide_eq_true_eq, decide_eq_false_iff_not, Bool.not_eq_true', Bool.not_eq_false', Bool.not_eq_true, Bool.not_eq_false, Bool.not_true, Bool.not_false, Bool.false_eq_true, Bool.true_eq_false, reduceCtorEq, not_true_eq_false, not_false_eq_true, List.length_map] at hb) <;> first | (exfalso; omega) | refine drun_ th rfl ?_)
        | (refine g_if rfl (fun hb => ?_) (fun hb => ?_) <;> (try simp only [decide_eq_true_eq, decide_eq_false_iff_not, Bool.not_eq_true', Bool.not_eq_false', Bool.not_eq_true, Bool.not_eq_false, Bool.not_true, Bool.not_false, Bool.false_eq_true, Bool.true_eq_false, reduceCtorEq, not_true_eq_false, not_false_eq_true, List.length_map] at hb) <;> (try (exfalso; omega)))
        | (refine s_call spq [] rfl rfl rfl rfl rfl rfl rfl rfl rfl rfl ?_; refine run_ th rfl ?_)
        | (refine d_call s1 [] rfl rfl rfl rfl rfl rfl rfl rfl rfl rfl rfl ?_; refine drun_ th rfl ?_)
        | (refine d_call s2 [] rfl rfl rfl rfl rfl rfl rfl rfl rfl rfl rfl ?_; refine drun_ th rfl ?_)
        | (refine d_call s3 [] rfl rfl rfl rfl rfl rfl rfl rfl rfl rfl rfl ?_; refine drun_ th rfl ?_)
        | (refine d_call s4 [] rfl rfl rfl rfl rfl rfl rfl rfl rfl rfl rfl ?_; refine drun_ th rfl ?_)
        | (refine d_call s5 [] rfl rfl rfl rfl rfl rfl rfl rfl rfl rfl rfl ?_; refine drun_ th rfl ?_)
        | (refine d_call s6 [] rfl rfl rfl rfl rfl rfl rfl rfl rfl rfl rfl ?_; refine drun_ th rfl ?_)
        | (exfalso; revert hb; simp; done))
    all_goals
      refine g_endL th Tryd.func8 (.inr ⟨_, rfl⟩) rfl rfl rfl ?_ rfl
      first
      | exact .refl _
      | (exfalso; simp_all; done)
  · have hF : (u1 && u2) = false := by cases u1 <;> cases u2 <;> simp_all
    rw [hF] at spq
    clear hu1 hu2 hE s3 s4 s5 s6
    cases u1 <;> cases u2
    all_goals first
      | (exfalso; revert hT; simp; done)
      | skip
    all_goals
      repeat' (first
        | (refine g_drawA mix rfl rfl rfl rfl rfl rfl ?_; refine drun_ th rfl ?_)
        | (refine DOps.nil ?_; refine run_ th rfl ?_)
        | refine g_seq ?_
        | (refine g_region ?_; refine run_ th rfl ?_)
        | (refine g_drawC mix rfl rfl ?_; refine drun_ th rfl ?_)
        | (refine g_drawEC mix rfl rfl ?_; refine erun_ th rfl ?_)
        | refine SOps.nil ?_
        | refine DOps.nil ?_
        | refine EOps.nil ?_ rfl rfl
        | refine g_block ?_
        | refine g_inBlock ?_
        | refine g_skip ?_
        | refine g_exit rfl ?_
        | refine g_if_true rfl ?_
        | refine g_if_false rfl ?_
        | (refine s_split rfl rfl (fun hb => ?_) (fun hb => ?_) <;> (try simp only [decide_eq_true_eq, decide_eq_false_iff_not, Bool.not_eq_true', Bool.not_eq_false', Bool.not_eq_true, Bool.not_eq_false, Bool.not_true, Bool.not_false, Bool.false_eq_true, Bool.true_eq_false, reduceCtorEq, not_true_eq_false, not_false_eq_true, List.length_map] at hb) <;> first | (exfalso; omega) | refine run_ th rfl ?_)
        | (refine d_split rfl rfl rfl (fun hb => ?_) (fun hb => ?_) <;> (try simp only [decide_eq_true_eq, decide_eq_false_iff_not, Bool.not_eq_true', Bool.not_eq_false', Bool.not_eq_true, Bool.not_eq_false, Bool.not_true, Bool.not_false, Bool.false_eq_true, Bool.true_eq_false, reduceCtorEq, not_true_eq_false, not_false_eq_true, List.length_map] at hb) <;> first | (exfalso; omega) | refine drun_ th rfl ?_)
        | (refine g_if rfl (fun hb => ?_) (fun hb => ?_) <;> (try simp only [decide_eq_true_eq, decide_eq_false_iff_not, Bool.not_eq_true', Bool.not_eq_false', Bool.not_eq_true, Bool.not_eq_false, Bool.not_true, Bool.not_false, Bool.false_eq_true, Bool.true_eq_false, reduceCtorEq, not_true_eq_false, not_false_eq_true, List.length_map] at hb) <;> (try (exfalso; omega)))
        | (refine s_call spq [] rfl rfl rfl rfl rfl rfl rfl rfl rfl rfl ?_; refine run_ th rfl ?_)
        | (refine d_call s1 [] rfl rfl rfl rfl rfl rfl rfl rfl rfl rfl rfl ?_; refine drun_ th rfl ?_)
        | (refine d_call s2 [] rfl rfl rfl rfl rfl rfl rfl rfl rfl rfl rfl ?_; refine drun_ th rfl ?_)
        | (exfalso; revert hb; simp; done))
    all_goals
      refine g_endL th Tryd.func8 (.inr ⟨_, rfl⟩) rfl rfl rfl ?_ rfl
      first
      | exact .refl _
      | (exfalso; simp_all; done)
end Go.Sy
