/- Contracts: StageDiamond. -/
import Derived.Test.YthjpcefjgmklfaaGp
set_option linter.unusedSimpArgs false
set_option linter.unusedVariables false
set_option linter.unusedSectionVars false
namespace Go.Sy
open Go.Proofs
set_option maxRecDepth 100000
attribute [local irreducible] SOps Goes DOps EOps FOps

theorem dia_in {b : Bk} {s : Stg} {p q : Mv} (hp : p ∈ movesS b abL s) (hq : q ∈ movesS b abL s) (hne : ¬ p.role = q.role) : q ∈ movesS b abL (doS b abL s p) := by
  obtain ⟨hM, r1, t1, c1⟩ := mem_moves hp
  obtain ⟨_, r2, t2, c2⟩ := mem_moves hq
  have hr : r1 ≠ r2 := fun e => hne (by rw [c1.role, c2.role, e])
  exact moves_of (may_do hp) (c1.after hM c2 hr)
theorem dia_same {b : Bk} {s : Stg} {p q : Mv} (hp : p ∈ movesS b abL s) (hq : q ∈ movesS b abL s) (hne : ¬ p.role = q.role) : sameS (doS b abL (doS b abL s p) q) (doS b abL (doS b abL s q) p) = true := by
  obtain ⟨hM, r1, t1, c1⟩ := mem_moves hp
  obtain ⟨_, r2, t2, c2⟩ := mem_moves hq
  have hr : r1 ≠ r2 := fun e => hne (by rw [c1.role, c2.role, e])
  rw [do_comm hM c1 c2 hr]
  simp [sameS]
theorem c_same2 {b : Bk} {s : Stg} {p q : Mv} (hp : p ∈ movesS b abL s) (hq : q ∈ movesS b abL s) (hne : ¬ p.role = q.role) :
    Con Try.prog 35 [] [Ag (doS b abL (doS b abL s p) q).cs, Ag (doS b abL (doS b abL s q) p).cs] (Rv (.bool true)) [] := by
  have hc := same_c (doS b abL (doS b abL s p) q) (doS b abL (doS b abL s q) p)
  rw [dia_same hp hq hne] at hc
  exact hc
theorem c_mayT {b : Bk} {s : Stg} (h : mayS b abL s = true) : Con Try.prog 28 [] [Ag b.cs, C1 (namesT abL), Ag s.cs] (Rv (.bool true)) [] := by
  have hc := stagemay_c b abL s
  rw [h] at hc
  exact hc

theorem pickM_ix {l : List Mv} (h1 : 1 ≤ l.length) (h : l.length ≤ 100000000) (x : Int) : IntKind.i64.wrap ((IntKind.u64.wrap x).tmod (IntKind.u64.wrap ((l.map Mv.cs).length : Int))) = ((pickI l.length x).toNat : Int) := by
  rw [List.length_map]; exact (Int.toNat_of_nonneg (pickI_in h1 h x).1).symm

set_option maxHeartbeats 16000000 in
theorem stageDiamond_c (made l : List Int) (x y : Int) (hbig : (made.length + 1) * 8 ≤ 140737488355328) :
    Con Try.prog 9 [] [C1 (intsT made), C1 (intsT l), C1 (.int .i64 x), C1 (.int .i64 y)] (Rv (.bool true)) [] := by
  refine con_of (c := _) Try.func9 rfl rfl rfl (by decide) fun w M0 H Z => ?_
  repeat' (first
    | refine g_seq ?_
    | (refine g_region ?_; refine run_ th rfl ?_)
    | (refine g_drawC mix rfl rfl ?_; refine drun_ th rfl ?_)
    | (refine g_drawEC mix rfl rfl ?_; refine erun_ th rfl ?_)
    | refine SOps.nil ?_
    | refine DOps.nil ?_
    | refine EOps.nil ?_ rfl rfl
    | refine g_block ?_
    | refine g_inBlock ?_
    | refine g_skip ?_
    | refine g_exit rfl ?_
    | refine g_if_true rfl ?_
    | refine g_if_false rfl ?_
    | (refine s_split rfl rfl (fun hb => ?_) (fun hb => ?_) <;> (try simp only [decide_eq_true_eq, decide_eq_false_iff_not, Bool.not_eq_true', Bool.not_eq_false', Bool.not_eq_true, Bool.not_eq_false, Bool.not_true, Bool.not_false, Bool.false_eq_true, Bool.true_eq_false, reduceCtorEq, not_true_eq_false, not_false_eq_true, List.length_map] at hb) <;> first | (exfalso; omega) | refine run_ th rfl ?_)
    | (refine d_split rfl rfl rfl (fun hb => ?_) (fun hb => ?_) <;> (try simp only [decide_eq_true_eq, decide_eq_false_iff_not, Bool.not_eq_true', Bool.not_eq_false', Bool.not_eq_true, Bool.not_eq_false, Bool.not_true, Bool.not_false, Bool.false_eq_true, Bool.true_eq_false, reduceCtorEq, not_true_eq_false, not_false_eq_true, List.length_map] at hb) <;> first | (exfalso; omega) | refine drun_ th rfl ?_)
    | (refine g_if rfl (fun hb => ?_) (fun hb => ?_) <;> (try simp only [decide_eq_true_eq, decide_eq_false_iff_not, Bool.not_eq_true', Bool.not_eq_false', Bool.not_eq_true, Bool.not_eq_false, Bool.not_true, Bool.not_false, Bool.false_eq_true, Bool.true_eq_false, reduceCtorEq, not_true_eq_false, not_false_eq_true, List.length_map] at hb) <;> (try (exfalso; omega)))
    | (refine s_call first13_c [] rfl rfl rfl rfl rfl rfl rfl rfl rfl rfl ?_; refine run_ th rfl ?_)
    | (refine s_callQ (reached_c made l hbig) [] rfl rfl rfl rfl rfl rfl rfl rfl rfl (fun res hr => by obtain ⟨b, s, _, rfl⟩ := hr; rfl) (fun res hr => ?_); obtain ⟨b, s, hM, rfl⟩ := hr; have hfew := moves_few hM; refine run_ th rfl ?_)
    | (refine s_call (moves_c b abL s (book_few (mayS_book hM))) [] rfl rfl rfl rfl rfl rfl rfl rfl rfl rfl ?_; refine run_ th rfl ?_)
    | (refine s_call (c_mayT hM) [] rfl rfl rfl rfl rfl rfl rfl rfl rfl rfl ?_; refine run_ th rfl ?_)
    | (refine e_rem rfl rfl rfl rfl rfl rfl (by simp only [List.length_map]; rw [wrapU_id (by omega) (by omega)]; omega) ?_; refine erun_ th rfl ?_)
    | (refine e_idx th rfl rfl rfl rfl rfl rfl rfl rfl rfl (pickI (movesS b abL s).length x).toNat _ (pickM_ix (by omega) (by omega) x) (pickM_at (by omega) (by omega) x).1 ?_; refine erun_ th rfl ?_)
    | (refine e_idx th rfl rfl rfl rfl rfl rfl rfl rfl rfl (pickI (movesS b abL s).length y).toNat _ (pickM_ix (by omega) (by omega) y) (pickM_at (by omega) (by omega) y).1 ?_; refine erun_ th rfl ?_)
    | (refine s_call (c_do (pickM_at (by omega) (by omega) x).2) [] rfl rfl rfl rfl rfl rfl rfl rfl rfl rfl ?_; refine run_ th rfl ?_)
    | (refine s_call (c_do (pickM_at (by omega) (by omega) y).2) [] rfl rfl rfl rfl rfl rfl rfl rfl rfl rfl ?_; refine run_ th rfl ?_)
    | (refine s_call (c_do (dia_in (pickM_at (x := x) (by omega) (by omega)).2 (pickM_at (x := y) (by omega) (by omega)).2 (by omega))) [] rfl rfl rfl rfl rfl rfl rfl rfl rfl rfl ?_; refine run_ th rfl ?_)
    | (refine s_call (c_do (dia_in (pickM_at (x := y) (by omega) (by omega)).2 (pickM_at (x := x) (by omega) (by omega)).2 (by omega))) [] rfl rfl rfl rfl rfl rfl rfl rfl rfl rfl ?_; refine run_ th rfl ?_)
    | (refine s_call (c_same2 (pickM_at (x := x) (by omega) (by omega)).2 (pickM_at (x := y) (by omega) (by omega)).2 (by omega)) [] rfl rfl rfl rfl rfl rfl rfl rfl rfl rfl ?_; refine run_ th rfl ?_)
    | (refine d_call (c_same2 (pickM_at (x := x) (by omega) (by omega)).2 (pickM_at (x := y) (by omega) (by omega)).2 (by omega)) [] rfl rfl rfl rfl rfl rfl rfl rfl rfl rfl rfl ?_; refine drun_ th rfl ?_)
    | (exfalso; revert hb; simp; done))
  all_goals refine g_endL th Try.func9 (.inr ⟨_, rfl⟩) rfl rfl rfl (.refl _) rfl
end Go.Sy
