/- Contracts: few, StageTells. -/
import Derived.Test.YthjpcefjgmklfaaRf3
import Derived.Test.YthjpcefjgmklfaaGl
import Derived.Test.YthjpcefjgmklfaaFo
set_option linter.unusedSimpArgs false
set_option linter.unusedVariables false
set_option linter.unusedSectionVars false
namespace Go.Sy
open Go.Proofs
set_option maxRecDepth 100000
attribute [local irreducible] SOps Goes DOps EOps FOps

def fewN (x : Nd) : Bool := decide (x.arms.length ≤ 10)
def fewB (b : Bk) (s : Stg) : Bool := b.nodes.all fewN && (s.mail.all (fun m => decide (m.length ≤ 80)) && (decide (b.nodes.length ≤ 40) && (decide (b.names.length ≤ 20) && (decide (s.at_.length ≤ 10) && decide (s.mail.length ≤ 40)))))
theorem few_arms {b : Bk} {s : Stg} (h : fewB b s = true) : ArmsFew b := by
  intro x hx
  simp only [fewB, Bool.and_eq_true, List.all_eq_true] at h
  have := h.1 x hx
  simp only [fewN, decide_eq_true_eq] at this
  omega

set_option maxHeartbeats 8000000 in
theorem few_c (b : Bk) (s : Stg) : Con Try.prog 20 [] [Ag b.cs, Ag s.cs] (Rv (.bool (fewB b s))) [] := by
  obtain ⟨nodes, names, roots⟩ := b
  obtain ⟨at_, mail⟩ := s
  refine con_of (c := _) Try.func20 rfl rfl rfl (by decide) fun w M0 H Z => ?_
  repeat' (first
    | refine g_seq ?_
    | (refine g_region ?_; refine run_ th rfl ?_)
    | refine SOps.nil ?_
    | refine g_block ?_
    | refine g_inBlock ?_
    | refine g_skip ?_
    | refine g_exit rfl ?_
    | refine g_if_true rfl ?_
    | refine g_if_false rfl ?_
    | (refine s_split rfl rfl (fun hb => ?_) (fun hb => ?_) <;> (try simp only [decide_eq_true_eq, decide_eq_false_iff_not, Bool.not_eq_true', Bool.not_eq_false', Bool.not_eq_true, Bool.not_eq_false, Bool.not_true, Bool.not_false, Bool.false_eq_true, Bool.true_eq_false, reduceCtorEq, not_true_eq_false, not_false_eq_true, List.length_map] at hb) <;> first | (exfalso; omega) | refine run_ th rfl ?_)
    | (refine g_if rfl (fun hb => ?_) (fun hb => ?_) <;> (try simp only [decide_eq_true_eq, decide_eq_false_iff_not, Bool.not_eq_true', Bool.not_eq_false', Bool.not_eq_true, Bool.not_eq_false, Bool.not_true, Bool.not_false, Bool.false_eq_true, Bool.true_eq_false, reduceCtorEq, not_true_eq_false, not_false_eq_true, List.length_map] at hb) <;> (try (exfalso; omega))))
  refine g_lenB 2 0 rfl rfl fun hnl => ?_
  refine g_lenB 3 1 rfl rfl fun hml => ?_
  simp only [List.length_map] at hnl hml
  refine g_loop1 (fun k : Nat => k ≤ nodes.length ∧ (nodes.take k).all fewN = true)
    (fun k => [(2, .v (.one (.ptr 2 0))), (3, .v (.one (.ptr 3 0))), (5, .v (C1 (.int .i64 (k : Int))))])
    (fun _ => [(3, .box [.c (intsT at_), .c (mailT mail)]), (2, .box [.c (nodesT nodes), .c (namesT names), .c (intsT roots)])]) (fun k => nodes.length - k) 0 ⟨Nat.zero_le _, rfl⟩
    (fun a w h => h.sub (by exact ⟨⟨_, rfl, .refl _⟩, ⟨_, rfl, .refl _⟩, ⟨_, rfl, le_int rfl⟩, trivial⟩) (by exact ⟨⟨_, rfl, .refl _⟩, ⟨_, rfl, .refl _⟩, trivial⟩) rfl rfl rfl) (fun k hk ih => ?_)
  obtain ⟨hk, ha⟩ := hk
  by_cases hlt : k < nodes.length
  · have hx : (nodes.map Nd.cs)[k]? = some (nodes[k]).cs := by simp [hlt]
    repeat' (first
      | refine g_seq ?_
      | (refine g_region ?_; refine run_ th rfl ?_)
      | refine SOps.nil ?_
      | refine g_block ?_
      | refine g_inBlock ?_
      | refine g_skip ?_
      | refine g_exit rfl ?_
      | refine g_if_true rfl ?_
      | refine g_if_false rfl ?_
      | (refine s_split rfl rfl (fun hb => ?_) (fun hb => ?_) <;> (try simp only [decide_eq_true_eq, decide_eq_false_iff_not, Bool.not_eq_true', Bool.not_eq_false', Bool.not_eq_true, Bool.not_eq_false, Bool.not_true, Bool.not_false, Bool.false_eq_true, Bool.true_eq_false, reduceCtorEq, not_true_eq_false, not_false_eq_true, List.length_map] at hb) <;> first | (exfalso; omega) | refine run_ th rfl ?_)
      | (refine g_if rfl (fun hb => ?_) (fun hb => ?_) <;> (try simp only [decide_eq_true_eq, decide_eq_false_iff_not, Bool.not_eq_true', Bool.not_eq_false', Bool.not_eq_true, Bool.not_eq_false, Bool.not_true, Bool.not_false, Bool.false_eq_true, Bool.true_eq_false, reduceCtorEq, not_true_eq_false, not_false_eq_true, List.length_map] at hb) <;> (try (exfalso; omega)))
      | refine g_endL th Try.func20 (.inr ⟨_, rfl⟩) rfl rfl rfl ?_ rfl
      | (refine s_idx th rfl rfl rfl rfl rfl rfl rfl rfl rfl k _ rfl hx ?_; refine run_ th rfl ?_)
      | (refine s_add rfl rfl rfl rfl rfl rfl (by omega) ?_; refine run_ th rfl ?_))
    all_goals try simp only [List.length_map] at hb
    all_goals first
      | (have hf : fewB ⟨nodes, names, roots⟩ ⟨at_, mail⟩ = false := by
           have : nodes.all fewN = false := List.all_eq_false.2 ⟨nodes[k], List.getElem_mem hlt, by simp only [fewN, decide_eq_true_eq]; omega⟩
           simp [fewB, this]
         rw [hf]; exact .refl _)
      | (have hih := ih (k + 1) ⟨hlt, by
           rw [List.take_succ_eq_append_getElem hlt, List.all_append, ha]
           simp only [List.all_cons, List.all_nil, Bool.true_and, Bool.and_true, fewN, decide_eq_true_eq]; omega⟩ (by omega)
         exact g_sub (by exact ⟨⟨_, rfl, .refl _⟩, ⟨_, rfl, .refl _⟩, ⟨_, rfl, le_int (by omega)⟩, trivial⟩) (by exact ⟨⟨_, rfl, .refl _⟩, ⟨_, rfl, .refl _⟩, trivial⟩) rfl rfl rfl hih)
      | (exfalso; omega)
  · have hke : k = nodes.length := by omega
    subst hke
    rw [List.take_length] at ha
    clear ih
    repeat' (first
      | refine g_seq ?_
      | (refine g_region ?_; refine run_ th rfl ?_)
      | refine SOps.nil ?_
      | refine g_block ?_
      | refine g_inBlock ?_
      | refine g_skip ?_
      | refine g_exit rfl ?_
      | refine g_if_true rfl ?_
      | refine g_if_false rfl ?_
      | (refine s_split rfl rfl (fun hb => ?_) (fun hb => ?_) <;> (try simp only [decide_eq_true_eq, decide_eq_false_iff_not, Bool.not_eq_true', Bool.not_eq_false', Bool.not_eq_true, Bool.not_eq_false, Bool.not_true, Bool.not_false, Bool.false_eq_true, Bool.true_eq_false, reduceCtorEq, not_true_eq_false, not_false_eq_true, List.length_map] at hb) <;> first | (exfalso; omega) | refine run_ th rfl ?_)
      | (refine g_if rfl (fun hb => ?_) (fun hb => ?_) <;> (try simp only [decide_eq_true_eq, decide_eq_false_iff_not, Bool.not_eq_true', Bool.not_eq_false', Bool.not_eq_true, Bool.not_eq_false, Bool.not_true, Bool.not_false, Bool.false_eq_true, Bool.true_eq_false, reduceCtorEq, not_true_eq_false, not_false_eq_true, List.length_map] at hb) <;> (try (exfalso; omega)))
      | (exfalso; omega))
    refine g_loop1 (fun k : Nat => k ≤ mail.length ∧ (mail.take k).all (fun m => decide (m.length ≤ 80)) = true)
      (fun k => [(2, .v (.one (.ptr 2 0))), (3, .v (.one (.ptr 3 0))), (6, .v (C1 (.int .i64 (k : Int))))])
      (fun _ => [(3, .box [.c (intsT at_), .c (mailT mail)]), (2, .box [.c (nodesT nodes), .c (namesT names), .c (intsT roots)])]) (fun k => mail.length - k) 0 ⟨Nat.zero_le _, rfl⟩
      (fun a w h => h.sub (by exact ⟨⟨_, rfl, .refl _⟩, ⟨_, rfl, .refl _⟩, ⟨_, rfl, le_int rfl⟩, trivial⟩) (by exact ⟨⟨_, rfl, .refl _⟩, ⟨_, rfl, .refl _⟩, trivial⟩) rfl rfl rfl) (fun k hk ih => ?_)
    obtain ⟨hk, hm⟩ := hk
    by_cases hlt : k < mail.length
    · have hx : (mail.map fun x => [namesT x])[k]? = some [namesT mail[k]] := by simp [hlt]
      repeat' (first
        | refine g_seq ?_
        | (refine g_region ?_; refine run_ th rfl ?_)
        | refine SOps.nil ?_
        | refine g_block ?_
        | refine g_inBlock ?_
        | refine g_skip ?_
        | refine g_exit rfl ?_
        | refine g_if_true rfl ?_
        | refine g_if_false rfl ?_
        | (refine s_split rfl rfl (fun hb => ?_) (fun hb => ?_) <;> (try simp only [decide_eq_true_eq, decide_eq_false_iff_not, Bool.not_eq_true', Bool.not_eq_false', Bool.not_eq_true, Bool.not_eq_false, Bool.not_true, Bool.not_false, Bool.false_eq_true, Bool.true_eq_false, reduceCtorEq, not_true_eq_false, not_false_eq_true, List.length_map] at hb) <;> first | (exfalso; omega) | refine run_ th rfl ?_)
        | (refine g_if rfl (fun hb => ?_) (fun hb => ?_) <;> (try simp only [decide_eq_true_eq, decide_eq_false_iff_not, Bool.not_eq_true', Bool.not_eq_false', Bool.not_eq_true, Bool.not_eq_false, Bool.not_true, Bool.not_false, Bool.false_eq_true, Bool.true_eq_false, reduceCtorEq, not_true_eq_false, not_false_eq_true, List.length_map] at hb) <;> (try (exfalso; omega)))
        | refine g_endL th Try.func20 (.inr ⟨_, rfl⟩) rfl rfl rfl ?_ rfl
        | (refine s_idx th rfl rfl rfl rfl rfl rfl rfl rfl rfl k _ rfl hx ?_; refine run_ th rfl ?_)
        | (refine s_add rfl rfl rfl rfl rfl rfl (by omega) ?_; refine run_ th rfl ?_))
      all_goals try simp only [List.length_map] at hb
      all_goals first
        | (have hf : fewB ⟨nodes, names, roots⟩ ⟨at_, mail⟩ = false := by
             have : mail.all (fun m => decide (m.length ≤ 80)) = false := List.all_eq_false.2 ⟨mail[k], List.getElem_mem hlt, by simp only [decide_eq_true_eq]; omega⟩
             simp only [fewB, this]; simp
           rw [hf]; exact .refl _)
        | (have hih := ih (k + 1) ⟨hlt, by
             rw [List.take_succ_eq_append_getElem hlt, List.all_append, hm]
             simp only [List.all_cons, List.all_nil, Bool.true_and, Bool.and_true, decide_eq_true_eq]; omega⟩ (by omega)
           exact g_sub (by exact ⟨⟨_, rfl, .refl _⟩, ⟨_, rfl, .refl _⟩, ⟨_, rfl, le_int (by omega)⟩, trivial⟩) (by exact ⟨⟨_, rfl, .refl _⟩, ⟨_, rfl, .refl _⟩, trivial⟩) rfl rfl rfl hih)
        | (exfalso; omega)
    · have hke : k = mail.length := by omega
      subst hke
      rw [List.take_length] at hm
      clear ih
      have hfb : fewB ⟨nodes, names, roots⟩ ⟨at_, mail⟩ = (decide (nodes.length ≤ 40) && (decide (names.length ≤ 20) && (decide (at_.length ≤ 10) && decide (mail.length ≤ 40)))) := by simp only [fewB, ha, hm, Bool.true_and]
      rw [hfb]
      repeat' (first
        | refine g_seq ?_
        | (refine g_region ?_; refine run_ th rfl ?_)
        | refine SOps.nil ?_
        | refine g_block ?_
        | refine g_inBlock ?_
        | refine g_skip ?_
        | refine g_exit rfl ?_
        | refine g_if_true rfl ?_
        | refine g_if_false rfl ?_
        | (refine s_split rfl rfl (fun hb => ?_) (fun hb => ?_) <;> (try simp only [decide_eq_true_eq, decide_eq_false_iff_not, Bool.not_eq_true', Bool.not_eq_false', Bool.not_eq_true, Bool.not_eq_false, Bool.not_true, Bool.not_false, Bool.false_eq_true, Bool.true_eq_false, reduceCtorEq, not_true_eq_false, not_false_eq_true, List.length_map] at hb) <;> first | (exfalso; omega) | refine run_ th rfl ?_)
        | (refine g_if rfl (fun hb => ?_) (fun hb => ?_) <;> (try simp only [decide_eq_true_eq, decide_eq_false_iff_not, Bool.not_eq_true', Bool.not_eq_false', Bool.not_eq_true, Bool.not_eq_false, Bool.not_true, Bool.not_false, Bool.false_eq_true, Bool.true_eq_false, reduceCtorEq, not_true_eq_false, not_false_eq_true, List.length_map] at hb) <;> (try (exfalso; omega)))
        | refine g_endL th Try.func20 (.inr ⟨_, rfl⟩) rfl rfl rfl ?_ rfl
        | (exfalso; omega))
      all_goals try simp only [List.length_map] at *
      all_goals first
        | (rw [show (decide (nodes.length ≤ 40) && (decide (names.length ≤ 20) && (decide (at_.length ≤ 10) && decide (mail.length ≤ 40)))) = decide ((mail.length : Int) ≤ 40) by
             rw [Bool.eq_iff_iff]; simp only [Bool.and_eq_true, decide_eq_true_eq]; omega]
           exact .refl _)
        | (rw [show (decide (nodes.length ≤ 40) && (decide (names.length ≤ 20) && (decide (at_.length ≤ 10) && decide (mail.length ≤ 40)))) = false by
             rw [Bool.eq_false_iff]; simp only [ne_eq, Bool.and_eq_true, decide_eq_true_eq]; omega]
           exact .refl _)

set_option maxHeartbeats 16000000 in
theorem stageTells_c (b : Bk) (made : List Int) (roles : List ByteArray) (roots : List Int) (s : Stg) (m : Mv) (hbig : made.length * 8 ≤ 140737488355328) :
    Con Try.prog 7 [] [Ag b.cs, C1 (intsT made), C1 (namesT roles), C1 (intsT roots), Ag s.cs, Ag m.cs] (Rv (.bool true)) [] := by
  have hfw := few_c b s
  by_cases hlong : fewB b s = false ∨ roles.length > 10 ∨ roots.length > 10
  · skip
    refine con_of (c := _) Try.func7 rfl rfl rfl (by decide) fun w M0 H Z => ?_
    repeat' (first
      | refine g_seq ?_
      | (refine g_region ?_; refine run_ th rfl ?_)
      | refine SOps.nil ?_
      | refine g_block ?_
      | refine g_inBlock ?_
      | refine g_skip ?_
      | refine g_exit rfl ?_
      | refine g_if_true rfl ?_
      | refine g_if_false rfl ?_
      | (refine s_split rfl rfl (fun hb => ?_) (fun hb => ?_) <;> (try simp only [decide_eq_true_eq, decide_eq_false_iff_not, Bool.not_eq_true', Bool.not_eq_false', Bool.not_eq_true, Bool.not_eq_false, Bool.not_true, Bool.not_false, Bool.false_eq_true, Bool.true_eq_false, reduceCtorEq, not_true_eq_false, not_false_eq_true, List.length_map] at hb) <;> first | (exfalso; omega) | refine run_ th rfl ?_)
      | (refine g_if rfl (fun hb => ?_) (fun hb => ?_) <;> (try simp only [decide_eq_true_eq, decide_eq_false_iff_not, Bool.not_eq_true', Bool.not_eq_false', Bool.not_eq_true, Bool.not_eq_false, Bool.not_true, Bool.not_false, Bool.false_eq_true, Bool.true_eq_false, reduceCtorEq, not_true_eq_false, not_false_eq_true, List.length_map] at hb) <;> (try (exfalso; omega)))
      | (refine s_call first13_c [] rfl rfl rfl rfl rfl rfl rfl rfl rfl rfl ?_; refine run_ th rfl ?_)
      | (refine s_call hfw [] rfl rfl rfl rfl rfl rfl rfl rfl rfl rfl ?_; refine run_ th rfl ?_)
      | (exfalso; simp_all; omega)
      | (exfalso; revert hb; simp; done))
    all_goals refine g_endL th Try.func7 (.inr ⟨_, rfl⟩) rfl rfl rfl (.refl _) rfl
  · have hF : fewB b s = true := by cases h : fewB b s with
      | true => rfl
      | false => exact absurd (.inl h) hlong
    rw [hF] at hfw
    have hA := few_arms hF
    have hr1 : roles.length ≤ 10 := by omega
    have hr2 : roots.length ≤ 10 := by omega
    refine con_of (c := _) Try.func7 rfl rfl rfl (by decide) fun w M0 H Z => ?_
    repeat' (first
      | refine g_seq ?_
      | (refine g_region ?_; refine run_ th rfl ?_)
      | refine SOps.nil ?_
      | refine g_block ?_
      | refine g_inBlock ?_
      | refine g_skip ?_
      | refine g_exit rfl ?_
      | refine g_if_true rfl ?_
      | refine g_if_false rfl ?_
      | (refine s_split rfl rfl (fun hb => ?_) (fun hb => ?_) <;> (try simp only [decide_eq_true_eq, decide_eq_false_iff_not, Bool.not_eq_true', Bool.not_eq_false', Bool.not_eq_true, Bool.not_eq_false, Bool.not_true, Bool.not_false, Bool.false_eq_true, Bool.true_eq_false, reduceCtorEq, not_true_eq_false, not_false_eq_true, List.length_map] at hb) <;> first | (exfalso; omega) | refine run_ th rfl ?_)
      | (refine g_if rfl (fun hb => ?_) (fun hb => ?_) <;> (try simp only [decide_eq_true_eq, decide_eq_false_iff_not, Bool.not_eq_true', Bool.not_eq_false', Bool.not_eq_true, Bool.not_eq_false, Bool.not_true, Bool.not_false, Bool.false_eq_true, Bool.true_eq_false, reduceCtorEq, not_true_eq_false, not_false_eq_true, List.length_map] at hb) <;> (try (exfalso; omega)))
      | (refine s_call first13_c [] rfl rfl rfl rfl rfl rfl rfl rfl rfl rfl ?_; refine run_ th rfl ?_)
      | (refine s_call hfw [] rfl rfl rfl rfl rfl rfl rfl rfl rfl rfl ?_; refine run_ th rfl ?_)
      | (refine s_callN (new_c made (by simpa using hbig)) rfl rfl rfl rfl rfl rfl rfl ?_; refine run_ th rfl ?_)
      | (refine s_leB 41 1 (.intP .i64 fun a => 0 ≤ a ∧ a ≤ (made.length : Int)) rfl rfl (.intP (by simp)) ?_; refine s_callQ (book_c made) [41] rfl rfl rfl rfl rfl rfl rfl rfl rfl (fun res hr => by obtain ⟨b, _, _, _, rfl⟩ := hr; rfl) (fun res hr => ?_); obtain ⟨b1, hbk, hb1, hb8, rfl⟩ := hr; refine run_ th rfl ?_)
      | (exfalso; simp only [List.length_map] at *; omega)
      | (exfalso; revert hb; simp; done))
    · skip
      have hbeg := begin_c b1 roles roots (by omega)
      have hbegR := beginR_c b1 roles roots (by omega)
      generalize beginO b1 roles roots = r1 at hbeg hbegR
      have hdo := do_c b1 roles s m (book_few hbk)
      have hdoR := doR_c b1 roles s m
      generalize doO b1 roles s m = r2 at hdo hdoR
      have hmay := stagemay_c b1 roles s
      have hmayR := stagemayR_c b1 roles s
      generalize mayS b1 roles s = q1 at hmay hmayR
      have hmv := moves_c b1 roles s (book_few hbk)
      have hmvR := movesSR_c b1 roles s
      generalize movesS b1 roles s = l1 at hmv hmvR
      have hov := over_c b1 roles s
      have hovR := overR_c b1 roles s
      generalize overS b1 roles s = q2 at hov hovR
      have hsmv := sameMoves_c l1 l1
      simp only [decide_true] at hsmv
      have hs1 := sameR_c r1.1 r1.1
      have hs2 := sameR_c r2.1 r2.1
      rw [show sameS r1.1 r1.1 = true by simp [sameS]] at hs1
      rw [show sameS r2.1 r2.1 = true by simp [sameS]] at hs2
      have hs3 := same_c s r2.1
      have hs4 := sameR_c s r2.1
      generalize sameS s r2.1 = q3 at hs3 hs4
      repeat' (first
        | refine g_seq ?_
        | (refine g_region ?_; refine run_ th rfl ?_)
        | (refine g_drawC mix rfl rfl ?_; refine drun_ th rfl ?_)
        | (refine g_drawEC mix rfl rfl ?_; refine erun_ th rfl ?_)
        | refine SOps.nil ?_
        | refine DOps.nil ?_
        | refine EOps.nil ?_ rfl rfl
        | refine g_block ?_
        | refine g_inBlock ?_
        | refine g_skip ?_
        | refine g_exit rfl ?_
        | refine g_if_true rfl ?_
        | refine g_if_false rfl ?_
        | (refine s_split rfl rfl (fun hb => ?_) (fun hb => ?_) <;> (try simp only [decide_eq_true_eq, decide_eq_false_iff_not, Bool.not_eq_true', Bool.not_eq_false', Bool.not_eq_true, Bool.not_eq_false, Bool.not_true, Bool.not_false, Bool.false_eq_true, Bool.true_eq_false, reduceCtorEq, not_true_eq_false, not_false_eq_true, List.length_map] at hb) <;> first | (exfalso; omega) | refine run_ th rfl ?_)
        | (refine d_split rfl rfl rfl (fun hb => ?_) (fun hb => ?_) <;> (try simp only [decide_eq_true_eq, decide_eq_false_iff_not, Bool.not_eq_true', Bool.not_eq_false', Bool.not_eq_true, Bool.not_eq_false, Bool.not_true, Bool.not_false, Bool.false_eq_true, Bool.true_eq_false, reduceCtorEq, not_true_eq_false, not_false_eq_true, List.length_map] at hb) <;> first | (exfalso; omega) | refine drun_ th rfl ?_)
        | (refine g_if rfl (fun hb => ?_) (fun hb => ?_) <;> (try simp only [decide_eq_true_eq, decide_eq_false_iff_not, Bool.not_eq_true', Bool.not_eq_false', Bool.not_eq_true, Bool.not_eq_false, Bool.not_true, Bool.not_false, Bool.false_eq_true, Bool.true_eq_false, reduceCtorEq, not_true_eq_false, not_false_eq_true, List.length_map] at hb) <;> (try (exfalso; omega)))
        | (refine s_call hbeg [] rfl rfl rfl rfl rfl rfl rfl rfl rfl rfl ?_; refine run_ th rfl ?_)
        | (refine s_call hbegR [] rfl rfl rfl rfl rfl rfl rfl rfl rfl rfl ?_; refine run_ th rfl ?_)
        | (refine s_call hdo [] rfl rfl rfl rfl rfl rfl rfl rfl rfl rfl ?_; refine run_ th rfl ?_)
        | (refine s_call hdoR [] rfl rfl rfl rfl rfl rfl rfl rfl rfl rfl ?_; refine run_ th rfl ?_)
        | (refine d_call hs1 [] rfl rfl rfl rfl rfl rfl rfl rfl rfl rfl rfl ?_; refine drun_ th rfl ?_)
        | (refine d_call hs2 [] rfl rfl rfl rfl rfl rfl rfl rfl rfl rfl rfl ?_; refine drun_ th rfl ?_)
        | (refine d_call hmay [] rfl rfl rfl rfl rfl rfl rfl rfl rfl rfl rfl ?_; refine drun_ th rfl ?_)
        | (refine d_call hmayR [] rfl rfl rfl rfl rfl rfl rfl rfl rfl rfl rfl ?_; refine drun_ th rfl ?_)
        | (refine d_call hmv [] rfl rfl rfl rfl rfl rfl rfl rfl rfl rfl rfl ?_; refine drun_ th rfl ?_)
        | (refine d_call hmvR [] rfl rfl rfl rfl rfl rfl rfl rfl rfl rfl rfl ?_; refine drun_ th rfl ?_)
        | (refine d_call hsmv [] rfl rfl rfl rfl rfl rfl rfl rfl rfl rfl rfl ?_; refine drun_ th rfl ?_)
        | (refine d_call hov [] rfl rfl rfl rfl rfl rfl rfl rfl rfl rfl rfl ?_; refine drun_ th rfl ?_)
        | (refine d_call hovR [] rfl rfl rfl rfl rfl rfl rfl rfl rfl rfl rfl ?_; refine drun_ th rfl ?_)
        | (refine d_call hs3 [] rfl rfl rfl rfl rfl rfl rfl rfl rfl rfl rfl ?_; refine drun_ th rfl ?_)
        | (refine d_call hs4 [] rfl rfl rfl rfl rfl rfl rfl rfl rfl rfl rfl ?_; refine drun_ th rfl ?_)
        | (exfalso; revert hb; simp; done))
      all_goals
        refine g_endL th Try.func7 (.inr ⟨_, rfl⟩) rfl rfl rfl ?_ rfl
        cases q3 <;> exact .refl _
    · skip
      have hbeg := begin_c b roles roots (by omega)
      have hbegR := beginR_c b roles roots (by omega)
      generalize beginO b roles roots = r1 at hbeg hbegR
      have hdo := do_c b roles s m hA
      have hdoR := doR_c b roles s m
      generalize doO b roles s m = r2 at hdo hdoR
      have hmay := stagemay_c b roles s
      have hmayR := stagemayR_c b roles s
      generalize mayS b roles s = q1 at hmay hmayR
      have hmv := moves_c b roles s hA
      have hmvR := movesSR_c b roles s
      generalize movesS b roles s = l1 at hmv hmvR
      have hov := over_c b roles s
      have hovR := overR_c b roles s
      generalize overS b roles s = q2 at hov hovR
      have hsmv := sameMoves_c l1 l1
      simp only [decide_true] at hsmv
      have hs1 := sameR_c r1.1 r1.1
      have hs2 := sameR_c r2.1 r2.1
      rw [show sameS r1.1 r1.1 = true by simp [sameS]] at hs1
      rw [show sameS r2.1 r2.1 = true by simp [sameS]] at hs2
      have hs3 := same_c s r2.1
      have hs4 := sameR_c s r2.1
      generalize sameS s r2.1 = q3 at hs3 hs4
      repeat' (first
        | refine g_seq ?_
        | (refine g_region ?_; refine run_ th rfl ?_)
        | (refine g_drawC mix rfl rfl ?_; refine drun_ th rfl ?_)
        | (refine g_drawEC mix rfl rfl ?_; refine erun_ th rfl ?_)
        | refine SOps.nil ?_
        | refine DOps.nil ?_
        | refine EOps.nil ?_ rfl rfl
        | refine g_block ?_
        | refine g_inBlock ?_
        | refine g_skip ?_
        | refine g_exit rfl ?_
        | refine g_if_true rfl ?_
        | refine g_if_false rfl ?_
        | (refine s_split rfl rfl (fun hb => ?_) (fun hb => ?_) <;> (try simp only [decide_eq_true_eq, decide_eq_false_iff_not, Bool.not_eq_true', Bool.not_eq_false', Bool.not_eq_true, Bool.not_eq_false, Bool.not_true, Bool.not_false, Bool.false_eq_true, Bool.true_eq_false, reduceCtorEq, not_true_eq_false, not_false_eq_true, List.length_map] at hb) <;> first | (exfalso; omega) | refine run_ th rfl ?_)
        | (refine d_split rfl rfl rfl (fun hb => ?_) (fun hb => ?_) <;> (try simp only [decide_eq_true_eq, decide_eq_false_iff_not, Bool.not_eq_true', Bool.not_eq_false', Bool.not_eq_true, Bool.not_eq_false, Bool.not_true, Bool.not_false, Bool.false_eq_true, Bool.true_eq_false, reduceCtorEq, not_true_eq_false, not_false_eq_true, List.length_map] at hb) <;> first | (exfalso; omega) | refine drun_ th rfl ?_)
        | (refine g_if rfl (fun hb => ?_) (fun hb => ?_) <;> (try simp only [decide_eq_true_eq, decide_eq_false_iff_not, Bool.not_eq_true', Bool.not_eq_false', Bool.not_eq_true, Bool.not_eq_false, Bool.not_true, Bool.not_false, Bool.false_eq_true, Bool.true_eq_false, reduceCtorEq, not_true_eq_false, not_false_eq_true, List.length_map] at hb) <;> (try (exfalso; omega)))
        | (refine s_call hbeg [] rfl rfl rfl rfl rfl rfl rfl rfl rfl rfl ?_; refine run_ th rfl ?_)
        | (refine s_call hbegR [] rfl rfl rfl rfl rfl rfl rfl rfl rfl rfl ?_; refine run_ th rfl ?_)
        | (refine s_call hdo [] rfl rfl rfl rfl rfl rfl rfl rfl rfl rfl ?_; refine run_ th rfl ?_)
        | (refine s_call hdoR [] rfl rfl rfl rfl rfl rfl rfl rfl rfl rfl ?_; refine run_ th rfl ?_)
        | (refine d_call hs1 [] rfl rfl rfl rfl rfl rfl rfl rfl rfl rfl rfl ?_; refine drun_ th rfl ?_)
        | (refine d_call hs2 [] rfl rfl rfl rfl rfl rfl rfl rfl rfl rfl rfl ?_; refine drun_ th rfl ?_)
        | (refine d_call hmay [] rfl rfl rfl rfl rfl rfl rfl rfl rfl rfl rfl ?_; refine drun_ th rfl ?_)
        | (refine d_call hmayR [] rfl rfl rfl rfl rfl rfl rfl rfl rfl rfl rfl ?_; refine drun_ th rfl ?_)
        | (refine d_call hmv [] rfl rfl rfl rfl rfl rfl rfl rfl rfl rfl rfl ?_; refine drun_ th rfl ?_)
        | (refine d_call hmvR [] rfl rfl rfl rfl rfl rfl rfl rfl rfl rfl rfl ?_; refine drun_ th rfl ?_)
        | (refine d_call hsmv [] rfl rfl rfl rfl rfl rfl rfl rfl rfl rfl rfl ?_; refine drun_ th rfl ?_)
        | (refine d_call hov [] rfl rfl rfl rfl rfl rfl rfl rfl rfl rfl rfl ?_; refine drun_ th rfl ?_)
        | (refine d_call hovR [] rfl rfl rfl rfl rfl rfl rfl rfl rfl rfl rfl ?_; refine drun_ th rfl ?_)
        | (refine d_call hs3 [] rfl rfl rfl rfl rfl rfl rfl rfl rfl rfl rfl ?_; refine drun_ th rfl ?_)
        | (refine d_call hs4 [] rfl rfl rfl rfl rfl rfl rfl rfl rfl rfl rfl ?_; refine drun_ th rfl ?_)
        | (exfalso; revert hb; simp; done))
      all_goals
        refine g_endL th Try.func7 (.inr ⟨_, rfl⟩) rfl rfl rfl ?_ rfl
        cases q3 <;> exact .refl _
end Go.Sy
