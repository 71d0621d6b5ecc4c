/- Contracts: slices.Clone as a row of one's own; stage.copied. -/
import Derived.Test.YthjpcefjgmklfaaGb
import Derived.Test.YthjpcefjgmklfaaSy8
set_option linter.unusedSimpArgs false
set_option linter.unusedVariables false
set_option linter.unusedSectionVars false
namespace Go.Sy
open Go.Proofs
set_option maxRecDepth 100000
attribute [local irreducible] SOps Goes DOps EOps FOps

theorem cloneIO_c (l : List Int) (hbig : l.length * 8 ≤ 140737488355328) : ConO Try.prog 46 [C1 (intsT l)] (fun _ : Value => True) (fun v => .v (C1 (.val v))) (fun v => [(3, 1, [(v, l.map fun r => [CT.int .i64 r])])]) := by
  refine conO_of (c := _) Try.func46 rfl rfl rfl (by decide) fun w M0 H => ?_
  repeat' (first
    | refine g_seq ?_
    | (refine g_region ?_; refine run_ th rfl ?_)
    | (refine g_drawC mix rfl rfl ?_; refine drun_ th rfl ?_)
    | (refine g_drawEC mix rfl rfl ?_; refine erun_ th rfl ?_)
    | refine SOps.nil ?_
    | refine DOps.nil ?_
    | refine EOps.nil ?_ rfl rfl
    | refine g_block ?_
    | refine g_inBlock ?_
    | refine g_skip ?_
    | refine g_exit rfl ?_
    | refine g_if_true rfl ?_
    | refine g_if_false rfl ?_
    | (refine s_split rfl rfl (fun hb => ?_) (fun hb => ?_) <;> (try simp only [decide_eq_true_eq, decide_eq_false_iff_not, Bool.not_eq_true', Bool.not_eq_false', Bool.not_eq_true, Bool.not_eq_false, Bool.not_true, Bool.not_false, Bool.false_eq_true, Bool.true_eq_false, reduceCtorEq, not_true_eq_false, not_false_eq_true, List.length_map] at hb) <;> first | (exfalso; omega) | refine run_ th rfl ?_)
    | (refine d_split rfl rfl rfl (fun hb => ?_) (fun hb => ?_) <;> (try simp only [decide_eq_true_eq, decide_eq_false_iff_not, Bool.not_eq_true', Bool.not_eq_false', Bool.not_eq_true, Bool.not_eq_false, Bool.not_true, Bool.not_false, Bool.false_eq_true, Bool.true_eq_false, reduceCtorEq, not_true_eq_false, not_false_eq_true, List.length_map] at hb) <;> first | (exfalso; omega) | refine drun_ th rfl ?_)
    | (refine g_if rfl (fun hb => ?_) (fun hb => ?_) <;> (try simp only [decide_eq_true_eq, decide_eq_false_iff_not, Bool.not_eq_true', Bool.not_eq_false', Bool.not_eq_true, Bool.not_eq_false, Bool.not_true, Bool.not_false, Bool.false_eq_true, Bool.true_eq_false, reduceCtorEq, not_true_eq_false, not_false_eq_true, List.length_map] at hb) <;> (try (exfalso; omega)))
    | (refine s_assignAny rfl rfl rfl rfl ?_; refine run_ th rfl ?_)
    | (refine s_isNil th rfl rfl rfl rfl rfl rfl rfl (fun b hnil => ?_); refine run_ th rfl ?_)
    | (refine s_appendF th rfl rfl rfl rfl rfl rfl rfl rfl rfl rfl rfl rfl rfl rfl (by constructor <;> simp <;> omega) ?_; refine run_ th rfl ?_))
  · have hl : l = [] := by simpa using hnil hb
    subst hl
    refine g_newPool 5 3 1 rfl rfl ?_
    refine g_nilPool 5 rfl rfl rfl rfl ?_
    refine g_nilT 2 rfl ?_
    exact g_endO th Try.func46 [5] (.slice none 0 0) (.inr ⟨_, rfl⟩) rfl rfl rfl rfl rfl rfl trivial
  · refine g_toPool 5 rfl rfl fun v => ?_
    exact g_endO th Try.func46 [5] v (.inr ⟨_, rfl⟩) rfl rfl rfl rfl rfl rfl trivial
theorem cloneSO_c (l : List ByteArray) (hbig : l.length * 16 ≤ 140737488355328) : ConO Try.prog 70 [C1 (namesT l)] (fun _ : Value => True) (fun v => .v (C1 (.val v))) (fun v => [(9, 1, [(v, l.map fun r => [CT.str r])])]) := by
  refine conO_of (c := _) Try.func70 rfl rfl rfl (by decide) fun w M0 H => ?_
  repeat' (first
    | refine g_seq ?_
    | (refine g_region ?_; refine run_ th rfl ?_)
    | (refine g_drawC mix rfl rfl ?_; refine drun_ th rfl ?_)
    | (refine g_drawEC mix rfl rfl ?_; refine erun_ th rfl ?_)
    | refine SOps.nil ?_
    | refine DOps.nil ?_
    | refine EOps.nil ?_ rfl rfl
    | refine g_block ?_
    | refine g_inBlock ?_
    | refine g_skip ?_
    | refine g_exit rfl ?_
    | refine g_if_true rfl ?_
    | refine g_if_false rfl ?_
    | (refine s_split rfl rfl (fun hb => ?_) (fun hb => ?_) <;> (try simp only [decide_eq_true_eq, decide_eq_false_iff_not, Bool.not_eq_true', Bool.not_eq_false', Bool.not_eq_true, Bool.not_eq_false, Bool.not_true, Bool.not_false, Bool.false_eq_true, Bool.true_eq_false, reduceCtorEq, not_true_eq_false, not_false_eq_true, List.length_map] at hb) <;> first | (exfalso; omega) | refine run_ th rfl ?_)
    | (refine d_split rfl rfl rfl (fun hb => ?_) (fun hb => ?_) <;> (try simp only [decide_eq_true_eq, decide_eq_false_iff_not, Bool.not_eq_true', Bool.not_eq_false', Bool.not_eq_true, Bool.not_eq_false, Bool.not_true, Bool.not_false, Bool.false_eq_true, Bool.true_eq_false, reduceCtorEq, not_true_eq_false, not_false_eq_true, List.length_map] at hb) <;> first | (exfalso; omega) | refine drun_ th rfl ?_)
    | (refine g_if rfl (fun hb => ?_) (fun hb => ?_) <;> (try simp only [decide_eq_true_eq, decide_eq_false_iff_not, Bool.not_eq_true', Bool.not_eq_false', Bool.not_eq_true, Bool.not_eq_false, Bool.not_true, Bool.not_false, Bool.false_eq_true, Bool.true_eq_false, reduceCtorEq, not_true_eq_false, not_false_eq_true, List.length_map] at hb) <;> (try (exfalso; omega)))
    | (refine s_assignAny rfl rfl rfl rfl ?_; refine run_ th rfl ?_)
    | (refine s_isNil th rfl rfl rfl rfl rfl rfl rfl (fun b hnil => ?_); refine run_ th rfl ?_)
    | (refine s_appendF th rfl rfl rfl rfl rfl rfl rfl rfl rfl rfl rfl rfl rfl rfl (by constructor <;> simp <;> omega) ?_; refine run_ th rfl ?_))
  · have hl : l = [] := by simpa using hnil hb
    subst hl
    refine g_newPool 5 9 1 rfl rfl ?_
    refine g_nilPool 5 rfl rfl rfl rfl ?_
    refine g_nilT 2 rfl ?_
    exact g_endO th Try.func70 [5] (.slice none 0 0) (.inr ⟨_, rfl⟩) rfl rfl rfl rfl rfl rfl trivial
  · refine g_toPool 5 rfl rfl fun v => ?_
    exact g_endO th Try.func70 [5] v (.inr ⟨_, rfl⟩) rfl rfl rfl rfl rfl rfl trivial

abbrev qrow (m : List ByteArray) : List (List CT) := m.map fun r => [CT.str r]
abbrev irow (l : List Int) : List (List CT) := l.map fun r => [CT.int .i64 r]
abbrev vrow (l : List Value) : List (List CT) := l.map fun h => [CT.val h]
abbrev qpool (hs : List Value) (ms : List (List ByteArray)) : PQ := (hs.zip ms).map fun q => (q.1, qrow q.2)
abbrev stgPools (s : Stg) (x : Value × Value × List Value) : PL := [(3, 1, [(x.1, irow s.at_)]), (25, 1, [(x.2.1, vrow x.2.2)]), (9, 1, qpool x.2.2 s.mail)]
structure StgBig (s : Stg) : Prop where
  at_ : s.at_.length * 8 ≤ 140737488355328
  mail : s.mail.length * 24 ≤ 140737488355328
  each : ∀ m ∈ s.mail, m.length * 16 ≤ 140737488355328

def cpET : Nat → Value × Value → TM
  | 1, x => [(20, .v (C1 (.val x.1)))]
  | 2, x => [(21, .v (C1 (.slice true 1 [[.val x.1]])))]
  | 3, x => [(22, .v (C1 (.val x.2)))]
  | _, _ => []
def cpMM (m : List ByteArray) (at_ : List Int) (qs : PQ) (vA vM : Value) (hs : List Value) : Nat → Value × Value → MM
  | 0, _ => [(93, .pool 9 1 qs), (92, .pool 25 1 [(vM, vrow hs)]), (91, .pool 3 1 [(vA, irow at_)]), (3, .box [.c (.val vA), .c (.val vM)]), (2, .box [.c .nils, .c .nils])]
  | 1, x | 2, x => [(99, .pool 9 1 [(x.1, qrow m)]), (93, .pool 9 1 qs), (92, .pool 25 1 [(vM, vrow hs)]), (91, .pool 3 1 [(vA, irow at_)]), (3, .box [.c (.val vA), .c (.val vM)]), (2, .box [.c .nils, .c .nils])]
  | 3, x => [(99, .pool 9 1 [(x.1, qrow m)]), (93, .pool 9 1 qs), (92, .pool 25 1 [(x.2, vrow hs ++ [[.val x.1]])]), (91, .pool 3 1 [(vA, irow at_)]), (3, .box [.c (.val vA), .c (.val vM)]), (2, .box [.c .nils, .c .nils])]
  | _, x => [(99, .pool 9 1 [(x.1, qrow m)]), (93, .pool 9 1 qs), (92, .pool 25 1 [(x.2, vrow hs ++ [[.val x.1]])]), (91, .pool 3 1 [(vA, irow at_)]), (3, .box [.c (.val vA), .c (.val x.2)]), (2, .box [.c .nils, .c .nils])]

set_option maxHeartbeats 4000000 in
theorem copied_c (s : Stg) (hb : StgBig s) : ConO Try.prog 48 [Ag s.cs] (fun x : Value × Value × List Value => x.2.2.length = s.mail.length) (fun x => .v (.agg [.c (.val x.1), .c (.val x.2.1)])) (stgPools s) := by
  refine conO_of (c := _) Try.func48 rfl rfl rfl (by decide) fun w M0 H => ?_
  repeat' (first
    | refine g_seq ?_
    | (refine g_region ?_; refine run_ th rfl ?_)
    | (refine g_drawC mix rfl rfl ?_; refine drun_ th rfl ?_)
    | (refine g_drawEC mix rfl rfl ?_; refine erun_ th rfl ?_)
    | refine SOps.nil ?_
    | refine DOps.nil ?_
    | refine EOps.nil ?_ rfl rfl
    | refine g_block ?_
    | refine g_inBlock ?_
    | refine g_skip ?_
    | refine g_exit rfl ?_
    | refine g_if_true rfl ?_
    | refine g_if_false rfl ?_
    | (refine s_split rfl rfl (fun hb => ?_) (fun hb => ?_) <;> (try simp only [decide_eq_true_eq, decide_eq_false_iff_not, Bool.not_eq_true', Bool.not_eq_false', Bool.not_eq_true, Bool.not_eq_false, Bool.not_true, Bool.not_false, Bool.false_eq_true, Bool.true_eq_false, reduceCtorEq, not_true_eq_false, not_false_eq_true, List.length_map] at hb) <;> first | (exfalso; omega) | refine run_ th rfl ?_)
    | (refine d_split rfl rfl rfl (fun hb => ?_) (fun hb => ?_) <;> (try simp only [decide_eq_true_eq, decide_eq_false_iff_not, Bool.not_eq_true', Bool.not_eq_false', Bool.not_eq_true, Bool.not_eq_false, Bool.not_true, Bool.not_false, Bool.false_eq_true, Bool.true_eq_false, reduceCtorEq, not_true_eq_false, not_false_eq_true, List.length_map] at hb) <;> first | (exfalso; omega) | refine drun_ th rfl ?_)
    | (refine g_if rfl (fun hb => ?_) (fun hb => ?_) <;> (try simp only [decide_eq_true_eq, decide_eq_false_iff_not, Bool.not_eq_true', Bool.not_eq_false', Bool.not_eq_true, Bool.not_eq_false, Bool.not_true, Bool.not_false, Bool.false_eq_true, Bool.true_eq_false, reduceCtorEq, not_true_eq_false, not_false_eq_true, List.length_map] at hb) <;> (try (exfalso; omega)))
    | (refine s_callO (cloneIO_c s.at_ hb.at_) [91] rfl rfl rfl rfl rfl rfl rfl rfl rfl (fun _ => rfl) (fun vA _ => ?_); refine run_ th rfl ?_))
  refine g_nilVal 3 1 rfl rfl ?_
  refine g_newPool 92 25 1 rfl rfl ?_
  refine g_nilPool 92 rfl rfl rfl rfl ?_
  refine g_newPool 93 9 1 rfl rfl ?_
  refine g_loop3 (fun (k : Nat) (_ : Value) (hs : List Value) => k ≤ s.mail.length ∧ hs.length = k)
    (fun k _ _ => [(2, .v (.one (.ptr 2 0))), (3, .v (.one (.ptr 3 0))), (11, .v (C1 (mailT s.mail))), (12, .v (C1 (.int .i64 (s.mail.length : Int)))), (13, .v (C1 (.int .i64 (k : Int))))])
    (fun k vM hs => [(93, .pool 9 1 (qpool hs (s.mail.take k))), (92, .pool 25 1 [(vM, vrow hs)]), (91, .pool 3 1 [(vA, irow s.at_)]), (3, .box [.c (.val vA), .c (.val vM)]), (2, .box [.c .nils, .c .nils])])
    (fun k _ _ => s.mail.length - k) 0 (.slice none 0 0) [] ⟨Nat.zero_le _, rfl⟩
    (fun a w h => h.sub (by exact ⟨⟨_, rfl, .refl _⟩, ⟨_, rfl, .refl _⟩, ⟨_, rfl, .refl _⟩, ⟨_, rfl, le_int (by simp)⟩, ⟨_, rfl, le_int rfl⟩, trivial⟩)
      (by exact ⟨⟨_, rfl, .refl _⟩, ⟨_, rfl, .refl _⟩, ⟨_, rfl, .refl _⟩, ⟨_, rfl, .refl _⟩, ⟨_, rfl, .refl _⟩, trivial⟩) rfl rfl rfl) (fun k vM hs hk ih => ?_)
  obtain ⟨hk, hhs⟩ := hk
  by_cases hlt : k < s.mail.length
  · have hx : (s.mail.map fun m => [namesT m])[k]? = some [namesT s.mail[k]] := by simp [hlt]
    have hbm := hb.each s.mail[k] (List.getElem_mem hlt)
    have hbn := hb.mail
    repeat' (first
      | (refine g_drawF (ι := Value × Value) [3, 4, 5, 7] [92] cpET (cpMM s.mail[k] s.at_ (qpool hs (s.mail.take k)) vA vM hs) (vM, vM) mix rfl (fun k x hk => by match k, hk with | 0, _ => (refine subG_spec ?_; repeat (first | exact trivial | refine ⟨rfl, ?_⟩)) | 1, _ => (refine subG_spec ?_; repeat (first | exact trivial | refine ⟨rfl, ?_⟩)) | 2, _ => (refine subG_spec ?_; repeat (first | exact trivial | refine ⟨rfl, ?_⟩)) | 3, _ => (refine subG_spec ?_; repeat (first | exact trivial | refine ⟨rfl, ?_⟩))) rfl (fun k x => by match k with | 0 => rfl | 1 => rfl | 2 => rfl | 3 => rfl | _ + 4 => rfl) rfl rfl (by simp) rfl rfl ?_; refine frun_ th rfl ?_)
      | refine g_seq ?_
      | (refine g_region ?_; refine run_ th rfl ?_)
      | (refine g_drawC mix rfl rfl ?_; refine drun_ th rfl ?_)
      | (refine g_drawEC mix rfl rfl ?_; refine erun_ th rfl ?_)
      | refine SOps.nil ?_
      | refine DOps.nil ?_
      | refine EOps.nil ?_ rfl rfl
      | refine g_block ?_
      | refine g_inBlock ?_
      | refine g_skip ?_
      | refine g_exit rfl ?_
      | refine g_if_true rfl ?_
      | refine g_if_false rfl ?_
      | (refine s_split rfl rfl (fun hb => ?_) (fun hb => ?_) <;> (try simp only [decide_eq_true_eq, decide_eq_false_iff_not, Bool.not_eq_true', Bool.not_eq_false', Bool.not_eq_true, Bool.not_eq_false, Bool.not_true, Bool.not_false, Bool.false_eq_true, Bool.true_eq_false, reduceCtorEq, not_true_eq_false, not_false_eq_true, List.length_map] at hb) <;> first | (exfalso; omega) | refine run_ th rfl ?_)
      | (refine d_split rfl rfl rfl (fun hb => ?_) (fun hb => ?_) <;> (try simp only [decide_eq_true_eq, decide_eq_false_iff_not, Bool.not_eq_true', Bool.not_eq_false', Bool.not_eq_true, Bool.not_eq_false, Bool.not_true, Bool.not_false, Bool.false_eq_true, Bool.true_eq_false, reduceCtorEq, not_true_eq_false, not_false_eq_true, List.length_map] at hb) <;> first | (exfalso; omega) | refine drun_ th rfl ?_)
      | (refine g_if rfl (fun hb => ?_) (fun hb => ?_) <;> (try simp only [decide_eq_true_eq, decide_eq_false_iff_not, Bool.not_eq_true', Bool.not_eq_false', Bool.not_eq_true, Bool.not_eq_false, Bool.not_true, Bool.not_false, Bool.false_eq_true, Bool.true_eq_false, reduceCtorEq, not_true_eq_false, not_false_eq_true, List.length_map] at hb) <;> (try (exfalso; omega)))
      | (refine s_idx th rfl rfl rfl rfl rfl rfl rfl rfl rfl k _ rfl hx ?_; refine run_ th rfl ?_))
    · refine FOps.nil ⟨Effs.cons rfl (fun x => ?_) (Effs.cons rfl (fun x => ?_) (Effs.cons rfl (fun x => ?_) (Effs.cons rfl (fun x => ?_) Effs.nil))), fun x => ?_⟩
      · exact ef_callO (cloneSO_c s.mail[k] hbm) [99] rfl rfl rfl rfl rfl rfl rfl rfl rfl rfl (fun _ => rfl) (fun v => (v, x.2)) (fun _ => rfl) (fun _ => rfl)
      · exact ef_val (op_lit th rfl rfl rfl rfl rfl rfl rfl rfl rfl (.refl _) rfl rfl) rfl rfl rfl rfl
      · exact ef_append (i := 92) th rfl rfl rfl rfl rfl rfl rfl rfl rfl rfl rfl rfl rfl rfl rfl rfl 0 rfl (by constructor <;> simp [hhs] <;> omega) (fun v' => (x.1, v')) (fun _ => rfl) (fun _ => rfl)
      · exact ef_store (i := 3) th rfl rfl rfl rfl rfl rfl rfl rfl rfl rfl rfl rfl
      · refine g_merge 99 93 rfl rfl rfl rfl rfl rfl rfl rfl rfl ?_
        repeat' (first
          | refine g_seq ?_
          | (refine g_region ?_; refine run_ th rfl ?_)
          | (refine g_drawC mix rfl rfl ?_; refine drun_ th rfl ?_)
          | (refine g_drawEC mix rfl rfl ?_; refine erun_ th rfl ?_)
          | refine SOps.nil ?_
          | refine DOps.nil ?_
          | refine EOps.nil ?_ rfl rfl
          | refine g_block ?_
          | refine g_inBlock ?_
          | refine g_skip ?_
          | refine g_exit rfl ?_
          | refine g_if_true rfl ?_
          | refine g_if_false rfl ?_
          | (refine s_split rfl rfl (fun hb => ?_) (fun hb => ?_) <;> (try simp only [decide_eq_true_eq, decide_eq_false_iff_not, Bool.not_eq_true', Bool.not_eq_false', Bool.not_eq_true, Bool.not_eq_false, Bool.not_true, Bool.not_false, Bool.false_eq_true, Bool.true_eq_false, reduceCtorEq, not_true_eq_false, not_false_eq_true, List.length_map] at hb) <;> first | (exfalso; omega) | refine run_ th rfl ?_)
          | (refine d_split rfl rfl rfl (fun hb => ?_) (fun hb => ?_) <;> (try simp only [decide_eq_true_eq, decide_eq_false_iff_not, Bool.not_eq_true', Bool.not_eq_false', Bool.not_eq_true, Bool.not_eq_false, Bool.not_true, Bool.not_false, Bool.false_eq_true, Bool.true_eq_false, reduceCtorEq, not_true_eq_false, not_false_eq_true, List.length_map] at hb) <;> first | (exfalso; omega) | refine drun_ th rfl ?_)
          | (refine g_if rfl (fun hb => ?_) (fun hb => ?_) <;> (try simp only [decide_eq_true_eq, decide_eq_false_iff_not, Bool.not_eq_true', Bool.not_eq_false', Bool.not_eq_true, Bool.not_eq_false, Bool.not_true, Bool.not_false, Bool.false_eq_true, Bool.true_eq_false, reduceCtorEq, not_true_eq_false, not_false_eq_true, List.length_map] at hb) <;> (try (exfalso; omega)))
          | (refine s_add rfl rfl rfl rfl rfl rfl (by omega) ?_; refine run_ th rfl ?_))
        have hq : qpool hs (s.mail.take k) ++ [(x.1, qrow s.mail[k])] = qpool (hs ++ [x.1]) (s.mail.take (k + 1)) := by
          rw [qpool, qpool, List.take_succ_eq_append_getElem hlt, List.zip_append (by simp; omega), List.map_append]; rfl
        have hv : vrow hs ++ [[.val x.1]] = vrow (hs ++ [x.1]) := by simp
        have hih := ih (k + 1) x.2 (hs ++ [x.1]) ⟨hlt, by simp [hhs]⟩ (by omega)
        exact g_sub (by exact ⟨⟨_, rfl, .refl _⟩, ⟨_, rfl, .refl _⟩, ⟨_, rfl, .refl _⟩, ⟨_, rfl, .refl _⟩, ⟨_, rfl, le_int (by omega)⟩, trivial⟩)
          (by exact ⟨⟨_, rfl, le_pool hq⟩, ⟨_, rfl, le_pool (by rw [hv])⟩, ⟨_, rfl, .refl _⟩, ⟨_, rfl, .refl _⟩, ⟨_, rfl, .refl _⟩, trivial⟩) rfl rfl rfl hih
  · have hke : k = s.mail.length := by omega
    repeat' (first
      | refine g_seq ?_
      | (refine g_region ?_; refine run_ th rfl ?_)
      | (refine g_drawC mix rfl rfl ?_; refine drun_ th rfl ?_)
      | (refine g_drawEC mix rfl rfl ?_; refine erun_ th rfl ?_)
      | refine SOps.nil ?_
      | refine DOps.nil ?_
      | refine EOps.nil ?_ rfl rfl
      | refine g_block ?_
      | refine g_inBlock ?_
      | refine g_skip ?_
      | refine g_exit rfl ?_
      | refine g_if_true rfl ?_
      | refine g_if_false rfl ?_
      | (refine s_split rfl rfl (fun hb => ?_) (fun hb => ?_) <;> (try simp only [decide_eq_true_eq, decide_eq_false_iff_not, Bool.not_eq_true', Bool.not_eq_false', Bool.not_eq_true, Bool.not_eq_false, Bool.not_true, Bool.not_false, Bool.false_eq_true, Bool.true_eq_false, reduceCtorEq, not_true_eq_false, not_false_eq_true, List.length_map] at hb) <;> first | (exfalso; omega) | refine run_ th rfl ?_)
      | (refine d_split rfl rfl rfl (fun hb => ?_) (fun hb => ?_) <;> (try simp only [decide_eq_true_eq, decide_eq_false_iff_not, Bool.not_eq_true', Bool.not_eq_false', Bool.not_eq_true, Bool.not_eq_false, Bool.not_true, Bool.not_false, Bool.false_eq_true, Bool.true_eq_false, reduceCtorEq, not_true_eq_false, not_false_eq_true, List.length_map] at hb) <;> first | (exfalso; omega) | refine drun_ th rfl ?_)
      | (refine g_if rfl (fun hb => ?_) (fun hb => ?_) <;> (try simp only [decide_eq_true_eq, decide_eq_false_iff_not, Bool.not_eq_true', Bool.not_eq_false', Bool.not_eq_true, Bool.not_eq_false, Bool.not_true, Bool.not_false, Bool.false_eq_true, Bool.true_eq_false, reduceCtorEq, not_true_eq_false, not_false_eq_true, List.length_map] at hb) <;> (try (exfalso; omega))))
    refine g_endO th Try.func48 [91, 92, 93] (vA, vM, hs) (.inr ⟨_, rfl⟩) rfl rfl rfl ?_ rfl rfl (by simp [hhs, hke])
    subst hke
    rw [List.take_length]
    rfl
end Go.Sy
