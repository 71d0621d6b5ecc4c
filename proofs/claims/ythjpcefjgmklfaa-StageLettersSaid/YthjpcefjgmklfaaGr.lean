/- Contracts: StageLetters. -/
import Derived.Test.YthjpcefjgmklfaaGq
set_option linter.unusedSimpArgs false
set_option linter.unusedVariables false
set_option linter.unusedSectionVars false
namespace Go.Sy
open Go.Proofs
set_option maxRecDepth 100000
attribute [local irreducible] SOps Goes DOps EOps FOps

theorem c_doNone {b : Bk} {s : Stg} (hM : mayS b abL s = true) (h : movesS b abL s = []) (m : Mv) : Con Try.prog 25 [] [Ag b.cs, C1 (namesT abL), Ag s.cs, Ag m.cs] (.tup [Ag (Stg.cs ⟨[], []⟩), C1 (.int .i64 1301)]) [] := by
  have hc := do_c b abL s m (book_few (mayS_book hM))
  rw [show doO b abL s m = (⟨[], []⟩, 1301) by simp [doO, hM, h]] at hc
  exact hc
structure LetF (b : Bk) (s : Stg) (p : Mv) (r : Nat) : Prop where
  lt : r < 2
  role : p.role = (r : Int)
  at1 : (s.at_.map fun r => [CT.int .i64 r])[1 - r]? = some [.int .i64 ((s.at_[1 - r]?).getD 0)]
  at2 : ((doS b abL s p).at_.map fun r => [CT.int .i64 r])[1 - r]? = some [.int .i64 ((s.at_[1 - r]?).getD 0)]
  here : (s.at_.map fun r => [CT.int .i64 r])[r]? = some [.int .i64 (atN s r : Int)] ∧ (b.nodes.map Nd.cs)[atN s r]? = some (stNd b s r).cs
  qlt : moveQ b abL s p < 4
  was : ∀ i, i < 4 → (s.mail.map fun m => [namesT m])[i]? = some [namesT (mailAt s i)]
  now : ∀ i, i < 4 → ((doS b abL s p).mail.map fun m => [namesT m])[i]? = some [namesT (if i = moveQ b abL s p then moveM b abL s p else mailAt s i)]
theorem letF {b : Bk} {s : Stg} {p : Mv} (h : p ∈ movesS b abL s) : ∃ r, LetF b s p r ∧
    ((p.kind = 1 ∧ (moveQ b abL s p : Int) = p.role * 2 + 1 - p.role ∧ moveM b abL s p = mailAt s (moveQ b abL s p) ++ [p.label] ∧ (mailAt s (moveQ b abL s p)).length < 64) ∨
     (p.kind = 2 ∧ (moveQ b abL s p : Int) = (1 - p.role) * 2 + p.role ∧ (stNd b s r).kind = 2 ∧ ∃ rest, mailAt s (moveQ b abL s p) = p.label :: rest ∧ moveM b abL s p = rest)) := by
  obtain ⟨hM, r, t, hc⟩ := mem_moves h
  obtain ⟨h1, h5, h3, h4, hro⟩ := mayS_at hM
  have hn : abL.length = 2 := rfl
  have hr := hc.lt
  have ht := hc.tlt
  have hne := hc.ne
  rw [hn] at hr ht h3 h4
  have hq := hc.qlt
  rw [hn] at hq
  have hat := do_at hc
  obtain ⟨o, ho, _⟩ := stepAt_set r p.label (stNd b s r).arms
  rw [ho] at hat
  have hro' := hro r hc.lt
  refine ⟨r, ⟨hr, hc.role, ?_, ?_, hro'.idx, hq, fun i hi => ?_, fun i hi => ?_⟩, ?_⟩
  · have : 1 - r < s.at_.length := by omega
    simp [this]
  · have hg : (doS b abL s p).at_[1 - r]? = s.at_[1 - r]? := by rw [hat, setO_get _ (by omega)]
    have : 1 - r < s.at_.length := by omega
    rw [List.getElem?_map, hg]
    simp [this]
  · have : i < s.mail.length := by omega
    simp [mailAt, this]
  · have hqm : moveQ b abL s p < s.mail.length := by omega
    have hml : mailAt (doS b abL s p) i = if i = moveQ b abL s p then moveM b abL s p else mailAt s i := mailAt_set hqm _ i
    have hil : i < (doS b abL s p).mail.length := by simp [doS]; omega
    rw [← hml]
    simp [mailAt, hil]
  · rcases hc.moveM with ⟨hk, hl, e⟩ | ⟨hk, rest, e1, e2⟩
    · rcases hc.queue with ⟨_, eq⟩ | ⟨k2, _⟩
      · refine .inl ⟨hk, ?_, e, hl⟩
        rw [eq, hn, hc.role]
        have : r = 0 ∨ r = 1 := by omega
        rcases this with rfl | rfl
        · have : t = 1 := by omega
          subst this; rfl
        · have : t = 0 := by omega
          subst this; rfl
      · omega
    · rcases hc.queue with ⟨k2, _⟩ | ⟨_, eq⟩
      · omega
      · refine .inr ⟨hk, ?_, ?_, rest, e1, e2⟩
        · rw [eq, hn, hc.role]
          have : r = 0 ∨ r = 1 := by omega
          rcases this with rfl | rfl
          · have : t = 1 := by omega
            subst this; rfl
          · have : t = 0 := by omega
            subst this; rfl
        · rcases hc.kind with ⟨k2, _⟩ | ⟨_, hk2, _⟩
          · omega
          · exact hk2

theorem mail_len {b : Bk} {s : Stg} (hM : mayS b abL s = true) (i : Nat) : (mailAt s i).length ≤ 64 := by
  by_cases h : i < s.mail.length
  · have hm : mailAt s i ∈ s.mail := by simp [mailAt, h]
    exact mayS_long hM _ hm
  · have : s.mail[i]? = none := List.getElem?_eq_none (by omega)
    simp [mailAt, this]
set_option maxHeartbeats 16000000 in
theorem stageLetters_c (made l : List Int) (x : Int) (hbig : (made.length + 1) * 8 ≤ 140737488355328) :
    Con Try.prog 10 [] [C1 (intsT made), C1 (intsT l), C1 (.int .i64 x)] (Rv (.bool true)) [] := by
  refine con_of (c := _) Try.func10 rfl rfl rfl (by decide) fun w M0 H Z => ?_
  repeat' (first
    | refine g_seq ?_
    | (refine g_region ?_; refine run_ th rfl ?_)
    | (refine g_drawC mix rfl rfl ?_; refine drun_ th rfl ?_)
    | (refine g_drawEC mix rfl rfl ?_; refine erun_ th rfl ?_)
    | refine SOps.nil ?_
    | refine DOps.nil ?_
    | refine EOps.nil ?_ rfl rfl
    | refine g_block ?_
    | refine g_inBlock ?_
    | refine g_skip ?_
    | refine g_exit rfl ?_
    | refine g_if_true rfl ?_
    | refine g_if_false rfl ?_
    | (refine s_split rfl rfl (fun hb => ?_) (fun hb => ?_) <;> (try simp only [decide_eq_true_eq, decide_eq_false_iff_not, Bool.not_eq_true', Bool.not_eq_false', Bool.not_eq_true, Bool.not_eq_false, Bool.not_true, Bool.not_false, Bool.false_eq_true, Bool.true_eq_false, reduceCtorEq, not_true_eq_false, not_false_eq_true, List.length_map] at hb) <;> first | (exfalso; omega) | refine run_ th rfl ?_)
    | (refine d_split rfl rfl rfl (fun hb => ?_) (fun hb => ?_) <;> (try simp only [decide_eq_true_eq, decide_eq_false_iff_not, Bool.not_eq_true', Bool.not_eq_false', Bool.not_eq_true, Bool.not_eq_false, Bool.not_true, Bool.not_false, Bool.false_eq_true, Bool.true_eq_false, reduceCtorEq, not_true_eq_false, not_false_eq_true, List.length_map] at hb) <;> first | (exfalso; omega) | refine drun_ th rfl ?_)
    | (refine g_if rfl (fun hb => ?_) (fun hb => ?_) <;> (try simp only [decide_eq_true_eq, decide_eq_false_iff_not, Bool.not_eq_true', Bool.not_eq_false', Bool.not_eq_true, Bool.not_eq_false, Bool.not_true, Bool.not_false, Bool.false_eq_true, Bool.true_eq_false, reduceCtorEq, not_true_eq_false, not_false_eq_true, List.length_map] at hb) <;> (try (exfalso; omega)))
    | (refine s_call first13_c [] rfl rfl rfl rfl rfl rfl rfl rfl rfl rfl ?_; refine run_ th rfl ?_)
    | (refine s_callQ (reached_c made l hbig) [] rfl rfl rfl rfl rfl rfl rfl rfl rfl (fun res hr => by obtain ⟨b, s, _, rfl⟩ := hr; rfl) (fun res hr => ?_); obtain ⟨b, s, hM, rfl⟩ := hr; have hfew := moves_few hM; refine run_ th rfl ?_)
    | (refine s_call (moves_c b abL s (book_few (mayS_book hM))) [] rfl rfl rfl rfl rfl rfl rfl rfl rfl rfl ?_; refine run_ th rfl ?_)
    | (refine s_call (c_doNone hM (List.eq_nil_of_length_eq_zero (by omega)) ⟨1, 0, ⟨#[120]⟩⟩) [] rfl rfl rfl rfl rfl rfl rfl rfl rfl rfl ?_; refine run_ th rfl ?_)
    | (exfalso; revert hb; simp; done))
  · refine g_endL th Try.func10 (.inr ⟨_, rfl⟩) rfl rfl rfl (.refl _) rfl
  have hl1 : 1 ≤ (movesS b abL s).length := by omega
  obtain ⟨hpx, hpm⟩ := pickM_at hl1 (by omega) x
  have hpe := pickM_ix hl1 (by omega) x
  obtain ⟨r, hF, hK⟩ := letF hpm
  obtain ⟨hr2, hrole, at1, at2, here, hq4, was, now⟩ := hF
  generalize hp : pickM (movesS b abL s) x = p at *
  rcases hK with ⟨hkd, hmq, hmm, hll⟩ | ⟨hkd, hmq, hnk, rest, hw, hmm⟩
  · skip
    repeat' (first
      | refine g_seq ?_
      | (refine g_region ?_; refine run_ th rfl ?_)
      | (refine g_drawC mix rfl rfl ?_; refine drun_ th rfl ?_)
      | (refine g_drawEC mix rfl rfl ?_; refine erun_ th rfl ?_)
      | refine SOps.nil ?_
      | refine DOps.nil ?_
      | refine EOps.nil ?_ rfl rfl
      | refine g_block ?_
      | refine g_inBlock ?_
      | refine g_skip ?_
      | refine g_exit rfl ?_
      | refine g_if_true rfl ?_
      | refine g_if_false rfl ?_
      | (refine s_split rfl rfl (fun hb => ?_) (fun hb => ?_) <;> (try simp only [decide_eq_true_eq, decide_eq_false_iff_not, Bool.not_eq_true', Bool.not_eq_false', Bool.not_eq_true, Bool.not_eq_false, Bool.not_true, Bool.not_false, Bool.false_eq_true, Bool.true_eq_false, reduceCtorEq, not_true_eq_false, not_false_eq_true, List.length_map] at hb) <;> first | (exfalso; omega) | refine run_ th rfl ?_)
      | (refine d_split rfl rfl rfl (fun hb => ?_) (fun hb => ?_) <;> (try simp only [decide_eq_true_eq, decide_eq_false_iff_not, Bool.not_eq_true', Bool.not_eq_false', Bool.not_eq_true, Bool.not_eq_false, Bool.not_true, Bool.not_false, Bool.false_eq_true, Bool.true_eq_false, reduceCtorEq, not_true_eq_false, not_false_eq_true, List.length_map] at hb) <;> first | (exfalso; omega) | refine drun_ th rfl ?_)
      | (refine g_if rfl (fun hb => ?_) (fun hb => ?_) <;> (try simp only [decide_eq_true_eq, decide_eq_false_iff_not, Bool.not_eq_true', Bool.not_eq_false', Bool.not_eq_true, Bool.not_eq_false, Bool.not_true, Bool.not_false, Bool.false_eq_true, Bool.true_eq_false, reduceCtorEq, not_true_eq_false, not_false_eq_true, List.length_map] at hb) <;> (try (exfalso; omega)))
      | (refine s_rem rfl rfl rfl rfl rfl rfl (by simp only [List.length_map]; rw [wrapU_id (by omega) (by omega)]; omega) ?_; refine run_ th rfl ?_)
      | (refine s_idx th rfl rfl rfl rfl rfl rfl rfl rfl rfl (pickI (movesS b abL s).length x).toNat _ hpe hpx ?_; refine run_ th rfl ?_)
      | (refine s_call (c_do hpm) [] rfl rfl rfl rfl rfl rfl rfl rfl rfl rfl ?_; refine run_ th rfl ?_)
      | (refine d_subI rfl rfl rfl rfl rfl rfl (by omega) ?_; refine drun_ th rfl ?_)
      | (refine d_idx th rfl rfl rfl rfl rfl rfl rfl rfl rfl (1 - r) _ (by omega) at1 ?_; refine drun_ th rfl ?_)
      | (refine d_idx th rfl rfl rfl rfl rfl rfl rfl rfl rfl (1 - r) _ (by omega) at2 ?_; refine drun_ th rfl ?_)
      | (refine s_mul rfl rfl rfl rfl rfl rfl (by omega) ?_; refine run_ th rfl ?_)
      | (refine s_add rfl rfl rfl rfl rfl rfl (by omega) ?_; refine run_ th rfl ?_)
      | (refine s_subI rfl rfl rfl rfl rfl rfl (by omega) ?_; refine run_ th rfl ?_)
      | (exfalso; omega)
      | (exfalso; revert hb; simp; done))
    refine g_loop1 (fun k : Nat => k ≤ 4)
      (fun k => [(7, .v (.one (.ptr 7 0))), (9, .v (.one (.ptr 9 0))), (14, .v (.one (.ptr 14 0))), (15, .v (.one (.ptr 15 0))), (17, .v (C1 (.int .i64 (moveQ b abL s p : Int)))), (18, .v (C1 (.int .i64 (k : Int))))])
      (fun _ => [(15, .box [.c (intsT (doS b abL s p).at_), .c (mailT (doS b abL s p).mail)]), (14, .box [.c (.int .i64 p.kind), .c (.int .i64 p.role), .c (.str p.label)]), (9, .box [.c (intsT s.at_), .c (mailT s.mail)]), (7, .box [.c (nodesT b.nodes), .c (namesT b.names), .c (intsT b.roots)])]) (fun k => 4 - k) 0 (Nat.zero_le _)
      (fun a w h => h.sub (by exact ⟨⟨_, rfl, .refl _⟩, ⟨_, rfl, .refl _⟩, ⟨_, rfl, .refl _⟩, ⟨_, rfl, .refl _⟩, ⟨_, rfl, le_int (by omega)⟩, ⟨_, rfl, le_int rfl⟩, trivial⟩) (by exact ⟨⟨_, rfl, .refl _⟩, ⟨_, rfl, .refl _⟩, ⟨_, rfl, .refl _⟩, ⟨_, rfl, .refl _⟩, trivial⟩) rfl rfl rfl) (fun k hk ih => ?_)
    have hlt4 : k < 4 ∨ k = 4 := by omega
    rcases hlt4 with hlt4 | rfl
    · have w1 := was k hlt4
      have n1 := now k hlt4
      have hih := ih (k + 1) (by omega) (by omega)
      by_cases hkq : k = moveQ b abL s p
      · rw [if_pos hkq] at n1
        subst hkq
        rw [hmm] at n1
        have nx : ((mailAt s (moveQ b abL s p) ++ [p.label]).map fun s => [CT.str s])[(mailAt s (moveQ b abL s p)).length]? = some [.str p.label] := by simp
        repeat' (first
          | refine g_seq ?_
          | (refine g_region ?_; refine run_ th rfl ?_)
          | (refine g_drawC mix rfl rfl ?_; refine drun_ th rfl ?_)
          | (refine g_drawEC mix rfl rfl ?_; refine erun_ th rfl ?_)
          | refine SOps.nil ?_
          | refine DOps.nil ?_
          | refine EOps.nil ?_ rfl rfl
          | refine g_block ?_
          | refine g_inBlock ?_
          | refine g_skip ?_
          | refine g_exit rfl ?_
          | refine g_if_true rfl ?_
          | refine g_if_false rfl ?_
          | (refine s_split rfl rfl (fun hb => ?_) (fun hb => ?_) <;> (try simp only [decide_eq_true_eq, decide_eq_false_iff_not, Bool.not_eq_true', Bool.not_eq_false', Bool.not_eq_true, Bool.not_eq_false, Bool.not_true, Bool.not_false, Bool.false_eq_true, Bool.true_eq_false, reduceCtorEq, not_true_eq_false, not_false_eq_true, List.length_map] at hb) <;> first | (exfalso; omega) | refine run_ th rfl ?_)
          | (refine d_split rfl rfl rfl (fun hb => ?_) (fun hb => ?_) <;> (try simp only [decide_eq_true_eq, decide_eq_false_iff_not, Bool.not_eq_true', Bool.not_eq_false', Bool.not_eq_true, Bool.not_eq_false, Bool.not_true, Bool.not_false, Bool.false_eq_true, Bool.true_eq_false, reduceCtorEq, not_true_eq_false, not_false_eq_true, List.length_map] at hb) <;> first | (exfalso; omega) | refine drun_ th rfl ?_)
          | (refine g_if rfl (fun hb => ?_) (fun hb => ?_) <;> (try simp only [decide_eq_true_eq, decide_eq_false_iff_not, Bool.not_eq_true', Bool.not_eq_false', Bool.not_eq_true, Bool.not_eq_false, Bool.not_true, Bool.not_false, Bool.false_eq_true, Bool.true_eq_false, reduceCtorEq, not_true_eq_false, not_false_eq_true, List.length_map] at hb) <;> (try (exfalso; omega)))
          | (refine d_idx th rfl rfl rfl rfl rfl rfl rfl rfl rfl (moveQ b abL s p) _ rfl w1 ?_; refine drun_ th rfl ?_)
          | (refine d_idx th rfl rfl rfl rfl rfl rfl rfl rfl rfl (moveQ b abL s p) _ rfl n1 ?_; refine drun_ th rfl ?_)
          | (refine d_idx th rfl rfl rfl rfl rfl rfl rfl rfl rfl (mailAt s (moveQ b abL s p)).length _ (by simp) nx ?_; refine drun_ th rfl ?_)
          | (refine d_add rfl rfl rfl rfl rfl rfl (by simp only [List.length_map]; omega) ?_; refine drun_ th rfl ?_)
          | (refine s_add rfl rfl rfl rfl rfl rfl (by omega) ?_; refine run_ th rfl ?_)
          | (exfalso; omega)
          | (exfalso; revert hb; simp; done))
        all_goals exact g_sub (by exact ⟨⟨_, rfl, .refl _⟩, ⟨_, rfl, .refl _⟩, ⟨_, rfl, .refl _⟩, ⟨_, rfl, .refl _⟩, ⟨_, rfl, .refl _⟩, ⟨_, rfl, le_int (by omega)⟩, trivial⟩) (by exact ⟨⟨_, rfl, .refl _⟩, ⟨_, rfl, .refl _⟩, ⟨_, rfl, .refl _⟩, ⟨_, rfl, .refl _⟩, trivial⟩) rfl rfl rfl hih
      · rw [if_neg hkq] at n1
        repeat' (first
          | refine g_seq ?_
          | (refine g_region ?_; refine run_ th rfl ?_)
          | (refine g_drawC mix rfl rfl ?_; refine drun_ th rfl ?_)
          | (refine g_drawEC mix rfl rfl ?_; refine erun_ th rfl ?_)
          | refine SOps.nil ?_
          | refine DOps.nil ?_
          | refine EOps.nil ?_ rfl rfl
          | refine g_block ?_
          | refine g_inBlock ?_
          | refine g_skip ?_
          | refine g_exit rfl ?_
          | refine g_if_true rfl ?_
          | refine g_if_false rfl ?_
          | (refine s_split rfl rfl (fun hb => ?_) (fun hb => ?_) <;> (try simp only [decide_eq_true_eq, decide_eq_false_iff_not, Bool.not_eq_true', Bool.not_eq_false', Bool.not_eq_true, Bool.not_eq_false, Bool.not_true, Bool.not_false, Bool.false_eq_true, Bool.true_eq_false, reduceCtorEq, not_true_eq_false, not_false_eq_true, List.length_map] at hb) <;> first | (exfalso; omega) | refine run_ th rfl ?_)
          | (refine d_split rfl rfl rfl (fun hb => ?_) (fun hb => ?_) <;> (try simp only [decide_eq_true_eq, decide_eq_false_iff_not, Bool.not_eq_true', Bool.not_eq_false', Bool.not_eq_true, Bool.not_eq_false, Bool.not_true, Bool.not_false, Bool.false_eq_true, Bool.true_eq_false, reduceCtorEq, not_true_eq_false, not_false_eq_true, List.length_map] at hb) <;> first | (exfalso; omega) | refine drun_ th rfl ?_)
          | (refine g_if rfl (fun hb => ?_) (fun hb => ?_) <;> (try simp only [decide_eq_true_eq, decide_eq_false_iff_not, Bool.not_eq_true', Bool.not_eq_false', Bool.not_eq_true, Bool.not_eq_false, Bool.not_true, Bool.not_false, Bool.false_eq_true, Bool.true_eq_false, reduceCtorEq, not_true_eq_false, not_false_eq_true, List.length_map] at hb) <;> (try (exfalso; omega)))
          | (refine d_idx th rfl rfl rfl rfl rfl rfl rfl rfl rfl k _ rfl w1 ?_; refine drun_ th rfl ?_)
          | (refine d_idx th rfl rfl rfl rfl rfl rfl rfl rfl rfl k _ rfl n1 ?_; refine drun_ th rfl ?_)
          | (refine s_add rfl rfl rfl rfl rfl rfl (by omega) ?_; refine run_ th rfl ?_)
          | (exfalso; omega)
          | (exfalso; revert hb; simp; done))
        all_goals exact g_sub (by exact ⟨⟨_, rfl, .refl _⟩, ⟨_, rfl, .refl _⟩, ⟨_, rfl, .refl _⟩, ⟨_, rfl, .refl _⟩, ⟨_, rfl, .refl _⟩, ⟨_, rfl, le_int (by omega)⟩, trivial⟩) (by exact ⟨⟨_, rfl, .refl _⟩, ⟨_, rfl, .refl _⟩, ⟨_, rfl, .refl _⟩, ⟨_, rfl, .refl _⟩, trivial⟩) rfl rfl rfl hih
    · skip
      repeat' (first
        | refine g_seq ?_
        | (refine g_region ?_; refine run_ th rfl ?_)
        | (refine g_drawC mix rfl rfl ?_; refine drun_ th rfl ?_)
        | (refine g_drawEC mix rfl rfl ?_; refine erun_ th rfl ?_)
        | refine SOps.nil ?_
        | refine DOps.nil ?_
        | refine EOps.nil ?_ rfl rfl
        | refine g_block ?_
        | refine g_inBlock ?_
        | refine g_skip ?_
        | refine g_exit rfl ?_
        | refine g_if_true rfl ?_
        | refine g_if_false rfl ?_
        | (refine s_split rfl rfl (fun hb => ?_) (fun hb => ?_) <;> (try simp only [decide_eq_true_eq, decide_eq_false_iff_not, Bool.not_eq_true', Bool.not_eq_false', Bool.not_eq_true, Bool.not_eq_false, Bool.not_true, Bool.not_false, Bool.false_eq_true, Bool.true_eq_false, reduceCtorEq, not_true_eq_false, not_false_eq_true, List.length_map] at hb) <;> first | (exfalso; omega) | refine run_ th rfl ?_)
        | (refine d_split rfl rfl rfl (fun hb => ?_) (fun hb => ?_) <;> (try simp only [decide_eq_true_eq, decide_eq_false_iff_not, Bool.not_eq_true', Bool.not_eq_false', Bool.not_eq_true, Bool.not_eq_false, Bool.not_true, Bool.not_false, Bool.false_eq_true, Bool.true_eq_false, reduceCtorEq, not_true_eq_false, not_false_eq_true, List.length_map] at hb) <;> first | (exfalso; omega) | refine drun_ th rfl ?_)
        | (refine g_if rfl (fun hb => ?_) (fun hb => ?_) <;> (try simp only [decide_eq_true_eq, decide_eq_false_iff_not, Bool.not_eq_true', Bool.not_eq_false', Bool.not_eq_true, Bool.not_eq_false, Bool.not_true, Bool.not_false, Bool.false_eq_true, Bool.true_eq_false, reduceCtorEq, not_true_eq_false, not_false_eq_true, List.length_map] at hb) <;> (try (exfalso; omega)))
        | (exfalso; omega))
      all_goals refine g_endL th Try.func10 (.inr ⟨_, rfl⟩) rfl rfl rfl (.refl _) rfl
  · skip
    repeat' (first
      | refine g_seq ?_
      | (refine g_region ?_; refine run_ th rfl ?_)
      | (refine g_drawC mix rfl rfl ?_; refine drun_ th rfl ?_)
      | (refine g_drawEC mix rfl rfl ?_; refine erun_ th rfl ?_)
      | refine SOps.nil ?_
      | refine DOps.nil ?_
      | refine EOps.nil ?_ rfl rfl
      | refine g_block ?_
      | refine g_inBlock ?_
      | refine g_skip ?_
      | refine g_exit rfl ?_
      | refine g_if_true rfl ?_
      | refine g_if_false rfl ?_
      | (refine s_split rfl rfl (fun hb => ?_) (fun hb => ?_) <;> (try simp only [decide_eq_true_eq, decide_eq_false_iff_not, Bool.not_eq_true', Bool.not_eq_false', Bool.not_eq_true, Bool.not_eq_false, Bool.not_true, Bool.not_false, Bool.false_eq_true, Bool.true_eq_false, reduceCtorEq, not_true_eq_false, not_false_eq_true, List.length_map] at hb) <;> first | (exfalso; omega) | refine run_ th rfl ?_)
      | (refine d_split rfl rfl rfl (fun hb => ?_) (fun hb => ?_) <;> (try simp only [decide_eq_true_eq, decide_eq_false_iff_not, Bool.not_eq_true', Bool.not_eq_false', Bool.not_eq_true, Bool.not_eq_false, Bool.not_true, Bool.not_false, Bool.false_eq_true, Bool.true_eq_false, reduceCtorEq, not_true_eq_false, not_false_eq_true, List.length_map] at hb) <;> first | (exfalso; omega) | refine drun_ th rfl ?_)
      | (refine g_if rfl (fun hb => ?_) (fun hb => ?_) <;> (try simp only [decide_eq_true_eq, decide_eq_false_iff_not, Bool.not_eq_true', Bool.not_eq_false', Bool.not_eq_true, Bool.not_eq_false, Bool.not_true, Bool.not_false, Bool.false_eq_true, Bool.true_eq_false, reduceCtorEq, not_true_eq_false, not_false_eq_true, List.length_map] at hb) <;> (try (exfalso; omega)))
      | (refine s_rem rfl rfl rfl rfl rfl rfl (by simp only [List.length_map]; rw [wrapU_id (by omega) (by omega)]; omega) ?_; refine run_ th rfl ?_)
      | (refine s_idx th rfl rfl rfl rfl rfl rfl rfl rfl rfl (pickI (movesS b abL s).length x).toNat _ hpe hpx ?_; refine run_ th rfl ?_)
      | (refine s_call (c_do hpm) [] rfl rfl rfl rfl rfl rfl rfl rfl rfl rfl ?_; refine run_ th rfl ?_)
      | (refine d_subI rfl rfl rfl rfl rfl rfl (by omega) ?_; refine drun_ th rfl ?_)
      | (refine d_idx th rfl rfl rfl rfl rfl rfl rfl rfl rfl (1 - r) _ (by omega) at1 ?_; refine drun_ th rfl ?_)
      | (refine d_idx th rfl rfl rfl rfl rfl rfl rfl rfl rfl (1 - r) _ (by omega) at2 ?_; refine drun_ th rfl ?_)
      | (refine s_mul rfl rfl rfl rfl rfl rfl (by omega) ?_; refine run_ th rfl ?_)
      | (refine s_add rfl rfl rfl rfl rfl rfl (by omega) ?_; refine run_ th rfl ?_)
      | (refine s_subI rfl rfl rfl rfl rfl rfl (by omega) ?_; refine run_ th rfl ?_)
      | (exfalso; omega)
      | (exfalso; revert hb; simp; done))
    refine g_loop1 (fun k : Nat => k ≤ 4)
      (fun k => [(7, .v (.one (.ptr 7 0))), (9, .v (.one (.ptr 9 0))), (14, .v (.one (.ptr 14 0))), (15, .v (.one (.ptr 15 0))), (17, .v (C1 (.int .i64 (moveQ b abL s p : Int)))), (18, .v (C1 (.int .i64 (k : Int))))])
      (fun _ => [(15, .box [.c (intsT (doS b abL s p).at_), .c (mailT (doS b abL s p).mail)]), (14, .box [.c (.int .i64 p.kind), .c (.int .i64 p.role), .c (.str p.label)]), (9, .box [.c (intsT s.at_), .c (mailT s.mail)]), (7, .box [.c (nodesT b.nodes), .c (namesT b.names), .c (intsT b.roots)])]) (fun k => 4 - k) 0 (Nat.zero_le _)
      (fun a w h => h.sub (by exact ⟨⟨_, rfl, .refl _⟩, ⟨_, rfl, .refl _⟩, ⟨_, rfl, .refl _⟩, ⟨_, rfl, .refl _⟩, ⟨_, rfl, le_int (by omega)⟩, ⟨_, rfl, le_int rfl⟩, trivial⟩) (by exact ⟨⟨_, rfl, .refl _⟩, ⟨_, rfl, .refl _⟩, ⟨_, rfl, .refl _⟩, ⟨_, rfl, .refl _⟩, trivial⟩) rfl rfl rfl) (fun k hk ih => ?_)
    have hlt4 : k < 4 ∨ k = 4 := by omega
    rcases hlt4 with hlt4 | rfl
    · have w1 := was k hlt4
      have n1 := now k hlt4
      have hih := ih (k + 1) (by omega) (by omega)
      by_cases hkq : k = moveQ b abL s p
      · rw [if_pos hkq] at n1
        subst hkq
        rw [hmm] at n1
        rw [hw] at w1
        have hml := mail_len hM (moveQ b abL s p)
        rw [hw, List.length_cons] at hml
        have nx : ((p.label :: rest).map fun s => [CT.str s])[0]? = some [.str p.label] := rfl
        repeat' (first
          | refine g_seq ?_
          | (refine g_region ?_; refine run_ th rfl ?_)
          | (refine g_drawC mix rfl rfl ?_; refine drun_ th rfl ?_)
          | (refine g_drawEC mix rfl rfl ?_; refine erun_ th rfl ?_)
          | refine SOps.nil ?_
          | refine DOps.nil ?_
          | refine EOps.nil ?_ rfl rfl
          | refine g_block ?_
          | refine g_inBlock ?_
          | refine g_skip ?_
          | refine g_exit rfl ?_
          | refine g_if_true rfl ?_
          | refine g_if_false rfl ?_
          | (refine s_split rfl rfl (fun hb => ?_) (fun hb => ?_) <;> (try simp only [decide_eq_true_eq, decide_eq_false_iff_not, Bool.not_eq_true', Bool.not_eq_false', Bool.not_eq_true, Bool.not_eq_false, Bool.not_true, Bool.not_false, Bool.false_eq_true, Bool.true_eq_false, reduceCtorEq, not_true_eq_false, not_false_eq_true, List.length_map] at hb) <;> first | (exfalso; omega) | refine run_ th rfl ?_)
          | (refine d_split rfl rfl rfl (fun hb => ?_) (fun hb => ?_) <;> (try simp only [decide_eq_true_eq, decide_eq_false_iff_not, Bool.not_eq_true', Bool.not_eq_false', Bool.not_eq_true, Bool.not_eq_false, Bool.not_true, Bool.not_false, Bool.false_eq_true, Bool.true_eq_false, reduceCtorEq, not_true_eq_false, not_false_eq_true, List.length_map] at hb) <;> first | (exfalso; omega) | refine drun_ th rfl ?_)
          | (refine g_if rfl (fun hb => ?_) (fun hb => ?_) <;> (try simp only [decide_eq_true_eq, decide_eq_false_iff_not, Bool.not_eq_true', Bool.not_eq_false', Bool.not_eq_true, Bool.not_eq_false, Bool.not_true, Bool.not_false, Bool.false_eq_true, Bool.true_eq_false, reduceCtorEq, not_true_eq_false, not_false_eq_true, List.length_map] at hb) <;> (try (exfalso; omega)))
          | (refine d_idx th rfl rfl rfl rfl rfl rfl rfl rfl rfl (moveQ b abL s p) _ rfl w1 ?_; refine drun_ th rfl ?_)
          | (refine d_idx th rfl rfl rfl rfl rfl rfl rfl rfl rfl (moveQ b abL s p) _ rfl n1 ?_; refine drun_ th rfl ?_)
          | (refine d_idx th rfl rfl rfl rfl rfl rfl rfl rfl rfl 0 _ rfl nx ?_; refine drun_ th rfl ?_)
          | (refine d_idx th rfl rfl rfl rfl rfl rfl rfl rfl rfl r _ (by omega) here.1 ?_; refine drun_ th rfl ?_)
          | (refine d_idx th rfl rfl rfl rfl rfl rfl rfl rfl rfl (atN s r) _ rfl here.2 ?_; refine drun_ th rfl ?_)
          | (refine d_add rfl rfl rfl rfl rfl rfl (by simp only [List.length_map]; omega) ?_; refine drun_ th rfl ?_)
          | (refine s_add rfl rfl rfl rfl rfl rfl (by omega) ?_; refine run_ th rfl ?_)
          | (exfalso; omega)
          | (exfalso; revert hb; simp; done))
        all_goals exact g_sub (by exact ⟨⟨_, rfl, .refl _⟩, ⟨_, rfl, .refl _⟩, ⟨_, rfl, .refl _⟩, ⟨_, rfl, .refl _⟩, ⟨_, rfl, .refl _⟩, ⟨_, rfl, le_int (by omega)⟩, trivial⟩) (by exact ⟨⟨_, rfl, .refl _⟩, ⟨_, rfl, .refl _⟩, ⟨_, rfl, .refl _⟩, ⟨_, rfl, .refl _⟩, trivial⟩) rfl rfl rfl hih
      · rw [if_neg hkq] at n1
        repeat' (first
          | refine g_seq ?_
          | (refine g_region ?_; refine run_ th rfl ?_)
          | (refine g_drawC mix rfl rfl ?_; refine drun_ th rfl ?_)
          | (refine g_drawEC mix rfl rfl ?_; refine erun_ th rfl ?_)
          | refine SOps.nil ?_
          | refine DOps.nil ?_
          | refine EOps.nil ?_ rfl rfl
          | refine g_block ?_
          | refine g_inBlock ?_
          | refine g_skip ?_
          | refine g_exit rfl ?_
          | refine g_if_true rfl ?_
          | refine g_if_false rfl ?_
          | (refine s_split rfl rfl (fun hb => ?_) (fun hb => ?_) <;> (try simp only [decide_eq_true_eq, decide_eq_false_iff_not, Bool.not_eq_true', Bool.not_eq_false', Bool.not_eq_true, Bool.not_eq_false, Bool.not_true, Bool.not_false, Bool.false_eq_true, Bool.true_eq_false, reduceCtorEq, not_true_eq_false, not_false_eq_true, List.length_map] at hb) <;> first | (exfalso; omega) | refine run_ th rfl ?_)
          | (refine d_split rfl rfl rfl (fun hb => ?_) (fun hb => ?_) <;> (try simp only [decide_eq_true_eq, decide_eq_false_iff_not, Bool.not_eq_true', Bool.not_eq_false', Bool.not_eq_true, Bool.not_eq_false, Bool.not_true, Bool.not_false, Bool.false_eq_true, Bool.true_eq_false, reduceCtorEq, not_true_eq_false, not_false_eq_true, List.length_map] at hb) <;> first | (exfalso; omega) | refine drun_ th rfl ?_)
          | (refine g_if rfl (fun hb => ?_) (fun hb => ?_) <;> (try simp only [decide_eq_true_eq, decide_eq_false_iff_not, Bool.not_eq_true', Bool.not_eq_false', Bool.not_eq_true, Bool.not_eq_false, Bool.not_true, Bool.not_false, Bool.false_eq_true, Bool.true_eq_false, reduceCtorEq, not_true_eq_false, not_false_eq_true, List.length_map] at hb) <;> (try (exfalso; omega)))
          | (refine d_idx th rfl rfl rfl rfl rfl rfl rfl rfl rfl k _ rfl w1 ?_; refine drun_ th rfl ?_)
          | (refine d_idx th rfl rfl rfl rfl rfl rfl rfl rfl rfl k _ rfl n1 ?_; refine drun_ th rfl ?_)
          | (refine s_add rfl rfl rfl rfl rfl rfl (by omega) ?_; refine run_ th rfl ?_)
          | (exfalso; omega)
          | (exfalso; revert hb; simp; done))
        all_goals exact g_sub (by exact ⟨⟨_, rfl, .refl _⟩, ⟨_, rfl, .refl _⟩, ⟨_, rfl, .refl _⟩, ⟨_, rfl, .refl _⟩, ⟨_, rfl, .refl _⟩, ⟨_, rfl, le_int (by omega)⟩, trivial⟩) (by exact ⟨⟨_, rfl, .refl _⟩, ⟨_, rfl, .refl _⟩, ⟨_, rfl, .refl _⟩, ⟨_, rfl, .refl _⟩, trivial⟩) rfl rfl rfl hih
    · skip
      repeat' (first
        | refine g_seq ?_
        | (refine g_region ?_; refine run_ th rfl ?_)
        | (refine g_drawC mix rfl rfl ?_; refine drun_ th rfl ?_)
        | (refine g_drawEC mix rfl rfl ?_; refine erun_ th rfl ?_)
        | refine SOps.nil ?_
        | refine DOps.nil ?_
        | refine EOps.nil ?_ rfl rfl
        | refine g_block ?_
        | refine g_inBlock ?_
        | refine g_skip ?_
        | refine g_exit rfl ?_
        | refine g_if_true rfl ?_
        | refine g_if_false rfl ?_
        | (refine s_split rfl rfl (fun hb => ?_) (fun hb => ?_) <;> (try simp only [decide_eq_true_eq, decide_eq_false_iff_not, Bool.not_eq_true', Bool.not_eq_false', Bool.not_eq_true, Bool.not_eq_false, Bool.not_true, Bool.not_false, Bool.false_eq_true, Bool.true_eq_false, reduceCtorEq, not_true_eq_false, not_false_eq_true, List.length_map] at hb) <;> first | (exfalso; omega) | refine run_ th rfl ?_)
        | (refine d_split rfl rfl rfl (fun hb => ?_) (fun hb => ?_) <;> (try simp only [decide_eq_true_eq, decide_eq_false_iff_not, Bool.not_eq_true', Bool.not_eq_false', Bool.not_eq_true, Bool.not_eq_false, Bool.not_true, Bool.not_false, Bool.false_eq_true, Bool.true_eq_false, reduceCtorEq, not_true_eq_false, not_false_eq_true, List.length_map] at hb) <;> first | (exfalso; omega) | refine drun_ th rfl ?_)
        | (refine g_if rfl (fun hb => ?_) (fun hb => ?_) <;> (try simp only [decide_eq_true_eq, decide_eq_false_iff_not, Bool.not_eq_true', Bool.not_eq_false', Bool.not_eq_true, Bool.not_eq_false, Bool.not_true, Bool.not_false, Bool.false_eq_true, Bool.true_eq_false, reduceCtorEq, not_true_eq_false, not_false_eq_true, List.length_map] at hb) <;> (try (exfalso; omega)))
        | (exfalso; omega))
      all_goals refine g_endL th Try.func10 (.inr ⟨_, rfl⟩) rfl rfl rfl (.refl _) rfl
end Go.Sy
