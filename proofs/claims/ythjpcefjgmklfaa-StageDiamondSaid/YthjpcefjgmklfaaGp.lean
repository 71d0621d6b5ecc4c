/- Contracts: a stage that is reached. -/
import Derived.Test.YthjpcefjgmklfaaGo
import Derived.Test.YthjpcefjgmklfaaGl
import Derived.Test.YthjpcefjgmklfaaFo
set_option linter.unusedSimpArgs false
set_option linter.unusedVariables false
set_option linter.unusedSectionVars false
namespace Go.Sy
open Go.Proofs
set_option maxRecDepth 100000
attribute [local irreducible] SOps Goes DOps EOps FOps

theorem pickI_in {n : Nat} (h1 : 1 ≤ n) (h : n ≤ 100000000) (x : Int) : 0 ≤ pickI n x ∧ pickI n x < n := pick_v (by omega) (by omega)
def ReachQ (res : ST) : Prop := ∃ (b : Bk) (s : Stg), mayS b abL s = true ∧ res = .tup [Ag b.cs, C1 (namesT abL), Ag s.cs, C1 (.bool true)]
theorem root_in {b : Bk} (h : bookB b = true) {i : Nat} (hi : i < b.roots.length) : 0 ≤ b.roots[i] ∧ b.roots[i] < (b.nodes.length : Int) := by
  simp only [bookB, Bool.and_eq_true, List.all_eq_true] at h
  have := h.2.2.1 i (List.mem_range.2 hi)
  unfold rootAt at this
  rw [List.getElem?_eq_getElem hi] at this
  simp only [Bool.and_eq_true, decide_eq_true_eq] at this
  exact ⟨this.1, this.2.1⟩
theorem may_begin {b : Bk} (h : bookB b = true) (h1 : 1 ≤ b.nodes.length) {x : Int} (hx : 0 ≤ x ∧ x < (b.nodes.length : Int)) : mayS b abL (stg0 abL.length [0, x]) = true := by
  refine mayS_of h (by decide) (by decide) (by decide) rfl rfl (fun v hv => ?_) (fun m hm => ?_)
  · rcases List.mem_cons.1 hv with rfl | hv
    · omega
    · rw [List.mem_singleton.1 hv]; exact hx
  · have : m = [] := List.eq_of_mem_replicate hm
    rw [this]; simp
theorem moves_few {b : Bk} {s : Stg} (h : mayS b abL s = true) : (movesS b abL s).length ≤ 2000000 := by
  unfold movesS
  rw [if_pos h]
  exact movesUp_len (book_few (mayS_book h)) abL s 2
/-- The move that is taken. -/
def pickM (l : List Mv) (x : Int) : Mv := (l[(pickI l.length x).toNat]?).getD ⟨0, 0, ⟨#[]⟩⟩
theorem pickM_at {l : List Mv} (h1 : 1 ≤ l.length) (h : l.length ≤ 100000000) (x : Int) : (l.map Mv.cs)[(pickI l.length x).toNat]? = some (pickM l x).cs ∧ pickM l x ∈ l := by
  have hp := pickI_in h1 h x
  have hl : (pickI l.length x).toNat < l.length := by omega
  constructor
  · simp [pickM, hl]
  · simp [pickM, hl]
theorem do_ok {b : Bk} {roles : List ByteArray} {s : Stg} {m : Mv} (h : m ∈ movesS b roles s) : doO b roles s m = (doS b roles s m, 0) := by
  have hM := (mem_moves h).1
  simp [doO, hM, h]

theorem c_beg {b : Bk} (h : bookB b = true) (h1 : 1 ≤ b.nodes.length) {x : Int} (hx : 0 ≤ x ∧ x < (b.nodes.length : Int)) : Con Try.prog 23 [] [Ag b.cs, C1 (namesT abL), C1 (intsT [0, x])] (.tup [Ag (stg0 abL.length [0, x]).cs, C1 (.int .i64 0)]) [] := by
  have hc := begin_c b abL [0, x] (by simp)
  rw [show beginO b abL [0, x] = (stg0 abL.length [0, x], 0) by rw [beginO, if_neg (by decide), if_pos (may_begin h h1 hx)]] at hc
  exact hc
theorem c_do {b : Bk} {s : Stg} {m : Mv} (h : m ∈ movesS b abL s) : Con Try.prog 25 [] [Ag b.cs, C1 (namesT abL), Ag s.cs, Ag m.cs] (.tup [Ag (doS b abL s m).cs, C1 (.int .i64 0)]) [] := by
  have hc := do_c b abL s m (book_few (mayS_book (mem_moves h).1))
  rw [do_ok h] at hc
  exact hc

def rdET : Nat → Unit → TM
  | 2, _ => [(11, .v (C1 (.int .i64 0)))]
  | _, _ => []
def rdBase (b : Bk) (s : Stg) (l : List Int) (k : Nat) : MM := [(10, .box [.c (intsT s.at_), .c (mailT s.mail)]), (8, .box [.c (nodesT b.nodes), .c (namesT b.names), .c (intsT b.roots)]), (6, .box [.c .nils, .c .nils]), (4, .box [.c .nils, .c .nils, .c .nils])]
def rdMM (b : Bk) (s t : Stg) (l : List Int) (k : Nat) : Nat → Unit → MM
  | 0, _ => rdBase b s l k
  | _, _ => rdBase b t l k

set_option maxHeartbeats 16000000 in
theorem reached_c (made l : List Int) (hbig : (made.length + 1) * 8 ≤ 140737488355328) : ConQ Try.prog 36 [] [C1 (intsT made), C1 (intsT l)] ReachQ [] := by
  refine ConQ.of (c := _) Try.func36 rfl rfl rfl (by decide) fun w M0 H Z => ?_
  refine g_len 1 rfl fun hll => ?_
  simp only [List.length_map] at hll
  repeat' (first
    | (refine g_freeze 19 rfl rfl ?_; refine g_leT 9 (.v (C1 (namesT abL))) rfl (.v (.one (.c (.nn true 1 _)))) ?_)
    | refine g_seq ?_
    | (refine g_region ?_; refine run_ th rfl ?_)
    | (refine g_drawC mix rfl rfl ?_; refine drun_ th rfl ?_)
    | (refine g_drawEC mix rfl rfl ?_; refine erun_ th rfl ?_)
    | refine SOps.nil ?_
    | refine DOps.nil ?_
    | refine EOps.nil ?_ rfl rfl
    | refine g_block ?_
    | refine g_inBlock ?_
    | refine g_skip ?_
    | refine g_exit rfl ?_
    | refine g_if_true rfl ?_
    | refine g_if_false rfl ?_
    | (refine s_split rfl rfl (fun hb => ?_) (fun hb => ?_) <;> (try simp only [decide_eq_true_eq, decide_eq_false_iff_not, Bool.not_eq_true', Bool.not_eq_false', Bool.not_eq_true, Bool.not_eq_false, Bool.not_true, Bool.not_false, Bool.false_eq_true, Bool.true_eq_false, reduceCtorEq, not_true_eq_false, not_false_eq_true, List.length_map] at hb) <;> first | (exfalso; omega) | refine run_ th rfl ?_)
    | (refine d_split rfl rfl rfl (fun hb => ?_) (fun hb => ?_) <;> (try simp only [decide_eq_true_eq, decide_eq_false_iff_not, Bool.not_eq_true', Bool.not_eq_false', Bool.not_eq_true, Bool.not_eq_false, Bool.not_true, Bool.not_false, Bool.false_eq_true, Bool.true_eq_false, reduceCtorEq, not_true_eq_false, not_false_eq_true, List.length_map] at hb) <;> first | (exfalso; omega) | refine drun_ th rfl ?_)
    | (refine g_if rfl (fun hb => ?_) (fun hb => ?_) <;> (try simp only [decide_eq_true_eq, decide_eq_false_iff_not, Bool.not_eq_true', Bool.not_eq_false', Bool.not_eq_true, Bool.not_eq_false, Bool.not_true, Bool.not_false, Bool.false_eq_true, Bool.true_eq_false, reduceCtorEq, not_true_eq_false, not_false_eq_true, List.length_map] at hb) <;> (try (exfalso; omega)))
    | (refine s_appendF th rfl rfl rfl rfl rfl rfl rfl rfl rfl rfl rfl rfl rfl rfl (by constructor <;> simp <;> omega) ?_; refine s_freeze 14 rfl rfl ?_; refine run_ th rfl ?_)
    | (refine s_callN (new_c (7 :: made) (by simpa using hbig)) rfl rfl rfl rfl rfl rfl rfl ?_; refine run_ th rfl ?_)
    | (refine s_leB 17 1 (.intP .i64 fun a => 0 ≤ a ∧ a ≤ ((7 :: made).length : Int)) rfl rfl (.intP (by simp; omega)) ?_; refine s_callQ (book2_c (7 :: made)) [17] rfl rfl rfl rfl rfl rfl rfl rfl rfl (fun res hr => by obtain ⟨b, _, _, _, rfl⟩ := hr; rfl) (fun res hr => ?_); obtain ⟨b, ⟨hbk, hb2⟩, hb1, hb8, rfl⟩ := hr; refine run_ th rfl ?_)
    | (refine e_idx th rfl rfl rfl rfl rfl rfl rfl rfl rfl 1 _ rfl (show (b.roots.map fun r => [CT.int .i64 r])[1]? = some [.int .i64 (b.roots[1]'(by omega))] by simp [hb2]) ?_; refine erun_ th rfl ?_)
    | (refine e_lit th rfl rfl rfl rfl rfl rfl rfl rfl rfl rfl rfl rfl (.nn true 1 _) ?_; refine erun_ th rfl ?_)
    | (refine e_call (c_beg hbk hb1 (root_in hbk (by omega))) rfl rfl rfl rfl rfl rfl rfl ?_; refine erun_ th rfl ?_))
  refine g_loop2 (fun (k : Nat) (s : Stg) => k ≤ l.length ∧ mayS b abL s = true)
    (fun k _ => [(1, .v (C1 (intsT l))), (4, .v (.one (.ptr 4 0))), (6, .v (.one (.ptr 6 0))), (8, .v (.one (.ptr 8 0))), (9, .v (C1 (namesT abL))), (10, .v (.one (.ptr 10 0))), (12, .v (C1 (.int .i64 (k : Int))))])
    (fun k s => rdBase b s l k) (fun k _ => l.length - k) 0 (stg0 abL.length [0, b.roots[1]'(by omega)]) ⟨Nat.zero_le _, may_begin hbk hb1 (root_in hbk (by omega))⟩
    (fun a w h => h.sub (by exact ⟨⟨_, rfl, .refl _⟩, ⟨_, rfl, .refl _⟩, ⟨_, rfl, .refl _⟩, ⟨_, rfl, .refl _⟩, ⟨_, rfl, .refl _⟩, ⟨_, rfl, .refl _⟩, ⟨_, rfl, le_int rfl⟩, trivial⟩) (by exact ⟨⟨_, rfl, .refl _⟩, ⟨_, rfl, .refl _⟩, ⟨_, rfl, .refl _⟩, ⟨_, rfl, .refl _⟩, trivial⟩) rfl rfl rfl) (fun k s hk ih => ?_)
  obtain ⟨hk, hM⟩ := hk
  have hfew := moves_few hM
  have hmv := moves_c b abL s (book_few (mayS_book hM))
  by_cases hlt : k < l.length
  · have hx : (l.map fun r => [CT.int .i64 r])[k]? = some [.int .i64 l[k]] := by simp [hlt]
    by_cases hne : movesS b abL s = []
    · rw [hne] at hmv
      repeat' (first
        | (refine g_drawGC [4, 6] mix rfl rfl rfl rfl rfl ?_; refine erun_ th rfl ?_)
        | refine g_seq ?_
        | (refine g_region ?_; refine run_ th rfl ?_)
        | (refine g_drawC mix rfl rfl ?_; refine drun_ th rfl ?_)
        | (refine g_drawEC mix rfl rfl ?_; refine erun_ th rfl ?_)
        | refine SOps.nil ?_
        | refine DOps.nil ?_
        | refine EOps.nil ?_ rfl rfl
        | refine g_block ?_
        | refine g_inBlock ?_
        | refine g_skip ?_
        | refine g_exit rfl ?_
        | refine g_if_true rfl ?_
        | refine g_if_false rfl ?_
        | (refine s_split rfl rfl (fun hb => ?_) (fun hb => ?_) <;> (try simp only [decide_eq_true_eq, decide_eq_false_iff_not, Bool.not_eq_true', Bool.not_eq_false', Bool.not_eq_true, Bool.not_eq_false, Bool.not_true, Bool.not_false, Bool.false_eq_true, Bool.true_eq_false, reduceCtorEq, not_true_eq_false, not_false_eq_true, List.length_map] at hb) <;> first | (exfalso; omega) | refine run_ th rfl ?_)
        | (refine d_split rfl rfl rfl (fun hb => ?_) (fun hb => ?_) <;> (try simp only [decide_eq_true_eq, decide_eq_false_iff_not, Bool.not_eq_true', Bool.not_eq_false', Bool.not_eq_true, Bool.not_eq_false, Bool.not_true, Bool.not_false, Bool.false_eq_true, Bool.true_eq_false, reduceCtorEq, not_true_eq_false, not_false_eq_true, List.length_map] at hb) <;> first | (exfalso; omega) | refine drun_ th rfl ?_)
        | (refine g_if rfl (fun hb => ?_) (fun hb => ?_) <;> (try simp only [decide_eq_true_eq, decide_eq_false_iff_not, Bool.not_eq_true', Bool.not_eq_false', Bool.not_eq_true, Bool.not_eq_false, Bool.not_true, Bool.not_false, Bool.false_eq_true, Bool.true_eq_false, reduceCtorEq, not_true_eq_false, not_false_eq_true, List.length_map] at hb) <;> (try (exfalso; omega)))
        | (refine s_call hmv [] rfl rfl rfl rfl rfl rfl rfl rfl rfl rfl ?_; refine run_ th rfl ?_)
        | (exfalso; revert hb; simp; done))
      all_goals
        refine g_wit (.tup [Ag b.cs, C1 (namesT abL), Ag s.cs, C1 (.bool true)]) ⟨b, s, hM, rfl⟩ ?_
        refine g_endL th Try.func36 (.inr ⟨_, rfl⟩) rfl rfl rfl (.refl _) rfl
    · have hl1 : 1 ≤ (movesS b abL s).length := List.length_pos_iff.2 hne
      obtain ⟨hpx, hpm⟩ := pickM_at hl1 (by omega) l[k]
      have hpi := pickI_in hl1 (by omega) l[k]
      have hpe : IntKind.i64.wrap ((IntKind.u64.wrap l[k]).tmod (IntKind.u64.wrap ↑(List.map Mv.cs (movesS b abL s)).length)) = ((pickI (movesS b abL s).length l[k]).toNat : Int) := by
        rw [List.length_map]; exact (Int.toNat_of_nonneg hpi.1).symm
      have hih := ih (k + 1) (doS b abL s (pickM (movesS b abL s) l[k])) ⟨hlt, may_do hpm⟩ (by omega)
      repeat' (first
        | (refine g_drawF0 (ι := Unit) 0 20 [20, 21] [10] [] rdET (rdMM b s (doS b abL s (pickM (movesS b abL s) l[k])) l k) () mix rfl (fun k x hk => by match k, hk with | 0, _ => (refine subG_spec ?_; repeat (first | exact trivial | refine ⟨rfl, ?_⟩)) | 1, _ => (refine subG_spec ?_; repeat (first | exact trivial | refine ⟨rfl, ?_⟩))) (fun k x hk => by match k, hk with | 0, _ => (refine subG_spec ?_; repeat (first | exact trivial | refine ⟨rfl, ?_⟩))) rfl (fun k x => by match k with | 0 => rfl | 1 => rfl | 2 => rfl | _ + 3 => rfl) rfl rfl (by simp) rfl rfl rfl ?_; refine frun_ th rfl ?_)
        | (refine g_drawGC [4, 6] mix rfl rfl rfl rfl rfl ?_; refine erun_ th rfl ?_)
        | refine g_seq ?_
        | (refine g_region ?_; refine run_ th rfl ?_)
        | (refine g_drawC mix rfl rfl ?_; refine drun_ th rfl ?_)
        | (refine g_drawEC mix rfl rfl ?_; refine erun_ th rfl ?_)
        | refine SOps.nil ?_
        | refine DOps.nil ?_
        | refine EOps.nil ?_ rfl rfl
        | refine g_block ?_
        | refine g_inBlock ?_
        | refine g_skip ?_
        | refine g_exit rfl ?_
        | refine g_if_true rfl ?_
        | refine g_if_false rfl ?_
        | (refine s_split rfl rfl (fun hb => ?_) (fun hb => ?_) <;> (try simp only [decide_eq_true_eq, decide_eq_false_iff_not, Bool.not_eq_true', Bool.not_eq_false', Bool.not_eq_true, Bool.not_eq_false, Bool.not_true, Bool.not_false, Bool.false_eq_true, Bool.true_eq_false, reduceCtorEq, not_true_eq_false, not_false_eq_true, List.length_map] at hb) <;> first | (exfalso; omega) | refine run_ th rfl ?_)
        | (refine d_split rfl rfl rfl (fun hb => ?_) (fun hb => ?_) <;> (try simp only [decide_eq_true_eq, decide_eq_false_iff_not, Bool.not_eq_true', Bool.not_eq_false', Bool.not_eq_true, Bool.not_eq_false, Bool.not_true, Bool.not_false, Bool.false_eq_true, Bool.true_eq_false, reduceCtorEq, not_true_eq_false, not_false_eq_true, List.length_map] at hb) <;> first | (exfalso; omega) | refine drun_ th rfl ?_)
        | (refine g_if rfl (fun hb => ?_) (fun hb => ?_) <;> (try simp only [decide_eq_true_eq, decide_eq_false_iff_not, Bool.not_eq_true', Bool.not_eq_false', Bool.not_eq_true, Bool.not_eq_false, Bool.not_true, Bool.not_false, Bool.false_eq_true, Bool.true_eq_false, reduceCtorEq, not_true_eq_false, not_false_eq_true, List.length_map] at hb) <;> (try (exfalso; omega)))
        | (refine s_call hmv [] rfl rfl rfl rfl rfl rfl rfl rfl rfl rfl ?_; refine run_ th rfl ?_)
        | (refine f_idx th rfl rfl rfl rfl rfl rfl rfl rfl rfl rfl k _ rfl hx ?_; refine frun_ th rfl ?_)
        | (refine f_rem rfl rfl rfl rfl rfl rfl rfl (by simp only [List.length_map]; rw [wrapU_id (by omega) (by omega)]; omega) ?_; refine frun_ th rfl ?_)
        | (refine f_idx th rfl rfl rfl rfl rfl rfl rfl rfl rfl rfl (pickI (movesS b abL s).length l[k]).toNat _ hpe hpx ?_; refine frun_ th rfl ?_)
        | (refine f_call (c_do hpm) rfl rfl rfl rfl rfl rfl rfl rfl ?_; refine frun_ th rfl ?_)
        | (refine FOps.nil ⟨Effs.cons rfl (fun x => ?_) (Effs.cons rfl (fun x => ?_) Effs.nil), fun v => ?_⟩)
        | (refine ef_store (i := 10) th rfl rfl rfl rfl rfl rfl rfl rfl rfl rfl rfl rfl)
        | (refine ef_val ((valE_sound th (st := .v (C1 (.int .i64 0))) rfl rfl rfl).toX) rfl rfl rfl rfl)
        | (exfalso; revert hb; simp; done)
        | (refine s_add rfl rfl rfl rfl rfl rfl (by omega) ?_; refine run_ th rfl ?_))
      · exact g_sub (by exact ⟨⟨_, rfl, .refl _⟩, ⟨_, rfl, .refl _⟩, ⟨_, rfl, .refl _⟩, ⟨_, rfl, .refl _⟩, ⟨_, rfl, .refl _⟩, ⟨_, rfl, .refl _⟩, ⟨_, rfl, le_int (by push_cast; rfl)⟩, trivial⟩) (by exact ⟨⟨_, rfl, .refl _⟩, ⟨_, rfl, .refl _⟩, ⟨_, rfl, .refl _⟩, ⟨_, rfl, .refl _⟩, trivial⟩) rfl rfl rfl hih
      · refine g_wit (.tup [Ag b.cs, C1 (namesT abL), Ag s.cs, C1 (.bool true)]) ⟨b, s, hM, rfl⟩ ?_
        refine g_endL th Try.func36 (.inr ⟨_, rfl⟩) rfl rfl rfl (.refl _) rfl
  · have hke : k = l.length := by omega
    subst hke
    repeat' (first
      | (refine g_drawGC [4, 6] mix rfl rfl rfl rfl rfl ?_; refine erun_ th rfl ?_)
      | refine g_seq ?_
      | (refine g_region ?_; refine run_ th rfl ?_)
      | (refine g_drawC mix rfl rfl ?_; refine drun_ th rfl ?_)
      | (refine g_drawEC mix rfl rfl ?_; refine erun_ th rfl ?_)
      | refine SOps.nil ?_
      | refine DOps.nil ?_
      | refine EOps.nil ?_ rfl rfl
      | refine g_block ?_
      | refine g_inBlock ?_
      | refine g_skip ?_
      | refine g_exit rfl ?_
      | refine g_if_true rfl ?_
      | refine g_if_false rfl ?_
      | (refine s_split rfl rfl (fun hb => ?_) (fun hb => ?_) <;> (try simp only [decide_eq_true_eq, decide_eq_false_iff_not, Bool.not_eq_true', Bool.not_eq_false', Bool.not_eq_true, Bool.not_eq_false, Bool.not_true, Bool.not_false, Bool.false_eq_true, Bool.true_eq_false, reduceCtorEq, not_true_eq_false, not_false_eq_true, List.length_map] at hb) <;> first | (exfalso; omega) | refine run_ th rfl ?_)
      | (refine d_split rfl rfl rfl (fun hb => ?_) (fun hb => ?_) <;> (try simp only [decide_eq_true_eq, decide_eq_false_iff_not, Bool.not_eq_true', Bool.not_eq_false', Bool.not_eq_true, Bool.not_eq_false, Bool.not_true, Bool.not_false, Bool.false_eq_true, Bool.true_eq_false, reduceCtorEq, not_true_eq_false, not_false_eq_true, List.length_map] at hb) <;> first | (exfalso; omega) | refine drun_ th rfl ?_)
      | (refine g_if rfl (fun hb => ?_) (fun hb => ?_) <;> (try simp only [decide_eq_true_eq, decide_eq_false_iff_not, Bool.not_eq_true', Bool.not_eq_false', Bool.not_eq_true, Bool.not_eq_false, Bool.not_true, Bool.not_false, Bool.false_eq_true, Bool.true_eq_false, reduceCtorEq, not_true_eq_false, not_false_eq_true, List.length_map] at hb) <;> (try (exfalso; omega))))
    all_goals
      refine g_wit (.tup [Ag b.cs, C1 (namesT abL), Ag s.cs, C1 (.bool true)]) ⟨b, s, hM, rfl⟩ ?_
      refine g_endL th Try.func36 (.inr ⟨_, rfl⟩) rfl rfl rfl (.refl _) rfl
end Go.Sy
