/- Contracts: StagePlays. -/
import Derived.Test.YthjpcefjgmklfaaRf3
import Derived.Test.YthjpcefjgmklfaaGl
import Derived.Test.YthjpcefjgmklfaaFo
set_option linter.unusedSimpArgs false
set_option linter.unusedVariables false
set_option linter.unusedSectionVars false
namespace Go.Sy
open Go.Proofs
set_option maxRecDepth 100000
attribute [local irreducible] SOps Goes DOps EOps FOps

theorem pickI_in {n : Nat} (h1 : 1 ≤ n) (h : n ≤ 100000000) (x : Int) : 0 ≤ pickI n x ∧ pickI n x < n := pick_v (by omega) (by omega)
/-- The move that is taken. -/
def pickM (l : List Mv) (x : Int) : Mv := (l[(pickI l.length x).toNat]?).getD ⟨0, 0, ⟨#[]⟩⟩
theorem pickM_at {l : List Mv} (h1 : 1 ≤ l.length) (h : l.length ≤ 100000000) (x : Int) : (l.map Mv.cs)[(pickI l.length x).toNat]? = some (pickM l x).cs ∧ pickM l x ∈ l := by
  have hp := pickI_in h1 h x
  have hl : (pickI l.length x).toNat < l.length := by omega
  constructor
  · simp [pickM, hl]
  · simp [pickM, hl]
theorem do_ok {b : Bk} {roles : List ByteArray} {s : Stg} {m : Mv} (h : m ∈ movesS b roles s) : doO b roles s m = (doS b roles s m, 0) := by
  have hM := (mem_moves h).1
  simp [doO, hM, h]
theorem pickM_ix {l : List Mv} (h1 : 1 ≤ l.length) (h : l.length ≤ 100000000) (x : Int) : IntKind.i64.wrap ((IntKind.u64.wrap x).tmod (IntKind.u64.wrap ((l.map Mv.cs).length : Int))) = ((pickI l.length x).toNat : Int) := by
  rw [List.length_map]; exact (Int.toNat_of_nonneg (pickI_in h1 h x).1).symm

def abcL : List ByteArray := [⟨#[97]⟩, ⟨#[98]⟩, ⟨#[99]⟩]
theorem may_begin3 {b : Bk} (h : bookB b = true) {at_ : List Int} (hl : at_.length = 3) (hx : ∀ v ∈ at_, 0 ≤ v ∧ v < (b.nodes.length : Int)) : mayS b abcL (stg0 abcL.length at_) = true := by
  refine mayS_of h (by decide) (by decide) (by decide) hl rfl hx (fun m hm => ?_)
  have : m = [] := List.eq_of_mem_replicate hm
  rw [this]; simp
theorem begin3 {b : Bk} (h : bookB b = true) {at_ : List Int} (hl : at_.length = 3) (hx : ∀ v ∈ at_, 0 ≤ v ∧ v < (b.nodes.length : Int)) : beginO b abcL at_ = (stg0 abcL.length at_, 0) := by
  rw [beginO, if_neg (by decide), if_pos (may_begin3 h hl hx)]
theorem same_self (s : Stg) : sameS s s = true := by simp [sameS]
theorem moves_few3 {b : Bk} {s : Stg} (h : mayS b abcL s = true) : (movesS b abcL s).length ≤ 3000000 := by
  unfold movesS
  rw [if_pos h]
  exact movesUp_len (book_few (mayS_book h)) abcL s 3

def plET (t : Nat) : Nat → Unit → TM
  | 2, _ => [(t, .v (C1 (.int .i64 0)))]
  | _, _ => []
abbrev plBase (b : Bk) (s u : Stg) : MM := [(11, .box [.c (intsT s.at_), .c (mailT s.mail)]), (13, .box [.c (intsT u.at_), .c (mailT u.mail)]), (7, .box [.c (nodesT b.nodes), .c (namesT b.names), .c (intsT b.roots)])]
def plMM1 (b : Bk) (s u t : Stg) : Nat → Unit → MM
  | 0, _ => plBase b s u
  | _, _ => plBase b t u
def plMM2 (b : Bk) (s u t : Stg) : Nat → Unit → MM
  | 0, _ => plBase b s u
  | _, _ => plBase b s t
def plMM0 (b : Bk) (vA : Value) (arow : List (List CT)) (k : Nat) (v : Int) : Nat → Unit → MM
  | 0, _ => [(27, .pool 3 1 [(vA, arow)]), (7, .box [.c (nodesT b.nodes), .c (namesT b.names), .c (intsT b.roots)])]
  | _, _ => [(27, .pool 3 1 [(vA, arow.set k [.int .i64 v])]), (7, .box [.c (nodesT b.nodes), .c (namesT b.names), .c (intsT b.roots)])]

set_option maxHeartbeats 16000000 in
theorem stagePlays_c (made roots l : List Int) (hbig : (made.length + 1) * 8 ≤ 140737488355328) :
    Con Try.prog 8 [] [C1 (intsT made), C1 (intsT roots), C1 (intsT l)] (Rv (.bool true)) [] := by
  refine con_of (c := _) Try.func8 rfl rfl rfl (by decide) fun w M0 H Z => ?_
  refine g_len 1 rfl fun hrl => ?_
  refine g_len 2 rfl fun hll => ?_
  simp only [List.length_map] at hrl hll
  repeat' (first
    | (refine g_freeze 26 rfl rfl ?_; refine g_leT 8 (.v (C1 (namesT abcL))) rfl (.v (.one (.c (.nn true 1 _)))) ?_)
    | (refine g_toPool 27 rfl rfl fun vA => ?_)
    | refine g_seq ?_
    | (refine g_region ?_; refine run_ th rfl ?_)
    | (refine g_drawC mix rfl rfl ?_; refine drun_ th rfl ?_)
    | (refine g_drawEC mix rfl rfl ?_; refine erun_ th rfl ?_)
    | refine SOps.nil ?_
    | refine DOps.nil ?_
    | refine EOps.nil ?_ rfl rfl
    | refine g_block ?_
    | refine g_inBlock ?_
    | refine g_skip ?_
    | refine g_exit rfl ?_
    | refine g_if_true rfl ?_
    | refine g_if_false rfl ?_
    | (refine s_split rfl rfl (fun hb => ?_) (fun hb => ?_) <;> (try simp only [decide_eq_true_eq, decide_eq_false_iff_not, Bool.not_eq_true', Bool.not_eq_false', Bool.not_eq_true, Bool.not_eq_false, Bool.not_true, Bool.not_false, Bool.false_eq_true, Bool.true_eq_false, reduceCtorEq, not_true_eq_false, not_false_eq_true, List.length_map] at hb) <;> first | (exfalso; omega) | refine run_ th rfl ?_)
    | (refine d_split rfl rfl rfl (fun hb => ?_) (fun hb => ?_) <;> (try simp only [decide_eq_true_eq, decide_eq_false_iff_not, Bool.not_eq_true', Bool.not_eq_false', Bool.not_eq_true, Bool.not_eq_false, Bool.not_true, Bool.not_false, Bool.false_eq_true, Bool.true_eq_false, reduceCtorEq, not_true_eq_false, not_false_eq_true, List.length_map] at hb) <;> first | (exfalso; omega) | refine drun_ th rfl ?_)
    | (refine g_if rfl (fun hb => ?_) (fun hb => ?_) <;> (try simp only [decide_eq_true_eq, decide_eq_false_iff_not, Bool.not_eq_true', Bool.not_eq_false', Bool.not_eq_true, Bool.not_eq_false, Bool.not_true, Bool.not_false, Bool.false_eq_true, Bool.true_eq_false, reduceCtorEq, not_true_eq_false, not_false_eq_true, List.length_map] at hb) <;> (try (exfalso; omega)))
    | (refine s_call first13_c [] rfl rfl rfl rfl rfl rfl rfl rfl rfl rfl ?_; refine run_ th rfl ?_)
    | (refine s_appendF th rfl rfl rfl rfl rfl rfl rfl rfl rfl rfl rfl rfl rfl rfl (by constructor <;> simp <;> omega) ?_; refine s_freeze 21 rfl rfl ?_; refine run_ th rfl ?_)
    | (refine s_callN (new_c (7 :: made) (by simpa using hbig)) rfl rfl rfl rfl rfl rfl rfl ?_; refine run_ th rfl ?_)
    | (refine s_leB 24 1 (.intP .i64 fun a => 0 ≤ a ∧ a ≤ ((7 :: made).length : Int)) rfl rfl (.intP (by simp; omega)) ?_; refine s_callQ (book_c (7 :: made)) [24] rfl rfl rfl rfl rfl rfl rfl rfl rfl (fun res hr => by obtain ⟨b, _, _, _, rfl⟩ := hr; rfl) (fun res hr => ?_); obtain ⟨b, hbk, hb1, hb8, rfl⟩ := hr; refine run_ th rfl ?_)
    | (refine s_makeO th rfl rfl rfl rfl rfl rfl rfl rfl rfl rfl rfl 3 rfl rfl (by decide) ?_; refine run_ th rfl ?_)
    | (exfalso; revert hb; simp; done))
  refine g_loop2 (fun (k : Nat) (at_ : List Int) => k ≤ 3 ∧ at_.length = 3 ∧ ∀ v ∈ at_, 0 ≤ v ∧ v < (b.nodes.length : Int))
    (fun k _ => [(1, .v (C1 (intsT roots))), (2, .v (C1 (intsT l))), (7, .v (.one (.ptr 7 0))), (8, .v (C1 (namesT abcL))), (9, .v (C1 (.val vA))), (10, .v (C1 (.int .i64 (k : Int))))])
    (fun _ at_ => [(27, .pool 3 1 [(vA, irow at_)]), (7, .box [.c (nodesT b.nodes), .c (namesT b.names), .c (intsT b.roots)])]) (fun k _ => 3 - k) 0 [0, 0, 0] ⟨Nat.zero_le _, rfl, fun v hv => by
      have : v = 0 := by simpa using hv
      omega⟩
    (fun a w h => h.sub (by exact ⟨⟨_, rfl, .refl _⟩, ⟨_, rfl, .refl _⟩, ⟨_, rfl, .refl _⟩, ⟨_, rfl, .refl _⟩, ⟨_, rfl, .refl _⟩, ⟨_, rfl, le_int rfl⟩, trivial⟩) (by exact ⟨⟨_, rfl, .refl _⟩, ⟨_, rfl, .refl _⟩, trivial⟩) rfl rfl rfl) (fun k at_ hk ih => ?_)
  obtain ⟨hk, hal, har⟩ := hk
  by_cases hlt : k < 3 ∧ k < roots.length
  · obtain ⟨hlt3, hltr⟩ := hlt
    have hx : (roots.map fun r => [CT.int .i64 r])[k]? = some [.int .i64 roots[k]] := by simp [hltr]
    have hpi := pickI_in hb1 (by omega) roots[k]
    have hpe : IntKind.i64.wrap ((IntKind.u64.wrap roots[k]).tmod (IntKind.u64.wrap ↑(List.map Nd.cs b.nodes).length)) = pickI b.nodes.length roots[k] := by
      rw [List.length_map]; rfl
    have hih := ih (k + 1) (at_.set k (pickI b.nodes.length roots[k])) ⟨hlt3, by simp [hal], fun v hv => by
      rcases List.mem_or_eq_of_mem_set hv with hv | rfl
      · exact har v hv
      · exact hpi⟩ (by omega)
    repeat' (first
      | (refine g_drawF (ι := Unit) [14] [] (fun _ _ => []) (plMM0 b vA (irow at_) k (IntKind.i64.wrap ((IntKind.u64.wrap roots[k]).tmod (IntKind.u64.wrap ↑(List.map Nd.cs b.nodes).length)))) () mix rfl (fun k x hk => by match k, hk with | 0, _ => (refine subG_spec ?_; repeat (first | exact trivial | refine ⟨rfl, ?_⟩))) rfl (fun k x => rfl) rfl rfl (by simp) rfl rfl ?_; refine frun_ th rfl ?_)
      | refine g_seq ?_
      | (refine g_region ?_; refine run_ th rfl ?_)
      | (refine g_drawC mix rfl rfl ?_; refine drun_ th rfl ?_)
      | (refine g_drawEC mix rfl rfl ?_; refine erun_ th rfl ?_)
      | refine SOps.nil ?_
      | refine DOps.nil ?_
      | refine EOps.nil ?_ rfl rfl
      | refine g_block ?_
      | refine g_inBlock ?_
      | refine g_skip ?_
      | refine g_exit rfl ?_
      | refine g_if_true rfl ?_
      | refine g_if_false rfl ?_
      | (refine s_split rfl rfl (fun hb => ?_) (fun hb => ?_) <;> (try simp only [decide_eq_true_eq, decide_eq_false_iff_not, Bool.not_eq_true', Bool.not_eq_false', Bool.not_eq_true, Bool.not_eq_false, Bool.not_true, Bool.not_false, Bool.false_eq_true, Bool.true_eq_false, reduceCtorEq, not_true_eq_false, not_false_eq_true, List.length_map] at hb) <;> first | (exfalso; omega) | refine run_ th rfl ?_)
      | (refine d_split rfl rfl rfl (fun hb => ?_) (fun hb => ?_) <;> (try simp only [decide_eq_true_eq, decide_eq_false_iff_not, Bool.not_eq_true', Bool.not_eq_false', Bool.not_eq_true, Bool.not_eq_false, Bool.not_true, Bool.not_false, Bool.false_eq_true, Bool.true_eq_false, reduceCtorEq, not_true_eq_false, not_false_eq_true, List.length_map] at hb) <;> first | (exfalso; omega) | refine drun_ th rfl ?_)
      | (refine g_if rfl (fun hb => ?_) (fun hb => ?_) <;> (try simp only [decide_eq_true_eq, decide_eq_false_iff_not, Bool.not_eq_true', Bool.not_eq_false', Bool.not_eq_true, Bool.not_eq_false, Bool.not_true, Bool.not_false, Bool.false_eq_true, Bool.true_eq_false, reduceCtorEq, not_true_eq_false, not_false_eq_true, List.length_map] at hb) <;> (try (exfalso; omega)))
      | (refine f_idx th rfl rfl rfl rfl rfl rfl rfl rfl rfl rfl k _ rfl hx ?_; refine frun_ th rfl ?_)
      | (refine f_rem rfl rfl rfl rfl rfl rfl rfl (by simp only [List.length_map]; rw [wrapU_id (by omega) (by omega)]; omega) ?_; refine frun_ th rfl ?_)
      | (refine f_pidx (r := 27) th rfl rfl rfl rfl rfl rfl rfl rfl rfl rfl rfl 0 rfl k rfl (by simp [hal]; omega) ?_; refine frun_ th rfl ?_)
      | (refine FOps.nil ⟨Effs.cons rfl (fun x => ?_) Effs.nil, fun v => ?_⟩)
      | (refine ef_pstore (i := 27) th rfl rfl rfl rfl rfl rfl rfl rfl rfl rfl rfl rfl rfl rfl 0 rfl (by simp [hal]; omega) rfl rfl)
      | (refine s_add rfl rfl rfl rfl rfl rfl (by omega) ?_; refine run_ th rfl ?_)
      | (exfalso; simp only [List.length_map] at hb; omega)
      | (exfalso; revert hb; simp; done))
    all_goals
      refine g_sub (by exact ⟨⟨_, rfl, .refl _⟩, ⟨_, rfl, .refl _⟩, ⟨_, rfl, .refl _⟩, ⟨_, rfl, .refl _⟩, ⟨_, rfl, .refl _⟩, ⟨_, rfl, le_int (by omega)⟩, trivial⟩) (by exact ⟨⟨_, rfl, le_pool (by rw [hpe]; simp [irow, List.map_set])⟩, ⟨_, rfl, .refl _⟩, trivial⟩) rfl rfl rfl hih
  · clear ih
    have hbeg := begin_c b abcL at_ (by rw [hal]; decide)
    have hbegR := beginR_c b abcL at_ (by rw [hal]; decide)
    rw [begin3 hbk hal har] at hbeg hbegR
    have hM0 := may_begin3 hbk hal har
    repeat' (first
      | (refine g_freezeT 27 9 rfl rfl rfl rfl rfl ?_)
      | refine g_seq ?_
      | (refine g_region ?_; refine run_ th rfl ?_)
      | (refine g_drawC mix rfl rfl ?_; refine drun_ th rfl ?_)
      | (refine g_drawEC mix rfl rfl ?_; refine erun_ th rfl ?_)
      | refine SOps.nil ?_
      | refine DOps.nil ?_
      | refine EOps.nil ?_ rfl rfl
      | refine g_block ?_
      | refine g_inBlock ?_
      | refine g_skip ?_
      | refine g_exit rfl ?_
      | refine g_if_true rfl ?_
      | refine g_if_false rfl ?_
      | (refine s_split rfl rfl (fun hb => ?_) (fun hb => ?_) <;> (try simp only [decide_eq_true_eq, decide_eq_false_iff_not, Bool.not_eq_true', Bool.not_eq_false', Bool.not_eq_true, Bool.not_eq_false, Bool.not_true, Bool.not_false, Bool.false_eq_true, Bool.true_eq_false, reduceCtorEq, not_true_eq_false, not_false_eq_true, List.length_map] at hb) <;> first | (exfalso; omega) | refine run_ th rfl ?_)
      | (refine d_split rfl rfl rfl (fun hb => ?_) (fun hb => ?_) <;> (try simp only [decide_eq_true_eq, decide_eq_false_iff_not, Bool.not_eq_true', Bool.not_eq_false', Bool.not_eq_true, Bool.not_eq_false, Bool.not_true, Bool.not_false, Bool.false_eq_true, Bool.true_eq_false, reduceCtorEq, not_true_eq_false, not_false_eq_true, List.length_map] at hb) <;> first | (exfalso; omega) | refine drun_ th rfl ?_)
      | (refine g_if rfl (fun hb => ?_) (fun hb => ?_) <;> (try simp only [decide_eq_true_eq, decide_eq_false_iff_not, Bool.not_eq_true', Bool.not_eq_false', Bool.not_eq_true, Bool.not_eq_false, Bool.not_true, Bool.not_false, Bool.false_eq_true, Bool.true_eq_false, reduceCtorEq, not_true_eq_false, not_false_eq_true, List.length_map] at hb) <;> (try (exfalso; omega)))
      | (refine s_call hbeg [] rfl rfl rfl rfl rfl rfl rfl rfl rfl rfl ?_; refine run_ th rfl ?_)
      | (refine s_call hbegR [] rfl rfl rfl rfl rfl rfl rfl rfl rfl rfl ?_; refine run_ th rfl ?_)
      | (exfalso; simp only [List.length_map] at hb; omega)
      | (exfalso; revert hb; simp; done))
    all_goals
      refine g_loop2 (fun (k : Nat) (s : Stg) => k ≤ l.length ∧ mayS b abcL s = true)
        (fun k _ => [(2, .v (C1 (intsT l))), (7, .v (.one (.ptr 7 0))), (8, .v (C1 (namesT abcL))), (11, .v (.one (.ptr 11 0))), (13, .v (.one (.ptr 13 0))), (15, .v (C1 (.int .i64 (k : Int))))])
        (fun _ s => plBase b s s) (fun k _ => l.length - k) 0 (stg0 abcL.length at_) ⟨Nat.zero_le _, hM0⟩
        (fun a w h => h.sub (by exact ⟨⟨_, rfl, .refl _⟩, ⟨_, rfl, .refl _⟩, ⟨_, rfl, .refl _⟩, ⟨_, rfl, .refl _⟩, ⟨_, rfl, .refl _⟩, ⟨_, rfl, le_int rfl⟩, trivial⟩) (by exact ⟨⟨_, rfl, .refl _⟩, ⟨_, rfl, .refl _⟩, ⟨_, rfl, .refl _⟩, trivial⟩) rfl rfl rfl) (fun k s hk ih => ?_)
      obtain ⟨hk, hM⟩ := hk
      have hfew := moves_few3 hM
      have hmv := moves_c b abcL s (book_few (mayS_book hM))
      have hmvR := movesSR_c b abcL s
      have hsm := sameMoves_c (movesS b abcL s) (movesS b abcL s)
      have hss := sameR_c s s
      rw [same_self] at hss
      simp only [decide_true] at hsm
      by_cases hlt : k < l.length ∧ k < 60
      · obtain ⟨hlt, hlt60⟩ := hlt
        have hx : (l.map fun r => [CT.int .i64 r])[k]? = some [.int .i64 l[k]] := by simp [hlt]
        by_cases hne : movesS b abcL s = []
        · rw [hne] at hmv hmvR hsm
          repeat' (first
            | refine g_seq ?_
            | (refine g_region ?_; refine run_ th rfl ?_)
            | (refine g_drawC mix rfl rfl ?_; refine drun_ th rfl ?_)
            | (refine g_drawEC mix rfl rfl ?_; refine erun_ th rfl ?_)
            | refine SOps.nil ?_
            | refine DOps.nil ?_
            | refine EOps.nil ?_ rfl rfl
            | refine g_block ?_
            | refine g_inBlock ?_
            | refine g_skip ?_
            | refine g_exit rfl ?_
            | refine g_if_true rfl ?_
            | refine g_if_false rfl ?_
            | (refine s_split rfl rfl (fun hb => ?_) (fun hb => ?_) <;> (try simp only [decide_eq_true_eq, decide_eq_false_iff_not, Bool.not_eq_true', Bool.not_eq_false', Bool.not_eq_true, Bool.not_eq_false, Bool.not_true, Bool.not_false, Bool.false_eq_true, Bool.true_eq_false, reduceCtorEq, not_true_eq_false, not_false_eq_true, List.length_map] at hb) <;> first | (exfalso; omega) | refine run_ th rfl ?_)
            | (refine d_split rfl rfl rfl (fun hb => ?_) (fun hb => ?_) <;> (try simp only [decide_eq_true_eq, decide_eq_false_iff_not, Bool.not_eq_true', Bool.not_eq_false', Bool.not_eq_true, Bool.not_eq_false, Bool.not_true, Bool.not_false, Bool.false_eq_true, Bool.true_eq_false, reduceCtorEq, not_true_eq_false, not_false_eq_true, List.length_map] at hb) <;> first | (exfalso; omega) | refine drun_ th rfl ?_)
            | (refine g_if rfl (fun hb => ?_) (fun hb => ?_) <;> (try simp only [decide_eq_true_eq, decide_eq_false_iff_not, Bool.not_eq_true', Bool.not_eq_false', Bool.not_eq_true, Bool.not_eq_false, Bool.not_true, Bool.not_false, Bool.false_eq_true, Bool.true_eq_false, reduceCtorEq, not_true_eq_false, not_false_eq_true, List.length_map] at hb) <;> (try (exfalso; omega)))
            | (refine d_call hmv [] rfl rfl rfl rfl rfl rfl rfl rfl rfl rfl rfl ?_; refine drun_ th rfl ?_)
            | (refine d_call hmvR [] rfl rfl rfl rfl rfl rfl rfl rfl rfl rfl rfl ?_; refine drun_ th rfl ?_)
            | (refine s_call hsm [] rfl rfl rfl rfl rfl rfl rfl rfl rfl rfl ?_; refine run_ th rfl ?_)
            | (refine s_call hss [] rfl rfl rfl rfl rfl rfl rfl rfl rfl rfl ?_; refine run_ th rfl ?_)
            | (exfalso; simp only [List.length_map] at hb; omega)
            | (exfalso; revert hb; simp; done))
          all_goals refine g_endL th Try.func8 (.inr ⟨_, rfl⟩) rfl rfl rfl (.refl _) rfl
        · have hl1 : 1 ≤ (movesS b abcL s).length := List.length_pos_iff.2 hne
          obtain ⟨hpx, hpm⟩ := pickM_at hl1 (by omega) l[k]
          have hpe := pickM_ix hl1 (by omega) l[k]
          have hM1 := may_do hpm
          have hih := ih (k + 1) (doS b abcL s (pickM (movesS b abcL s) l[k])) ⟨hlt, hM1⟩ (by omega)
          have hdo := do_c b abcL s (pickM (movesS b abcL s) l[k]) (book_few (mayS_book hM))
          have hdoR := doR_c b abcL s (pickM (movesS b abcL s) l[k])
          rw [do_ok hpm] at hdo hdoR
          have hmy := stagemay_c b abcL (doS b abcL s (pickM (movesS b abcL s) l[k]))
          rw [hM1] at hmy
          repeat' (first
            | (refine g_drawF0 (ι := Unit) 0 11 [11, 12] [11] [] (plET 12) (plMM1 b s s (doS b abcL s (pickM (movesS b abcL s) l[k]))) () mix rfl (fun k x hk => by match k, hk with | 0, _ => (refine subG_spec ?_; repeat (first | exact trivial | refine ⟨rfl, ?_⟩)) | 1, _ => (refine subG_spec ?_; repeat (first | exact trivial | refine ⟨rfl, ?_⟩))) (fun k x hk => by match k, hk with | 0, _ => (refine subG_spec ?_; repeat (first | exact trivial | refine ⟨rfl, ?_⟩))) rfl (fun k x => by match k with | 0 => rfl | 1 => rfl | 2 => rfl | _ + 3 => rfl) rfl rfl (by simp) rfl rfl rfl ?_; refine frun_ th rfl ?_)
            | (refine g_drawF0 (ι := Unit) 0 11 [11, 12] [13] [] (plET 14) (plMM2 b (doS b abcL s (pickM (movesS b abcL s) l[k])) s (doS b abcL s (pickM (movesS b abcL s) l[k]))) () mix rfl (fun k x hk => by match k, hk with | 0, _ => (refine subG_spec ?_; repeat (first | exact trivial | refine ⟨rfl, ?_⟩)) | 1, _ => (refine subG_spec ?_; repeat (first | exact trivial | refine ⟨rfl, ?_⟩))) (fun k x hk => by match k, hk with | 0, _ => (refine subG_spec ?_; repeat (first | exact trivial | refine ⟨rfl, ?_⟩))) rfl (fun k x => by match k with | 0 => rfl | 1 => rfl | 2 => rfl | _ + 3 => rfl) rfl rfl (by simp) rfl rfl rfl ?_; refine frun_ th rfl ?_)
            | refine g_seq ?_
            | (refine g_region ?_; refine run_ th rfl ?_)
            | (refine g_drawC mix rfl rfl ?_; refine drun_ th rfl ?_)
            | (refine g_drawEC mix rfl rfl ?_; refine erun_ th rfl ?_)
            | refine SOps.nil ?_
            | refine DOps.nil ?_
            | refine EOps.nil ?_ rfl rfl
            | refine g_block ?_
            | refine g_inBlock ?_
            | refine g_skip ?_
            | refine g_exit rfl ?_
            | refine g_if_true rfl ?_
            | refine g_if_false rfl ?_
            | (refine s_split rfl rfl (fun hb => ?_) (fun hb => ?_) <;> (try simp only [decide_eq_true_eq, decide_eq_false_iff_not, Bool.not_eq_true', Bool.not_eq_false', Bool.not_eq_true, Bool.not_eq_false, Bool.not_true, Bool.not_false, Bool.false_eq_true, Bool.true_eq_false, reduceCtorEq, not_true_eq_false, not_false_eq_true, List.length_map] at hb) <;> first | (exfalso; omega) | refine run_ th rfl ?_)
            | (refine d_split rfl rfl rfl (fun hb => ?_) (fun hb => ?_) <;> (try simp only [decide_eq_true_eq, decide_eq_false_iff_not, Bool.not_eq_true', Bool.not_eq_false', Bool.not_eq_true, Bool.not_eq_false, Bool.not_true, Bool.not_false, Bool.false_eq_true, Bool.true_eq_false, reduceCtorEq, not_true_eq_false, not_false_eq_true, List.length_map] at hb) <;> first | (exfalso; omega) | refine drun_ th rfl ?_)
            | (refine g_if rfl (fun hb => ?_) (fun hb => ?_) <;> (try simp only [decide_eq_true_eq, decide_eq_false_iff_not, Bool.not_eq_true', Bool.not_eq_false', Bool.not_eq_true, Bool.not_eq_false, Bool.not_true, Bool.not_false, Bool.false_eq_true, Bool.true_eq_false, reduceCtorEq, not_true_eq_false, not_false_eq_true, List.length_map] at hb) <;> (try (exfalso; omega)))
            | (refine d_call hmv [] rfl rfl rfl rfl rfl rfl rfl rfl rfl rfl rfl ?_; refine drun_ th rfl ?_)
            | (refine d_call hmvR [] rfl rfl rfl rfl rfl rfl rfl rfl rfl rfl rfl ?_; refine drun_ th rfl ?_)
            | (refine s_call hsm [] rfl rfl rfl rfl rfl rfl rfl rfl rfl rfl ?_; refine run_ th rfl ?_)
            | (refine s_call hss [] rfl rfl rfl rfl rfl rfl rfl rfl rfl rfl ?_; refine run_ th rfl ?_)
            | (refine s_idx th rfl rfl rfl rfl rfl rfl rfl rfl rfl k _ rfl hx ?_; refine run_ th rfl ?_)
            | (refine s_rem rfl rfl rfl rfl rfl rfl (by simp only [List.length_map]; rw [wrapU_id (by omega) (by omega)]; omega) ?_; refine run_ th rfl ?_)
            | (refine f_idx th rfl rfl rfl rfl rfl rfl rfl rfl rfl rfl (pickI (movesS b abcL s).length l[k]).toNat _ hpe hpx ?_; refine frun_ th rfl ?_)
            | (refine f_call hdo rfl rfl rfl rfl rfl rfl rfl rfl ?_; refine frun_ th rfl ?_)
            | (refine f_call hdoR rfl rfl rfl rfl rfl rfl rfl rfl ?_; refine frun_ th rfl ?_)
            | (refine FOps.nil ⟨Effs.cons rfl (fun x => ?_) (Effs.cons rfl (fun x => ?_) Effs.nil), fun v => ?_⟩)
            | (refine ef_store (i := 11) th rfl rfl rfl rfl rfl rfl rfl rfl rfl rfl rfl rfl)
            | (refine ef_store (i := 13) th rfl rfl rfl rfl rfl rfl rfl rfl rfl rfl rfl rfl)
            | (refine ef_val ((valE_sound th (st := .v (C1 (.int .i64 0))) rfl rfl rfl).toX) rfl rfl rfl rfl)
            | (refine s_call hmy [] rfl rfl rfl rfl rfl rfl rfl rfl rfl rfl ?_; refine run_ th rfl ?_)
            | (refine s_add rfl rfl rfl rfl rfl rfl (by omega) ?_; refine run_ th rfl ?_)
            | (exfalso; simp only [List.length_map] at hb; omega)
            | (exfalso; revert hb; simp; done))
          all_goals exact g_sub (by exact ⟨⟨_, rfl, .refl _⟩, ⟨_, rfl, .refl _⟩, ⟨_, rfl, .refl _⟩, ⟨_, rfl, .refl _⟩, ⟨_, rfl, .refl _⟩, ⟨_, rfl, le_int (by omega)⟩, trivial⟩) (by exact ⟨⟨_, rfl, .refl _⟩, ⟨_, rfl, .refl _⟩, ⟨_, rfl, .refl _⟩, trivial⟩) rfl rfl rfl hih
      · skip
        repeat' (first
          | refine g_seq ?_
          | (refine g_region ?_; refine run_ th rfl ?_)
          | (refine g_drawC mix rfl rfl ?_; refine drun_ th rfl ?_)
          | (refine g_drawEC mix rfl rfl ?_; refine erun_ th rfl ?_)
          | refine SOps.nil ?_
          | refine DOps.nil ?_
          | refine EOps.nil ?_ rfl rfl
          | refine g_block ?_
          | refine g_inBlock ?_
          | refine g_skip ?_
          | refine g_exit rfl ?_
          | refine g_if_true rfl ?_
          | refine g_if_false rfl ?_
          | (refine s_split rfl rfl (fun hb => ?_) (fun hb => ?_) <;> (try simp only [decide_eq_true_eq, decide_eq_false_iff_not, Bool.not_eq_true', Bool.not_eq_false', Bool.not_eq_true, Bool.not_eq_false, Bool.not_true, Bool.not_false, Bool.false_eq_true, Bool.true_eq_false, reduceCtorEq, not_true_eq_false, not_false_eq_true, List.length_map] at hb) <;> first | (exfalso; omega) | refine run_ th rfl ?_)
          | (refine d_split rfl rfl rfl (fun hb => ?_) (fun hb => ?_) <;> (try simp only [decide_eq_true_eq, decide_eq_false_iff_not, Bool.not_eq_true', Bool.not_eq_false', Bool.not_eq_true, Bool.not_eq_false, Bool.not_true, Bool.not_false, Bool.false_eq_true, Bool.true_eq_false, reduceCtorEq, not_true_eq_false, not_false_eq_true, List.length_map] at hb) <;> first | (exfalso; omega) | refine drun_ th rfl ?_)
          | (refine g_if rfl (fun hb => ?_) (fun hb => ?_) <;> (try simp only [decide_eq_true_eq, decide_eq_false_iff_not, Bool.not_eq_true', Bool.not_eq_false', Bool.not_eq_true, Bool.not_eq_false, Bool.not_true, Bool.not_false, Bool.false_eq_true, Bool.true_eq_false, reduceCtorEq, not_true_eq_false, not_false_eq_true, List.length_map] at hb) <;> (try (exfalso; omega)))
          | (refine s_call hss [] rfl rfl rfl rfl rfl rfl rfl rfl rfl rfl ?_; refine run_ th rfl ?_)
          | (exfalso; simp only [List.length_map] at hb; omega)
          | (exfalso; revert hb; simp; done))
        all_goals refine g_endL th Try.func8 (.inr ⟨_, rfl⟩) rfl rfl rfl (.refl _) rfl
end Go.Sy
