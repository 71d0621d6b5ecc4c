/- Contracts of layer 13: stage.Do, the walk. -/
import Derived.Test.YthjpcefjgmklfaaGi
set_option linter.unusedSimpArgs false
set_option linter.unusedVariables false
set_option linter.unusedSectionVars false
namespace Go.Sy
open Go.Proofs
set_option maxRecDepth 100000
attribute [local irreducible] SOps Goes DOps EOps FOps

def doET : Nat → Value → TM
  | 1, v => [(57, .v (C1 (.val v)))]
  | _, _ => []
def doBase (b : Bk) (s : Stg) (m : Mv) (vA vM : Value) (rows : List (List CT)) (qs : PQ) : MM :=
  [(10, .box [.c (.val vA), .c (.val vM)]), (91, .pool 3 1 [(vA, irow s.at_)]), (92, .pool 25 1 [(vM, rows)]), (93, .pool 9 1 qs), (8, .box [.c .nils, .c .nils]),
   (7, .box [.c (.int .i64 m.kind), .c (.int .i64 m.role), .c (.str m.label)]), (6, .box [.c (intsT s.at_), .c (mailT s.mail)]), (4, .box [.c (nodesT b.nodes), .c (namesT b.names), .c (intsT b.roots)])]
def doMM (b : Bk) (s : Stg) (m : Mv) (vA vM : Value) (rows : List (List CT)) (qs : PQ) (q : Nat) (ys : List (List CT)) : Nat → Value → MM
  | 0, _ => doBase b s m vA vM rows qs
  | 1, v => doBase b s m vA vM rows (qs.set q (v, ys))
  | _, v => doBase b s m vA vM (rows.set q [.val v]) (qs.set q (v, ys))

def rcET : Nat → Unit → TM := fun _ _ => []
def rcBase (b : Bk) (s : Stg) (m : Mv) (vA vM : Value) (rows : List (List CT)) : MM :=
  [(10, .box [.c (.val vA), .c (.val vM)]), (91, .pool 3 1 [(vA, irow s.at_)]), (92, .pool 25 1 [(vM, rows)]), (8, .box [.c .nils, .c .nils]),
   (7, .box [.c (.int .i64 m.kind), .c (.int .i64 m.role), .c (.str m.label)]), (6, .box [.c (intsT s.at_), .c (mailT s.mail)]), (4, .box [.c (nodesT b.nodes), .c (namesT b.names), .c (intsT b.roots)])]
def rcMM (b : Bk) (s : Stg) (m : Mv) (vA vM : Value) (rows : List (List CT)) (q : Nat) (ys : List (List CT)) : Nat → Unit → MM
  | 0, _ => rcBase b s m vA vM rows
  | _, _ => rcBase b s m vA vM (rows.set q [.slice false 1 ys])

set_option maxHeartbeats 16000000 in
theorem do_c (b : Bk) (roles : List ByteArray) (s : Stg) (m : Mv) (hA : ArmsFew b) : Con Try.prog 25 [] [Ag b.cs, C1 (namesT roles), Ag s.cs, Ag m.cs] (stgR (doO b roles s m)) [] := by
  have hmay := stagemay_c b roles s
  have hmov := moves_c b roles s hA
  have hcon := containsMv_c (movesS b roles s) m
  cases hM : mayS b roles s with
  | false =>
    rw [hM] at hmay
    rw [show doO b roles s m = (⟨[], []⟩, 1300) by simp [doO, hM]]
    refine con_of (c := _) Try.func25 rfl rfl rfl (by decide) fun w M0 H Z => ?_
    repeat' (first
      | refine g_seq ?_
      | (refine g_region ?_; refine run_ th rfl ?_)
      | (refine g_drawC mix rfl rfl ?_; refine drun_ th rfl ?_)
      | (refine g_drawEC mix rfl rfl ?_; refine erun_ th rfl ?_)
      | refine SOps.nil ?_
      | refine DOps.nil ?_
      | refine EOps.nil ?_ rfl rfl
      | refine g_block ?_
      | refine g_inBlock ?_
      | refine g_skip ?_
      | refine g_exit rfl ?_
      | refine g_if_true rfl ?_
      | refine g_if_false rfl ?_
      | (refine s_split rfl rfl (fun hb => ?_) (fun hb => ?_) <;> (try simp only [decide_eq_true_eq, decide_eq_false_iff_not, Bool.not_eq_true', Bool.not_eq_false', Bool.not_eq_true, Bool.not_eq_false, Bool.not_true, Bool.not_false, Bool.false_eq_true, Bool.true_eq_false, reduceCtorEq, not_true_eq_false, not_false_eq_true, List.length_map] at hb) <;> first | (exfalso; omega) | refine run_ th rfl ?_)
      | (refine d_split rfl rfl rfl (fun hb => ?_) (fun hb => ?_) <;> (try simp only [decide_eq_true_eq, decide_eq_false_iff_not, Bool.not_eq_true', Bool.not_eq_false', Bool.not_eq_true, Bool.not_eq_false, Bool.not_true, Bool.not_false, Bool.false_eq_true, Bool.true_eq_false, reduceCtorEq, not_true_eq_false, not_false_eq_true, List.length_map] at hb) <;> first | (exfalso; omega) | refine drun_ th rfl ?_)
      | (refine g_if rfl (fun hb => ?_) (fun hb => ?_) <;> (try simp only [decide_eq_true_eq, decide_eq_false_iff_not, Bool.not_eq_true', Bool.not_eq_false', Bool.not_eq_true, Bool.not_eq_false, Bool.not_true, Bool.not_false, Bool.false_eq_true, Bool.true_eq_false, reduceCtorEq, not_true_eq_false, not_false_eq_true, List.length_map] at hb) <;> (try (exfalso; omega)))
      | refine g_endL th Try.func25 (.inr ⟨_, rfl⟩) rfl rfl rfl ?_ rfl
      | (refine s_call hmay [] rfl rfl rfl rfl rfl rfl rfl rfl rfl rfl ?_; refine run_ th rfl ?_))
    all_goals first | exact .tup (.cons (.agg (.cons (.c (.nil 1)) (.cons (.c (.nil 1)) .nil))) (.cons (.refl _) .nil)) | (exfalso; revert hb; decide)
  | true =>
    rw [hM] at hmay
    by_cases hmem : m ∈ movesS b roles s
    · rw [show decide (m ∈ movesS b roles s) = true by simpa using hmem] at hcon
      obtain ⟨hn1, hn2, hn3, hn4, hro⟩ := mayS_at hM
      obtain ⟨_, r, t, hcd⟩ := mem_moves hmem
      have hrt := hcd.lt
      have htt := hcd.tlt
      have hpc := peer_c b roles s r (hro r hcd.lt)
      rw [hcd.peer] at hpc
      rw [show doO b roles s m = (doS b roles s m, 0) by simp [doO, hM, hmem]]
      have hrole := hcd.role
      obtain ⟨kind, role, label⟩ := m
      simp only at hrole
      subst hrole
      have hbig := mayS_big hM
      obtain ⟨hx, hy⟩ := (hro r hcd.lt).idx
      have hall : r < s.at_.length := by omega
      rcases hcd.kind with ⟨hk, hnk, hlen⟩ | ⟨hk, hnk, rest, hq⟩
      · simp only at hk
        subst hk
        have hq1 : r * roles.length + t < s.mail.length := by
          rw [hn4]
          have := Nat.mul_le_mul_right roles.length (show r + 1 ≤ roles.length from hrt)
          rw [Nat.add_mul] at this; omega
        have hmq : s.mail[r * roles.length + t]? = some (mailAt s (r * roles.length + t)) := by simp [mailAt, hq1]
        have hdo : doS b roles s ⟨1, (r : Int), label⟩ = ⟨stepAt r label s.at_ (stNd b s r).arms, s.mail.set (r * roles.length + t) (mailAt s (r * roles.length + t) ++ [label])⟩ := by
          have hpe := hcd.peer
          simp [doS, moveQ, moveM, peerN, hpe]
        have hys : qrow (mailAt s (r * roles.length + t)) ++ [[.str label]] = qrow (mailAt s (r * roles.length + t) ++ [label]) := by simp
        refine con_of (c := _) Try.func25 rfl rfl rfl (by decide) fun w M0 H Z => ?_
        repeat' (first
          | (have hxl' : hs.length = s.mail.length := hxl; have hql : r * roles.length + t < hs.length := (by omega); have hvr : (vrow hs)[r * roles.length + t]? = some [.val hs[r * roles.length + t]] := (by simp [hql]); refine g_drawF (ι := Value) [11, 13] [93] doET (doMM b s ⟨1, (r : Int), label⟩ vA vM (vrow hs) (qpool hs s.mail) (r * roles.length + t) (qrow (mailAt s (r * roles.length + t)) ++ [[.str label]])) vA mix rfl (fun k x hk => by match k, hk with | 0, _ => (refine subG_spec ?_; repeat (first | exact trivial | refine ⟨rfl, ?_⟩)) | 1, _ => (refine subG_spec ?_; repeat (first | exact trivial | refine ⟨rfl, ?_⟩))) rfl (fun k x => by match k with | 0 => rfl | 1 => rfl | _ + 2 => rfl) rfl rfl (by simp) rfl rfl ?_; refine frun_ th rfl ?_)
          | refine g_seq ?_
          | (refine g_region ?_; refine run_ th rfl ?_)
          | (refine g_drawC mix rfl rfl ?_; refine drun_ th rfl ?_)
          | (refine g_drawEC mix rfl rfl ?_; refine erun_ th rfl ?_)
          | refine SOps.nil ?_
          | refine DOps.nil ?_
          | refine EOps.nil ?_ rfl rfl
          | refine g_block ?_
          | refine g_inBlock ?_
          | refine g_skip ?_
          | refine g_exit rfl ?_
          | refine g_if_true rfl ?_
          | refine g_if_false rfl ?_
          | (refine s_split rfl rfl (fun hb => ?_) (fun hb => ?_) <;> (try simp only [decide_eq_true_eq, decide_eq_false_iff_not, Bool.not_eq_true', Bool.not_eq_false', Bool.not_eq_true, Bool.not_eq_false, Bool.not_true, Bool.not_false, Bool.false_eq_true, Bool.true_eq_false, reduceCtorEq, not_true_eq_false, not_false_eq_true, List.length_map] at hb) <;> first | (exfalso; omega) | refine run_ th rfl ?_)
          | (refine d_split rfl rfl rfl (fun hb => ?_) (fun hb => ?_) <;> (try simp only [decide_eq_true_eq, decide_eq_false_iff_not, Bool.not_eq_true', Bool.not_eq_false', Bool.not_eq_true, Bool.not_eq_false, Bool.not_true, Bool.not_false, Bool.false_eq_true, Bool.true_eq_false, reduceCtorEq, not_true_eq_false, not_false_eq_true, List.length_map] at hb) <;> first | (exfalso; omega) | refine drun_ th rfl ?_)
          | (refine g_if rfl (fun hb => ?_) (fun hb => ?_) <;> (try simp only [decide_eq_true_eq, decide_eq_false_iff_not, Bool.not_eq_true', Bool.not_eq_false', Bool.not_eq_true, Bool.not_eq_false, Bool.not_true, Bool.not_false, Bool.false_eq_true, Bool.true_eq_false, reduceCtorEq, not_true_eq_false, not_false_eq_true, List.length_map] at hb) <;> (try (exfalso; omega)))
          | (refine s_call hmay [] rfl rfl rfl rfl rfl rfl rfl rfl rfl rfl ?_; refine run_ th rfl ?_)
          | (refine d_call hmov [] rfl rfl rfl rfl rfl rfl rfl rfl rfl rfl rfl ?_; refine drun_ th rfl ?_)
          | (refine d_call hcon [] rfl rfl rfl rfl rfl rfl rfl rfl rfl rfl rfl ?_; refine drun_ th rfl ?_)
          | (refine s_callO (copied_c s hbig) [91, 92, 93] rfl rfl rfl rfl rfl rfl rfl rfl rfl (fun _ => rfl) (fun x hxl => ?_); obtain ⟨vA, vM, hs⟩ := x; refine run_ th rfl ?_)
          | (refine s_call hpc [] rfl rfl rfl rfl rfl rfl rfl rfl rfl rfl ?_; refine run_ th rfl ?_)
          | (refine s_call (queue_c roles r t hn2 (by omega) (by omega)) [] rfl rfl rfl rfl rfl rfl rfl rfl rfl rfl ?_; refine run_ th rfl ?_)
          | (refine f_pidx (r := 92) th rfl rfl rfl rfl rfl rfl rfl rfl rfl rfl rfl 0 rfl (r * roles.length + t) rfl (by rw [List.length_map]; exact hql) ?_; refine frun_ th rfl ?_)
          | (refine f_pload (r := 92) th rfl rfl rfl rfl rfl rfl rfl rfl rfl 0 rfl hvr rfl ?_; refine frun_ th rfl ?_)
          | (refine f_lit th rfl rfl rfl rfl rfl rfl rfl rfl rfl rfl rfl rfl rfl (.refl _) ?_; refine frun_ th rfl ?_))

        refine FOps.nil ⟨Effs.cons rfl (fun x => ?_) (Effs.cons rfl (fun x => ?_) Effs.nil), fun v => ?_⟩
        · exact ef_append (i := 93) th rfl rfl rfl rfl rfl rfl rfl rfl rfl rfl rfl rfl rfl rfl rfl rfl (r * roles.length + t) (qpool_get (List.getElem?_eq_getElem hql) hmq) (by constructor <;> simp <;> omega) (fun v' => v') (fun _ => rfl) (fun _ => rfl)
        · exact ef_pstore (i := 92) th rfl rfl rfl rfl rfl rfl rfl rfl rfl rfl rfl rfl rfl rfl 0 rfl (by rw [List.length_map]; exact hql) rfl rfl
        rw [hys]
        refine g_freezeP 93 92 rfl rfl rfl rfl rfl rfl (by rw [qpool_set, qpool_fst (by simp [hxl']), vrow, vrow, List.map_set]) ?_
        have hR : ((qpool hs s.mail).set (r * roles.length + t) (v, qrow (mailAt s (r * roles.length + t) ++ [label]))).map (fun q => [CT.slice false 1 q.2]) = (s.mail.set (r * roles.length + t) (mailAt s (r * roles.length + t) ++ [label])).map fun m => [namesT m] := by
          rw [qpool_set, qpool_snd (by simp [hxl'])]
        generalize hRR : (s.mail.set (r * roles.length + t) (mailAt s (r * roles.length + t) ++ [label])).map (fun m => [namesT m]) = R at hR
        repeat' (first
          | refine g_seq ?_
          | (refine g_region ?_; refine run_ th rfl ?_)
          | (refine g_drawC mix rfl rfl ?_; refine drun_ th rfl ?_)
          | (refine g_drawEC mix rfl rfl ?_; refine erun_ th rfl ?_)
          | refine SOps.nil ?_
          | refine DOps.nil ?_
          | refine EOps.nil ?_ rfl rfl
          | refine g_block ?_
          | refine g_inBlock ?_
          | refine g_skip ?_
          | refine g_exit rfl ?_
          | refine g_if_true rfl ?_
          | refine g_if_false rfl ?_
          | (refine s_split rfl rfl (fun hb => ?_) (fun hb => ?_) <;> (try simp only [decide_eq_true_eq, decide_eq_false_iff_not, Bool.not_eq_true', Bool.not_eq_false', Bool.not_eq_true, Bool.not_eq_false, Bool.not_true, Bool.not_false, Bool.false_eq_true, Bool.true_eq_false, reduceCtorEq, not_true_eq_false, not_false_eq_true, List.length_map] at hb) <;> first | (exfalso; omega) | refine run_ th rfl ?_)
          | (refine d_split rfl rfl rfl (fun hb => ?_) (fun hb => ?_) <;> (try simp only [decide_eq_true_eq, decide_eq_false_iff_not, Bool.not_eq_true', Bool.not_eq_false', Bool.not_eq_true, Bool.not_eq_false, Bool.not_true, Bool.not_false, Bool.false_eq_true, Bool.true_eq_false, reduceCtorEq, not_true_eq_false, not_false_eq_true, List.length_map] at hb) <;> first | (exfalso; omega) | refine drun_ th rfl ?_)
          | (refine g_if rfl (fun hb => ?_) (fun hb => ?_) <;> (try simp only [decide_eq_true_eq, decide_eq_false_iff_not, Bool.not_eq_true', Bool.not_eq_false', Bool.not_eq_true, Bool.not_eq_false, Bool.not_true, Bool.not_false, Bool.false_eq_true, Bool.true_eq_false, reduceCtorEq, not_true_eq_false, not_false_eq_true, List.length_map] at hb) <;> (try (exfalso; omega)))
          | (refine d_idx th rfl rfl rfl rfl rfl rfl rfl rfl rfl r _ rfl hx ?_; refine drun_ th rfl ?_)
          | (refine d_idx th rfl rfl rfl rfl rfl rfl rfl rfl rfl (atN s r) _ rfl hy ?_; refine drun_ th rfl ?_))
        refine g_loop1 (fun j : Nat => j ≤ (stNd b s r).arms.length)
          (fun j => [(7, .v (.one (.ptr 7 0))), (8, .v (.one (.ptr 8 0))), (9, .v (C1 (.int .i64 0))), (10, .v (.one (.ptr 10 0))), (84, .v (C1 (armsT (stNd b s r).arms))), (85, .v (C1 (.int .i64 ((stNd b s r).arms.length : Int)))), (86, .v (C1 (.int .i64 (j : Int))))])
          (fun j => [(10, .box [.c (.val vA), .c (.val vM)]), (91, .pool 3 1 [(vA, irow (stepAt r label s.at_ ((stNd b s r).arms.take j)))]), (92, .pool 25 1 [(vM, R)]), (8, .box [.c .nils, .c .nils]), (7, .box [.c (.int .i64 1), .c (.int .i64 (r : Int)), .c (.str label)])])
          (fun j => (stNd b s r).arms.length - j) 0 (Nat.zero_le _)
          (fun a w h => h.sub (by exact ⟨⟨_, rfl, .refl _⟩, ⟨_, rfl, .refl _⟩, ⟨_, rfl, .refl _⟩, ⟨_, rfl, .refl _⟩, ⟨_, rfl, .refl _⟩, ⟨_, rfl, le_int (by simp)⟩, ⟨_, rfl, le_int rfl⟩, trivial⟩)
            (by exact ⟨⟨_, rfl, .refl _⟩, ⟨_, rfl, .refl _⟩, ⟨_, rfl, le_pool (by rw [hR])⟩, ⟨_, rfl, .refl _⟩, ⟨_, rfl, .refl _⟩, trivial⟩) rfl rfl rfl) (fun j hj ih => ?_)
        by_cases hjl : j < (stNd b s r).arms.length
        · have hxa : ((stNd b s r).arms.map Edge.cs)[j]? = some ((stNd b s r).arms[j]).cs := by simp [hjl]
          have hst := stepAt_succ (r := r) (label := label) hjl s.at_
          have hsl := stepAt_len r label ((stNd b s r).arms.take j) s.at_
          have hih := ih (j + 1) hjl (by omega)
          have hnd := stNd_few hA s r
          repeat' (first
            | refine g_seq ?_
            | (refine g_region ?_; refine run_ th rfl ?_)
            | (refine g_drawC mix rfl rfl ?_; refine drun_ th rfl ?_)
            | (refine g_drawEC mix rfl rfl ?_; refine erun_ th rfl ?_)
            | refine SOps.nil ?_
            | refine DOps.nil ?_
            | refine EOps.nil ?_ rfl rfl
            | refine g_block ?_
            | refine g_inBlock ?_
            | refine g_skip ?_
            | refine g_exit rfl ?_
            | refine g_if_true rfl ?_
            | refine g_if_false rfl ?_
            | (refine s_split rfl rfl (fun hb => ?_) (fun hb => ?_) <;> (try simp only [decide_eq_true_eq, decide_eq_false_iff_not, Bool.not_eq_true', Bool.not_eq_false', Bool.not_eq_true, Bool.not_eq_false, Bool.not_true, Bool.not_false, Bool.false_eq_true, Bool.true_eq_false, reduceCtorEq, not_true_eq_false, not_false_eq_true, List.length_map] at hb) <;> first | (exfalso; omega) | refine run_ th rfl ?_)
            | (refine d_split rfl rfl rfl (fun hb => ?_) (fun hb => ?_) <;> (try simp only [decide_eq_true_eq, decide_eq_false_iff_not, Bool.not_eq_true', Bool.not_eq_false', Bool.not_eq_true, Bool.not_eq_false, Bool.not_true, Bool.not_false, Bool.false_eq_true, Bool.true_eq_false, reduceCtorEq, not_true_eq_false, not_false_eq_true, List.length_map] at hb) <;> first | (exfalso; omega) | refine drun_ th rfl ?_)
            | (refine g_if rfl (fun hb => ?_) (fun hb => ?_) <;> (try simp only [decide_eq_true_eq, decide_eq_false_iff_not, Bool.not_eq_true', Bool.not_eq_false', Bool.not_eq_true, Bool.not_eq_false, Bool.not_true, Bool.not_false, Bool.false_eq_true, Bool.true_eq_false, reduceCtorEq, not_true_eq_false, not_false_eq_true, List.length_map] at hb) <;> (try (exfalso; omega)))
            | (refine s_idx th rfl rfl rfl rfl rfl rfl rfl rfl rfl j _ rfl hxa ?_; refine run_ th rfl ?_)
            | (refine s_pidx (r := 91) th rfl rfl rfl rfl rfl rfl rfl rfl rfl rfl 0 rfl r rfl (by simp [hsl]; omega) ?_; refine run_ th rfl ?_)
            | (refine s_pstore (r := 91) th rfl rfl rfl rfl rfl rfl rfl rfl rfl rfl rfl rfl rfl 0 rfl (by simp [hsl]; omega) ?_; refine run_ th rfl ?_)
            | (refine s_add rfl rfl rfl rfl rfl rfl (by omega) ?_; refine run_ th rfl ?_))
          · rw [if_pos (by simpa using hb)] at hst
            rw [hst] at hih
            exact g_sub (by exact ⟨⟨_, rfl, .refl _⟩, ⟨_, rfl, .refl _⟩, ⟨_, rfl, .refl _⟩, ⟨_, rfl, .refl _⟩, ⟨_, rfl, .refl _⟩, ⟨_, rfl, .refl _⟩, ⟨_, rfl, le_int (by omega)⟩, trivial⟩)
              (by exact ⟨⟨_, rfl, .refl _⟩, ⟨_, rfl, le_pool (by simp [irow, List.map_set])⟩, ⟨_, rfl, .refl _⟩, ⟨_, rfl, .refl _⟩, ⟨_, rfl, .refl _⟩, trivial⟩) rfl rfl rfl hih
          · rw [if_neg (by simpa using hb)] at hst
            rw [hst] at hih
            exact g_sub (by exact ⟨⟨_, rfl, .refl _⟩, ⟨_, rfl, .refl _⟩, ⟨_, rfl, .refl _⟩, ⟨_, rfl, .refl _⟩, ⟨_, rfl, .refl _⟩, ⟨_, rfl, .refl _⟩, ⟨_, rfl, le_int (by omega)⟩, trivial⟩)
              (by exact ⟨⟨_, rfl, .refl _⟩, ⟨_, rfl, .refl _⟩, ⟨_, rfl, .refl _⟩, ⟨_, rfl, .refl _⟩, ⟨_, rfl, .refl _⟩, trivial⟩) rfl rfl rfl hih
        · have hje : j = (stNd b s r).arms.length := by omega
          subst hje
          rw [List.take_length]
          refine g_freezeB 91 10 0 rfl rfl rfl rfl rfl rfl rfl ?_
          refine g_freezeB 92 10 1 rfl rfl rfl rfl rfl rfl rfl ?_
          rw [hdo]
          repeat' (first
            | refine g_seq ?_
            | (refine g_region ?_; refine run_ th rfl ?_)
            | (refine g_drawC mix rfl rfl ?_; refine drun_ th rfl ?_)
            | (refine g_drawEC mix rfl rfl ?_; refine erun_ th rfl ?_)
            | refine SOps.nil ?_
            | refine DOps.nil ?_
            | refine EOps.nil ?_ rfl rfl
            | refine g_block ?_
            | refine g_inBlock ?_
            | refine g_skip ?_
            | refine g_exit rfl ?_
            | refine g_if_true rfl ?_
            | refine g_if_false rfl ?_
            | (refine s_split rfl rfl (fun hb => ?_) (fun hb => ?_) <;> (try simp only [decide_eq_true_eq, decide_eq_false_iff_not, Bool.not_eq_true', Bool.not_eq_false', Bool.not_eq_true, Bool.not_eq_false, Bool.not_true, Bool.not_false, Bool.false_eq_true, Bool.true_eq_false, reduceCtorEq, not_true_eq_false, not_false_eq_true, List.length_map] at hb) <;> first | (exfalso; omega) | refine run_ th rfl ?_)
            | (refine d_split rfl rfl rfl (fun hb => ?_) (fun hb => ?_) <;> (try simp only [decide_eq_true_eq, decide_eq_false_iff_not, Bool.not_eq_true', Bool.not_eq_false', Bool.not_eq_true, Bool.not_eq_false, Bool.not_true, Bool.not_false, Bool.false_eq_true, Bool.true_eq_false, reduceCtorEq, not_true_eq_false, not_false_eq_true, List.length_map] at hb) <;> first | (exfalso; omega) | refine drun_ th rfl ?_)
            | (refine g_if rfl (fun hb => ?_) (fun hb => ?_) <;> (try simp only [decide_eq_true_eq, decide_eq_false_iff_not, Bool.not_eq_true', Bool.not_eq_false', Bool.not_eq_true, Bool.not_eq_false, Bool.not_true, Bool.not_false, Bool.false_eq_true, Bool.true_eq_false, reduceCtorEq, not_true_eq_false, not_false_eq_true, List.length_map] at hb) <;> (try (exfalso; omega))))
          refine g_endL th Try.func25 (.inr ⟨_, rfl⟩) rfl rfl rfl ?_ rfl
          rw [← hRR]
          exact .refl _
      · simp only at hk hq
        subst hk
        have hq1 : t * roles.length + r < s.mail.length := by
          rw [hn4]
          have := Nat.mul_le_mul_right roles.length (show t + 1 ≤ roles.length from htt)
          rw [Nat.add_mul] at this; omega
        have hmq : (s.mail.map fun m => [namesT m])[t * roles.length + r]? = some [namesT (label :: rest)] := by
          rw [← hq]; simp [mailAt, hq1]
        have hdo : doS b roles s ⟨2, (r : Int), label⟩ = ⟨stepAt r label s.at_ (stNd b s r).arms, s.mail.set (t * roles.length + r) rest⟩ := by
          have hpe := hcd.peer
          simp [doS, moveQ, moveM, peerN, hpe, hq]
        refine con_of (c := _) Try.func25 rfl rfl rfl (by decide) fun w M0 H Z => ?_
        repeat' (first
          | (have hxl' : hs.length = s.mail.length := hxl; have hql : t * roles.length + r < s.mail.length := hq1; refine g_freezeP 93 92 rfl rfl rfl rfl rfl rfl (qpool_fst hxl').symm ?_; rw [qpool_snd hxl']; refine g_drawF (ι := Unit) [10] [] rcET (rcMM b s ⟨2, (r : Int), label⟩ vA vM (s.mail.map fun m => [namesT m]) (t * roles.length + r) ((qrow (label :: rest)).drop 1)) () mix rfl (fun k x hk => by match k, hk with | 0, _ => (refine subG_spec ?_; repeat (first | exact trivial | refine ⟨rfl, ?_⟩))) rfl (fun k x => rfl) rfl rfl (by simp) rfl rfl ?_; refine frun_ th rfl ?_)
          | refine g_seq ?_
          | (refine g_region ?_; refine run_ th rfl ?_)
          | (refine g_drawC mix rfl rfl ?_; refine drun_ th rfl ?_)
          | (refine g_drawEC mix rfl rfl ?_; refine erun_ th rfl ?_)
          | refine SOps.nil ?_
          | refine DOps.nil ?_
          | refine EOps.nil ?_ rfl rfl
          | refine g_block ?_
          | refine g_inBlock ?_
          | refine g_skip ?_
          | refine g_exit rfl ?_
          | refine g_if_true rfl ?_
          | refine g_if_false rfl ?_
          | (refine s_split rfl rfl (fun hb => ?_) (fun hb => ?_) <;> (try simp only [decide_eq_true_eq, decide_eq_false_iff_not, Bool.not_eq_true', Bool.not_eq_false', Bool.not_eq_true, Bool.not_eq_false, Bool.not_true, Bool.not_false, Bool.false_eq_true, Bool.true_eq_false, reduceCtorEq, not_true_eq_false, not_false_eq_true, List.length_map] at hb) <;> first | (exfalso; omega) | refine run_ th rfl ?_)
          | (refine d_split rfl rfl rfl (fun hb => ?_) (fun hb => ?_) <;> (try simp only [decide_eq_true_eq, decide_eq_false_iff_not, Bool.not_eq_true', Bool.not_eq_false', Bool.not_eq_true, Bool.not_eq_false, Bool.not_true, Bool.not_false, Bool.false_eq_true, Bool.true_eq_false, reduceCtorEq, not_true_eq_false, not_false_eq_true, List.length_map] at hb) <;> first | (exfalso; omega) | refine drun_ th rfl ?_)
          | (refine g_if rfl (fun hb => ?_) (fun hb => ?_) <;> (try simp only [decide_eq_true_eq, decide_eq_false_iff_not, Bool.not_eq_true', Bool.not_eq_false', Bool.not_eq_true, Bool.not_eq_false, Bool.not_true, Bool.not_false, Bool.false_eq_true, Bool.true_eq_false, reduceCtorEq, not_true_eq_false, not_false_eq_true, List.length_map] at hb) <;> (try (exfalso; omega)))
          | (refine s_call hmay [] rfl rfl rfl rfl rfl rfl rfl rfl rfl rfl ?_; refine run_ th rfl ?_)
          | (refine d_call hmov [] rfl rfl rfl rfl rfl rfl rfl rfl rfl rfl rfl ?_; refine drun_ th rfl ?_)
          | (refine d_call hcon [] rfl rfl rfl rfl rfl rfl rfl rfl rfl rfl rfl ?_; refine drun_ th rfl ?_)
          | (refine s_callO (copied_c s hbig) [91, 92, 93] rfl rfl rfl rfl rfl rfl rfl rfl rfl (fun _ => rfl) (fun x hxl => ?_); obtain ⟨vA, vM, hs⟩ := x; refine run_ th rfl ?_)
          | (refine s_call hpc [] rfl rfl rfl rfl rfl rfl rfl rfl rfl rfl ?_; refine run_ th rfl ?_)
          | (refine s_call (queue_c roles t r hn2 (by omega) (by omega)) [] rfl rfl rfl rfl rfl rfl rfl rfl rfl rfl ?_; refine run_ th rfl ?_)
          | (refine f_pidx (r := 92) th rfl rfl rfl rfl rfl rfl rfl rfl rfl rfl rfl 0 rfl (t * roles.length + r) rfl (by rw [List.length_map]; exact hql) ?_; refine frun_ th rfl ?_)
          | (refine f_pload (r := 92) th rfl rfl rfl rfl rfl rfl rfl rfl rfl 0 rfl hmq rfl ?_; refine frun_ th rfl ?_)
          | (refine f_step (fun mm' => op_sliceFrom (j := 1) th rfl rfl rfl rfl rfl rfl rfl (by simp) rfl rfl) rfl rfl rfl ?_; refine frun_ th rfl ?_))
        refine FOps.nil ⟨Effs.cons rfl (fun x => ?_) Effs.nil, fun v => ?_⟩
        · exact ef_pstore (i := 92) th rfl rfl rfl rfl rfl rfl rfl rfl rfl rfl rfl rfl rfl rfl 0 rfl (by rw [List.length_map]; exact hql) rfl rfl
        have hR : (s.mail.map fun m => [namesT m]).set (t * roles.length + r) [.slice false 1 ((qrow (label :: rest)).drop 1)] = (s.mail.set (t * roles.length + r) rest).map fun m => [namesT m] := by
          rw [List.map_set]; rfl
        generalize hRR : (s.mail.set (t * roles.length + r) rest).map (fun m => [namesT m]) = R at hR
        repeat' (first
          | refine g_seq ?_
          | (refine g_region ?_; refine run_ th rfl ?_)
          | (refine g_drawC mix rfl rfl ?_; refine drun_ th rfl ?_)
          | (refine g_drawEC mix rfl rfl ?_; refine erun_ th rfl ?_)
          | refine SOps.nil ?_
          | refine DOps.nil ?_
          | refine EOps.nil ?_ rfl rfl
          | refine g_block ?_
          | refine g_inBlock ?_
          | refine g_skip ?_
          | refine g_exit rfl ?_
          | refine g_if_true rfl ?_
          | refine g_if_false rfl ?_
          | (refine s_split rfl rfl (fun hb => ?_) (fun hb => ?_) <;> (try simp only [decide_eq_true_eq, decide_eq_false_iff_not, Bool.not_eq_true', Bool.not_eq_false', Bool.not_eq_true, Bool.not_eq_false, Bool.not_true, Bool.not_false, Bool.false_eq_true, Bool.true_eq_false, reduceCtorEq, not_true_eq_false, not_false_eq_true, List.length_map] at hb) <;> first | (exfalso; omega) | refine run_ th rfl ?_)
          | (refine d_split rfl rfl rfl (fun hb => ?_) (fun hb => ?_) <;> (try simp only [decide_eq_true_eq, decide_eq_false_iff_not, Bool.not_eq_true', Bool.not_eq_false', Bool.not_eq_true, Bool.not_eq_false, Bool.not_true, Bool.not_false, Bool.false_eq_true, Bool.true_eq_false, reduceCtorEq, not_true_eq_false, not_false_eq_true, List.length_map] at hb) <;> first | (exfalso; omega) | refine drun_ th rfl ?_)
          | (refine g_if rfl (fun hb => ?_) (fun hb => ?_) <;> (try simp only [decide_eq_true_eq, decide_eq_false_iff_not, Bool.not_eq_true', Bool.not_eq_false', Bool.not_eq_true, Bool.not_eq_false, Bool.not_true, Bool.not_false, Bool.false_eq_true, Bool.true_eq_false, reduceCtorEq, not_true_eq_false, not_false_eq_true, List.length_map] at hb) <;> (try (exfalso; omega)))
          | (refine d_idx th rfl rfl rfl rfl rfl rfl rfl rfl rfl r _ rfl hx ?_; refine drun_ th rfl ?_)
          | (refine d_idx th rfl rfl rfl rfl rfl rfl rfl rfl rfl (atN s r) _ rfl hy ?_; refine drun_ th rfl ?_))
        refine g_loop1 (fun j : Nat => j ≤ (stNd b s r).arms.length)
          (fun j => [(7, .v (.one (.ptr 7 0))), (8, .v (.one (.ptr 8 0))), (9, .v (C1 (.int .i64 0))), (10, .v (.one (.ptr 10 0))), (84, .v (C1 (armsT (stNd b s r).arms))), (85, .v (C1 (.int .i64 ((stNd b s r).arms.length : Int)))), (86, .v (C1 (.int .i64 (j : Int))))])
          (fun j => [(10, .box [.c (.val vA), .c (.val vM)]), (91, .pool 3 1 [(vA, irow (stepAt r label s.at_ ((stNd b s r).arms.take j)))]), (92, .pool 25 1 [(vM, R)]), (8, .box [.c .nils, .c .nils]), (7, .box [.c (.int .i64 2), .c (.int .i64 (r : Int)), .c (.str label)])])
          (fun j => (stNd b s r).arms.length - j) 0 (Nat.zero_le _)
          (fun a w h => h.sub (by exact ⟨⟨_, rfl, .refl _⟩, ⟨_, rfl, .refl _⟩, ⟨_, rfl, .refl _⟩, ⟨_, rfl, .refl _⟩, ⟨_, rfl, .refl _⟩, ⟨_, rfl, le_int (by simp)⟩, ⟨_, rfl, le_int rfl⟩, trivial⟩)
            (by exact ⟨⟨_, rfl, .refl _⟩, ⟨_, rfl, .refl _⟩, ⟨_, rfl, le_pool (by rw [hR])⟩, ⟨_, rfl, .refl _⟩, ⟨_, rfl, .refl _⟩, trivial⟩) rfl rfl rfl) (fun j hj ih => ?_)
        by_cases hjl : j < (stNd b s r).arms.length
        · have hxa : ((stNd b s r).arms.map Edge.cs)[j]? = some ((stNd b s r).arms[j]).cs := by simp [hjl]
          have hst := stepAt_succ (r := r) (label := label) hjl s.at_
          have hsl := stepAt_len r label ((stNd b s r).arms.take j) s.at_
          have hih := ih (j + 1) hjl (by omega)
          have hnd := stNd_few hA s r
          repeat' (first
            | refine g_seq ?_
            | (refine g_region ?_; refine run_ th rfl ?_)
            | (refine g_drawC mix rfl rfl ?_; refine drun_ th rfl ?_)
            | (refine g_drawEC mix rfl rfl ?_; refine erun_ th rfl ?_)
            | refine SOps.nil ?_
            | refine DOps.nil ?_
            | refine EOps.nil ?_ rfl rfl
            | refine g_block ?_
            | refine g_inBlock ?_
            | refine g_skip ?_
            | refine g_exit rfl ?_
            | refine g_if_true rfl ?_
            | refine g_if_false rfl ?_
            | (refine s_split rfl rfl (fun hb => ?_) (fun hb => ?_) <;> (try simp only [decide_eq_true_eq, decide_eq_false_iff_not, Bool.not_eq_true', Bool.not_eq_false', Bool.not_eq_true, Bool.not_eq_false, Bool.not_true, Bool.not_false, Bool.false_eq_true, Bool.true_eq_false, reduceCtorEq, not_true_eq_false, not_false_eq_true, List.length_map] at hb) <;> first | (exfalso; omega) | refine run_ th rfl ?_)
            | (refine d_split rfl rfl rfl (fun hb => ?_) (fun hb => ?_) <;> (try simp only [decide_eq_true_eq, decide_eq_false_iff_not, Bool.not_eq_true', Bool.not_eq_false', Bool.not_eq_true, Bool.not_eq_false, Bool.not_true, Bool.not_false, Bool.false_eq_true, Bool.true_eq_false, reduceCtorEq, not_true_eq_false, not_false_eq_true, List.length_map] at hb) <;> first | (exfalso; omega) | refine drun_ th rfl ?_)
            | (refine g_if rfl (fun hb => ?_) (fun hb => ?_) <;> (try simp only [decide_eq_true_eq, decide_eq_false_iff_not, Bool.not_eq_true', Bool.not_eq_false', Bool.not_eq_true, Bool.not_eq_false, Bool.not_true, Bool.not_false, Bool.false_eq_true, Bool.true_eq_false, reduceCtorEq, not_true_eq_false, not_false_eq_true, List.length_map] at hb) <;> (try (exfalso; omega)))
            | (refine s_idx th rfl rfl rfl rfl rfl rfl rfl rfl rfl j _ rfl hxa ?_; refine run_ th rfl ?_)
            | (refine s_pidx (r := 91) th rfl rfl rfl rfl rfl rfl rfl rfl rfl rfl 0 rfl r rfl (by simp [hsl]; omega) ?_; refine run_ th rfl ?_)
            | (refine s_pstore (r := 91) th rfl rfl rfl rfl rfl rfl rfl rfl rfl rfl rfl rfl rfl 0 rfl (by simp [hsl]; omega) ?_; refine run_ th rfl ?_)
            | (refine s_add rfl rfl rfl rfl rfl rfl (by omega) ?_; refine run_ th rfl ?_))
          · rw [if_pos (by simpa using hb)] at hst
            rw [hst] at hih
            exact g_sub (by exact ⟨⟨_, rfl, .refl _⟩, ⟨_, rfl, .refl _⟩, ⟨_, rfl, .refl _⟩, ⟨_, rfl, .refl _⟩, ⟨_, rfl, .refl _⟩, ⟨_, rfl, .refl _⟩, ⟨_, rfl, le_int (by omega)⟩, trivial⟩)
              (by exact ⟨⟨_, rfl, .refl _⟩, ⟨_, rfl, le_pool (by simp [irow, List.map_set])⟩, ⟨_, rfl, .refl _⟩, ⟨_, rfl, .refl _⟩, ⟨_, rfl, .refl _⟩, trivial⟩) rfl rfl rfl hih
          · rw [if_neg (by simpa using hb)] at hst
            rw [hst] at hih
            exact g_sub (by exact ⟨⟨_, rfl, .refl _⟩, ⟨_, rfl, .refl _⟩, ⟨_, rfl, .refl _⟩, ⟨_, rfl, .refl _⟩, ⟨_, rfl, .refl _⟩, ⟨_, rfl, .refl _⟩, ⟨_, rfl, le_int (by omega)⟩, trivial⟩)
              (by exact ⟨⟨_, rfl, .refl _⟩, ⟨_, rfl, .refl _⟩, ⟨_, rfl, .refl _⟩, ⟨_, rfl, .refl _⟩, ⟨_, rfl, .refl _⟩, trivial⟩) rfl rfl rfl hih
        · have hje : j = (stNd b s r).arms.length := by omega
          subst hje
          rw [List.take_length]
          refine g_freezeB 91 10 0 rfl rfl rfl rfl rfl rfl rfl ?_
          refine g_freezeB 92 10 1 rfl rfl rfl rfl rfl rfl rfl ?_
          rw [hdo]
          repeat' (first
            | refine g_seq ?_
            | (refine g_region ?_; refine run_ th rfl ?_)
            | (refine g_drawC mix rfl rfl ?_; refine drun_ th rfl ?_)
            | (refine g_drawEC mix rfl rfl ?_; refine erun_ th rfl ?_)
            | refine SOps.nil ?_
            | refine DOps.nil ?_
            | refine EOps.nil ?_ rfl rfl
            | refine g_block ?_
            | refine g_inBlock ?_
            | refine g_skip ?_
            | refine g_exit rfl ?_
            | refine g_if_true rfl ?_
            | refine g_if_false rfl ?_
            | (refine s_split rfl rfl (fun hb => ?_) (fun hb => ?_) <;> (try simp only [decide_eq_true_eq, decide_eq_false_iff_not, Bool.not_eq_true', Bool.not_eq_false', Bool.not_eq_true, Bool.not_eq_false, Bool.not_true, Bool.not_false, Bool.false_eq_true, Bool.true_eq_false, reduceCtorEq, not_true_eq_false, not_false_eq_true, List.length_map] at hb) <;> first | (exfalso; omega) | refine run_ th rfl ?_)
            | (refine d_split rfl rfl rfl (fun hb => ?_) (fun hb => ?_) <;> (try simp only [decide_eq_true_eq, decide_eq_false_iff_not, Bool.not_eq_true', Bool.not_eq_false', Bool.not_eq_true, Bool.not_eq_false, Bool.not_true, Bool.not_false, Bool.false_eq_true, Bool.true_eq_false, reduceCtorEq, not_true_eq_false, not_false_eq_true, List.length_map] at hb) <;> first | (exfalso; omega) | refine drun_ th rfl ?_)
            | (refine g_if rfl (fun hb => ?_) (fun hb => ?_) <;> (try simp only [decide_eq_true_eq, decide_eq_false_iff_not, Bool.not_eq_true', Bool.not_eq_false', Bool.not_eq_true, Bool.not_eq_false, Bool.not_true, Bool.not_false, Bool.false_eq_true, Bool.true_eq_false, reduceCtorEq, not_true_eq_false, not_false_eq_true, List.length_map] at hb) <;> (try (exfalso; omega))))
          refine g_endL th Try.func25 (.inr ⟨_, rfl⟩) rfl rfl rfl ?_ rfl
          rw [← hRR]
          exact .refl _
    · rw [show decide (m ∈ movesS b roles s) = false by simpa using hmem] at hcon
      rw [show doO b roles s m = (⟨[], []⟩, 1301) by simp [doO, hM, hmem]]
      refine con_of (c := _) Try.func25 rfl rfl rfl (by decide) fun w M0 H Z => ?_
      repeat' (first
        | refine g_seq ?_
        | (refine g_region ?_; refine run_ th rfl ?_)
        | (refine g_drawC mix rfl rfl ?_; refine drun_ th rfl ?_)
        | (refine g_drawEC mix rfl rfl ?_; refine erun_ th rfl ?_)
        | refine SOps.nil ?_
        | refine DOps.nil ?_
        | refine EOps.nil ?_ rfl rfl
        | refine g_block ?_
        | refine g_inBlock ?_
        | refine g_skip ?_
        | refine g_exit rfl ?_
        | refine g_if_true rfl ?_
        | refine g_if_false rfl ?_
        | (refine s_split rfl rfl (fun hb => ?_) (fun hb => ?_) <;> (try simp only [decide_eq_true_eq, decide_eq_false_iff_not, Bool.not_eq_true', Bool.not_eq_false', Bool.not_eq_true, Bool.not_eq_false, Bool.not_true, Bool.not_false, Bool.false_eq_true, Bool.true_eq_false, reduceCtorEq, not_true_eq_false, not_false_eq_true, List.length_map] at hb) <;> first | (exfalso; omega) | refine run_ th rfl ?_)
        | (refine d_split rfl rfl rfl (fun hb => ?_) (fun hb => ?_) <;> (try simp only [decide_eq_true_eq, decide_eq_false_iff_not, Bool.not_eq_true', Bool.not_eq_false', Bool.not_eq_true, Bool.not_eq_false, Bool.not_true, Bool.not_false, Bool.false_eq_true, Bool.true_eq_false, reduceCtorEq, not_true_eq_false, not_false_eq_true, List.length_map] at hb) <;> first | (exfalso; omega) | refine drun_ th rfl ?_)
        | (refine g_if rfl (fun hb => ?_) (fun hb => ?_) <;> (try simp only [decide_eq_true_eq, decide_eq_false_iff_not, Bool.not_eq_true', Bool.not_eq_false', Bool.not_eq_true, Bool.not_eq_false, Bool.not_true, Bool.not_false, Bool.false_eq_true, Bool.true_eq_false, reduceCtorEq, not_true_eq_false, not_false_eq_true, List.length_map] at hb) <;> (try (exfalso; omega)))
        | refine g_endL th Try.func25 (.inr ⟨_, rfl⟩) rfl rfl rfl ?_ rfl
        | (refine s_call hmay [] rfl rfl rfl rfl rfl rfl rfl rfl rfl rfl ?_; refine run_ th rfl ?_)
        | (refine d_call hmov [] rfl rfl rfl rfl rfl rfl rfl rfl rfl rfl rfl ?_; refine drun_ th rfl ?_)
        | (refine d_call hcon [] rfl rfl rfl rfl rfl rfl rfl rfl rfl rfl rfl ?_; refine drun_ th rfl ?_))
      all_goals first | exact .tup (.cons (.agg (.cons (.c (.nil 1)) (.cons (.c (.nil 1)) .nil))) (.cons (.refl _) .nil)) | (exfalso; revert hb; decide)
end Go.Sy
