/- Contracts of the reference, bundle Rf3. -/
import Derived.Test.YtohalikeabmimaaDoorRf2
/- Contracts of the reference: Copy. -/
set_option linter.unusedSimpArgs false
set_option linter.unusedVariables false
set_option linter.unusedSectionVars false
namespace Go.Sy
open Go.Proofs
set_option maxRecDepth 100000
attribute [local irreducible] SOps Goes DOps EOps FOps

def crET : Nat → Value × Value → TM
  | 1, x => [(23, .v (C1 (.val x.1)))]
  | 2, x => [(24, .v (C1 (.slice true 1 [[.val x.1]])))]
  | 3, x => [(25, .v (C1 (.val x.2)))]
  | _, _ => []
def crMM (s : Stg) (m : List ByteArray) (qs : PQ) (vA vM : Value) (hs : List Value) : Nat → Value × Value → MM
  | 0, _ => [(93, .pool 9 1 qs), (92, .pool 23 1 [(vM, vrow hs)]), (91, .pool 3 1 [(vA, irow s.at_)]), (3, .box [.c (.val vA), .c (.val vM)]), (2, .box [.c .nils, .c .nils]), (1, .box [.c (intsT s.at_), .c (mailT s.mail)])]
  | 1, x | 2, x => [(99, .pool 9 1 [(x.1, qrow m)]), (93, .pool 9 1 qs), (92, .pool 23 1 [(vM, vrow hs)]), (91, .pool 3 1 [(vA, irow s.at_)]), (3, .box [.c (.val vA), .c (.val vM)]), (2, .box [.c .nils, .c .nils]), (1, .box [.c (intsT s.at_), .c (mailT s.mail)])]
  | 3, x => [(99, .pool 9 1 [(x.1, qrow m)]), (93, .pool 9 1 qs), (92, .pool 23 1 [(x.2, vrow hs ++ [[.val x.1]])]), (91, .pool 3 1 [(vA, irow s.at_)]), (3, .box [.c (.val vA), .c (.val vM)]), (2, .box [.c .nils, .c .nils]), (1, .box [.c (intsT s.at_), .c (mailT s.mail)])]
  | _, x => [(99, .pool 9 1 [(x.1, qrow m)]), (93, .pool 9 1 qs), (92, .pool 23 1 [(x.2, vrow hs ++ [[.val x.1]])]), (91, .pool 3 1 [(vA, irow s.at_)]), (3, .box [.c (.val vA), .c (.val x.2)]), (2, .box [.c .nils, .c .nils]), (1, .box [.c (intsT s.at_), .c (mailT s.mail)])]

set_option maxHeartbeats 4000000 in
theorem copyR_c (s : Stg) (hb : StgBig s) : ConO Tryd.prog 60 [Ag s.cs] (fun x : Value × Value × List Value => x.2.2.length = s.mail.length) (fun x => .v (.agg [.c (.val x.1), .c (.val x.2.1)])) (stgPools s) := by
  have hba := hb.at_
  have hbn := hb.mail
  refine conO_of (c := _) Tryd.func60 rfl rfl rfl (by decide) fun w M0 H => ?_
  repeat' (first
   | refine gc_ rfl ?_
   | (refine g_region ?_; refine run_ th rfl ?_)
   | (refine g_drawC mix rfl rfl ?_; refine drun_ th rfl ?_)
   | (refine g_drawEC mix rfl rfl ?_; refine erun_ th rfl ?_)
   | refine SOps.nil ?_
   | refine DOps.nil ?_
   | refine EOps.nil ?_ rfl rfl
   | (refine s_split rfl rfl (fun hb => ?_) (fun hb => ?_) <;> (try simp only [hbL] at hb) <;> first | (exfalso; omega) | refine run_ th rfl ?_)
   | (refine d_split rfl rfl rfl (fun hb => ?_) (fun hb => ?_) <;> (try simp only [hbL] at hb) <;> first | (exfalso; omega) | refine drun_ th rfl ?_)
   | (refine g_if rfl (fun hb => ?_) (fun hb => ?_) <;> (try simp only [hbL] at hb) <;> (try (exfalso; omega)))
   | (refine s_appendN th 91 rfl rfl rfl rfl rfl rfl rfl rfl rfl rfl rfl rfl rfl rfl (by constructor <;> simp <;> omega) ?_; refine run_ th rfl ?_))
  refine g_toPool 91 rfl rfl fun vA => ?_
  refine g_nilVal 3 1 rfl rfl ?_
  refine g_newPool 92 23 1 rfl rfl ?_
  refine g_nilPool 92 rfl rfl rfl rfl ?_
  refine g_newPool 93 9 1 rfl rfl ?_
  refine g_loop3 (fun (k : Nat) (_ : Value) (hs : List Value) => k ≤ s.mail.length ∧ hs.length = k)
    (fun k _ _ => [(1, .v (.one (.ptr 1 0))), (2, .v (.one (.ptr 2 0))), (3, .v (.one (.ptr 3 0))), (4, .v (C1 (.int .i64 (k : Int))))])
    (fun k vM hs => [(93, .pool 9 1 (qpool hs (s.mail.take k))), (92, .pool 23 1 [(vM, vrow hs)]), (91, .pool 3 1 [(vA, irow s.at_)]), (3, .box [.c (.val vA), .c (.val vM)]), (2, .box [.c .nils, .c .nils]), (1, .box [.c (intsT s.at_), .c (mailT s.mail)])])
    (fun k _ _ => s.mail.length - k) 0 (.slice none 0 0) [] ⟨Nat.zero_le _, rfl⟩
    (fun a w h => h.sub (by exact ⟨⟨_, rfl, .refl _⟩, ⟨_, rfl, .refl _⟩, ⟨_, rfl, .refl _⟩, ⟨_, rfl, le_int rfl⟩, trivial⟩)
      (by exact ⟨⟨_, rfl, .refl _⟩, ⟨_, rfl, .refl _⟩, ⟨_, rfl, .refl _⟩, ⟨_, rfl, .refl _⟩, ⟨_, rfl, .refl _⟩, ⟨_, rfl, .refl _⟩, trivial⟩) rfl rfl rfl) (fun k vM hs hk ih => ?_)
  obtain ⟨hk, hhs⟩ := hk
  by_cases hlt : k < s.mail.length
  · have hx : (s.mail.map fun m => [namesT m])[k]? = some [namesT s.mail[k]] := by simp [hlt]
    have hbm := hb.each s.mail[k] (List.getElem_mem hlt)
    repeat' (first
     | (refine g_drawF (ι := Value × Value) [7, 8, 9, 11] [92] crET (crMM s s.mail[k] (qpool hs (s.mail.take k)) vA vM hs) (vM, vM) mix rfl (fun k x hk => by match k, hk with | 0, _ => (refine subG_spec ?_; repeat (first | exact trivial | refine ⟨rfl, ?_⟩)) | 1, _ => (refine subG_spec ?_; repeat (first | exact trivial | refine ⟨rfl, ?_⟩)) | 2, _ => (refine subG_spec ?_; repeat (first | exact trivial | refine ⟨rfl, ?_⟩)) | 3, _ => (refine subG_spec ?_; repeat (first | exact trivial | refine ⟨rfl, ?_⟩))) rfl (fun k x => by match k with | 0 => rfl | 1 => rfl | 2 => rfl | 3 => rfl | _ + 4 => rfl) rfl rfl (by simp) rfl rfl ?_; refine frun_ th rfl ?_)
     | refine gc_ rfl ?_
     | (refine g_region ?_; refine run_ th rfl ?_)
     | (refine g_drawC mix rfl rfl ?_; refine drun_ th rfl ?_)
     | (refine g_drawEC mix rfl rfl ?_; refine erun_ th rfl ?_)
     | refine SOps.nil ?_
     | refine DOps.nil ?_
     | refine EOps.nil ?_ rfl rfl
     | (refine s_split rfl rfl (fun hb => ?_) (fun hb => ?_) <;> (try simp only [hbL] at hb) <;> first | (exfalso; omega) | refine run_ th rfl ?_)
     | (refine d_split rfl rfl rfl (fun hb => ?_) (fun hb => ?_) <;> (try simp only [hbL] at hb) <;> first | (exfalso; omega) | refine drun_ th rfl ?_)
     | (refine g_if rfl (fun hb => ?_) (fun hb => ?_) <;> (try simp only [hbL] at hb) <;> (try (exfalso; omega)))
     | (refine f_idx th rfl rfl rfl rfl rfl rfl rfl rfl rfl rfl k _ rfl hx ?_; refine frun_ th rfl ?_))
    · refine FOps.nil ⟨Effs.cons rfl (fun x => ?_) (Effs.cons rfl (fun x => ?_) (Effs.cons rfl (fun x => ?_) (Effs.cons rfl (fun x => ?_) Effs.nil))), fun x => ?_⟩
      · exact ef_appendNew th 99 rfl rfl rfl rfl rfl rfl rfl rfl rfl rfl rfl rfl rfl rfl rfl rfl (by constructor <;> simp <;> omega) (fun v => (v, x.2)) (fun _ => rfl) (fun _ => rfl)
      · exact ef_val (op_lit th rfl rfl rfl rfl rfl rfl rfl rfl rfl (.refl _) rfl rfl) rfl rfl rfl rfl
      · exact ef_append (i := 92) th rfl rfl rfl rfl rfl rfl rfl rfl rfl rfl rfl rfl rfl rfl rfl rfl 0 rfl (by constructor <;> simp [hhs] <;> omega) (fun v' => (x.1, v')) (fun _ => rfl) (fun _ => rfl)
      · exact ef_store (i := 3) th rfl rfl rfl rfl rfl rfl rfl rfl rfl rfl rfl rfl
      · refine g_merge 99 93 rfl rfl rfl rfl rfl rfl rfl rfl rfl ?_
        repeat' (first
         | refine gc_ rfl ?_
         | (refine g_region ?_; refine run_ th rfl ?_)
         | (refine g_drawC mix rfl rfl ?_; refine drun_ th rfl ?_)
         | (refine g_drawEC mix rfl rfl ?_; refine erun_ th rfl ?_)
         | refine SOps.nil ?_
         | refine DOps.nil ?_
         | refine EOps.nil ?_ rfl rfl
         | (refine s_split rfl rfl (fun hb => ?_) (fun hb => ?_) <;> (try simp only [hbL] at hb) <;> first | (exfalso; omega) | refine run_ th rfl ?_)
         | (refine d_split rfl rfl rfl (fun hb => ?_) (fun hb => ?_) <;> (try simp only [hbL] at hb) <;> first | (exfalso; omega) | refine drun_ th rfl ?_)
         | (refine g_if rfl (fun hb => ?_) (fun hb => ?_) <;> (try simp only [hbL] at hb) <;> (try (exfalso; omega)))
         | (refine s_add rfl rfl rfl rfl rfl rfl (by omega) ?_; refine run_ th rfl ?_))
        have hq : qpool hs (s.mail.take k) ++ [(x.1, qrow s.mail[k])] = qpool (hs ++ [x.1]) (s.mail.take (k + 1)) := by
          rw [qpool, qpool, List.take_succ_eq_append_getElem hlt, List.zip_append (by simp; omega), List.map_append]; rfl
        have hv : vrow hs ++ [[.val x.1]] = vrow (hs ++ [x.1]) := by simp
        have hih := ih (k + 1) x.2 (hs ++ [x.1]) ⟨hlt, by simp [hhs]⟩ (by omega)
        exact g_sub (by exact ⟨⟨_, rfl, .refl _⟩, ⟨_, rfl, .refl _⟩, ⟨_, rfl, .refl _⟩, ⟨_, rfl, le_int (by omega)⟩, trivial⟩)
          (by exact ⟨⟨_, rfl, le_pool hq⟩, ⟨_, rfl, le_pool (by rw [hv])⟩, ⟨_, rfl, .refl _⟩, ⟨_, rfl, .refl _⟩, ⟨_, rfl, .refl _⟩, ⟨_, rfl, .refl _⟩, trivial⟩) rfl rfl rfl hih
  · have hke : k = s.mail.length := by omega
    repeat' (first
     | refine gc_ rfl ?_
     | (refine g_region ?_; refine run_ th rfl ?_)
     | (refine g_drawC mix rfl rfl ?_; refine drun_ th rfl ?_)
     | (refine g_drawEC mix rfl rfl ?_; refine erun_ th rfl ?_)
     | refine SOps.nil ?_
     | refine DOps.nil ?_
     | refine EOps.nil ?_ rfl rfl
     | (refine s_split rfl rfl (fun hb => ?_) (fun hb => ?_) <;> (try simp only [hbL] at hb) <;> first | (exfalso; omega) | refine run_ th rfl ?_)
     | (refine d_split rfl rfl rfl (fun hb => ?_) (fun hb => ?_) <;> (try simp only [hbL] at hb) <;> first | (exfalso; omega) | refine drun_ th rfl ?_)
     | (refine g_if rfl (fun hb => ?_) (fun hb => ?_) <;> (try simp only [hbL] at hb) <;> (try (exfalso; omega))))
    refine g_endO th Tryd.func60 [91, 92, 93] (vA, vM, hs) (.inr ⟨_, rfl⟩) rfl rfl rfl ?_ rfl rfl (by simp [hhs, hke])
    subst hke
    rw [List.take_length]
    rfl
end Go.Sy

/- Contracts of the reference: done. -/
namespace Go.Sy
open Go.Proofs
set_option maxRecDepth 100000
attribute [local irreducible] SOps Goes DOps EOps FOps

abbrev dnBase (x : Nd) (m : Mv) (vA vM : Value) (arow rows : List (List CT)) (qs : PQ) : MM :=
  [(10, .box [.c (.int .i64 x.kind), .c (.str x.peer), .c (armsT x.arms)]), (9, .box [.c (.val vA), .c (.val vM)]), (91, .pool 3 1 [(vA, arow)]), (92, .pool 23 1 [(vM, rows)]), (93, .pool 9 1 qs),
   (8, .box [.c .nils, .c .nils]), (7, .box [.c (.int .i64 m.kind), .c (.int .i64 m.role), .c (.str m.label)])]
abbrev dnBaseR (x : Nd) (m : Mv) (vA vM : Value) (arow rows : List (List CT)) : MM :=
  [(10, .box [.c (.int .i64 x.kind), .c (.str x.peer), .c (armsT x.arms)]), (9, .box [.c (.val vA), .c (.val vM)]), (91, .pool 3 1 [(vA, arow)]), (92, .pool 23 1 [(vM, rows)]),
   (8, .box [.c .nils, .c .nils]), (7, .box [.c (.int .i64 m.kind), .c (.int .i64 m.role), .c (.str m.label)])]
def dnMM1 (x : Nd) (m : Mv) (vA vM : Value) (arow rows : List (List CT)) (qs : PQ) (r : Nat) (nx : Int) : Nat → Unit → MM
  | 0, _ => dnBase x m vA vM arow rows qs
  | _, _ => dnBase x m vA vM (arow.set r [.int .i64 nx]) rows qs
def dnET2 : Nat → Value → TM
  | 1, v => [(83, .v (C1 (.val v)))]
  | _, _ => []
def dnMM2 (x : Nd) (m : Mv) (vA vM : Value) (arow rows : List (List CT)) (qs : PQ) (q : Nat) (ys : List (List CT)) : Nat → Value → MM
  | 0, _ => dnBase x m vA vM arow rows qs
  | 1, v => dnBase x m vA vM arow rows (qs.set q (v, ys))
  | _, v => dnBase x m vA vM arow (rows.set q [.val v]) (qs.set q (v, ys))
def dnMM3 (x : Nd) (m : Mv) (vA vM : Value) (arow rows : List (List CT)) (q : Nat) (ys : List (List CT)) : Nat → Unit → MM
  | 0, _ => dnBaseR x m vA vM arow rows
  | _, _ => dnBaseR x m vA vM arow (rows.set q [.slice false 1 ys])

set_option maxHeartbeats 16000000 in
theorem doneR_c {b : Bk} {roles : List ByteArray} {s : Stg} {m : Mv} (hmem : m ∈ movesS b roles s) : Con Tryd.prog 36 [] [Ag b.cs, C1 (namesT roles), Ag s.cs, Ag m.cs] (.v (Ag (doS b roles s m).cs)) [] := by
  obtain ⟨hM, r, t, hcd⟩ := mem_moves hmem
  obtain ⟨hn1, hn2, hn3, hn4, hro⟩ := mayS_at hM
  have hrt := hcd.lt
  have htt := hcd.tlt
  have hpe := hcd.peer
  have hbk := mayS_book hM
  have hpl := placeR_c roles (stNd b s r).peer
  rw [show placeI roles (stNd b s r).peer = (t : Int) by unfold peerI at hpe; split at hpe <;> omega] at hpl
  have hrole := hcd.role
  obtain ⟨kind, role, label⟩ := m
  simp only at hrole
  subst hrole
  have hbig := mayS_big hM
  obtain ⟨hx, hy⟩ := (hro r hcd.lt).idx
  have hfew := stNd_few (book_few hbk) s r
  have hml : roles.length * roles.length ≤ 5 * 5 := Nat.mul_le_mul hn2 hn2
  refine con_of (c := _) Tryd.func36 rfl rfl rfl (by decide) fun w M0 H Z => ?_
  repeat' (first
   | refine gc_ rfl ?_
   | (refine g_region ?_; refine run_ th rfl ?_)
   | (refine g_drawC mix rfl rfl ?_; refine drun_ th rfl ?_)
   | (refine g_drawEC mix rfl rfl ?_; refine erun_ th rfl ?_)
   | refine SOps.nil ?_
   | refine DOps.nil ?_
   | refine EOps.nil ?_ rfl rfl
   | (refine s_split rfl rfl (fun hb => ?_) (fun hb => ?_) <;> (try simp only [hbL] at hb) <;> first | (exfalso; omega) | refine run_ th rfl ?_)
   | (refine d_split rfl rfl rfl (fun hb => ?_) (fun hb => ?_) <;> (try simp only [hbL] at hb) <;> first | (exfalso; omega) | refine drun_ th rfl ?_)
   | (refine g_if rfl (fun hb => ?_) (fun hb => ?_) <;> (try simp only [hbL] at hb) <;> (try (exfalso; omega)))
   | (refine s_callO (copyR_c s hbig) [91, 92, 93] rfl rfl rfl rfl rfl rfl rfl rfl rfl (fun _ => rfl) (fun x hxl => ?_); obtain ⟨vA, vM, hs⟩ := x; refine run_ th rfl ?_)
   | (refine e_idx th rfl rfl rfl rfl rfl rfl rfl rfl rfl r _ rfl hx ?_; refine erun_ th rfl ?_)
   | (refine e_idx th rfl rfl rfl rfl rfl rfl rfl rfl rfl (atN s r) _ rfl hy ?_; refine erun_ th rfl ?_)
   | (refine s_call hpl [] rfl rfl rfl rfl rfl rfl rfl rfl rfl rfl ?_; refine run_ th rfl ?_))
  have hxl' : hs.length = s.mail.length := hxl
  refine g_loop1 (fun j : Nat => j ≤ (stNd b s r).arms.length)
    (fun j => [(7, .v (.one (.ptr 7 0))), (8, .v (.one (.ptr 8 0))), (9, .v (.one (.ptr 9 0))), (10, .v (.one (.ptr 10 0))), (11, .v (C1 (.int .i64 (t : Int)))), (12, .v (C1 (.int .i64 (roles.length : Int)))), (13, .v (C1 (.int .i64 (j : Int))))])
    (fun j => dnBase (stNd b s r) ⟨kind, (r : Int), label⟩ vA vM (irow (stepAt r label s.at_ ((stNd b s r).arms.take j))) (vrow hs) (qpool hs s.mail))
    (fun j => (stNd b s r).arms.length - j) 0 (Nat.zero_le _)
    (fun a w h => h.sub (by exact ⟨⟨_, rfl, .refl _⟩, ⟨_, rfl, .refl _⟩, ⟨_, rfl, .refl _⟩, ⟨_, rfl, .refl _⟩, ⟨_, rfl, .refl _⟩, ⟨_, rfl, le_int (by simp)⟩, ⟨_, rfl, le_int rfl⟩, trivial⟩)
      (by exact ⟨⟨_, rfl, .refl _⟩, ⟨_, rfl, .refl _⟩, ⟨_, rfl, .refl _⟩, ⟨_, rfl, .refl _⟩, ⟨_, rfl, .refl _⟩, ⟨_, rfl, .refl _⟩, ⟨_, rfl, .refl _⟩, trivial⟩) rfl rfl rfl) (fun j hj ih => ?_)
  by_cases hjl : j < (stNd b s r).arms.length
  · have hxa : ((stNd b s r).arms.map Edge.cs)[j]? = some ((stNd b s r).arms[j]).cs := by simp [hjl]
    have hst := stepAt_succ (r := r) (label := label) hjl s.at_
    have hsl := stepAt_len r label ((stNd b s r).arms.take j) s.at_
    have hih := ih (j + 1) hjl (by omega)
    have hrl : r < s.at_.length := by omega
    repeat' (first
     | (refine g_drawF (ι := Unit) [11] [] (fun _ _ => []) (dnMM1 (stNd b s r) ⟨kind, (r : Int), label⟩ vA vM (irow (stepAt r label s.at_ ((stNd b s r).arms.take j))) (vrow hs) (qpool hs s.mail) r ((stNd b s r).arms[j]).next) () mix rfl (fun k x hk => by match k, hk with | 0, _ => (refine subG_spec ?_; repeat (first | exact trivial | refine ⟨rfl, ?_⟩))) rfl (fun k x => rfl) rfl rfl (by simp) rfl rfl ?_; refine frun_ th rfl ?_)
     | refine gc_ rfl ?_
     | (refine g_region ?_; refine run_ th rfl ?_)
     | (refine g_drawC mix rfl rfl ?_; refine drun_ th rfl ?_)
     | (refine g_drawEC mix rfl rfl ?_; refine erun_ th rfl ?_)
     | refine SOps.nil ?_
     | refine DOps.nil ?_
     | refine EOps.nil ?_ rfl rfl
     | (refine s_split rfl rfl (fun hb => ?_) (fun hb => ?_) <;> (try simp only [hbL] at hb) <;> first | (exfalso; omega) | refine run_ th rfl ?_)
     | (refine d_split rfl rfl rfl (fun hb => ?_) (fun hb => ?_) <;> (try simp only [hbL] at hb) <;> first | (exfalso; omega) | refine drun_ th rfl ?_)
     | (refine g_if rfl (fun hb => ?_) (fun hb => ?_) <;> (try simp only [hbL] at hb) <;> (try (exfalso; omega)))
     | (refine d_idx th rfl rfl rfl rfl rfl rfl rfl rfl rfl j _ rfl hxa ?_; refine drun_ th rfl ?_)
     | (refine f_idx th rfl rfl rfl rfl rfl rfl rfl rfl rfl rfl j _ rfl hxa ?_; refine frun_ th rfl ?_)
     | (refine f_pidx (r := 91) th rfl rfl rfl rfl rfl rfl rfl rfl rfl rfl rfl 0 rfl r rfl (by simp [hsl]; omega) ?_; refine frun_ th rfl ?_)
     | (refine FOps.nil ⟨Effs.cons rfl (fun x => ?_) Effs.nil, fun v => ?_⟩)
     | (refine ef_pstore (i := 91) th rfl rfl rfl rfl rfl rfl rfl rfl rfl rfl rfl rfl rfl rfl 0 rfl (by simp [hsl]; omega) rfl rfl)
     | (refine s_add rfl rfl rfl rfl rfl rfl (by omega) ?_; refine run_ th rfl ?_)
     | (exfalso; revert hb; simp; done))
    · rw [if_pos hb] at hst
      rw [hst] at hih
      exact g_sub (by exact ⟨⟨_, rfl, .refl _⟩, ⟨_, rfl, .refl _⟩, ⟨_, rfl, .refl _⟩, ⟨_, rfl, .refl _⟩, ⟨_, rfl, .refl _⟩, ⟨_, rfl, .refl _⟩, ⟨_, rfl, le_int (by omega)⟩, trivial⟩)
        (by exact ⟨⟨_, rfl, .refl _⟩, ⟨_, rfl, .refl _⟩, ⟨_, rfl, le_pool (by simp [irow, List.map_set])⟩, ⟨_, rfl, .refl _⟩, ⟨_, rfl, .refl _⟩, ⟨_, rfl, .refl _⟩, ⟨_, rfl, .refl _⟩, trivial⟩) rfl rfl rfl hih
    · rw [if_neg hb] at hst
      rw [hst] at hih
      exact g_sub (by exact ⟨⟨_, rfl, .refl _⟩, ⟨_, rfl, .refl _⟩, ⟨_, rfl, .refl _⟩, ⟨_, rfl, .refl _⟩, ⟨_, rfl, .refl _⟩, ⟨_, rfl, .refl _⟩, ⟨_, rfl, le_int (by omega)⟩, trivial⟩)
        (by exact ⟨⟨_, rfl, .refl _⟩, ⟨_, rfl, .refl _⟩, ⟨_, rfl, .refl _⟩, ⟨_, rfl, .refl _⟩, ⟨_, rfl, .refl _⟩, ⟨_, rfl, .refl _⟩, ⟨_, rfl, .refl _⟩, trivial⟩) rfl rfl rfl hih
  · have hje : j = (stNd b s r).arms.length := by omega
    subst hje
    rw [List.take_length]
    clear ih
    rcases hcd.kind with ⟨hk, hnk, hlen⟩ | ⟨hk, hnk, rest, hq⟩
    · simp only at hk
      subst hk
      obtain ⟨q, hqe⟩ : ∃ q : Nat, q = r * roles.length + t := ⟨_, rfl⟩
      have hI : (r : Int) * (roles.length : Int) = (q : Int) - (t : Int) := by rw [hqe]; simp
      have hq1 : q < s.mail.length := by
        rw [hn4, hqe]
        have := Nat.mul_le_mul_right roles.length (show r + 1 ≤ roles.length from hrt)
        rw [Nat.add_mul] at this; omega
      rw [← hqe] at hlen
      have hql : q < hs.length := by omega
      have hvr : (vrow hs)[q]? = some [.val hs[q]] := by simp [hql]
      have hmq : s.mail[q]? = some (mailAt s q) := by simp [mailAt, hq1]
      have hdo : doS b roles s ⟨1, (r : Int), label⟩ = ⟨stepAt r label s.at_ (stNd b s r).arms, s.mail.set q (mailAt s q ++ [label])⟩ := by
        rw [hqe]
        simp [doS, moveQ, moveM, peerN, hpe]
      have hys : qrow (mailAt s q) ++ [[.str label]] = qrow (mailAt s q ++ [label]) := by simp
      rw [hdo]
      have hmul : (0 : Int) ≤ (q : Int) - t := by rw [← hI]; exact Int.mul_nonneg (by omega) (by omega)
      repeat' (first
       | (refine g_drawF (ι := Value) [21, 23] [93] dnET2 (dnMM2 (stNd b s r) ⟨1, (r : Int), label⟩ vA vM (irow (stepAt r label s.at_ (stNd b s r).arms)) (vrow hs) (qpool hs s.mail) q (qrow (mailAt s q) ++ [[.str label]])) vA mix rfl (fun k x hk => by match k, hk with | 0, _ => (refine subG_spec ?_; repeat (first | exact trivial | refine ⟨rfl, ?_⟩)) | 1, _ => (refine subG_spec ?_; repeat (first | exact trivial | refine ⟨rfl, ?_⟩))) rfl (fun k x => by match k with | 0 => rfl | 1 => rfl | _ + 2 => rfl) rfl rfl (by simp) rfl rfl ?_; refine frun_ th rfl ?_)
       | refine gc_ rfl ?_
       | (refine g_region ?_; refine run_ th rfl ?_)
       | (refine g_drawC mix rfl rfl ?_; refine drun_ th rfl ?_)
       | (refine g_drawEC mix rfl rfl ?_; refine erun_ th rfl ?_)
       | refine SOps.nil ?_
       | refine DOps.nil ?_
       | refine EOps.nil ?_ rfl rfl
       | (refine s_split rfl rfl (fun hb => ?_) (fun hb => ?_) <;> (try simp only [hbL] at hb) <;> first | (exfalso; omega) | refine run_ th rfl ?_)
       | (refine d_split rfl rfl rfl (fun hb => ?_) (fun hb => ?_) <;> (try simp only [hbL] at hb) <;> first | (exfalso; omega) | refine drun_ th rfl ?_)
       | (refine g_if rfl (fun hb => ?_) (fun hb => ?_) <;> (try simp only [hbL] at hb) <;> (try (exfalso; omega)))
       | (refine f_step (fun mm' => op_arith (p := .mul) rfl rfl rfl (IntWalk.i64_in _ (by rw [hI]; (try dsimp only); omega)) rfl rfl) rfl rfl rfl ?_; refine frun_ th rfl ?_)
       | (refine f_step (fun mm' => op_arith (p := .add) rfl rfl rfl (IntWalk.i64_in _ (by rw [hI]; (try dsimp only); omega)) rfl rfl) rfl rfl rfl ?_; refine frun_ th rfl ?_)
       | (refine f_pidx (r := 92) th rfl rfl rfl rfl rfl rfl rfl rfl rfl rfl rfl 0 rfl q (by rw [hI]; (try dsimp only); omega) (by rw [List.length_map]; omega) ?_; refine frun_ th rfl ?_)
       | (refine f_pload (r := 92) th rfl rfl rfl rfl rfl rfl rfl rfl rfl 0 rfl hvr rfl ?_; refine frun_ th rfl ?_)
       | (refine f_lit th rfl rfl rfl rfl rfl rfl rfl rfl rfl rfl rfl rfl rfl (.refl _) ?_; refine frun_ th rfl ?_)
       | (exfalso; revert hb; simp; done))
      refine FOps.nil ⟨Effs.cons rfl (fun x => ?_) (Effs.cons rfl (fun x => ?_) Effs.nil), fun v => ?_⟩
      · exact ef_append (i := 93) th rfl rfl rfl rfl rfl rfl rfl rfl rfl rfl rfl rfl rfl rfl rfl rfl q (qpool_get (List.getElem?_eq_getElem hql) hmq) (by constructor <;> simp <;> omega) (fun v' => v') (fun _ => rfl) (fun _ => rfl)
      · exact ef_pstore (i := 92) th rfl rfl rfl rfl rfl rfl rfl rfl rfl rfl rfl rfl rfl rfl 0 rfl (by rw [List.length_map]; omega) rfl rfl
      rw [hys]
      refine g_freezeP 93 92 rfl rfl rfl rfl rfl rfl (by rw [qpool_set, qpool_fst (by simp [hxl']), vrow, vrow, List.map_set]) ?_
      have hR : ((qpool hs s.mail).set q (v, qrow (mailAt s q ++ [label]))).map (fun q => [CT.slice false 1 q.2]) = (s.mail.set q (mailAt s q ++ [label])).map fun m => [namesT m] := by
        rw [qpool_set, qpool_snd (by simp [hxl'])]
      rw [hR]
      refine g_freezeB 91 9 0 rfl rfl rfl rfl rfl rfl rfl ?_
      refine g_freezeB 92 9 1 rfl rfl rfl rfl rfl rfl rfl ?_
      repeat' (first
       | refine gc_ rfl ?_
       | (refine g_region ?_; refine run_ th rfl ?_)
       | (refine g_drawC mix rfl rfl ?_; refine drun_ th rfl ?_)
       | (refine g_drawEC mix rfl rfl ?_; refine erun_ th rfl ?_)
       | refine SOps.nil ?_
       | refine DOps.nil ?_
       | refine EOps.nil ?_ rfl rfl
       | (refine s_split rfl rfl (fun hb => ?_) (fun hb => ?_) <;> (try simp only [hbL] at hb) <;> first | (exfalso; omega) | refine run_ th rfl ?_)
       | (refine d_split rfl rfl rfl (fun hb => ?_) (fun hb => ?_) <;> (try simp only [hbL] at hb) <;> first | (exfalso; omega) | refine drun_ th rfl ?_)
       | (refine g_if rfl (fun hb => ?_) (fun hb => ?_) <;> (try simp only [hbL] at hb) <;> (try (exfalso; omega))))
      refine g_endL th Tryd.func36 (.inr ⟨_, rfl⟩) rfl rfl rfl (.refl _) rfl
    · simp only at hk hq
      subst hk
      obtain ⟨q, hqe⟩ : ∃ q : Nat, q = t * roles.length + r := ⟨_, rfl⟩
      have hI : (t : Int) * (roles.length : Int) = (q : Int) - (r : Int) := by rw [hqe]; simp
      have hq1 : q < s.mail.length := by
        rw [hn4, hqe]
        have := Nat.mul_le_mul_right roles.length (show t + 1 ≤ roles.length from htt)
        rw [Nat.add_mul] at this; omega
      rw [← hqe] at hq
      have hmq : (s.mail.map fun m => [namesT m])[q]? = some [namesT (label :: rest)] := by
        rw [← hq]; simp [mailAt, hq1]
      have hdo : doS b roles s ⟨2, (r : Int), label⟩ = ⟨stepAt r label s.at_ (stNd b s r).arms, s.mail.set q rest⟩ := by
        rw [hqe] at hq ⊢
        simp [doS, moveQ, moveM, peerN, hpe, hq]
      rw [hdo]
      have hmul : (0 : Int) ≤ (q : Int) - r := by rw [← hI]; exact Int.mul_nonneg (by omega) (by omega)
      repeat' (first
       | (refine g_freezeP 93 92 rfl rfl rfl rfl rfl rfl (qpool_fst hxl').symm ?_; rw [qpool_snd hxl']; refine g_drawF (ι := Unit) [20] [] (fun _ _ => []) (dnMM3 (stNd b s r) ⟨2, (r : Int), label⟩ vA vM (irow (stepAt r label s.at_ (stNd b s r).arms)) (s.mail.map fun m => [namesT m]) q ((qrow (label :: rest)).drop 1)) () mix rfl (fun k x hk => by match k, hk with | 0, _ => (refine subG_spec ?_; repeat (first | exact trivial | refine ⟨rfl, ?_⟩))) rfl (fun k x => rfl) rfl rfl (by simp) rfl rfl ?_; refine frun_ th rfl ?_)
       | refine gc_ rfl ?_
       | (refine g_region ?_; refine run_ th rfl ?_)
       | (refine g_drawC mix rfl rfl ?_; refine drun_ th rfl ?_)
       | (refine g_drawEC mix rfl rfl ?_; refine erun_ th rfl ?_)
       | refine SOps.nil ?_
       | refine DOps.nil ?_
       | refine EOps.nil ?_ rfl rfl
       | (refine s_split rfl rfl (fun hb => ?_) (fun hb => ?_) <;> (try simp only [hbL] at hb) <;> first | (exfalso; omega) | refine run_ th rfl ?_)
       | (refine d_split rfl rfl rfl (fun hb => ?_) (fun hb => ?_) <;> (try simp only [hbL] at hb) <;> first | (exfalso; omega) | refine drun_ th rfl ?_)
       | (refine g_if rfl (fun hb => ?_) (fun hb => ?_) <;> (try simp only [hbL] at hb) <;> (try (exfalso; omega)))
       | (refine f_step (fun mm' => op_arith (p := .mul) rfl rfl rfl (IntWalk.i64_in _ (by rw [hI]; (try dsimp only); omega)) rfl rfl) rfl rfl rfl ?_; refine frun_ th rfl ?_)
       | (refine f_step (fun mm' => op_arith (p := .add) rfl rfl rfl (IntWalk.i64_in _ (by rw [hI]; (try dsimp only); omega)) rfl rfl) rfl rfl rfl ?_; refine frun_ th rfl ?_)
       | (refine f_pidx (r := 92) th rfl rfl rfl rfl rfl rfl rfl rfl rfl rfl rfl 0 rfl q (by rw [hI]; (try dsimp only); omega) (by rw [List.length_map]; omega) ?_; refine frun_ th rfl ?_)
       | (refine f_pload (r := 92) th rfl rfl rfl rfl rfl rfl rfl rfl rfl 0 rfl hmq rfl ?_; refine frun_ th rfl ?_)
       | (refine f_step (fun mm' => op_sliceFrom (j := 1) th rfl rfl rfl rfl rfl rfl rfl (by simp) rfl rfl) rfl rfl rfl ?_; refine frun_ th rfl ?_)
       | (exfalso; revert hb; simp; done))
      refine FOps.nil ⟨Effs.cons rfl (fun x => ?_) Effs.nil, fun v => ?_⟩
      · exact ef_pstore (i := 92) th rfl rfl rfl rfl rfl rfl rfl rfl rfl rfl rfl rfl rfl rfl 0 rfl (by rw [List.length_map]; omega) rfl rfl
      have hR : (s.mail.map fun m => [namesT m]).set q [.slice false 1 ((qrow (label :: rest)).drop 1)] = (s.mail.set q rest).map fun m => [namesT m] := by
        rw [List.map_set]; rfl
      refine g_freezeB 91 9 0 rfl rfl rfl rfl rfl rfl rfl ?_
      refine g_freezeB 92 9 1 rfl rfl rfl rfl rfl rfl rfl ?_
      rw [hR]
      repeat' (first
       | refine gc_ rfl ?_
       | (refine g_region ?_; refine run_ th rfl ?_)
       | (refine g_drawC mix rfl rfl ?_; refine drun_ th rfl ?_)
       | (refine g_drawEC mix rfl rfl ?_; refine erun_ th rfl ?_)
       | refine SOps.nil ?_
       | refine DOps.nil ?_
       | refine EOps.nil ?_ rfl rfl
       | (refine s_split rfl rfl (fun hb => ?_) (fun hb => ?_) <;> (try simp only [hbL] at hb) <;> first | (exfalso; omega) | refine run_ th rfl ?_)
       | (refine d_split rfl rfl rfl (fun hb => ?_) (fun hb => ?_) <;> (try simp only [hbL] at hb) <;> first | (exfalso; omega) | refine drun_ th rfl ?_)
       | (refine g_if rfl (fun hb => ?_) (fun hb => ?_) <;> (try simp only [hbL] at hb) <;> (try (exfalso; omega))))
      refine g_endL th Tryd.func36 (.inr ⟨_, rfl⟩) rfl rfl rfl (.refl _) rfl
end Go.Sy

/- Contracts of the reference: Do. -/
namespace Go.Sy
open Go.Proofs
set_option maxRecDepth 100000
attribute [local irreducible] SOps Goes DOps EOps FOps

end Go.Sy
