/- Contracts: ProbeWhole. -/
import Derived.Test.YtohalikeabmimaaDoorKl
set_option linter.unusedSimpArgs false
set_option linter.unusedVariables false
set_option linter.unusedSectionVars false
namespace Go.Sy
open Go.Proofs
set_option maxRecDepth 100000
attribute [local irreducible] SOps Goes DOps EOps FOps

/-- What a complete search tells. -/
structure WholeF (b : Bk) (roles : List ByteArray) (r : Rep) (P : Stg → Prop) : Prop where
  may : ∀ s, P s → mayS b roles s = true
  lg : ∀ s, P s → ∀ i (h : i < s.mail.length) (h' : i < r.long.length), ((s.mail[i]).length : Int) ≤ r.long[i]
  st : ∀ s, P s → movesS b roles s = [] → overS b roles s = true ∨ r.stuck = true
  next : ∀ s, P s → ∀ m ∈ movesS b roles s, P (doS b roles s m)
theorem whole_facts {b : Bk} {roles : List ByteArray} {s0 : Stg} {most : Nat} (hM : mayS b roles s0 = true) (hg : GoodS b roles s0) (h1 : 1 ≤ most) (hw : (repOf (srchE (sysS b roles) most s0)).whole = true) :
    ∃ P : Stg → Prop, P s0 ∧ WholeF b roles (repOf (srchE (sysS b roles) most s0)) P := by
  have hl := srch_len (Y := sysS b roles) (most := most) (s0 := s0) h1 most
  have hwh := srch_whole (Y := sysS b roles) (most := most) (s0 := s0) most hw
  have hlg := (srch_long (Y := sysS b roles) (most := most) (s0 := s0) (sys_sameQ hM hg most) most).2
  have hst := srch_stuck (Y := sysS b roles) (most := most) (s0 := s0) most
  have hgood := born_ind (G := GoodS b roles) (srch_born (Y := sysS b roles) (most := most) (s0 := s0) most) hg fun s m h hm => h.next hm
  obtain ⟨r, hr⟩ := srch_pos (Y := sysS b roles) (most := most) (s0 := s0) most
  refine ⟨fun s => ∃ (j : Nat) (f : Fnd Stg), (srch (sysS b roles) most s0 most).all[j]? = some f ∧ f.s = s, ⟨0, _, by rw [hr]; rfl, rfl⟩, ?_, ?_, ?_, ?_⟩
  · rintro s ⟨j, f, hf, rfl⟩
    exact (hgood j f hf).may
  · rintro s ⟨j, f, hf, rfl⟩ i h h'
    have hj := (List.getElem?_eq_some_iff.1 hf).1
    have := (hlg j f (by omega) hf).2 i (by simpa [lensS] using h) (by simpa [repOf, srchE] using h')
    simp only [repOf, List.getElem_map, srchE]
    simp only [lensS, List.getElem_map] at this
    exact Int.ofNat_le.2 this
  · rintro s ⟨j, f, hf, rfl⟩ hm
    have hj := (List.getElem?_eq_some_iff.1 hf).1
    cases hk : (srch (sysS b roles) most s0 most).stuck with
    | true => exact .inr hk
    | false => exact .inl ((hst.no hk).2 j f (by omega) hf (hwh j f (by omega) hf).1 hm)
  · rintro s ⟨j, f, hf, rfl⟩ m hm
    have hj := (List.getElem?_eq_some_iff.1 hf).1
    exact metB_iff.1 ((hwh j f (by omega) hf).2 m hm)

def whMM (b : Bk) (r : Rep) (s t : Stg) : Nat → Unit → MM
  | 0, _ => [(12, .box [.c (intsT s.at_), .c (mailT s.mail)]), (10, .box (r.cs.map SC.c)), (7, .box [.c (nodesT b.nodes), .c (namesT b.names), .c (intsT b.roots)])]
  | _, _ => [(12, .box [.c (intsT t.at_), .c (mailT t.mail)]), (10, .box (r.cs.map SC.c)), (7, .box [.c (nodesT b.nodes), .c (namesT b.names), .c (intsT b.roots)])]
def whET : Nat → Unit → TM
  | 2, _ => [(13, .v (C1 (.int .i64 0)))]
  | _, _ => []
def whB (x : Int) (n : Nat) : Int := IntKind.i64.wrap ((IntKind.u64.wrap x).tmod (IntKind.u64.wrap (n : Int)))

set_option maxHeartbeats 16000000 in
theorem probeWhole_c (l roots way : List Int) (hbig : l.length * 8 ≤ 140737488355328) :
    Con Tryd.prog 5 [] [C1 (intsT l), C1 (intsT roots), C1 (intsT way)] (Rv (.bool true)) [] := by
  refine con_of (c := _) Tryd.func5 rfl rfl rfl (by decide) fun w M0 H Z => ?_
  repeat' (first
   | (refine g_freeze 25 rfl rfl ?_; refine g_leT 9 (.v (C1 (namesT abP))) rfl (.v (.one (.c (.nn true 1 _)))) ?_)
   | refine gc_ rfl ?_
   | (refine g_region ?_; refine run_ th rfl ?_)
   | (refine g_drawC mix rfl rfl ?_; refine drun_ th rfl ?_)
   | (refine g_drawEC mix rfl rfl ?_; refine erun_ th rfl ?_)
   | refine SOps.nil ?_
   | refine DOps.nil ?_
   | refine EOps.nil ?_ rfl rfl
   | (refine s_split rfl rfl (fun hb => ?_) (fun hb => ?_) <;> (try simp only [hbL] at hb) <;> first | (exfalso; omega) | refine run_ th rfl ?_)
   | (refine d_split rfl rfl rfl (fun hb => ?_) (fun hb => ?_) <;> (try simp only [hbL] at hb) <;> first | (exfalso; omega) | refine drun_ th rfl ?_)
   | (refine g_if rfl (fun hb => ?_) (fun hb => ?_) <;> (try simp only [hbL] at hb) <;> (try (exfalso; omega)))
   | (refine s_call first14_c [] rfl rfl rfl rfl rfl rfl rfl rfl rfl rfl ?_; refine run_ th rfl ?_)
   | (refine s_callQ (made14_c l roots 2 (by omega) hbig) [] rfl rfl rfl rfl rfl rfl rfl rfl rfl (fun res hr => by obtain ⟨b, at_, _, _, _, _, _, rfl⟩ := hr; rfl) (fun res hr => ?_); obtain ⟨b, at_, hb1, hb2, hb3, hal, har, rfl⟩ := hr; refine run_ th rfl ?_))
  obtain ⟨hMb, hbe⟩ := begin_at (roles := abP) hb1 (by decide) (by decide) (by decide) hal har
  have hatb : at_.length * 8 ≤ 140737488355328 := by rw [hal]; decide
  have hs1 := search_c b abP at_ 150 (by omega) hatb
  rw [show searchO b abP at_ 150 = (repOf (srchE (sysS b abP) 150 (stg0 abP.length at_)), 0) by
    rw [searchO, hbe, if_neg (by simp)]; rfl] at hs1
  have hbg := begin_c b abP at_ hatb
  rw [hbe] at hbg
  have hwf := whole_facts (most := 150) hMb (good_begin hMb) (by omega)
  have hlen : (repOf (srchE (sysS b abP) 150 (stg0 abP.length at_))).long.length = 4 := by
    have := (srch_long (Y := sysS b abP) (most := 150) (s0 := stg0 abP.length at_) (sys_sameQ hMb (good_begin hMb) 150) 150).1
    simp only [repOf, List.length_map, srchE]
    rw [this]; rfl
  generalize repOf (srchE (sysS b abP) 150 (stg0 abP.length at_)) = r at *
  generalize stg0 abP.length at_ = s0 at *
  have hlenI : ((r.long.map fun r => [CT.int .i64 r]).length : Int) = 4 := by rw [List.length_map, hlen]; rfl
  repeat' (first
   | refine gc_ rfl ?_
   | (refine g_region ?_; refine run_ th rfl ?_)
   | (refine g_drawC mix rfl rfl ?_; refine drun_ th rfl ?_)
   | (refine g_drawEC mix rfl rfl ?_; refine erun_ th rfl ?_)
   | refine SOps.nil ?_
   | refine DOps.nil ?_
   | refine EOps.nil ?_ rfl rfl
   | (refine s_split rfl rfl (fun hb => ?_) (fun hb => ?_) <;> (try simp only [hbL] at hb) <;> first | (exfalso; omega) | refine run_ th rfl ?_)
   | (refine d_split rfl rfl rfl (fun hb => ?_) (fun hb => ?_) <;> (try simp only [hbL] at hb) <;> first | (exfalso; omega) | refine drun_ th rfl ?_)
   | (refine g_if rfl (fun hb => ?_) (fun hb => ?_) <;> (try simp only [hbL] at hb) <;> (try (exfalso; omega)))
   | (refine s_call hs1 [] rfl rfl rfl rfl rfl rfl rfl rfl rfl rfl ?_; refine run_ th rfl ?_)
   | (refine s_call hbg [] rfl rfl rfl rfl rfl rfl rfl rfl rfl rfl ?_; refine run_ th rfl ?_)
   | (exfalso; revert hb; simp; done))
  obtain ⟨st, wh, sk, wy, lg⟩ := r
  simp only at hlen hlenI
  cases wh with
  | false =>
    clear hwf
    refine g_loop1 (fun i : Nat => i = 0) (fun i => [(2, .v (C1 (intsT way))), (10, .v (.one (.ptr 10 0))), (14, .v (C1 (.int .i64 (i : Int))))]) (fun _ => [(10, .box [.c (.int .i64 st), .c (.bool false), .c (.bool sk), .c (intsT wy), .c (intsT lg)])]) (fun _ => 0) 0 rfl
      (fun a w h => h.sub (by exact ⟨⟨_, rfl, .refl _⟩, ⟨_, rfl, .refl _⟩, ⟨_, rfl, le_int rfl⟩, trivial⟩) (by exact ⟨⟨_, rfl, .refl _⟩, trivial⟩) rfl rfl rfl) (fun i hi ih => ?_)
    repeat' (first
     | refine gc_ rfl ?_
     | (refine g_region ?_; refine run_ th rfl ?_)
     | (refine g_drawC mix rfl rfl ?_; refine drun_ th rfl ?_)
     | (refine g_drawEC mix rfl rfl ?_; refine erun_ th rfl ?_)
     | refine SOps.nil ?_
     | refine DOps.nil ?_
     | refine EOps.nil ?_ rfl rfl
     | (refine s_split rfl rfl (fun hb => ?_) (fun hb => ?_) <;> (try simp only [hbL] at hb) <;> first | (exfalso; omega) | refine run_ th rfl ?_)
     | (refine d_split rfl rfl rfl (fun hb => ?_) (fun hb => ?_) <;> (try simp only [hbL] at hb) <;> first | (exfalso; omega) | refine drun_ th rfl ?_)
     | (refine g_if rfl (fun hb => ?_) (fun hb => ?_) <;> (try simp only [hbL] at hb) <;> (try (exfalso; omega)))
     | (exfalso; revert hb; simp; done))
    all_goals first
      | exact g_endL th Tryd.func5 (.inr ⟨_, rfl⟩) rfl rfl rfl (.refl _) rfl
      | exact g_endL th Tryd.func5 (.inr ⟨_, rfl⟩) rfl rfl rfl (.v (.one (.lit true))) rfl
  | true =>
    obtain ⟨P, hP0, hF⟩ := hwf rfl
    refine g_len 2 rfl fun hwl => ?_
    simp only [List.length_map] at hwl
    refine g_loop2 (fun (i : Nat) (s : Stg) => i ≤ way.length ∧ i ≤ 60 ∧ P s)
      (fun i _ => [(2, .v (C1 (intsT way))), (7, .v (.one (.ptr 7 0))), (9, .v (C1 (namesT abP))), (10, .v (.one (.ptr 10 0))), (12, .v (.one (.ptr 12 0))), (14, .v (C1 (.int .i64 (i : Int))))])
      (fun _ s => whMM b ⟨st, true, sk, wy, lg⟩ s s 0 ()) (fun i _ => 60 - i) 0 s0 ⟨Nat.zero_le _, by omega, hP0⟩
      (fun a w h => h.sub (by exact ⟨⟨_, rfl, .refl _⟩, ⟨_, rfl, .refl _⟩, ⟨_, rfl, .refl _⟩, ⟨_, rfl, .refl _⟩, ⟨_, rfl, .refl _⟩, ⟨_, rfl, le_int rfl⟩, trivial⟩) (by exact ⟨⟨_, rfl, .refl _⟩, ⟨_, rfl, .refl _⟩, ⟨_, rfl, .refl _⟩, trivial⟩) rfl rfl rfl) (fun i s hi ih => ?_)
    obtain ⟨hi, hi60, hPs⟩ := hi
    by_cases hlt : i < way.length ∧ i < 60
    · obtain ⟨hlt, hlt60⟩ := hlt
      have hMs := hF.may s hPs
      have hml : s.mail.length = 4 := by
        obtain ⟨_, _, _, h, _⟩ := mayS_at hMs
        exact h
      repeat' (first
       | refine gc_ rfl ?_
       | (refine g_region ?_; refine run_ th rfl ?_)
       | (refine g_drawC mix rfl rfl ?_; refine drun_ th rfl ?_)
       | (refine g_drawEC mix rfl rfl ?_; refine erun_ th rfl ?_)
       | refine SOps.nil ?_
       | refine DOps.nil ?_
       | refine EOps.nil ?_ rfl rfl
       | (refine s_split rfl rfl (fun hb => ?_) (fun hb => ?_) <;> (try simp only [hbL] at hb) <;> first | (exfalso; omega) | refine run_ th rfl ?_)
       | (refine d_split rfl rfl rfl (fun hb => ?_) (fun hb => ?_) <;> (try simp only [hbL] at hb) <;> first | (exfalso; omega) | refine drun_ th rfl ?_)
       | (refine g_if rfl (fun hb => ?_) (fun hb => ?_) <;> (try simp only [hbL] at hb) <;> (try (exfalso; omega)))
       | (exfalso; revert hb; simp; done))
      refine g_loop1 (fun k : Nat => k ≤ 4)
        (fun k => [(2, .v (C1 (intsT way))), (7, .v (.one (.ptr 7 0))), (9, .v (C1 (namesT abP))), (10, .v (.one (.ptr 10 0))), (12, .v (.one (.ptr 12 0))), (14, .v (C1 (.int .i64 (i : Int)))), (15, .v (C1 (.int .i64 (k : Int))))])
        (fun _ => whMM b ⟨st, true, sk, wy, lg⟩ s s 0 ()) (fun k => 4 - k) 0 (by omega)
        (fun a w h => h.sub (by exact ⟨⟨_, rfl, .refl _⟩, ⟨_, rfl, .refl _⟩, ⟨_, rfl, .refl _⟩, ⟨_, rfl, .refl _⟩, ⟨_, rfl, .refl _⟩, ⟨_, rfl, .refl _⟩, ⟨_, rfl, le_int rfl⟩, trivial⟩) (by exact ⟨⟨_, rfl, .refl _⟩, ⟨_, rfl, .refl _⟩, ⟨_, rfl, .refl _⟩, trivial⟩) rfl rfl rfl) (fun k hk ih2 => ?_)
      by_cases hk4 : k < 4
      · have hx : (s.mail.map fun m => [namesT m])[k]? = some [namesT (s.mail[k]'(by omega))] := by simp [show k < s.mail.length by omega]
        have hy : (lg.map fun r => [CT.int .i64 r])[k]? = some [.int .i64 (lg[k]'(by omega))] := by simp [show k < lg.length by omega]
        have hle := hF.lg s hPs k (by omega) (by show k < lg.length; omega)
        simp only at hle
        generalize lg[k]'(by omega) = u at *
        generalize s.mail[k]'(by omega) = m at *
        have hih2 := ih2 (k + 1) hk4 (by omega)
        repeat' (first
         | refine gc_ rfl ?_
         | (refine g_region ?_; refine run_ th rfl ?_)
         | (refine g_drawC mix rfl rfl ?_; refine drun_ th rfl ?_)
         | (refine g_drawEC mix rfl rfl ?_; refine erun_ th rfl ?_)
         | refine SOps.nil ?_
         | refine DOps.nil ?_
         | refine EOps.nil ?_ rfl rfl
         | (refine s_split rfl rfl (fun hb => ?_) (fun hb => ?_) <;> (try simp only [hbL] at hb) <;> first | (exfalso; omega) | refine run_ th rfl ?_)
         | (refine d_split rfl rfl rfl (fun hb => ?_) (fun hb => ?_) <;> (try simp only [hbL] at hb) <;> first | (exfalso; omega) | refine drun_ th rfl ?_)
         | (refine g_if rfl (fun hb => ?_) (fun hb => ?_) <;> (try simp only [hbL] at hb) <;> (try (exfalso; omega)))
         | (refine d_idx th rfl rfl rfl rfl rfl rfl rfl rfl rfl k _ rfl hx ?_; refine drun_ th rfl ?_)
         | (refine d_idx th rfl rfl rfl rfl rfl rfl rfl rfl rfl k _ rfl hy ?_; refine drun_ th rfl ?_)
         | (refine s_add rfl rfl rfl rfl rfl rfl (by omega) ?_; refine run_ th rfl ?_))
        all_goals first
          | (exfalso; omega)
          | exact g_sub (by exact ⟨⟨_, rfl, .refl _⟩, ⟨_, rfl, .refl _⟩, ⟨_, rfl, .refl _⟩, ⟨_, rfl, .refl _⟩, ⟨_, rfl, .refl _⟩, ⟨_, rfl, .refl _⟩, ⟨_, rfl, le_int (by omega)⟩, trivial⟩) (by exact ⟨⟨_, rfl, .refl _⟩, ⟨_, rfl, .refl _⟩, ⟨_, rfl, .refl _⟩, trivial⟩) rfl rfl rfl hih2
      · have hmv := moves_c b abP s (book_few hb1)
        have hov := over_c b abP s
        have hx : (way.map fun r => [CT.int .i64 r])[i]? = some [.int .i64 way[i]] := by simp [hlt]
        clear ih2
        by_cases hne : movesS b abP s = []
        · have hst := hF.st s hPs hne
          rw [hne] at hmv
          repeat' (first
           | refine gc_ rfl ?_
           | (refine g_region ?_; refine run_ th rfl ?_)
           | (refine g_drawC mix rfl rfl ?_; refine drun_ th rfl ?_)
           | (refine g_drawEC mix rfl rfl ?_; refine erun_ th rfl ?_)
           | refine SOps.nil ?_
           | refine DOps.nil ?_
           | refine EOps.nil ?_ rfl rfl
           | (refine s_split rfl rfl (fun hb => ?_) (fun hb => ?_) <;> (try simp only [hbL] at hb) <;> first | (exfalso; omega) | refine run_ th rfl ?_)
           | (refine d_split rfl rfl rfl (fun hb => ?_) (fun hb => ?_) <;> (try simp only [hbL] at hb) <;> first | (exfalso; omega) | refine drun_ th rfl ?_)
           | (refine g_if rfl (fun hb => ?_) (fun hb => ?_) <;> (try simp only [hbL] at hb) <;> (try (exfalso; omega)))
           | (refine s_call hmv [] rfl rfl rfl rfl rfl rfl rfl rfl rfl rfl ?_; refine run_ th rfl ?_)
           | (refine s_call hov [] rfl rfl rfl rfl rfl rfl rfl rfl rfl rfl ?_; refine run_ th rfl ?_)
           | (exfalso; revert hb; simp; done))
          all_goals first
            | exact g_endL th Tryd.func5 (.inr ⟨_, rfl⟩) rfl rfl rfl (.v (.one (.lit true))) rfl
            | exact g_endL th Tryd.func5 (.inr ⟨_, rfl⟩) rfl rfl rfl (.refl _) rfl
            | (rcases hst with h | h
               · exfalso; rw [h] at hb; cases hb
               · subst h; exact g_endL th Tryd.func5 (.inr ⟨_, rfl⟩) rfl rfl rfl (.refl _) rfl)
        · have hl1 : 1 ≤ (movesS b abP s).length := List.length_pos_iff.2 hne
          have hfew : (movesS b abP s).length ≤ 5000000 := by
            rw [movesS, if_pos hMs]
            have := movesUp_len (book_few hb1) abP s abP.length
            rw [show abP.length = 2 from rfl] at this ⊢
            exact Nat.le_trans this (by decide)
          have hpi := pickP_in hl1 (by omega) way[i]
          have hpe : IntKind.i64.wrap ((IntKind.u64.wrap way[i]).tmod (IntKind.u64.wrap ↑(List.map Mv.cs (movesS b abP s)).length)) = ((pickI (movesS b abP s).length way[i]).toNat : Int) := by
            rw [List.length_map]; exact (Int.toNat_of_nonneg hpi.1).symm
          have hpl : (pickI (movesS b abP s).length way[i]).toNat < (movesS b abP s).length := by omega
          have hpm := List.getElem_mem hpl
          have hpx : ((movesS b abP s).map Mv.cs)[(pickI (movesS b abP s).length way[i]).toNat]? = some ((movesS b abP s)[(pickI (movesS b abP s).length way[i]).toNat]).cs := by simp [hpl]
          have hih := ih (i + 1)
          clear ih
          generalize (movesS b abP s)[(pickI (movesS b abP s).length way[i]).toNat] = m at *
          have hdo := do_c b abP s m (book_few hb1)
          rw [show doO b abP s m = (doS b abP s m, 0) by simp [doO, hMs, hpm]] at hdo
          have hih := hih (doS b abP s m) ⟨hlt, hlt60, hF.next s hPs m hpm⟩ (by omega)
          repeat' (first
           | (refine g_drawF0 (ι := Unit) 0 20 [20, 21] [12] [] whET (whMM b ⟨st, true, sk, wy, lg⟩ s (doS b abP s m)) () mix rfl (fun k x hk => by match k, hk with | 0, _ => (refine subG_spec ?_; repeat (first | exact trivial | refine ⟨rfl, ?_⟩)) | 1, _ => (refine subG_spec ?_; repeat (first | exact trivial | refine ⟨rfl, ?_⟩))) (fun k x hk => by match k, hk with | 0, _ => (refine subG_spec ?_; repeat (first | exact trivial | refine ⟨rfl, ?_⟩))) rfl (fun k x => by match k with | 0 => rfl | 1 => rfl | 2 => rfl | _ + 3 => rfl) rfl rfl (by simp) rfl rfl rfl ?_; refine frun_ th rfl ?_)
           | refine gc_ rfl ?_
           | (refine g_region ?_; refine run_ th rfl ?_)
           | (refine g_drawC mix rfl rfl ?_; refine drun_ th rfl ?_)
           | (refine g_drawEC mix rfl rfl ?_; refine erun_ th rfl ?_)
           | refine SOps.nil ?_
           | refine DOps.nil ?_
           | refine EOps.nil ?_ rfl rfl
           | (refine s_split rfl rfl (fun hb => ?_) (fun hb => ?_) <;> (try simp only [hbL] at hb) <;> first | (exfalso; omega) | refine run_ th rfl ?_)
           | (refine d_split rfl rfl rfl (fun hb => ?_) (fun hb => ?_) <;> (try simp only [hbL] at hb) <;> first | (exfalso; omega) | refine drun_ th rfl ?_)
           | (refine g_if rfl (fun hb => ?_) (fun hb => ?_) <;> (try simp only [hbL] at hb) <;> (try (exfalso; omega)))
           | (refine s_call hmv [] rfl rfl rfl rfl rfl rfl rfl rfl rfl rfl ?_; refine run_ th rfl ?_)
           | (refine f_idx th rfl rfl rfl rfl rfl rfl rfl rfl rfl rfl i _ rfl hx ?_; refine frun_ th rfl ?_)
           | (refine f_rem rfl rfl rfl rfl rfl rfl rfl (by simp only [List.length_map]; rw [wrapU_id (by omega) (by omega)]; omega) ?_; refine frun_ th rfl ?_)
           | (refine f_idx th rfl rfl rfl rfl rfl rfl rfl rfl rfl rfl (pickI (movesS b abP s).length way[i]).toNat _ hpe hpx ?_; refine frun_ th rfl ?_)
           | (refine f_call hdo rfl rfl rfl rfl rfl rfl rfl rfl ?_; refine frun_ th rfl ?_)
           | (refine FOps.nil ⟨Effs.cons rfl (fun x => ?_) (Effs.cons rfl (fun x => ?_) Effs.nil), fun v => ?_⟩)
           | (refine ef_store (i := 12) th rfl rfl rfl rfl rfl rfl rfl rfl rfl rfl rfl rfl)
           | (refine ef_val ((valE_sound th (st := .v (C1 (.int .i64 0))) rfl rfl rfl).toX) rfl rfl rfl rfl)
           | (exfalso; revert hb; simp; done)
           | (refine s_add rfl rfl rfl rfl rfl rfl (by omega) ?_; refine run_ th rfl ?_))
          all_goals exact g_sub (by exact ⟨⟨_, rfl, .refl _⟩, ⟨_, rfl, .refl _⟩, ⟨_, rfl, .refl _⟩, ⟨_, rfl, .refl _⟩, ⟨_, rfl, .refl _⟩, ⟨_, rfl, le_int (by push_cast; rfl)⟩, trivial⟩) (by exact ⟨⟨_, rfl, .refl _⟩, ⟨_, rfl, .refl _⟩, ⟨_, rfl, .refl _⟩, trivial⟩) rfl rfl rfl hih
    · skip
      repeat' (first
       | refine gc_ rfl ?_
       | (refine g_region ?_; refine run_ th rfl ?_)
       | (refine g_drawC mix rfl rfl ?_; refine drun_ th rfl ?_)
       | (refine g_drawEC mix rfl rfl ?_; refine erun_ th rfl ?_)
       | refine SOps.nil ?_
       | refine DOps.nil ?_
       | refine EOps.nil ?_ rfl rfl
       | (refine s_split rfl rfl (fun hb => ?_) (fun hb => ?_) <;> (try simp only [hbL] at hb) <;> first | (exfalso; omega) | refine run_ th rfl ?_)
       | (refine d_split rfl rfl rfl (fun hb => ?_) (fun hb => ?_) <;> (try simp only [hbL] at hb) <;> first | (exfalso; omega) | refine drun_ th rfl ?_)
       | (refine g_if rfl (fun hb => ?_) (fun hb => ?_) <;> (try simp only [hbL] at hb) <;> (try (exfalso; omega))))
      all_goals first
        | exact g_endL th Tryd.func5 (.inr ⟨_, rfl⟩) rfl rfl rfl (.refl _) rfl
        | exact g_endL th Tryd.func5 (.inr ⟨_, rfl⟩) rfl rfl rfl (.v (.one (.lit true))) rfl
        | (exfalso; omega)
        | (exfalso; revert hb; simp; done)
end Go.Sy
