/- Contracts: ProbeStuck. -/
import Derived.Test.YtohalikeabmimaaDoorKk
import Derived.Test.YtohalikeabmimaaDoorSy5
set_option linter.unusedSimpArgs false
set_option linter.unusedVariables false
set_option linter.unusedSectionVars false
namespace Go.Sy
open Go.Proofs
set_option maxRecDepth 100000
attribute [local irreducible] SOps Goes DOps EOps FOps

/-- What is told of a way to a deadlock. -/
structure StuckF (b : Bk) (roles : List ByteArray) (s0 : Stg) (r : Rep) (s : Stg) : Prop where
  play : playS (sysS b roles) s0 r.way = some s
  moves : movesS b roles s = []
  over : overS b roles s = false
  take : ∀ k (h : k < r.way.length), ∃ u, playS (sysS b roles) s0 (r.way.take k) = some u ∧ 0 ≤ r.way[k] ∧ r.way[k] < ((movesS b roles u).length : Int)
theorem stuck_yes {b : Bk} {roles : List ByteArray} {s0 : Stg} {most : Nat} (h : (repOf (srchE (sysS b roles) most s0)).stuck = true) : ∃ s, StuckF b roles s0 (repOf (srchE (sysS b roles) most s0)) s := by
  obtain ⟨j, f, _, h2, h3, h4, h5⟩ := (srch_stuck (Y := sysS b roles) (most := most) (s0 := s0) most).yes h
  have hw := wayOf_play (srch_born (Y := sysS b roles) (most := most) (s0 := s0) most) h2
  rw [← h5] at hw
  refine ⟨f.s, hw, h3, h4, fun k hk => ?_⟩
  obtain ⟨u, hu, ha⟩ := playS_take k hw
  have := ha _ (List.getElem?_eq_getElem hk)
  have h3 := this.2
  have h1 := this.1
  refine ⟨u, hu, h1, ?_⟩
  change ((srch (sysS b roles) most s0 most).way[k]).toNat < (movesS b roles u).length at h3
  change 0 ≤ (srch (sysS b roles) most s0 most).way[k] at h1
  show (srch (sysS b roles) most s0 most).way[k] < _
  omega
theorem stuck_no {b : Bk} {roles : List ByteArray} {s0 : Stg} {most : Nat} (h1 : 1 ≤ most) (h : (repOf (srchE (sysS b roles) most s0)).stuck = false) : (repOf (srchE (sysS b roles) most s0)).way = [] ∧ 1 ≤ (repOf (srchE (sysS b roles) most s0)).states ∧ (repOf (srchE (sysS b roles) most s0)).states ≤ (most : Int) := by
  refine ⟨((srch_stuck (Y := sysS b roles) (most := most) (s0 := s0) most).no h).1, ?_, ?_⟩
  · obtain ⟨r, hr⟩ := srch_pos (Y := sysS b roles) (most := most) (s0 := s0) most
    show (1 : Int) ≤ ((srch (sysS b roles) most s0 most).all.length : Int)
    rw [hr]; simp; omega
  · have := srch_len (Y := sysS b roles) (most := most) (s0 := s0) h1 most
    show ((srch (sysS b roles) most s0 most).all.length : Int) ≤ _
    omega

set_option maxHeartbeats 16000000 in
theorem probeStuck_c (l roots : List Int) (hbig : l.length * 8 ≤ 140737488355328) :
    Con Tryd.prog 4 [] [C1 (intsT l), C1 (intsT roots)] (Rv (.bool true)) [] := by
  refine con_of (c := _) Tryd.func4 rfl rfl rfl (by decide) fun w M0 H Z => ?_
  repeat' (first
   | (refine g_freeze 23 rfl rfl ?_; refine g_leT 7 (.v (C1 (namesT abP))) rfl (.v (.one (.c (.nn true 1 _)))) ?_)
   | refine gc_ rfl ?_
   | (refine g_region ?_; refine run_ th rfl ?_)
   | (refine g_drawC mix rfl rfl ?_; refine drun_ th rfl ?_)
   | (refine g_drawEC mix rfl rfl ?_; refine erun_ th rfl ?_)
   | refine SOps.nil ?_
   | refine DOps.nil ?_
   | refine EOps.nil ?_ rfl rfl
   | (refine s_split rfl rfl (fun hb => ?_) (fun hb => ?_) <;> (try simp only [hbL] at hb) <;> first | (exfalso; omega) | refine run_ th rfl ?_)
   | (refine d_split rfl rfl rfl (fun hb => ?_) (fun hb => ?_) <;> (try simp only [hbL] at hb) <;> first | (exfalso; omega) | refine drun_ th rfl ?_)
   | (refine g_if rfl (fun hb => ?_) (fun hb => ?_) <;> (try simp only [hbL] at hb) <;> (try (exfalso; omega)))
   | (refine s_call first14_c [] rfl rfl rfl rfl rfl rfl rfl rfl rfl rfl ?_; refine run_ th rfl ?_)
   | (refine s_callQ (made14_c l roots 2 (by omega) hbig) [] rfl rfl rfl rfl rfl rfl rfl rfl rfl (fun res hr => by obtain ⟨b, at_, _, _, _, _, _, rfl⟩ := hr; rfl) (fun res hr => ?_); obtain ⟨b, at_, hb1, hb2, hb3, hal, har, rfl⟩ := hr; refine run_ th rfl ?_))
  obtain ⟨hMb, hbe⟩ := begin_at (roles := abP) hb1 (by decide) (by decide) (by decide) hal har
  have hatb : at_.length * 8 ≤ 140737488355328 := by rw [hal]; decide
  have hs1 := search_c b abP at_ 100 (by omega) hatb
  rw [show searchO b abP at_ 100 = (repOf (srchE (sysS b abP) 100 (stg0 abP.length at_)), 0) by
    rw [searchO, hbe, if_neg (by simp)]; rfl] at hs1
  have hyes := stuck_yes (b := b) (roles := abP) (s0 := stg0 abP.length at_) (most := 100)
  have hno := stuck_no (b := b) (roles := abP) (s0 := stg0 abP.length at_) (most := 100) (by omega)
  have hplay : ∀ way s, playS (sysS b abP) (stg0 abP.length at_) way = some s → playO b abP at_ way = (s, 0) := fun way s h => by
    rw [playO, hbe, if_neg (by simp)]; simp only [h]
  generalize repOf (srchE (sysS b abP) 100 (stg0 abP.length at_)) = r at *
  obtain ⟨st, wh, sk, wy, lg⟩ := r
  cases sk with
  | false =>
    obtain ⟨g1, g2, g3⟩ := hno rfl
    simp only at g1 g2 g3
    subst g1
    repeat' (first
     | refine gc_ rfl ?_
     | (refine g_region ?_; refine run_ th rfl ?_)
     | (refine g_drawC mix rfl rfl ?_; refine drun_ th rfl ?_)
     | (refine g_drawEC mix rfl rfl ?_; refine erun_ th rfl ?_)
     | refine SOps.nil ?_
     | refine DOps.nil ?_
     | refine EOps.nil ?_ rfl rfl
     | (refine s_split rfl rfl (fun hb => ?_) (fun hb => ?_) <;> (try simp only [hbL] at hb) <;> first | (exfalso; omega) | refine run_ th rfl ?_)
     | (refine d_split rfl rfl rfl (fun hb => ?_) (fun hb => ?_) <;> (try simp only [hbL] at hb) <;> first | (exfalso; omega) | refine drun_ th rfl ?_)
     | (refine g_if rfl (fun hb => ?_) (fun hb => ?_) <;> (try simp only [hbL] at hb) <;> (try (exfalso; omega)))
     | (refine s_call hs1 [] rfl rfl rfl rfl rfl rfl rfl rfl rfl rfl ?_; refine run_ th rfl ?_))
    all_goals first
      | exact g_endL th Tryd.func4 (.inr ⟨_, rfl⟩) rfl rfl rfl (.refl _) rfl
      | (exfalso; exact hb g2)
      | (exfalso; exact hb rfl)
      | (exfalso; revert hb; simp; done)
      | (refine g_endL th Tryd.func4 (.inr ⟨_, rfl⟩) rfl rfl rfl ?_ rfl; rw [show decide (st ≤ 100) = true by simpa using g3]; exact .refl _)
  | true =>
    obtain ⟨s, g1, g2, g3, g4⟩ := hyes rfl
    simp only at g1 g4
    have hp1 := play_c b abP at_ wy hatb
    rw [hplay _ _ g1] at hp1
    have hmv := moves_c b abP s (book_few hb1)
    rw [g2] at hmv
    have hov := over_c b abP s
    rw [g3] at hov
    repeat' (first
     | refine gc_ rfl ?_
     | (refine g_region ?_; refine run_ th rfl ?_)
     | (refine g_drawC mix rfl rfl ?_; refine drun_ th rfl ?_)
     | (refine g_drawEC mix rfl rfl ?_; refine erun_ th rfl ?_)
     | refine SOps.nil ?_
     | refine DOps.nil ?_
     | refine EOps.nil ?_ rfl rfl
     | (refine s_split rfl rfl (fun hb => ?_) (fun hb => ?_) <;> (try simp only [hbL] at hb) <;> first | (exfalso; omega) | refine run_ th rfl ?_)
     | (refine d_split rfl rfl rfl (fun hb => ?_) (fun hb => ?_) <;> (try simp only [hbL] at hb) <;> first | (exfalso; omega) | refine drun_ th rfl ?_)
     | (refine g_if rfl (fun hb => ?_) (fun hb => ?_) <;> (try simp only [hbL] at hb) <;> (try (exfalso; omega)))
     | (refine s_call hs1 [] rfl rfl rfl rfl rfl rfl rfl rfl rfl rfl ?_; refine run_ th rfl ?_)
     | (refine s_call hp1 [] rfl rfl rfl rfl rfl rfl rfl rfl rfl rfl ?_; refine run_ th rfl ?_)
     | (refine s_call hmv [] rfl rfl rfl rfl rfl rfl rfl rfl rfl rfl ?_; refine run_ th rfl ?_)
     | (refine s_call hov [] rfl rfl rfl rfl rfl rfl rfl rfl rfl rfl ?_; refine run_ th rfl ?_)
     | (exfalso; revert hb; simp; done))
    refine g_lenB 8 3 rfl rfl fun hwl => ?_
    simp only [List.length_map] at hwl
    refine g_loop1 (fun k : Nat => k ≤ wy.length)
      (fun k => [(5, .v (.one (.ptr 5 0))), (6, .v (C1 (intsT at_))), (7, .v (C1 (namesT abP))), (8, .v (.one (.ptr 8 0))), (12, .v (C1 (.int .i64 (k : Int))))])
      (fun _ => [(8, .box [.c (.int .i64 st), .c (.bool wh), .c (.bool true), .c (intsT wy), .c (intsT lg)]), (5, .box [.c (nodesT b.nodes), .c (namesT b.names), .c (intsT b.roots)])]) (fun k => wy.length - k) 0 (Nat.zero_le _)
      (fun a w h => h.sub (by exact ⟨⟨_, rfl, .refl _⟩, ⟨_, rfl, .refl _⟩, ⟨_, rfl, .refl _⟩, ⟨_, rfl, .refl _⟩, ⟨_, rfl, le_int rfl⟩, trivial⟩) (by exact ⟨⟨_, rfl, .refl _⟩, ⟨_, rfl, .refl _⟩, trivial⟩) rfl rfl rfl) (fun k hk ih => ?_)
    by_cases hlt : k < wy.length
    · obtain ⟨u, h1, h2, h3⟩ := g4 k hlt
      have hp2 := play_c b abP at_ (wy.take k) hatb
      rw [hplay _ _ h1] at hp2
      have hp2 : Con Tryd.prog 13 [] [Ag b.cs, C1 (namesT abP), C1 (intsT at_), .one (.c (.slice false 1 ((wy.map fun r => [CT.int .i64 r]).take k)))] (stgR (u, 0)) [] := by
        rw [← List.map_take]; exact hp2
      have hmu := moves_c b abP u (book_few hb1)
      have hx : (wy.map fun r => [CT.int .i64 r])[k]? = some [.int .i64 wy[k]] := by simp [hlt]
      have hih := ih (k + 1) hlt (by omega)
      generalize wy[k] = z at *
      repeat' (first
       | refine gc_ rfl ?_
       | (refine g_region ?_; refine run_ th rfl ?_)
       | (refine g_drawC mix rfl rfl ?_; refine drun_ th rfl ?_)
       | (refine g_drawEC mix rfl rfl ?_; refine erun_ th rfl ?_)
       | refine SOps.nil ?_
       | refine DOps.nil ?_
       | refine EOps.nil ?_ rfl rfl
       | (refine s_split rfl rfl (fun hb => ?_) (fun hb => ?_) <;> (try simp only [hbL] at hb) <;> first | (exfalso; omega) | refine run_ th rfl ?_)
       | (refine d_split rfl rfl rfl (fun hb => ?_) (fun hb => ?_) <;> (try simp only [hbL] at hb) <;> first | (exfalso; omega) | refine drun_ th rfl ?_)
       | (refine g_if rfl (fun hb => ?_) (fun hb => ?_) <;> (try simp only [hbL] at hb) <;> (try (exfalso; omega)))
       | (refine e_sliceTo th rfl rfl rfl rfl rfl rfl rfl rfl k rfl (by rw [List.length_map]; omega) ?_; refine erun_ th rfl ?_)
       | (refine e_call hp2 rfl rfl rfl rfl rfl rfl rfl ?_; refine erun_ th rfl ?_)
       | (refine d_call hmu [] rfl rfl rfl rfl rfl rfl rfl rfl rfl rfl rfl ?_; refine drun_ th rfl ?_)
       | (refine d_idx th rfl rfl rfl rfl rfl rfl rfl rfl rfl k _ rfl hx ?_; refine drun_ th rfl ?_)
       | (refine s_add rfl rfl rfl rfl rfl rfl (by omega) ?_; refine run_ th rfl ?_)
       | (exfalso; revert hb; simp; done))
      all_goals exact g_sub (by exact ⟨⟨_, rfl, .refl _⟩, ⟨_, rfl, .refl _⟩, ⟨_, rfl, .refl _⟩, ⟨_, rfl, .refl _⟩, ⟨_, rfl, le_int (by omega)⟩, trivial⟩) (by exact ⟨⟨_, rfl, .refl _⟩, ⟨_, rfl, .refl _⟩, trivial⟩) rfl rfl rfl hih
    · skip
      repeat' (first
       | refine gc_ rfl ?_
       | (refine g_region ?_; refine run_ th rfl ?_)
       | (refine g_drawC mix rfl rfl ?_; refine drun_ th rfl ?_)
       | (refine g_drawEC mix rfl rfl ?_; refine erun_ th rfl ?_)
       | refine SOps.nil ?_
       | refine DOps.nil ?_
       | refine EOps.nil ?_ rfl rfl
       | (refine s_split rfl rfl (fun hb => ?_) (fun hb => ?_) <;> (try simp only [hbL] at hb) <;> first | (exfalso; omega) | refine run_ th rfl ?_)
       | (refine d_split rfl rfl rfl (fun hb => ?_) (fun hb => ?_) <;> (try simp only [hbL] at hb) <;> first | (exfalso; omega) | refine drun_ th rfl ?_)
       | (refine g_if rfl (fun hb => ?_) (fun hb => ?_) <;> (try simp only [hbL] at hb) <;> (try (exfalso; omega))))
      all_goals first
        | exact g_endL th Tryd.func4 (.inr ⟨_, rfl⟩) rfl rfl rfl (.v (.one (.lit true))) rfl
        | exact g_endL th Tryd.func4 (.inr ⟨_, rfl⟩) rfl rfl rfl (.refl _) rfl
end Go.Sy
