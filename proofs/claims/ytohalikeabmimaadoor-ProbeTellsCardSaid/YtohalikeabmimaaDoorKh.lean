/- Contracts: probe.Play. -/
import Derived.Test.YtohalikeabmimaaDoorKg
import Derived.Test.YtohalikeabmimaaDoorBq1
set_option linter.unusedSimpArgs false
set_option linter.unusedVariables false
set_option linter.unusedSectionVars false
namespace Go.Sy
open Go.Proofs
set_option maxRecDepth 100000
attribute [local irreducible] SOps Goes DOps EOps FOps

def playO (b : Bk) (roles : List ByteArray) (roots way : List Int) : Stg × Int :=
  if (beginO b roles roots).2 ≠ 0 then (⟨[], []⟩, 1400) else match playS (sysS b roles) (beginO b roles roots).1 way with
    | some s => (s, 0)
    | none => (⟨[], []⟩, 1401)

def pyMM (b : Bk) (s t : Stg) : Nat → Unit → MM
  | 0, _ => [(10, .box [.c (intsT s.at_), .c (mailT s.mail)]), (8, .box [.c .nils, .c .nils]), (4, .box [.c (nodesT b.nodes), .c (namesT b.names), .c (intsT b.roots)])]
  | _, _ => [(10, .box [.c (intsT t.at_), .c (mailT t.mail)]), (8, .box [.c .nils, .c .nils]), (4, .box [.c (nodesT b.nodes), .c (namesT b.names), .c (intsT b.roots)])]

set_option maxHeartbeats 16000000 in
theorem play_c (b : Bk) (roles : List ByteArray) (roots way : List Int) (hbig : roots.length * 8 ≤ 140737488355328) :
    Con Tryd.prog 13 [] [Ag b.cs, C1 (namesT roles), C1 (intsT roots), C1 (intsT way)] (stgR (playO b roles roots way)) [] := by
  have hbeg := begin_c b roles roots hbig
  by_cases hbad : (beginO b roles roots).2 ≠ 0
  · rw [show playO b roles roots way = (⟨[], []⟩, 1400) by rw [playO, if_pos hbad]]
    refine con_of (c := _) Tryd.func13 rfl rfl rfl (by decide) fun w M0 H Z => ?_
    repeat' (first
     | refine gc_ rfl ?_
     | (refine g_region ?_; refine run_ th rfl ?_)
     | (refine g_drawC mix rfl rfl ?_; refine drun_ th rfl ?_)
     | (refine g_drawEC mix rfl rfl ?_; refine erun_ th rfl ?_)
     | refine SOps.nil ?_
     | refine DOps.nil ?_
     | refine EOps.nil ?_ rfl rfl
     | (refine s_split rfl rfl (fun hb => ?_) (fun hb => ?_) <;> (try simp only [hbL] at hb) <;> first | (exfalso; omega) | refine run_ th rfl ?_)
     | (refine d_split rfl rfl rfl (fun hb => ?_) (fun hb => ?_) <;> (try simp only [hbL] at hb) <;> first | (exfalso; omega) | refine drun_ th rfl ?_)
     | (refine g_if rfl (fun hb => ?_) (fun hb => ?_) <;> (try simp only [hbL] at hb) <;> (try (exfalso; omega)))
     | refine g_endL th Tryd.func13 (.inr ⟨_, rfl⟩) rfl rfl rfl ?_ rfl
     | (refine s_call hbeg [] rfl rfl rfl rfl rfl rfl rfl rfl rfl rfl ?_; refine run_ th rfl ?_))
    all_goals first
      | exact .tup (.cons (.agg (.cons (.c (.nil 1)) (.cons (.c (.nil 1)) .nil))) (.cons (.refl _) .nil))
      | (exfalso; exact hbad hb)
  · have he : (beginO b roles roots).2 = 0 := Decidable.not_not.1 hbad
    obtain ⟨hs0, hM0⟩ := begin_ok he
    rw [show playO b roles roots way = (match playS (sysS b roles) (stg0 roles.length roots) way with
      | some s => (s, 0)
      | none => (⟨[], []⟩, 1401)) by rw [playO, if_neg hbad, hs0]]
    rw [show beginO b roles roots = (stg0 roles.length roots, 0) from Prod.ext hs0 he] at hbeg
    generalize stg0 roles.length roots = s0 at *
    have hbk := mayS_book hM0
    refine con_of (c := _) Tryd.func13 rfl rfl rfl (by decide) fun w M0 H Z => ?_
    refine g_len 3 rfl fun hwl => ?_
    simp only [List.length_map] at hwl
    repeat' (first
     | refine gc_ rfl ?_
     | (refine g_region ?_; refine run_ th rfl ?_)
     | (refine g_drawC mix rfl rfl ?_; refine drun_ th rfl ?_)
     | (refine g_drawEC mix rfl rfl ?_; refine erun_ th rfl ?_)
     | refine SOps.nil ?_
     | refine DOps.nil ?_
     | refine EOps.nil ?_ rfl rfl
     | (refine s_split rfl rfl (fun hb => ?_) (fun hb => ?_) <;> (try simp only [hbL] at hb) <;> first | (exfalso; omega) | refine run_ th rfl ?_)
     | (refine d_split rfl rfl rfl (fun hb => ?_) (fun hb => ?_) <;> (try simp only [hbL] at hb) <;> first | (exfalso; omega) | refine drun_ th rfl ?_)
     | (refine g_if rfl (fun hb => ?_) (fun hb => ?_) <;> (try simp only [hbL] at hb) <;> (try (exfalso; omega)))
     | (refine s_call hbeg [] rfl rfl rfl rfl rfl rfl rfl rfl rfl rfl ?_; refine run_ th rfl ?_))
    refine g_loop2 (fun (j : Nat) (s : Stg) => j ≤ way.length ∧ mayS b roles s = true ∧ playS (sysS b roles) s0 way = playS (sysS b roles) s (way.drop j))
      (fun j _ => [(1, .v (C1 (namesT roles))), (4, .v (.one (.ptr 4 0))), (8, .v (.one (.ptr 8 0))), (10, .v (.one (.ptr 10 0))), (25, .v (C1 (intsT way))), (26, .v (C1 (.int .i64 (way.length : Int)))), (27, .v (C1 (.int .i64 (j : Int))))])
      (fun _ s => [(10, .box [.c (intsT s.at_), .c (mailT s.mail)]), (8, .box [.c .nils, .c .nils]), (4, .box [.c (nodesT b.nodes), .c (namesT b.names), .c (intsT b.roots)])]) (fun j _ => way.length - j) 0 s0 ⟨Nat.zero_le _, hM0, rfl⟩
      (fun a w h => h.sub (by exact ⟨⟨_, rfl, .refl _⟩, ⟨_, rfl, .refl _⟩, ⟨_, rfl, .refl _⟩, ⟨_, rfl, .refl _⟩, ⟨_, rfl, .refl _⟩, ⟨_, rfl, le_int (by simp)⟩, ⟨_, rfl, le_int rfl⟩, trivial⟩)
        (by exact ⟨⟨_, rfl, .refl _⟩, ⟨_, rfl, .refl _⟩, ⟨_, rfl, .refl _⟩, trivial⟩) rfl rfl rfl) (fun j s hj ih => ?_)
    obtain ⟨hj, hM, hp⟩ := hj
    rw [hp]
    by_cases hlt : j < way.length
    · have hx : (way.map fun r => [CT.int .i64 r])[j]? = some [.int .i64 way[j]] := by simp [hlt]
      have hmv := moves_c b roles s (book_few hbk)
      rw [List.drop_eq_getElem_cons hlt] at hp ⊢
      have hih := fun s' => ih (j + 1) s'
      clear ih
      generalize way[j] = a at *
      rw [playS] at hp ⊢
      by_cases h0 : a < 0
      · rw [if_pos h0]
        repeat' (first
         | refine gc_ rfl ?_
         | (refine g_region ?_; refine run_ th rfl ?_)
         | (refine g_drawC mix rfl rfl ?_; refine drun_ th rfl ?_)
         | (refine g_drawEC mix rfl rfl ?_; refine erun_ th rfl ?_)
         | refine SOps.nil ?_
         | refine DOps.nil ?_
         | refine EOps.nil ?_ rfl rfl
         | (refine s_split rfl rfl (fun hb => ?_) (fun hb => ?_) <;> (try simp only [hbL] at hb) <;> first | (exfalso; omega) | refine run_ th rfl ?_)
         | (refine d_split rfl rfl rfl (fun hb => ?_) (fun hb => ?_) <;> (try simp only [hbL] at hb) <;> first | (exfalso; omega) | refine drun_ th rfl ?_)
         | (refine g_if rfl (fun hb => ?_) (fun hb => ?_) <;> (try simp only [hbL] at hb) <;> (try (exfalso; omega)))
         | refine g_endL th Tryd.func13 (.inr ⟨_, rfl⟩) rfl rfl rfl ?_ rfl
         | (refine s_idx th rfl rfl rfl rfl rfl rfl rfl rfl rfl j _ rfl hx ?_; refine run_ th rfl ?_)
         | (refine s_call hmv [] rfl rfl rfl rfl rfl rfl rfl rfl rfl rfl ?_; refine run_ th rfl ?_))
        all_goals first
          | exact .tup (.cons (.agg (.cons (.c (.nil 1)) (.cons (.c (.nil 1)) .nil))) (.cons (.refl _) .nil))
          | (exfalso; omega)
      · rw [if_neg h0] at hp ⊢
        have hmE : (sysS b roles).moves s = movesS b roles s := rfl
        rw [hmE] at hp ⊢
        by_cases hl : a.toNat < (movesS b roles s).length
        · rw [List.getElem?_eq_getElem hl] at hp ⊢
          have hm := List.getElem_mem hl
          have hxm : ((movesS b roles s).map Mv.cs)[a.toNat]? = some ((movesS b roles s)[a.toNat]).cs := by simp [hl]
          generalize (movesS b roles s)[a.toNat] = m at *
          have hdo := do_c b roles s m (book_few hbk)
          rw [show doO b roles s m = (doS b roles s m, 0) by simp [doO, hM, hm]] at hdo
          have hih := hih (doS b roles s m) ⟨hlt, may_do hm, hp⟩ (by omega)
          have hae : a = ((a.toNat : Nat) : Int) := by omega
          rw [← hp]
          repeat' (first
           | (refine g_drawF1 (ι := Unit) 0 11 [11] [10] [] (fun _ _ => []) (pyMM b s (doS b roles s m)) () mix rfl (fun k x => by cases k <;> (refine subG_spec ?_; repeat (first | exact trivial | refine ⟨rfl, ?_⟩))) (fun k x hk => by match k, hk with | 0, _ => (refine subG_spec ?_; repeat (first | exact trivial | refine ⟨rfl, ?_⟩))) rfl (fun k x => rfl) rfl rfl (by simp) rfl rfl ?_; refine frun_ th rfl ?_)
           | refine gc_ rfl ?_
           | (refine g_region ?_; refine run_ th rfl ?_)
           | (refine g_drawC mix rfl rfl ?_; refine drun_ th rfl ?_)
           | (refine g_drawEC mix rfl rfl ?_; refine erun_ th rfl ?_)
           | refine SOps.nil ?_
           | refine DOps.nil ?_
           | refine EOps.nil ?_ rfl rfl
           | (refine s_split rfl rfl (fun hb => ?_) (fun hb => ?_) <;> (try simp only [hbL] at hb) <;> first | (exfalso; omega) | refine run_ th rfl ?_)
           | (refine d_split rfl rfl rfl (fun hb => ?_) (fun hb => ?_) <;> (try simp only [hbL] at hb) <;> first | (exfalso; omega) | refine drun_ th rfl ?_)
           | (refine g_if rfl (fun hb => ?_) (fun hb => ?_) <;> (try simp only [hbL] at hb) <;> (try (exfalso; omega)))
           | (refine s_idx th rfl rfl rfl rfl rfl rfl rfl rfl rfl j _ rfl hx ?_; refine run_ th rfl ?_)
           | (refine s_call hmv [] rfl rfl rfl rfl rfl rfl rfl rfl rfl rfl ?_; refine run_ th rfl ?_)
           | (refine f_idx th rfl rfl rfl rfl rfl rfl rfl rfl rfl rfl a.toNat _ hae hxm ?_; refine frun_ th rfl ?_)
           | (refine f_call hdo rfl rfl rfl rfl rfl rfl rfl rfl ?_; refine frun_ th rfl ?_)
           | (refine FOps.nil ⟨Effs.cons rfl (fun x => ?_) Effs.nil, fun v => ?_⟩)
           | (refine ef_store (i := 10) th rfl rfl rfl rfl rfl rfl rfl rfl rfl rfl rfl rfl)
           | (refine s_add rfl rfl rfl rfl rfl rfl (by omega) ?_; refine run_ th rfl ?_))
          all_goals first
            | (exfalso; omega)
            | exact g_sub (by exact ⟨⟨_, rfl, .refl _⟩, ⟨_, rfl, .refl _⟩, ⟨_, rfl, .refl _⟩, ⟨_, rfl, .refl _⟩, ⟨_, rfl, .refl _⟩, ⟨_, rfl, .refl _⟩, ⟨_, rfl, le_int (by omega)⟩, trivial⟩) (by exact ⟨⟨_, rfl, .refl _⟩, ⟨_, rfl, .refl _⟩, ⟨_, rfl, .refl _⟩, trivial⟩) rfl rfl rfl hih
        · rw [List.getElem?_eq_none (by omega)]
          repeat' (first
           | refine gc_ rfl ?_
           | (refine g_region ?_; refine run_ th rfl ?_)
           | (refine g_drawC mix rfl rfl ?_; refine drun_ th rfl ?_)
           | (refine g_drawEC mix rfl rfl ?_; refine erun_ th rfl ?_)
           | refine SOps.nil ?_
           | refine DOps.nil ?_
           | refine EOps.nil ?_ rfl rfl
           | (refine s_split rfl rfl (fun hb => ?_) (fun hb => ?_) <;> (try simp only [hbL] at hb) <;> first | (exfalso; omega) | refine run_ th rfl ?_)
           | (refine d_split rfl rfl rfl (fun hb => ?_) (fun hb => ?_) <;> (try simp only [hbL] at hb) <;> first | (exfalso; omega) | refine drun_ th rfl ?_)
           | (refine g_if rfl (fun hb => ?_) (fun hb => ?_) <;> (try simp only [hbL] at hb) <;> (try (exfalso; omega)))
           | refine g_endL th Tryd.func13 (.inr ⟨_, rfl⟩) rfl rfl rfl ?_ rfl
           | (refine s_idx th rfl rfl rfl rfl rfl rfl rfl rfl rfl j _ rfl hx ?_; refine run_ th rfl ?_)
           | (refine s_call hmv [] rfl rfl rfl rfl rfl rfl rfl rfl rfl rfl ?_; refine run_ th rfl ?_))
          all_goals first
            | exact .tup (.cons (.agg (.cons (.c (.nil 1)) (.cons (.c (.nil 1)) .nil))) (.cons (.refl _) .nil))
            | (exfalso; omega)
    · have hje : j = way.length := by omega
      subst hje
      rw [List.drop_length, playS]
      repeat' (first
       | refine gc_ rfl ?_
       | (refine g_region ?_; refine run_ th rfl ?_)
       | (refine g_drawC mix rfl rfl ?_; refine drun_ th rfl ?_)
       | (refine g_drawEC mix rfl rfl ?_; refine erun_ th rfl ?_)
       | refine SOps.nil ?_
       | refine DOps.nil ?_
       | refine EOps.nil ?_ rfl rfl
       | (refine s_split rfl rfl (fun hb => ?_) (fun hb => ?_) <;> (try simp only [hbL] at hb) <;> first | (exfalso; omega) | refine run_ th rfl ?_)
       | (refine d_split rfl rfl rfl (fun hb => ?_) (fun hb => ?_) <;> (try simp only [hbL] at hb) <;> first | (exfalso; omega) | refine drun_ th rfl ?_)
       | (refine g_if rfl (fun hb => ?_) (fun hb => ?_) <;> (try simp only [hbL] at hb) <;> (try (exfalso; omega)))
       | refine g_endL th Tryd.func13 (.inr ⟨_, rfl⟩) rfl rfl rfl ?_ rfl)
      all_goals first
        | exact .refl _
end Go.Sy
