/- The law GlobeSteps. -/
import Derived.Test.YtadimhaolhpglaaWk
set_option linter.unusedSimpArgs false
set_option linter.unusedVariables false
set_option linter.unusedSectionVars false
namespace Go.Sy
open Go.Proofs
set_option maxRecDepth 100000
attribute [local irreducible] SOps Goes DOps EOps GOps

set_option maxHeartbeats 16000000 in
theorem globeSteps_c (made : List Int) (at_ who : Int) (hbig : (made.length + 1) * 8 ≤ 140737488355328) : Con Try.prog 4 [] [C1 (intsT made), C1 (.int .i64 at_), C1 (.int .i64 who)] (Rv (.bool true)) [] := by
  obtain ⟨hv, hB⟩ := made2_ok made
  have hpr := prot7_c giv7 made hbig
  obtain ⟨p, hp⟩ : ∃ p, p = made2 made := ⟨_, rfl⟩
  rw [← hp] at hv hB hpr
  have hln := prt_len hv
  have hpin := prt_in hv
  obtain ⟨nr, hnr⟩ : ∃ nr, nr = p.roles.length := ⟨_, rfl⟩
  obtain ⟨n, hn⟩ : ∃ n, n = p.points.length := ⟨_, rfl⟩
  have hw := pick_v (x := who) (n := (nr : Int)) (by omega) (by omega)
  have hk := pick_v (x := at_) (n := (n : Int)) (by omega) (by omega)
  have hwr : IntKind.u64.wrap ((p.roles.map fun s => [CT.str s]).length : Int) ≠ 0 := by rw [List.length_map, ← hnr, wrapU_id (by omega) (by omega)]; omega
  have hwn : IntKind.u64.wrap ((p.points.map Pnt.cs).length : Int) ≠ 0 := by rw [List.length_map, ← hn, wrapU_id (by omega) (by omega)]; omega
  have hrr : ((p.roles.map fun s => [CT.str s]).length : Int) = (nr : Int) := by rw [List.length_map, hnr]
  have hpp : ((p.points.map Pnt.cs).length : Int) = (n : Int) := by rw [List.length_map, hn]
  obtain ⟨wi, hwi⟩ : ∃ wi : Nat, IntKind.i64.wrap ((IntKind.u64.wrap who).tmod (IntKind.u64.wrap ((p.roles.map fun s => [CT.str s]).length : Int))) = (wi : Int) := by
    rw [hrr]; exact ⟨_, (Int.toNat_of_nonneg hw.1).symm⟩
  have hwl : wi < p.roles.length := by rw [hrr] at hwi; omega
  have hxw : (p.roles.map fun s => [CT.str s])[wi]? = some [.str p.roles[wi]] := by simp [hwl]
  obtain ⟨role, hrole⟩ : ∃ r, r = p.roles[wi] := ⟨_, rfl⟩
  rw [← hrole] at hxw
  obtain ⟨kI, hkI⟩ : ∃ x, x = IntKind.i64.wrap ((IntKind.u64.wrap at_).tmod (IntKind.u64.wrap ((p.points.map Pnt.cs).length : Int))) := ⟨_, rfl⟩
  have hkr : 0 ≤ kI ∧ kI < (p.points.length : Int) := by rw [hkI, hpp, ← hn]; exact hk
  have hhas : hasB p.roles role = true := hasB_iff.2 (by rw [hrole]; exact List.getElem_mem hwl)
  have hnear : ∀ l, Con Try.prog 17 [] [Ag p.cs, C1 (.str role), C1 (intsT l)] (Rv (intsT (nearL p role l))) [] := fun l => by
    have h := near_c p hB role l
    rw [show nearR p role l = nearL p role l by rw [nearR, hv, hhas]; rfl] at h
    exact h
  have hlost : ∀ y : Int, 0 ≤ y ∧ y < (p.points.length : Int) → Con Try.prog 19 [] [Ag p.cs, C1 (.str role), C1 (.int .i64 y)] (Rv (.bool (decide ((nearL p role [y]).length = 0)))) [] := fun y hy => by
    have h := lost_c p hB role y
    rw [show lostR p role y = decide ((nearL p role [y]).length = 0) by rw [lostR, hv, hhas, decide_eq_true hy]; rfl] at h
    exact h
  have hky : kI.toNat < p.points.length := by omega
  have hxk : (p.points.map Pnt.cs)[kI.toNat]? = some (p.points[kI.toNat]).cs := by simp [hky]
  have hpk : pntAt p kI = p.points[kI.toNat] := by unfold pntAt; rw [List.getD_eq_getElem?_getD, List.getElem?_eq_getElem hky]; rfl
  obtain ⟨x, hxx⟩ : ∃ x, x = p.points[kI.toNat] := ⟨_, rfl⟩
  rw [← hxx] at hxk hpk
  have hinF : x.from_ = role → nearL p role [kI, kI] = [kI] := fun h => near_in hpin hkr (by rw [hpk]; unfold inP; rw [decide_eq_true h]; rfl) (fun x => by simp)
  have hinT : x.to = role → nearL p role [kI, kI] = [kI] := fun h => near_in hpin hkr (by rw [hpk]; unfold inP; rw [decide_eq_true h]; simp) (fun x => by simp)
  have hx6 : x.arms.length ≤ 6 := by
    rcases pntAt_arms hv kI with h1 | h1
    · rw [hpk] at h1; rw [h1]; simp
    · rw [hpk] at h1; exact (arms_all h1).1.2
  have hnx : ∀ a ∈ x.arms, 0 ≤ a.next ∧ a.next < (p.points.length : Int) := fun a ha => hpin kI a (by rw [hpk]; exact ha)
  have hs1 := sameInts7_c (nearL p role [kI, kI]) [kI]
  have hs2 := sameInts7_c (nearL p role [kI]) (nearL p role (x.arms.map Arm.next))
  clear hxx
  refine con_of (c := _) Try.func4 rfl rfl rfl (by decide) fun w M0 H Z => ?_
  refine g_len 0 rfl fun hll => ?_
  simp only [List.length_map] at hll
  repeat' (first
   | rw [← hkI]
   | refine gc_ rfl ?_
   | (refine g_region ?_; refine run_ th rfl ?_)
   | (refine g_drawC mix rfl rfl ?_; refine drun_ th rfl ?_)
   | (refine g_drawEC mix rfl rfl ?_; refine erun_ th rfl ?_)
   | refine SOps.nil ?_
   | refine DOps.nil ?_
   | refine EOps.nil ?_ rfl rfl
   | (refine s_split rfl rfl (fun hb => ?_) (fun hb => ?_) <;> (try simp only [hbL] at hb) <;> first | (exfalso; omega) | refine run_ th rfl ?_)
   | (refine d_split rfl rfl rfl (fun hb => ?_) (fun hb => ?_) <;> (try simp only [hbL] at hb) <;> first | (exfalso; omega) | refine drun_ th rfl ?_)
   | (refine g_if rfl (fun hb => ?_) (fun hb => ?_) <;> (try simp only [hbL] at hb) <;> (try (exfalso; omega)))
   | (refine s_call first7_c [] rfl rfl rfl rfl rfl rfl rfl rfl rfl rfl ?_; refine run_ th rfl ?_)
   | (refine s_call giv7_c [] rfl rfl rfl rfl rfl rfl rfl rfl rfl rfl ?_; refine run_ th rfl ?_)
   | (refine s_appendF th rfl rfl rfl rfl rfl rfl rfl rfl rfl rfl rfl rfl rfl rfl (by constructor <;> simp <;> omega) ?_; refine s_freeze 17 rfl rfl ?_; refine run_ th rfl ?_)
   | (refine s_call hpr [] rfl rfl rfl rfl rfl rfl rfl rfl rfl rfl ?_; refine run_ th rfl ?_)
   | (refine s_rem rfl rfl rfl rfl rfl rfl hwn ?_; refine run_ th rfl ?_)
   | (refine d_rem rfl rfl rfl rfl rfl rfl hwr ?_; refine drun_ th rfl ?_)
   | (refine d_idx th rfl rfl rfl rfl rfl rfl rfl rfl rfl wi _ hwi hxw ?_; refine drun_ th rfl ?_)
   | (refine s_idx th rfl rfl rfl rfl rfl rfl rfl rfl rfl kI.toNat _ (by omega) hxk ?_; refine run_ th rfl ?_)
   | (refine s_freeze 60 rfl rfl ?_; refine s_leT 60 (.v (C1 (intsT [kI, kI]))) rfl (.v (.one (.c (.nn true 1 _)))) ?_; refine s_call (hnear [kI, kI]) [] rfl rfl rfl rfl rfl rfl rfl rfl rfl rfl ?_; refine run_ th rfl ?_)
   | (refine s_freeze 63 rfl rfl ?_; refine s_leT 63 (.v (C1 (intsT [kI]))) rfl (.v (.one (.c (.nn true 1 _)))) ?_; refine s_call hs1 [] rfl rfl rfl rfl rfl rfl rfl rfl rfl rfl ?_; refine run_ th rfl ?_))
  all_goals first
    | (refine g_endL th Try.func4 (.inr ⟨_, rfl⟩) rfl rfl rfl ?_ rfl
       first | exact le_ct (by rw [hinF (by assumption)]; simp) | exact le_ct (by rw [hinT (by assumption)]; simp))
    | (exfalso; revert hb; simp; done)
    | skip
  have hin : inP (pntAt p kI) role = false := by rw [hpk]; unfold inP; rw [decide_eq_false (show ¬ x.from_ = role by assumption), decide_eq_false (show ¬ x.to = role by assumption)]; rfl
  have hst := near_step hpin hkr hin
  rw [hpk] at hst
  have hall : x.arms.all (fun a => decide ((nearL p role [a.next]).length = 0)) = decide ((nearL p role [kI]).length = 0) := by
    rw [hst, Bool.eq_iff_iff, List.all_eq_true, decide_eq_true_eq, List.length_eq_zero_iff, near_lost hpin]
    simp [List.length_eq_zero_iff]
  rw [← hst] at hs2
  have hnr9 := hnear (x.arms.map Arm.next)
  rw [← hst] at hnr9
  have hnr1 := hnear [kI]
  have hlo1 := hlost kI hkr
  obtain ⟨on, hon⟩ : ∃ t, t = nearL p role [kI] := ⟨_, rfl⟩
  rw [← hon] at hall hs2 hnr9 hnr1 hlo1
  refine g_leT 12 (.v (C1 (.bool true))) rfl (.v (.one (.lit _))) ?_
  refine g_adopt 11 200 3 1 rfl rfl rfl ?_
  refine g_loop1 (fun i : Nat => i ≤ x.arms.length)
    (fun i => [(7, .v (.one (.ptr 7 0))), (8, .v (C1 (.str role))), (9, .v (C1 (.int .i64 kI))), (10, .v (.one (.ptr 10 0))), (11, .v (.one (.own 200))), (12, .v (C1 (.bool ((x.arms.take i).all fun a => decide ((nearL p role [a.next]).length = 0))))), (13, .v (C1 (.int .i64 (i : Int))))])
    (fun i => [(7, .box [.c (.str p.name), .c (namesT p.roles), .c (pointsC p.points)]), (10, .box [.c (.str x.from_), .c (.str x.to), .c (armsC x.arms)]), (200, .arr false 3 1 (((x.arms.take i).map Arm.next).map fun r => [CT.int .i64 r]))])
    (fun i => x.arms.length - i) 0 (Nat.zero_le _)
    (fun a w h => h.sub (by exact ⟨⟨_, rfl, .refl _⟩, ⟨_, rfl, .refl _⟩, ⟨_, rfl, .refl _⟩, ⟨_, rfl, .refl _⟩, ⟨_, rfl, .refl _⟩, ⟨_, rfl, le_ct (by simp)⟩, ⟨_, rfl, le_int rfl⟩, trivial⟩) (by exact ⟨⟨_, rfl, .refl _⟩, ⟨_, rfl, .refl _⟩, ⟨_, rfl, le_arr (by simp)⟩, trivial⟩) rfl rfl rfl) (fun i hi ih => ?_)
  by_cases hlt : i < x.arms.length
  · have hxa : (x.arms.map Arm.cs)[i]? = some (x.arms[i]).cs := by simp [hlt]
    have hlo := hlost (x.arms[i]).next (hnx _ (List.getElem_mem hlt))
    have hstep : ((x.arms.take (i + 1)).all fun a => decide ((nearL p role [a.next]).length = 0)) = (((x.arms.take i).all fun a => decide ((nearL p role [a.next]).length = 0)) && decide ((nearL p role [(x.arms[i]).next]).length = 0)) := by
      rw [List.take_succ_eq_append_getElem hlt, List.all_append]; simp
    have hrow : ((x.arms.take (i + 1)).map Arm.next).map (fun r => [CT.int .i64 r]) = ((x.arms.take i).map Arm.next).map (fun r => [CT.int .i64 r]) ++ [[.int .i64 (x.arms[i]).next]] := by
      rw [List.take_succ_eq_append_getElem hlt, List.map_append, List.map_append]; rfl
    have htl : (x.arms.take i).length = i := by simp; omega
    have hih := ih (i + 1) hlt (by omega)
    rw [hstep, hrow] at hih
    repeat' (first
     | (refine g_drawA mix rfl rfl rfl rfl rfl rfl ?_; refine drun_ th rfl ?_)
     | (refine DOps.nil ?_; refine run_ th rfl ?_)
     | refine gc_ rfl ?_
     | (refine g_region ?_; refine run_ th rfl ?_)
     | (refine g_drawC mix rfl rfl ?_; refine drun_ th rfl ?_)
     | (refine g_drawEC mix rfl rfl ?_; refine erun_ th rfl ?_)
     | refine SOps.nil ?_
     | refine DOps.nil ?_
     | refine EOps.nil ?_ rfl rfl
     | (refine s_split rfl rfl (fun hb => ?_) (fun hb => ?_) <;> (try simp only [hbL] at hb) <;> first | (exfalso; omega) | refine run_ th rfl ?_)
     | (refine d_split rfl rfl rfl (fun hb => ?_) (fun hb => ?_) <;> (try simp only [hbL] at hb) <;> first | (exfalso; omega) | refine drun_ th rfl ?_)
     | (refine g_if rfl (fun hb => ?_) (fun hb => ?_) <;> (try simp only [hbL] at hb) <;> (try (exfalso; omega)))
     | (refine s_idx th rfl rfl rfl rfl rfl rfl rfl rfl rfl i _ rfl hxa ?_; refine run_ th rfl ?_)
     | (refine s_append th rfl rfl rfl rfl rfl rfl rfl rfl rfl rfl rfl rfl rfl rfl rfl (by constructor <;> simp [htl] <;> omega) ?_; refine run_ th rfl ?_)
     | (refine d_idx th rfl rfl rfl rfl rfl rfl rfl rfl rfl i _ rfl hxa ?_; refine drun_ th rfl ?_)
     | (refine d_call hlo [] rfl rfl rfl rfl rfl rfl rfl rfl rfl rfl rfl ?_; refine drun_ th rfl ?_)
     | (refine s_add rfl rfl rfl rfl rfl rfl (by omega) ?_; refine run_ th rfl ?_))
    all_goals first
      | exact g_sub (by exact ⟨⟨_, rfl, .refl _⟩, ⟨_, rfl, .refl _⟩, ⟨_, rfl, .refl _⟩, ⟨_, rfl, .refl _⟩, ⟨_, rfl, .refl _⟩, ⟨_, rfl, le_lit (by rw [show (List.take i x.arms).all _ = false by simpa using hb, Bool.false_and])⟩, ⟨_, rfl, le_int (by omega)⟩, trivial⟩) (by exact ⟨⟨_, rfl, .refl _⟩, ⟨_, rfl, .refl _⟩, ⟨_, rfl, .refl _⟩, trivial⟩) rfl rfl rfl hih
      | exact g_sub (by exact ⟨⟨_, rfl, .refl _⟩, ⟨_, rfl, .refl _⟩, ⟨_, rfl, .refl _⟩, ⟨_, rfl, .refl _⟩, ⟨_, rfl, .refl _⟩, ⟨_, rfl, le_ct (by rw [show (List.take i x.arms).all _ = true by simpa using hb, Bool.true_and])⟩, ⟨_, rfl, le_int (by omega)⟩, trivial⟩) (by exact ⟨⟨_, rfl, .refl _⟩, ⟨_, rfl, .refl _⟩, ⟨_, rfl, .refl _⟩, trivial⟩) rfl rfl rfl hih
  · rw [List.take_of_length_le (by omega), hall]
    repeat' (first
     | (refine g_atR 16 rfl ?_; refine g_freeze 200 rfl rfl ?_)
     | refine gc_ rfl ?_
     | (refine g_region ?_; refine run_ th rfl ?_)
     | (refine g_drawC mix rfl rfl ?_; refine drun_ th rfl ?_)
     | (refine g_drawEC mix rfl rfl ?_; refine erun_ th rfl ?_)
     | refine SOps.nil ?_
     | refine DOps.nil ?_
     | refine EOps.nil ?_ rfl rfl
     | (refine s_split rfl rfl (fun hb => ?_) (fun hb => ?_) <;> (try simp only [hbL] at hb) <;> first | (exfalso; omega) | refine run_ th rfl ?_)
     | (refine d_split rfl rfl rfl (fun hb => ?_) (fun hb => ?_) <;> (try simp only [hbL] at hb) <;> first | (exfalso; omega) | refine drun_ th rfl ?_)
     | (refine g_if rfl (fun hb => ?_) (fun hb => ?_) <;> (try simp only [hbL] at hb) <;> (try (exfalso; omega)))
     | (refine DOps.step rfl (op_lit (ct := intsT [kI]) th rfl rfl rfl rfl rfl rfl rfl rfl rfl (.nn true 1 _) rfl rfl) ?_; refine drun_ th rfl ?_)
     | (refine d_call hnr1 [] rfl rfl rfl rfl rfl rfl rfl rfl rfl rfl rfl ?_; refine drun_ th rfl ?_)
     | (refine d_call hnr9 [] rfl rfl rfl rfl rfl rfl rfl rfl rfl rfl rfl ?_; refine drun_ th rfl ?_)
     | (refine d_call hs2 [] rfl rfl rfl rfl rfl rfl rfl rfl rfl rfl rfl ?_; refine drun_ th rfl ?_)
     | (refine d_call hlo1 [] rfl rfl rfl rfl rfl rfl rfl rfl rfl rfl rfl ?_; refine drun_ th rfl ?_))
    all_goals first
      | (exfalso; revert hb; simp; done)
      | (refine g_endL th Try.func4 (.inr ⟨_, rfl⟩) rfl rfl rfl ?_ rfl
         first | exact .refl _ | exact le_ct (by simp))
end Go.Sy
