/- The law ProjectNames. -/
import Derived.Test.YtadimhaolhpglaaGreatDoorJo
import Derived.Test.YtadimhaolhpglaaGreatDoorBn1
set_option linter.unusedSimpArgs false
set_option linter.unusedVariables false
set_option linter.unusedSectionVars false
namespace Go.Sy
open Go.Proofs
set_option maxRecDepth 100000
attribute [local irreducible] SOps Goes DOps EOps GOps

theorem prt_sizes {p : Prt} (hv : prtB p = true) : (p.roles.length ≤ 1000 ∧ ∀ s ∈ p.roles, s.size ≤ 100) ∧ (p.points.length ≤ 1000 ∧ ∀ x ∈ p.points, x.from_.size ≤ 100 ∧ x.to.size ≤ 100 ∧ x.arms.length ≤ 1000) := by
  have hl := prt_len hv
  have hn := (rolesP hv).2.1
  refine ⟨⟨by omega, fun s hs => nameB_size (hn s hs)⟩, by omega, fun x hx => ?_⟩
  rcases pnt_kind (prt_pnt hv x hx) with ⟨e1, e2, e3⟩ | ⟨h1, h2, _, h4⟩
  · rw [e1, e2, e3]; exact ⟨by decide, by decide, by simp⟩
  · refine ⟨nameB_size (hn _ h1), nameB_size (hn _ h2), ?_⟩
    unfold armsOK at h4
    simp only [Bool.and_eq_true, decide_eq_true_eq] at h4
    omega
theorem ren_big {p : Prt} (h : PrtBig p) : PrtBig (renP p) := by
  intro x hx a ha
  obtain ⟨y, hy, rfl⟩ := List.mem_map.1 (show x ∈ p.points.map renX from hx)
  rw [renX_arms] at ha
  exact h y hy a ha

set_option maxHeartbeats 16000000 in
theorem projectNames_c (made : List Int) (who : Int) (hbig : (made.length + 1) * 8 ≤ 140737488355328) : Con Tryz.prog 3 [] [C1 (intsT made), C1 (.int .i64 who)] (Rv (.bool true)) [] := by
  obtain ⟨hv, hB⟩ := pr2_ok made
  have hpr := prot82_c giv8 made hbig
  have hro := pr2_roles made
  obtain ⟨p, hp⟩ : ∃ p, p = pr2 made := ⟨_, rfl⟩
  rw [← hp] at hv hB hpr hro
  obtain ⟨z1, z2⟩ := prt_sizes hv
  have hre := renamed_c p z1 z2
  have hqr : (renP p).roles = [rB ++ sA, rB ++ sB, rB ++ sC] := by unfold renP; rw [hro]; rfl
  have hqv : prtB (renP p) = true := prt_ren hv (by rw [hqr]; decide) (by rw [hqr]; decide)
  have hqB := ren_big hB
  have hmay := gmay_c (renP p) hqB
  rw [hqv] at hmay
  obtain ⟨nr, hnr⟩ : ∃ nr, nr = p.roles.length := ⟨_, rfl⟩
  have hn3 : nr = 3 := by rw [hnr, hro]; rfl
  have hw := pick_v (x := who) (n := (nr : Int)) (by omega) (by omega)
  have hwr : IntKind.u64.wrap ((p.roles.map fun s => [CT.str s]).length : Int) ≠ 0 := by rw [List.length_map, ← hnr, wrapU_id (by omega) (by omega)]; omega
  have hrr : ((p.roles.map fun s => [CT.str s]).length : Int) = (nr : Int) := by rw [List.length_map, hnr]
  obtain ⟨wi, hwi⟩ : ∃ wi : Nat, IntKind.i64.wrap ((IntKind.u64.wrap who).tmod (IntKind.u64.wrap ((p.roles.map fun s => [CT.str s]).length : Int))) = (wi : Int) := by
    rw [hrr]; exact ⟨_, (Int.toNat_of_nonneg hw.1).symm⟩
  have hwl : wi < p.roles.length := by rw [hrr] at hwi; omega
  have hxw : (p.roles.map fun s => [CT.str s])[wi]? = some [.str p.roles[wi]] := by simp [hwl]
  have hmem : p.roles[wi] ∈ p.roles := List.getElem_mem hwl
  obtain ⟨role, hrole⟩ : ∃ r, r = p.roles[wi] := ⟨_, rfl⟩
  rw [← hrole] at hxw hmem
  have hhas := hasB_iff.2 hmem
  have hrsz := z1.2 role hmem
  have hr1 := role_c p hB role
  have hr2 := role_c (renP p) hqB (rB ++ role)
  have hren := role_ren hv hhas hqv
  have hfit := (roleE_fit hv hhas).2
  obtain ⟨h40, hsm⟩ := role_small hv hhas
  have hms : ∃ M : Loc, roleE (renP p) (rB ++ role) = (M, (roleE p role).2) ∧ M.turns = (roleE p role).1.turns.map (gT (rB ++ ·)) := by
    rw [hren]
    by_cases he : (roleE p role).2 = 0
    · rw [if_pos he, he]; exact ⟨_, rfl, rfl⟩
    · rw [if_neg he]; exact ⟨_, rfl, by rw [hfit he]; rfl⟩
  clear hfit hren
  obtain ⟨M, hM1, hM2⟩ := hms
  rw [hM1] at hr2
  clear hM1
  generalize roleE p role = E at hr1 hr2 h40 hsm hM2
  obtain ⟨l, e⟩ := E
  simp only at h40 hsm hM2 hr2
  have hlM : ((M.turns.map Trn.cs).length : Int) = ((l.turns.map Trn.cs).length : Int) := by rw [hM2]; simp
  have hlM' : M.turns.length = l.turns.length := by rw [hM2]; simp
  generalize hq : renP p = q at hre hqv hqB hmay hr2
  clear hqr hq
  have hcr : rB.size + role.size ≤ 9223372036854775807 := by rw [show rB.size = 1 from rfl]; omega
  clear hp
  refine con_of (c := _) Tryz.func3 rfl rfl rfl (by decide) fun w M0 H Z => ?_
  refine g_len 0 rfl fun hll => ?_
  simp only [List.length_map] at hll
  repeat' (first
   | refine gc_ rfl ?_
   | (refine g_region ?_; refine run_ th rfl ?_)
   | (refine g_drawC mix rfl rfl ?_; refine drun_ th rfl ?_)
   | (refine g_drawEC mix rfl rfl ?_; refine erun_ th rfl ?_)
   | refine SOps.nil ?_
   | refine DOps.nil ?_
   | refine EOps.nil ?_ rfl rfl
   | (refine s_split rfl rfl (fun hb => ?_) (fun hb => ?_) <;> (try simp only [hbL] at hb) <;> first | (exfalso; omega) | refine run_ th rfl ?_)
   | (refine d_split rfl rfl rfl (fun hb => ?_) (fun hb => ?_) <;> (try simp only [hbL] at hb) <;> first | (exfalso; omega) | refine drun_ th rfl ?_)
   | (refine g_if rfl (fun hb => ?_) (fun hb => ?_) <;> (try simp only [hbL] at hb) <;> (try (exfalso; omega)))
   | (refine s_call first8_c [] rfl rfl rfl rfl rfl rfl rfl rfl rfl rfl ?_; refine run_ th rfl ?_)
   | (refine s_call givR_c [] rfl rfl rfl rfl rfl rfl rfl rfl rfl rfl ?_; refine run_ th rfl ?_)
   | (refine s_appendF th rfl rfl rfl rfl rfl rfl rfl rfl rfl rfl rfl rfl rfl rfl (by constructor <;> simp <;> omega) ?_; refine s_freeze 19 rfl rfl ?_; refine run_ th rfl ?_)
   | (refine s_call hpr [] rfl rfl rfl rfl rfl rfl rfl rfl rfl rfl ?_; refine run_ th rfl ?_)
   | (refine s_call hre [] rfl rfl rfl rfl rfl rfl rfl rfl rfl rfl ?_; refine run_ th rfl ?_)
   | (refine d_rem rfl rfl rfl rfl rfl rfl hwr ?_; refine drun_ th rfl ?_)
   | (refine d_idx th rfl rfl rfl rfl rfl rfl rfl rfl rfl wi _ hwi hxw ?_; refine drun_ th rfl ?_)
   | (refine s_call hr1 [] rfl rfl rfl rfl rfl rfl rfl rfl rfl rfl ?_; refine run_ th rfl ?_)
   | (refine s_cat rfl rfl rfl rfl rfl rfl hcr ?_; refine run_ th rfl ?_)
   | (refine s_call hr2 [] rfl rfl rfl rfl rfl rfl rfl rfl rfl rfl ?_; refine run_ th rfl ?_)
   | (refine s_call hmay [] rfl rfl rfl rfl rfl rfl rfl rfl rfl rfl ?_; refine run_ th rfl ?_))
  all_goals first
    | (exfalso; revert hb; simp; done)
    | (exfalso; exact hb hlM.symm)
    | (exfalso; exact hb hlM)
    | (exfalso; simp only [List.length_map] at hb; omega)
    | skip
  refine g_loop1 (fun i : Nat => i ≤ l.turns.length)
    (fun i => [(8, .v (.one (.ptr 8 0))), (10, .v (.one (.ptr 10 0))), (12, .v (C1 (.int .i64 (i : Int))))])
    (fun _ => [(8, .box (l.cs.map SC.c)), (10, .box (M.cs.map SC.c))])
    (fun i => l.turns.length - i) 0 (Nat.zero_le _)
    (fun a w h => h.sub (by exact ⟨⟨_, rfl, .refl _⟩, ⟨_, rfl, .refl _⟩, ⟨_, rfl, le_int rfl⟩, trivial⟩) (by exact ⟨⟨_, rfl, .refl _⟩, ⟨_, rfl, .refl _⟩, trivial⟩) rfl rfl rfl) (fun i hi ih => ?_)
  by_cases hlt : i < l.turns.length
  · obtain ⟨h6, hps⟩ := hsm l.turns[i] (List.getElem_mem hlt)
    have hx : (l.turns.map Trn.cs)[i]? = some (l.turns[i]).cs := by simp [hlt]
    have hy : (M.turns.map Trn.cs)[i]? = some (gT (rB ++ ·) l.turns[i]).cs := by rw [hM2]; simp [hlt]
    have hih := ih (i + 1) hlt (by omega)
    obtain ⟨x, hxx⟩ : ∃ x, x = l.turns[i] := ⟨_, rfl⟩
    rw [← hxx] at hx hy h6 hps
    obtain ⟨py, hpy, hyy⟩ : ∃ py, (x.kind ≠ 0 → py = rB ++ x.peer) ∧ gT (rB ++ ·) x = ⟨x.kind, py, x.arms⟩ := by
      unfold gT
      by_cases hk : x.kind = 0
      · rw [if_pos hk]; exact ⟨x.peer, fun h => absurd hk h, rfl⟩
      · rw [if_neg hk]; exact ⟨_, fun _ => rfl, rfl⟩
    rw [hyy] at hy
    clear hyy hxx ih hM2 hsm
    have hcp : rB.size + x.peer.size ≤ 9223372036854775807 := by rw [show rB.size = 1 from rfl]; omega
    repeat' (first
     | refine gc_ rfl ?_
     | (refine g_region ?_; refine run_ th rfl ?_)
     | (refine g_drawC mix rfl rfl ?_; refine drun_ th rfl ?_)
     | (refine g_drawEC mix rfl rfl ?_; refine erun_ th rfl ?_)
     | refine SOps.nil ?_
     | refine DOps.nil ?_
     | refine EOps.nil ?_ rfl rfl
     | (refine s_split rfl rfl (fun hb => ?_) (fun hb => ?_) <;> (try simp only [hbL] at hb) <;> first | (exfalso; omega) | refine run_ th rfl ?_)
     | (refine d_split rfl rfl rfl (fun hb => ?_) (fun hb => ?_) <;> (try simp only [hbL] at hb) <;> first | (exfalso; omega) | refine drun_ th rfl ?_)
     | (refine g_if rfl (fun hb => ?_) (fun hb => ?_) <;> (try simp only [hbL] at hb) <;> (try (exfalso; omega)))
     | (refine e_idx th rfl rfl rfl rfl rfl rfl rfl rfl rfl i _ rfl hx ?_; refine erun_ th rfl ?_)
     | (refine e_idx th rfl rfl rfl rfl rfl rfl rfl rfl rfl i _ rfl hy ?_; refine erun_ th rfl ?_)
     | (refine s_cat rfl rfl rfl rfl rfl rfl hcp ?_; refine run_ th rfl ?_)
     | (refine d_cat rfl rfl rfl rfl rfl rfl hcp ?_; refine drun_ th rfl ?_))
    all_goals first
      | (exfalso; revert hb; simp; done)
      | (exfalso; exact hb rfl)
      | (exfalso; exact hb (hpy (by assumption)).symm)
      | skip
    all_goals
      refine g_loop1 (fun k : Nat => k ≤ x.arms.length)
        (fun k => [(8, .v (.one (.ptr 8 0))), (10, .v (.one (.ptr 10 0))), (12, .v (C1 (.int .i64 (i : Int)))), (13, .v (.one (.ptr 13 0))), (14, .v (.one (.ptr 14 0))), (15, .v (C1 (.int .i64 (k : Int))))])
        (fun _ => [(8, .box (l.cs.map SC.c)), (10, .box (M.cs.map SC.c)), (13, .box (x.cs.map SC.c)), (14, .box ((Trn.cs ⟨x.kind, py, x.arms⟩).map SC.c))])
        (fun k => x.arms.length - k) 0 (Nat.zero_le _)
        (fun a w h => h.sub (by exact ⟨⟨_, rfl, .refl _⟩, ⟨_, rfl, .refl _⟩, ⟨_, rfl, .refl _⟩, ⟨_, rfl, .refl _⟩, ⟨_, rfl, .refl _⟩, ⟨_, rfl, le_int rfl⟩, trivial⟩) (by exact ⟨⟨_, rfl, .refl _⟩, ⟨_, rfl, .refl _⟩, ⟨_, rfl, .refl _⟩, ⟨_, rfl, .refl _⟩, trivial⟩) rfl rfl rfl) (fun k hk ihk => ?_)
      by_cases hkl : k < x.arms.length
      · have hxk : (x.arms.map Arm.cs)[k]? = some (x.arms[k]).cs := by simp [hkl]
        have hihk := ihk (k + 1) hkl (by omega)
        obtain ⟨b1, hb1⟩ : ∃ b, b = x.arms[k] := ⟨_, rfl⟩
        rw [← hb1] at hxk
        clear hb1 ihk
        repeat' (first
         | refine gc_ rfl ?_
         | (refine g_region ?_; refine run_ th rfl ?_)
         | (refine g_drawC mix rfl rfl ?_; refine drun_ th rfl ?_)
         | (refine g_drawEC mix rfl rfl ?_; refine erun_ th rfl ?_)
         | refine SOps.nil ?_
         | refine DOps.nil ?_
         | refine EOps.nil ?_ rfl rfl
         | (refine s_split rfl rfl (fun hb => ?_) (fun hb => ?_) <;> (try simp only [hbL] at hb) <;> first | (exfalso; omega) | refine run_ th rfl ?_)
         | (refine d_split rfl rfl rfl (fun hb => ?_) (fun hb => ?_) <;> (try simp only [hbL] at hb) <;> first | (exfalso; omega) | refine drun_ th rfl ?_)
         | (refine g_if rfl (fun hb => ?_) (fun hb => ?_) <;> (try simp only [hbL] at hb) <;> (try (exfalso; omega)))
         | (refine d_idx th rfl rfl rfl rfl rfl rfl rfl rfl rfl k _ rfl hxk ?_; refine drun_ th rfl ?_)
         | (refine d_neArm (a := b1) (b := b1) rfl rfl rfl rfl rfl rfl rfl ?_; refine drun_ th rfl ?_)
         | (refine s_add rfl rfl rfl rfl rfl rfl (by omega) ?_; refine run_ th rfl ?_))
        all_goals first
          | (exfalso; revert hb; simp; done)
          | (exfalso; simp only [List.length_map] at hb; omega)
          | exact g_sub (by exact ⟨⟨_, rfl, .refl _⟩, ⟨_, rfl, .refl _⟩, ⟨_, rfl, .refl _⟩, ⟨_, rfl, .refl _⟩, ⟨_, rfl, .refl _⟩, ⟨_, rfl, le_int (by omega)⟩, trivial⟩) (by exact ⟨⟨_, rfl, .refl _⟩, ⟨_, rfl, .refl _⟩, ⟨_, rfl, .refl _⟩, ⟨_, rfl, .refl _⟩, trivial⟩) rfl rfl rfl hihk
      · skip
        repeat' (first
         | refine gc_ rfl ?_
         | (refine g_region ?_; refine run_ th rfl ?_)
         | (refine g_drawC mix rfl rfl ?_; refine drun_ th rfl ?_)
         | (refine g_drawEC mix rfl rfl ?_; refine erun_ th rfl ?_)
         | refine SOps.nil ?_
         | refine DOps.nil ?_
         | refine EOps.nil ?_ rfl rfl
         | (refine s_split rfl rfl (fun hb => ?_) (fun hb => ?_) <;> (try simp only [hbL] at hb) <;> first | (exfalso; omega) | refine run_ th rfl ?_)
         | (refine d_split rfl rfl rfl (fun hb => ?_) (fun hb => ?_) <;> (try simp only [hbL] at hb) <;> first | (exfalso; omega) | refine drun_ th rfl ?_)
         | (refine g_if rfl (fun hb => ?_) (fun hb => ?_) <;> (try simp only [hbL] at hb) <;> (try (exfalso; omega)))
         | (refine s_add rfl rfl rfl rfl rfl rfl (by omega) ?_; refine run_ th rfl ?_))
        all_goals first
          | (exfalso; revert hb; simp; done)
          | (exfalso; simp only [List.length_map] at hb; omega)
          | exact g_sub (by exact ⟨⟨_, rfl, .refl _⟩, ⟨_, rfl, .refl _⟩, ⟨_, rfl, le_int (by omega)⟩, trivial⟩) (by exact ⟨⟨_, rfl, .refl _⟩, ⟨_, rfl, .refl _⟩, trivial⟩) rfl rfl rfl hih
  · skip
    repeat' (first
     | refine gc_ rfl ?_
     | (refine g_region ?_; refine run_ th rfl ?_)
     | (refine g_drawC mix rfl rfl ?_; refine drun_ th rfl ?_)
     | (refine g_drawEC mix rfl rfl ?_; refine erun_ th rfl ?_)
     | refine SOps.nil ?_
     | refine DOps.nil ?_
     | refine EOps.nil ?_ rfl rfl
     | (refine s_split rfl rfl (fun hb => ?_) (fun hb => ?_) <;> (try simp only [hbL] at hb) <;> first | (exfalso; omega) | refine run_ th rfl ?_)
     | (refine d_split rfl rfl rfl (fun hb => ?_) (fun hb => ?_) <;> (try simp only [hbL] at hb) <;> first | (exfalso; omega) | refine drun_ th rfl ?_)
     | (refine g_if rfl (fun hb => ?_) (fun hb => ?_) <;> (try simp only [hbL] at hb) <;> (try (exfalso; omega)))
     | refine g_endL th Tryz.func3 (.inr ⟨_, rfl⟩) rfl rfl rfl ?_ rfl)
    all_goals first
      | exact .refl _
      | (exfalso; simp only [List.length_map] at hb; omega)
end Go.Sy
