/- The law ProjectTrim. -/
import Derived.Test.YtadimhaolhpglaaGreatDoorJu
import Derived.Test.YtadimhaolhpglaaGreatDoorJr
import Derived.Test.YtadimhaolhpglaaGreatDoorWt
import Derived.Test.YtadimhaolhpglaaGreatDoorBv1
import Derived.Test.YtadimhaolhpglaaGreatDoorBu4
set_option linter.unusedSimpArgs false
set_option linter.unusedVariables false
set_option linter.unusedSectionVars false
namespace Go.Sy
open Go.Proofs
set_option maxRecDepth 100000
attribute [local irreducible] SOps Goes DOps EOps GOps

theorem trimP_big8 {p : Prt} (h : PrtBig p) : PrtBig (trimP p) := by
  intro x hx a ha
  obtain ⟨y, hy, rfl⟩ := List.mem_map.1 (show x ∈ (reachG p.g).map fun x => (⟨(pntAt p x).from_, (pntAt p x).to, movA (reachG p.g) (pntAt p x).arms⟩ : Pnt) from hx)
  obtain ⟨b, hb, rfl⟩ := List.mem_map.1 (show a ∈ (risA (pntAt p y).arms).map _ from ha)
  have hb := risA_mem.1 hb
  rcases pntAt_or p y with hm | hm
  · exact h _ hm b hb
  · rw [hm] at hb; cases hb
theorem prt_sizes8 {p : Prt} (hv : prtB p = true) : ∀ s ∈ p.roles, s.size ≤ 100 := fun s hs => nameB_size ((rolesP hv).2.1 s hs)
set_option maxHeartbeats 16000000 in
theorem projectTrim_c (made : List Int) (who : Int) (hbig : (made.length + 1) * 8 ≤ 140737488355328) : Con Tryz.prog 11 [] [C1 (intsT made), C1 (.int .i64 who)] (Rv (.bool true)) [] := by
  obtain ⟨hv, hB⟩ := pr2_ok made
  have hpr := prot82_c giv8 made hbig
  have hnm : (pr2 made).name = ⟨#[112]⟩ := rfl
  obtain ⟨p, hp⟩ : ∃ p, p = pr2 made := ⟨_, rfl⟩
  rw [← hp] at hv hB hpr hnm
  have hpl := prt_len hv
  have htr := gtrim_c p hB
  rw [show trimPL p = trimP p by unfold trimPL; rw [if_pos hv]] at htr
  obtain ⟨nr, hnr⟩ : ∃ nr, nr = p.roles.length := ⟨_, rfl⟩
  have hw := pick_v (x := who) (n := (nr : Int)) (by omega) (by omega)
  have hwr : IntKind.u64.wrap ((p.roles.map fun s => [CT.str s]).length : Int) ≠ 0 := by rw [List.length_map, ← hnr, wrapU_id (by omega) (by omega)]; omega
  have hrr : ((p.roles.map fun s => [CT.str s]).length : Int) = (nr : Int) := by rw [List.length_map, hnr]
  obtain ⟨wi, hwi⟩ : ∃ wi : Nat, IntKind.i64.wrap ((IntKind.u64.wrap who).tmod (IntKind.u64.wrap ((p.roles.map fun s => [CT.str s]).length : Int))) = (wi : Int) := by
    rw [hrr]; exact ⟨_, (Int.toNat_of_nonneg hw.1).symm⟩
  have hwl : wi < p.roles.length := by rw [hrr] at hwi; omega
  have hxw : (p.roles.map fun s => [CT.str s])[wi]? = some [.str p.roles[wi]] := by simp [hwl]
  have hmem : p.roles[wi] ∈ p.roles := List.getElem_mem hwl
  obtain ⟨role, hrole⟩ : ∃ r, r = p.roles[wi] := ⟨_, rfl⟩
  rw [← hrole] at hxw hmem
  have hhas := hasB_iff.2 hmem
  have hrsz := ((prt_sizes8 hv) role hmem)
  have hr1 := role_c p hB role
  have hr2 := role_c (trimP p) (trimP_big8 hB) role
  rw [role_trimP hv hhas] at hr2
  have hpj : (roleE p role).2 = 0 → ∃ S, Proj p role S (roleE p role).1 := roleE_ok
  have hway : (roleE p role).2 = 0 → _ := roleE_way (p := p) (role := role)
  have hfail : (roleE p role).2 ≠ 0 → (roleE p role).1 = noLoc := roleE_fail
  generalize roleE p role = E at hr1 hr2 hpj hway hfail
  obtain ⟨l, e⟩ := E
  simp only at hpj hway hfail
  have hsame := same8_c l l
  rw [show (decide (l.name = l.name) && decide (l.turns = l.turns)) = true by simp] at hsame
  generalize trimP p = q at htr hr2
  have hhc := fun s => has_c p.roles s
  clear hp
  refine con_of (c := _) Tryz.func11 rfl rfl rfl (by decide) fun w M0 H Z => ?_
  refine g_len 0 rfl fun hll => ?_
  simp only [List.length_map] at hll
  by_cases he : e = 0
  · obtain ⟨S, hP⟩ := hpj he
    have hlB := proj_big hP hB
    have hlv := proj_may hP
    have htt := ttrim_c l hlB
    rw [show trimL l = l by unfold trimL; rw [if_pos hlv, proj_trim hP (hway he)]] at htt
    have htp := tpeers_c l hlB
    have htm := tmay_c l hlB
    rw [hlv] at htm
    have hpe := proj_peers hP
    have hpl2 : (peersL l).length ≤ 40 := by
      unfold peersL
      rw [if_pos hlv]
      have h1 := peersS_len l (reachG l.g)
      rw [proj_reach hP (hway he), rng_len] at h1
      have := hP.turns
      have := hP.len
      rw [proj_reach hP (hway he)]
      omega
    have hln : l.name = (⟨#[112, 46]⟩ : ByteArray) ++ role := by
      rw [hP.name, hnm]
      show (⟨#[112]⟩ ++ ⟨#[46]⟩ : ByteArray) ++ role = _
      rw [show (⟨#[112]⟩ ++ ⟨#[46]⟩ : ByteArray) = ⟨#[112, 46]⟩ by decide]
    have hcn : (ByteArray.mk #[112, 46]).size + role.size ≤ 9223372036854775807 := by rw [show (ByteArray.mk #[112, 46]).size = 2 from rfl]; omega
    generalize peersL l = P at htp hpe hpl2
    clear hway hpj hfail hP
    repeat' (first
     | refine gc_ rfl ?_
     | (refine g_region ?_; refine run_ th rfl ?_)
     | (refine g_drawC mix rfl rfl ?_; refine drun_ th rfl ?_)
     | (refine g_drawEC mix rfl rfl ?_; refine erun_ th rfl ?_)
     | refine SOps.nil ?_
     | refine DOps.nil ?_
     | refine EOps.nil ?_ rfl rfl
     | (refine s_split rfl rfl (fun hb => ?_) (fun hb => ?_) <;> (try simp only [hbL] at hb) <;> first | (exfalso; omega) | refine run_ th rfl ?_)
     | (refine d_split rfl rfl rfl (fun hb => ?_) (fun hb => ?_) <;> (try simp only [hbL] at hb) <;> first | (exfalso; omega) | refine drun_ th rfl ?_)
     | (refine g_if rfl (fun hb => ?_) (fun hb => ?_) <;> (try simp only [hbL] at hb) <;> (try (exfalso; omega)))
     | (refine s_call first8_c [] rfl rfl rfl rfl rfl rfl rfl rfl rfl rfl ?_; refine run_ th rfl ?_)
     | (refine s_call givR_c [] rfl rfl rfl rfl rfl rfl rfl rfl rfl rfl ?_; refine run_ th rfl ?_)
     | (refine s_appendF th rfl rfl rfl rfl rfl rfl rfl rfl rfl rfl rfl rfl rfl rfl (by constructor <;> simp <;> omega) ?_; refine s_freeze 17 rfl rfl ?_; refine run_ th rfl ?_)
     | (refine s_call hpr [] rfl rfl rfl rfl rfl rfl rfl rfl rfl rfl ?_; refine run_ th rfl ?_)
     | (refine s_call htr [] rfl rfl rfl rfl rfl rfl rfl rfl rfl rfl ?_; refine run_ th rfl ?_)
     | (refine d_rem rfl rfl rfl rfl rfl rfl hwr ?_; refine drun_ th rfl ?_)
     | (refine d_idx th rfl rfl rfl rfl rfl rfl rfl rfl rfl wi _ hwi hxw ?_; refine drun_ th rfl ?_)
     | (refine s_call hr1 [] rfl rfl rfl rfl rfl rfl rfl rfl rfl rfl ?_; refine run_ th rfl ?_)
     | (refine s_call hr2 [] rfl rfl rfl rfl rfl rfl rfl rfl rfl rfl ?_; refine run_ th rfl ?_)
     | (refine s_call hsame [] rfl rfl rfl rfl rfl rfl rfl rfl rfl rfl ?_; refine run_ th rfl ?_)
     | (refine s_call htt [] rfl rfl rfl rfl rfl rfl rfl rfl rfl rfl ?_; refine run_ th rfl ?_)
     | (refine s_call htp [] rfl rfl rfl rfl rfl rfl rfl rfl rfl rfl ?_; refine run_ th rfl ?_))
    all_goals first
      | (exfalso; revert hb; simp; done)
      | (exfalso; exact hb he)
      | (exfalso; omega)
      | skip
    refine g_loop1 (fun i : Nat => i ≤ P.length)
      (fun i => [(5, .v (.one (.ptr 5 0))), (6, .v (C1 (.str role))), (7, .v (.one (.ptr 7 0))), (11, .v (.one (.ptr 11 0))), (12, .v (C1 (namesT P))), (13, .v (C1 (.int .i64 (i : Int))))])
      (fun _ => [(5, .box (p.cs.map SC.c)), (7, .box (l.cs.map SC.c)), (11, .box (l.cs.map SC.c))])
      (fun i => P.length - i) 0 (Nat.zero_le _)
      (fun a w h => h.sub (by exact ⟨⟨_, rfl, .refl _⟩, ⟨_, rfl, .refl _⟩, ⟨_, rfl, .refl _⟩, ⟨_, rfl, .refl _⟩, ⟨_, rfl, .refl _⟩, ⟨_, rfl, le_int rfl⟩, trivial⟩) (by exact ⟨⟨_, rfl, .refl _⟩, ⟨_, rfl, .refl _⟩, ⟨_, rfl, .refl _⟩, trivial⟩) rfl rfl rfl) (fun i hi ih => ?_)
    by_cases hlt : i < P.length
    · have hx : (P.map fun s => [CT.str s])[i]? = some [.str P[i]] := by simp [hlt]
      obtain ⟨hp1, hp2⟩ := hpe P[i] (List.getElem_mem hlt)
      have hh := hhc P[i]
      rw [hasB_iff.2 hp1] at hh
      have hih := ih (i + 1) hlt (by omega)
      obtain ⟨s, hs⟩ : ∃ s, s = P[i] := ⟨_, rfl⟩
      rw [← hs] at hx hp2 hh
      clear hs ih hp1
      repeat' (first
       | refine gc_ rfl ?_
       | (refine g_region ?_; refine run_ th rfl ?_)
       | (refine g_drawC mix rfl rfl ?_; refine drun_ th rfl ?_)
       | (refine g_drawEC mix rfl rfl ?_; refine erun_ th rfl ?_)
       | refine SOps.nil ?_
       | refine DOps.nil ?_
       | refine EOps.nil ?_ rfl rfl
       | (refine s_split rfl rfl (fun hb => ?_) (fun hb => ?_) <;> (try simp only [hbL] at hb) <;> first | (exfalso; omega) | refine run_ th rfl ?_)
       | (refine d_split rfl rfl rfl (fun hb => ?_) (fun hb => ?_) <;> (try simp only [hbL] at hb) <;> first | (exfalso; omega) | refine drun_ th rfl ?_)
       | (refine g_if rfl (fun hb => ?_) (fun hb => ?_) <;> (try simp only [hbL] at hb) <;> (try (exfalso; omega)))
       | (refine d_idx th rfl rfl rfl rfl rfl rfl rfl rfl rfl i _ rfl hx ?_; refine drun_ th rfl ?_)
       | (refine d_call hh [] rfl rfl rfl rfl rfl rfl rfl rfl rfl rfl rfl ?_; refine drun_ th rfl ?_)
       | (refine s_add rfl rfl rfl rfl rfl rfl (by omega) ?_; refine run_ th rfl ?_))
      all_goals first
        | (exfalso; revert hb; simp; done)
        | (exfalso; exact hp2 hb)
        | (exfalso; simp only [List.length_map] at hb; omega)
        | exact g_sub (by exact ⟨⟨_, rfl, .refl _⟩, ⟨_, rfl, .refl _⟩, ⟨_, rfl, .refl _⟩, ⟨_, rfl, .refl _⟩, ⟨_, rfl, .refl _⟩, ⟨_, rfl, le_int (by omega)⟩, trivial⟩) (by exact ⟨⟨_, rfl, .refl _⟩, ⟨_, rfl, .refl _⟩, ⟨_, rfl, .refl _⟩, trivial⟩) rfl rfl rfl hih
    · clear ih
      repeat' (first
       | refine gc_ rfl ?_
       | (refine g_region ?_; refine run_ th rfl ?_)
       | (refine g_drawC mix rfl rfl ?_; refine drun_ th rfl ?_)
       | (refine g_drawEC mix rfl rfl ?_; refine erun_ th rfl ?_)
       | refine SOps.nil ?_
       | refine DOps.nil ?_
       | refine EOps.nil ?_ rfl rfl
       | (refine s_split rfl rfl (fun hb => ?_) (fun hb => ?_) <;> (try simp only [hbL] at hb) <;> first | (exfalso; omega) | refine run_ th rfl ?_)
       | (refine d_split rfl rfl rfl (fun hb => ?_) (fun hb => ?_) <;> (try simp only [hbL] at hb) <;> first | (exfalso; omega) | refine drun_ th rfl ?_)
       | (refine g_if rfl (fun hb => ?_) (fun hb => ?_) <;> (try simp only [hbL] at hb) <;> (try (exfalso; omega)))
       | refine g_endL th Tryz.func11 (.inr ⟨_, rfl⟩) rfl rfl rfl ?_ rfl
       | (refine s_call htm [] rfl rfl rfl rfl rfl rfl rfl rfl rfl rfl ?_; refine run_ th rfl ?_)
       | (refine s_call hsame [] rfl rfl rfl rfl rfl rfl rfl rfl rfl rfl ?_; refine run_ th rfl ?_)
       | (refine s_cat rfl rfl rfl rfl rfl rfl hcn ?_; refine run_ th rfl ?_))
      all_goals first
        | exact .refl _
        | exact le_ct (by rw [hln]; simp)
        | (exfalso; revert hb; simp; done)
        | (exfalso; simp only [List.length_map] at hb; omega)
  · have hl0 := hfail he
    subst hl0
    clear hway hpj hfail
    repeat' (first
     | refine gc_ rfl ?_
     | (refine g_region ?_; refine run_ th rfl ?_)
     | (refine g_drawC mix rfl rfl ?_; refine drun_ th rfl ?_)
     | (refine g_drawEC mix rfl rfl ?_; refine erun_ th rfl ?_)
     | refine SOps.nil ?_
     | refine DOps.nil ?_
     | refine EOps.nil ?_ rfl rfl
     | (refine s_split rfl rfl (fun hb => ?_) (fun hb => ?_) <;> (try simp only [hbL] at hb) <;> first | (exfalso; omega) | refine run_ th rfl ?_)
     | (refine d_split rfl rfl rfl (fun hb => ?_) (fun hb => ?_) <;> (try simp only [hbL] at hb) <;> first | (exfalso; omega) | refine drun_ th rfl ?_)
     | (refine g_if rfl (fun hb => ?_) (fun hb => ?_) <;> (try simp only [hbL] at hb) <;> (try (exfalso; omega)))
     | refine g_endL th Tryz.func11 (.inr ⟨_, rfl⟩) rfl rfl rfl ?_ rfl
     | (refine s_call first8_c [] rfl rfl rfl rfl rfl rfl rfl rfl rfl rfl ?_; refine run_ th rfl ?_)
     | (refine s_call givR_c [] rfl rfl rfl rfl rfl rfl rfl rfl rfl rfl ?_; refine run_ th rfl ?_)
     | (refine s_appendF th rfl rfl rfl rfl rfl rfl rfl rfl rfl rfl rfl rfl rfl rfl (by constructor <;> simp <;> omega) ?_; refine s_freeze 17 rfl rfl ?_; refine run_ th rfl ?_)
     | (refine s_call hpr [] rfl rfl rfl rfl rfl rfl rfl rfl rfl rfl ?_; refine run_ th rfl ?_)
     | (refine s_call htr [] rfl rfl rfl rfl rfl rfl rfl rfl rfl rfl ?_; refine run_ th rfl ?_)
     | (refine d_rem rfl rfl rfl rfl rfl rfl hwr ?_; refine drun_ th rfl ?_)
     | (refine d_idx th rfl rfl rfl rfl rfl rfl rfl rfl rfl wi _ hwi hxw ?_; refine drun_ th rfl ?_)
     | (refine s_call hr1 [] rfl rfl rfl rfl rfl rfl rfl rfl rfl rfl ?_; refine run_ th rfl ?_)
     | (refine s_call hr2 [] rfl rfl rfl rfl rfl rfl rfl rfl rfl rfl ?_; refine run_ th rfl ?_)
     | (refine s_call hsame [] rfl rfl rfl rfl rfl rfl rfl rfl rfl rfl ?_; refine run_ th rfl ?_))
    all_goals first
      | exact .refl _
      | (exfalso; revert hb; simp; done)
      | (exfalso; omega)
      | exact absurd rfl hb
end Go.Sy
