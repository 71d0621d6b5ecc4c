/- The law GlobeNear. -/
import Derived.Test.YtadimhaolhpglaaBw3
set_option linter.unusedSimpArgs false
set_option linter.unusedVariables false
set_option linter.unusedSectionVars false
namespace Go.Sy
open Go.Proofs
set_option maxRecDepth 100000
attribute [local irreducible] SOps Goes DOps EOps GOps

set_option maxHeartbeats 16000000 in
theorem globeNear_c (made : List Int) (at_ more who : Int) (hbig : (made.length + 1) * 8 ≤ 140737488355328) : Con Try.prog 3 [] [C1 (intsT made), C1 (.int .i64 at_), C1 (.int .i64 more), C1 (.int .i64 who)] (Rv (.bool true)) [] := by
  obtain ⟨hv, hB⟩ := made2_ok made
  have hpr := prot7_c giv7 made hbig
  obtain ⟨p, hp⟩ : ∃ p, p = made2 made := ⟨_, rfl⟩
  rw [← hp] at hv hB hpr
  have hln := prt_len hv
  have hpin := prt_in hv
  obtain ⟨nr, hnr⟩ : ∃ nr, nr = p.roles.length := ⟨_, rfl⟩
  obtain ⟨n, hn⟩ : ∃ n, n = p.points.length := ⟨_, rfl⟩
  have hw := pick_v (x := who) (n := (nr : Int)) (by omega) (by omega)
  have hk := pick_v (x := at_) (n := (n : Int)) (by omega) (by omega)
  have hm := pick_v (x := more) (n := (n : Int)) (by omega) (by omega)
  have hwr : IntKind.u64.wrap ((p.roles.map fun s => [CT.str s]).length : Int) ≠ 0 := by rw [List.length_map, ← hnr, wrapU_id (by omega) (by omega)]; omega
  have hwn : IntKind.u64.wrap ((p.points.map Pnt.cs).length : Int) ≠ 0 := by rw [List.length_map, ← hn, wrapU_id (by omega) (by omega)]; omega
  have hrr : ((p.roles.map fun s => [CT.str s]).length : Int) = (nr : Int) := by rw [List.length_map, hnr]
  have hpp : ((p.points.map Pnt.cs).length : Int) = (n : Int) := by rw [List.length_map, hn]
  obtain ⟨wi, hwi⟩ : ∃ wi : Nat, IntKind.i64.wrap ((IntKind.u64.wrap who).tmod (IntKind.u64.wrap ((p.roles.map fun s => [CT.str s]).length : Int))) = (wi : Int) := by
    rw [hrr]; exact ⟨_, (Int.toNat_of_nonneg hw.1).symm⟩
  have hwl : wi < p.roles.length := by rw [hrr] at hwi; omega
  have hxw : (p.roles.map fun s => [CT.str s])[wi]? = some [.str p.roles[wi]] := by simp [hwl]
  obtain ⟨role, hrole⟩ : ∃ r, r = p.roles[wi] := ⟨_, rfl⟩
  rw [← hrole] at hxw
  obtain ⟨kI, hkI⟩ : ∃ x, x = IntKind.i64.wrap ((IntKind.u64.wrap at_).tmod (IntKind.u64.wrap ((p.points.map Pnt.cs).length : Int))) := ⟨_, rfl⟩
  obtain ⟨mI, hmI⟩ : ∃ x, x = IntKind.i64.wrap ((IntKind.u64.wrap more).tmod (IntKind.u64.wrap ((p.points.map Pnt.cs).length : Int))) := ⟨_, rfl⟩
  have hkr : 0 ≤ kI ∧ kI < (p.points.length : Int) := by rw [hkI, hpp, ← hn]; exact hk
  have hmr : 0 ≤ mI ∧ mI < (p.points.length : Int) := by rw [hmI, hpp, ← hn]; exact hm
  have hhas : hasB p.roles role = true := hasB_iff.2 (by rw [hrole]; exact List.getElem_mem hwl)
  have hnear : ∀ l, Con Try.prog 17 [] [Ag p.cs, C1 (.str role), C1 (intsT l)] (Rv (intsT (nearL p role l))) [] := fun l => by
    have h := near_c p hB role l
    rw [show nearR p role l = nearL p role l by rw [nearR, hv, hhas]; rfl] at h
    exact h
  have hlost := lost_c p hB role kI
  rw [show lostR p role kI = decide ((nearL p role [kI]).length = 0) by rw [lostR, hv, hhas, decide_eq_true hkr]; rfl] at hlost
  have hsame := sameInts7_c (nearL p role [kI]) [kI]
  have hky : kI.toNat < p.points.length := by omega
  have hxk : (p.points.map Pnt.cs)[kI.toNat]? = some (p.points[kI.toNat]).cs := by simp [hky]
  have hpk : pntAt p kI = p.points[kI.toNat] := by unfold pntAt; rw [List.getD_eq_getElem?_getD, List.getElem?_eq_getElem hky]; rfl
  have hinF : p.points[kI.toNat].from_ = role → nearL p role [kI] = [kI] := fun h => near_in hpin hkr (by rw [hpk]; unfold inP; rw [decide_eq_true h]; rfl) (fun x => by simp)
  have hinT : p.points[kI.toNat].to = role → nearL p role [kI] = [kI] := fun h => near_in hpin hkr (by rw [hpk]; unfold inP; rw [decide_eq_true h]; simp) (fun x => by simp)
  refine con_of (c := _) Try.func3 rfl rfl rfl (by decide) fun w M0 H Z => ?_
  refine g_len 0 rfl fun hll => ?_
  simp only [List.length_map] at hll
  repeat' (first
   | rw [← hkI]
   | rw [← hmI]
   | (refine g_atR 7 rfl ?_; refine g_joinR 61 [(9, .v (.one (.ptr 9 0))), (10, .v (C1 (.str role))), (11, .v (C1 (.int .i64 kI))), (12, .v (C1 (.int .i64 mI))), (13, .v (C1 (intsT (nearL p role [kI])))), (14, .v (C1 (intsT (nearL p role [mI, kI, mI]))))] [(9, .box [.c (.str p.name), .c (namesT p.roles), .c (pointsC p.points)])] rfl rfl ?_ (fun hk0 => g_sub (tm' := [(9, .v (.one (.ptr 9 0))), (10, .v (C1 (.str role))), (11, .v (C1 (.int .i64 kI))), (12, .v (C1 (.int .i64 mI))), (13, .v (C1 (intsT (nearL p role [kI])))), (14, .v (C1 (intsT (nearL p role [mI, kI, mI]))))]) (mm' := [(9, .box [.c (.str p.name), .c (namesT p.roles), .c (pointsC p.points)])]) (by exact ⟨⟨_, rfl, .refl _⟩, ⟨_, rfl, .refl _⟩, ⟨_, rfl, .refl _⟩, ⟨_, rfl, .refl _⟩, ⟨_, rfl, .refl _⟩, ⟨_, rfl, .refl _⟩, trivial⟩) (by exact ⟨⟨_, rfl, .refl _⟩, trivial⟩) rfl rfl rfl ?_))
   | (refine g_atR 10 rfl ?_; first | exact g_sub (by exact ⟨⟨_, rfl, .refl _⟩, ⟨_, rfl, .refl _⟩, ⟨_, rfl, .refl _⟩, ⟨_, rfl, .refl _⟩, ⟨_, rfl, .refl _⟩, ⟨_, rfl, .refl _⟩, trivial⟩) (by exact ⟨⟨_, rfl, .refl _⟩, trivial⟩) rfl rfl rfl hk0 | fail)
   | refine gc_ rfl ?_
   | (refine g_region ?_; refine run_ th rfl ?_)
   | (refine g_drawC mix rfl rfl ?_; refine drun_ th rfl ?_)
   | (refine g_drawEC mix rfl rfl ?_; refine erun_ th rfl ?_)
   | refine SOps.nil ?_
   | refine DOps.nil ?_
   | refine EOps.nil ?_ rfl rfl
   | (refine s_split rfl rfl (fun hb => ?_) (fun hb => ?_) <;> (try simp only [hbL] at hb) <;> first | (exfalso; omega) | refine run_ th rfl ?_)
   | (refine d_split rfl rfl rfl (fun hb => ?_) (fun hb => ?_) <;> (try simp only [hbL] at hb) <;> first | (exfalso; omega) | refine drun_ th rfl ?_)
   | (refine g_if rfl (fun hb => ?_) (fun hb => ?_) <;> (try simp only [hbL] at hb) <;> (try (exfalso; omega)))
   | (refine s_call first7_c [] rfl rfl rfl rfl rfl rfl rfl rfl rfl rfl ?_; refine run_ th rfl ?_)
   | (refine s_call giv7_c [] rfl rfl rfl rfl rfl rfl rfl rfl rfl rfl ?_; refine run_ th rfl ?_)
   | (refine s_appendF th rfl rfl rfl rfl rfl rfl rfl rfl rfl rfl rfl rfl rfl rfl (by constructor <;> simp <;> omega) ?_; refine s_freeze 25 rfl rfl ?_; refine run_ th rfl ?_)
   | (refine s_call hpr [] rfl rfl rfl rfl rfl rfl rfl rfl rfl rfl ?_; refine run_ th rfl ?_)
   | (refine d_rem rfl rfl rfl rfl rfl rfl hwr ?_; refine drun_ th rfl ?_)
   | (refine d_rem rfl rfl rfl rfl rfl rfl hwn ?_; refine drun_ th rfl ?_)
   | (refine d_idx th rfl rfl rfl rfl rfl rfl rfl rfl rfl wi _ hwi hxw ?_; refine drun_ th rfl ?_)
   | (refine DOps.step rfl (op_lit (ct := intsT [kI]) th rfl rfl rfl rfl rfl rfl rfl rfl rfl (.nn true 1 _) rfl rfl) ?_; refine drun_ th rfl ?_)
   | (refine DOps.step rfl (op_lit (ct := intsT [mI, kI, mI]) th rfl rfl rfl rfl rfl rfl rfl rfl rfl (.nn true 1 _) rfl rfl) ?_; refine drun_ th rfl ?_)
   | (refine d_call (hnear [kI]) [] rfl rfl rfl rfl rfl rfl rfl rfl rfl rfl rfl ?_; refine drun_ th rfl ?_)
   | (refine d_call (hnear [mI, kI, mI]) [] rfl rfl rfl rfl rfl rfl rfl rfl rfl rfl rfl ?_; refine drun_ th rfl ?_)
   | (refine s_idx th rfl rfl rfl rfl rfl rfl rfl rfl rfl kI.toNat _ (by omega) hxk ?_; refine run_ th rfl ?_)
   | (refine s_freeze 91 rfl rfl ?_; refine s_leT 91 (.v (C1 (intsT [kI]))) rfl (.v (.one (.c (.nn true 1 _)))) ?_; refine run_ th rfl ?_)
   | (refine s_call hsame [] rfl rfl rfl rfl rfl rfl rfl rfl rfl rfl ?_; refine run_ th rfl ?_)
   | (refine s_call hlost [] rfl rfl rfl rfl rfl rfl rfl rfl rfl rfl ?_; refine run_ th rfl ?_))
  rotate_left
  all_goals first
    | (exfalso; revert hb; rw [hinF (by assumption)]; simp; done)
    | (exfalso; revert hb; rw [hinT (by assumption)]; simp; done)
    | (exfalso; revert hb; simp; done)
    | skip
  have htr : ∀ {l : List Int} {x : Int}, x ∈ nearL p role l → (0 ≤ x ∧ x < (p.points.length : Int)) ∧ inP (pntAt p x) role = true := fun {l x} hx =>
    ⟨wait_range hpin ((wait_mem hpin l).2 ((near_mem hpin l).1 hx).1), near_isin hpin hx⟩
  have hmono : ∀ x ∈ nearL p role [kI], x ∈ nearL p role [mI, kI, mI] := fun x hx => near_mono hpin (fun y hy => by simp at hy; simp [hy]) hx
  have hrise := near_rise p role [mI, kI, mI]
  obtain ⟨tw, htw⟩ : ∃ t, t = nearL p role [mI, kI, mI] := ⟨_, rfl⟩
  obtain ⟨on, hon⟩ : ∃ t, t = nearL p role [kI] := ⟨_, rfl⟩
  have htwi : ∀ i (h : i < tw.length), (0 ≤ tw[i] ∧ tw[i] < (p.points.length : Int)) ∧ inP (pntAt p tw[i]) role = true := fun i h => htr (l := [mI, kI, mI]) (by rw [← htw]; exact List.getElem_mem h)
  rw [← htw] at hrise hmono ⊢
  rw [← hon] at hmono ⊢
  refine g_loop1 (fun i : Nat => i ≤ tw.length)
    (fun i => [(9, .v (.one (.ptr 9 0))), (10, .v (C1 (.str role))), (11, .v (C1 (.int .i64 kI))), (12, .v (C1 (.int .i64 mI))), (13, .v (C1 (intsT on))), (14, .v (C1 (intsT tw))), (16, .v (C1 (.int .i64 (i : Int))))])
    (fun _ => [(9, .box [.c (.str p.name), .c (namesT p.roles), .c (pointsC p.points)])])
    (fun i => tw.length - i) 0 (Nat.zero_le _)
    (fun a w h => h.sub (by exact ⟨⟨_, rfl, .refl _⟩, ⟨_, rfl, .refl _⟩, ⟨_, rfl, .refl _⟩, ⟨_, rfl, .refl _⟩, ⟨_, rfl, .refl _⟩, ⟨_, rfl, .refl _⟩, ⟨_, rfl, le_int rfl⟩, trivial⟩) (by exact ⟨⟨_, rfl, .refl _⟩, trivial⟩) rfl rfl rfl) (fun i hi ih => ?_)
  by_cases hlt : i < tw.length
  · obtain ⟨hti, hin⟩ := htwi i hlt
    have htl : tw.length ≤ 24 := by
      have h1 := near_nodup p role [mI, kI, mI]
      rw [← htw] at h1
      have h2 := nodup_sub h1 (m := (List.range p.points.length).map Int.ofNat) (fun x hx => (List.mem_filter.1 (htw ▸ hx)).1)
      simp at h2; omega
    have hyl : tw[i].toNat < p.points.length := by omega
    have hxi : (tw.map fun r => [CT.int .i64 r])[i]? = some [.int .i64 tw[i]] := by simp [hlt]
    obtain ⟨x, hxx⟩ : ∃ x, x = p.points[tw[i].toNat] := ⟨_, rfl⟩
    have hxp : (p.points.map Pnt.cs)[tw[i].toNat]? = some x.cs := by simp [hyl, hxx]
    have hin : x.from_ = role ∨ x.to = role := by
      rw [show pntAt p tw[i] = x by unfold pntAt; rw [List.getD_eq_getElem?_getD, List.getElem?_eq_getElem hyl, hxx]; rfl] at hin
      unfold inP at hin
      simpa using hin
    clear hxx
    have hih := ih (i + 1) hlt (by omega)
    by_cases hi0 : 0 < i
    · have hxj : (tw.map fun r => [CT.int .i64 r])[i - 1]? = some [.int .i64 (tw[i - 1]'(by omega))] := by rw [List.getElem?_map, List.getElem?_eq_getElem (by omega)]; rfl
      have hri := List.pairwise_iff_getElem.1 hrise (i - 1) i (by omega) hlt (by omega)
      repeat' (first
       | refine gc_ rfl ?_
       | (refine g_region ?_; refine run_ th rfl ?_)
       | (refine g_drawC mix rfl rfl ?_; refine drun_ th rfl ?_)
       | (refine g_drawEC mix rfl rfl ?_; refine erun_ th rfl ?_)
       | refine SOps.nil ?_
       | refine DOps.nil ?_
       | refine EOps.nil ?_ rfl rfl
       | (refine s_split rfl rfl (fun hb => ?_) (fun hb => ?_) <;> (try simp only [hbL] at hb) <;> first | (exfalso; omega) | refine run_ th rfl ?_)
       | (refine d_split rfl rfl rfl (fun hb => ?_) (fun hb => ?_) <;> (try simp only [hbL] at hb) <;> first | (exfalso; omega) | refine drun_ th rfl ?_)
       | (refine g_if rfl (fun hb => ?_) (fun hb => ?_) <;> (try simp only [hbL] at hb) <;> (try (exfalso; omega)))
       | (refine e_idx th rfl rfl rfl rfl rfl rfl rfl rfl rfl i _ rfl hxi ?_; refine erun_ th rfl ?_)
       | (refine e_idx th rfl rfl rfl rfl rfl rfl rfl rfl rfl tw[i].toNat _ (by omega) hxp ?_; refine erun_ th rfl ?_)
       | (refine d_subI rfl rfl rfl rfl rfl rfl (by omega) ?_; refine drun_ th rfl ?_)
       | (refine d_idx th rfl rfl rfl rfl rfl rfl rfl rfl rfl i _ rfl hxi ?_; refine drun_ th rfl ?_)
       | (refine d_idx th rfl rfl rfl rfl rfl rfl rfl rfl rfl (i - 1) _ (by omega) hxj ?_; refine drun_ th rfl ?_)
       | (refine s_add rfl rfl rfl rfl rfl rfl (by omega) ?_; refine run_ th rfl ?_))
      all_goals first
        | (exfalso; first | omega | exact hin.elim (by assumption) (by assumption))
        | exact g_sub (by exact ⟨⟨_, rfl, .refl _⟩, ⟨_, rfl, .refl _⟩, ⟨_, rfl, .refl _⟩, ⟨_, rfl, .refl _⟩, ⟨_, rfl, .refl _⟩, ⟨_, rfl, .refl _⟩, ⟨_, rfl, le_int (by omega)⟩, trivial⟩) (by exact ⟨⟨_, rfl, .refl _⟩, trivial⟩) rfl rfl rfl hih
    · skip
      repeat' (first
       | refine gc_ rfl ?_
       | (refine g_region ?_; refine run_ th rfl ?_)
       | (refine g_drawC mix rfl rfl ?_; refine drun_ th rfl ?_)
       | (refine g_drawEC mix rfl rfl ?_; refine erun_ th rfl ?_)
       | refine SOps.nil ?_
       | refine DOps.nil ?_
       | refine EOps.nil ?_ rfl rfl
       | (refine s_split rfl rfl (fun hb => ?_) (fun hb => ?_) <;> (try simp only [hbL] at hb) <;> first | (exfalso; omega) | refine run_ th rfl ?_)
       | (refine d_split rfl rfl rfl (fun hb => ?_) (fun hb => ?_) <;> (try simp only [hbL] at hb) <;> first | (exfalso; omega) | refine drun_ th rfl ?_)
       | (refine g_if rfl (fun hb => ?_) (fun hb => ?_) <;> (try simp only [hbL] at hb) <;> (try (exfalso; omega)))
       | (refine e_idx th rfl rfl rfl rfl rfl rfl rfl rfl rfl i _ rfl hxi ?_; refine erun_ th rfl ?_)
       | (refine e_idx th rfl rfl rfl rfl rfl rfl rfl rfl rfl tw[i].toNat _ (by omega) hxp ?_; refine erun_ th rfl ?_)
       | (refine d_subI rfl rfl rfl rfl rfl rfl (by omega) ?_; refine drun_ th rfl ?_)
       | (refine d_idx th rfl rfl rfl rfl rfl rfl rfl rfl rfl i _ rfl hxi ?_; refine drun_ th rfl ?_)
       | (refine s_add rfl rfl rfl rfl rfl rfl (by omega) ?_; refine run_ th rfl ?_))
      all_goals first
        | (exfalso; first | omega | exact hin.elim (by assumption) (by assumption))
        | exact g_sub (by exact ⟨⟨_, rfl, .refl _⟩, ⟨_, rfl, .refl _⟩, ⟨_, rfl, .refl _⟩, ⟨_, rfl, .refl _⟩, ⟨_, rfl, .refl _⟩, ⟨_, rfl, .refl _⟩, ⟨_, rfl, le_int (by omega)⟩, trivial⟩) (by exact ⟨⟨_, rfl, .refl _⟩, trivial⟩) rfl rfl rfl hih
  have htl : tw.length ≤ 24 := by
    have h1 := near_nodup p role [mI, kI, mI]
    rw [← htw] at h1
    have h2 := nodup_sub h1 (m := (List.range p.points.length).map Int.ofNat) (fun x hx => (List.mem_filter.1 (htw ▸ hx)).1)
    simp at h2; omega
  have hol : on.length ≤ 24 := by
    have h1 := near_nodup p role [kI]
    rw [← hon] at h1
    have h2 := nodup_sub h1 (m := (List.range p.points.length).map Int.ofNat) (fun x hx => (List.mem_filter.1 (hon ▸ hx)).1)
    simp at h2; omega
  repeat' (first
   | refine gc_ rfl ?_
   | (refine g_region ?_; refine run_ th rfl ?_)
   | (refine g_drawC mix rfl rfl ?_; refine drun_ th rfl ?_)
   | (refine g_drawEC mix rfl rfl ?_; refine erun_ th rfl ?_)
   | refine SOps.nil ?_
   | refine DOps.nil ?_
   | refine EOps.nil ?_ rfl rfl
   | (refine s_split rfl rfl (fun hb => ?_) (fun hb => ?_) <;> (try simp only [hbL] at hb) <;> first | (exfalso; omega) | refine run_ th rfl ?_)
   | (refine d_split rfl rfl rfl (fun hb => ?_) (fun hb => ?_) <;> (try simp only [hbL] at hb) <;> first | (exfalso; omega) | refine drun_ th rfl ?_)
   | (refine g_if rfl (fun hb => ?_) (fun hb => ?_) <;> (try simp only [hbL] at hb) <;> (try (exfalso; omega))))
  refine g_loop1 (fun j : Nat => j ≤ on.length)
    (fun j => [(9, .v (.one (.ptr 9 0))), (10, .v (C1 (.str role))), (11, .v (C1 (.int .i64 kI))), (12, .v (C1 (.int .i64 mI))), (13, .v (C1 (intsT on))), (14, .v (C1 (intsT tw))), (18, .v (C1 (.int .i64 (j : Int))))])
    (fun _ => [(9, .box [.c (.str p.name), .c (namesT p.roles), .c (pointsC p.points)])])
    (fun j => on.length - j) 0 (Nat.zero_le _)
    (fun a w h => h.sub (by exact ⟨⟨_, rfl, .refl _⟩, ⟨_, rfl, .refl _⟩, ⟨_, rfl, .refl _⟩, ⟨_, rfl, .refl _⟩, ⟨_, rfl, .refl _⟩, ⟨_, rfl, .refl _⟩, ⟨_, rfl, le_int rfl⟩, trivial⟩) (by exact ⟨⟨_, rfl, .refl _⟩, trivial⟩) rfl rfl rfl) (fun j hj ih => ?_)
  by_cases hjl : j < on.length
  · have hxo : (on.map fun r => [CT.int .i64 r])[j]? = some [.int .i64 on[j]] := by simp [hjl]
    have hmem := hmono on[j] (List.getElem_mem hjl)
    have hihj := ih (j + 1) hjl (by omega)
    repeat' (first
     | refine gc_ rfl ?_
     | (refine g_region ?_; refine run_ th rfl ?_)
     | (refine g_drawC mix rfl rfl ?_; refine drun_ th rfl ?_)
     | (refine g_drawEC mix rfl rfl ?_; refine erun_ th rfl ?_)
     | refine SOps.nil ?_
     | refine DOps.nil ?_
     | refine EOps.nil ?_ rfl rfl
     | (refine s_split rfl rfl (fun hb => ?_) (fun hb => ?_) <;> (try simp only [hbL] at hb) <;> first | (exfalso; omega) | refine run_ th rfl ?_)
     | (refine d_split rfl rfl rfl (fun hb => ?_) (fun hb => ?_) <;> (try simp only [hbL] at hb) <;> first | (exfalso; omega) | refine drun_ th rfl ?_)
     | (refine g_if rfl (fun hb => ?_) (fun hb => ?_) <;> (try simp only [hbL] at hb) <;> (try (exfalso; omega))))
    refine g_leT 19 (.v (C1 (.bool false))) rfl (.v (.one (.lit _))) ?_
    refine g_loop1 (fun m : Nat => m ≤ tw.length)
      (fun m => [(9, .v (.one (.ptr 9 0))), (10, .v (C1 (.str role))), (11, .v (C1 (.int .i64 kI))), (12, .v (C1 (.int .i64 mI))), (13, .v (C1 (intsT on))), (14, .v (C1 (intsT tw))), (18, .v (C1 (.int .i64 (j : Int)))), (19, .v (C1 (.bool (decide (on[j] ∈ tw.take m))))), (20, .v (C1 (.int .i64 (m : Int))))])
      (fun _ => [(9, .box [.c (.str p.name), .c (namesT p.roles), .c (pointsC p.points)])])
      (fun m => tw.length - m) 0 (Nat.zero_le _)
      (fun a w h => h.sub (by exact ⟨⟨_, rfl, .refl _⟩, ⟨_, rfl, .refl _⟩, ⟨_, rfl, .refl _⟩, ⟨_, rfl, .refl _⟩, ⟨_, rfl, .refl _⟩, ⟨_, rfl, .refl _⟩, ⟨_, rfl, .refl _⟩, ⟨_, rfl, le_ct (by simp)⟩, ⟨_, rfl, le_int rfl⟩, trivial⟩) (by exact ⟨⟨_, rfl, .refl _⟩, trivial⟩) rfl rfl rfl) (fun m hm ih2 => ?_)
    by_cases hmt : m < tw.length
    · have hxt : (tw.map fun r => [CT.int .i64 r])[m]? = some [.int .i64 tw[m]] := by simp [hmt]
      have hstep : decide (on[j] ∈ tw.take (m + 1)) = (decide (on[j] ∈ tw.take m) || decide (tw[m] = on[j])) := by
        rw [List.take_succ_eq_append_getElem hmt, Bool.eq_iff_iff]; simp only [List.mem_append, List.mem_singleton, Bool.or_eq_true, decide_eq_true_eq]; exact or_congr Iff.rfl eq_comm
      have hih2 := ih2 (m + 1) hmt (by omega)
      rw [hstep] at hih2
      obtain ⟨o1, ho1⟩ : ∃ o, o = on[j] := ⟨_, rfl⟩
      rw [← ho1] at hxo hih2 ⊢
      repeat' (first
       | (refine g_drawA mix rfl rfl rfl rfl rfl rfl ?_; refine drun_ th rfl ?_)
       | (refine DOps.nil ?_; refine run_ th rfl ?_)
       | refine gc_ rfl ?_
       | (refine g_region ?_; refine run_ th rfl ?_)
       | (refine g_drawC mix rfl rfl ?_; refine drun_ th rfl ?_)
       | (refine g_drawEC mix rfl rfl ?_; refine erun_ th rfl ?_)
       | refine SOps.nil ?_
       | refine DOps.nil ?_
       | refine EOps.nil ?_ rfl rfl
       | (refine s_split rfl rfl (fun hb => ?_) (fun hb => ?_) <;> (try simp only [hbL] at hb) <;> first | (exfalso; omega) | refine run_ th rfl ?_)
       | (refine d_split rfl rfl rfl (fun hb => ?_) (fun hb => ?_) <;> (try simp only [hbL] at hb) <;> first | (exfalso; omega) | refine drun_ th rfl ?_)
       | (refine g_if rfl (fun hb => ?_) (fun hb => ?_) <;> (try simp only [hbL] at hb) <;> (try (exfalso; omega)))
       | (refine s_idx th rfl rfl rfl rfl rfl rfl rfl rfl rfl m _ rfl hxt ?_; refine run_ th rfl ?_)
       | (refine s_idx th rfl rfl rfl rfl rfl rfl rfl rfl rfl j _ rfl hxo ?_; refine run_ th rfl ?_)
       | (refine d_idx th rfl rfl rfl rfl rfl rfl rfl rfl rfl m _ rfl hxt ?_; refine drun_ th rfl ?_)
       | (refine d_idx th rfl rfl rfl rfl rfl rfl rfl rfl rfl j _ rfl hxo ?_; refine drun_ th rfl ?_)
       | (refine s_add rfl rfl rfl rfl rfl rfl (by omega) ?_; refine run_ th rfl ?_))
      all_goals first
        | exact g_sub (by exact ⟨⟨_, rfl, .refl _⟩, ⟨_, rfl, .refl _⟩, ⟨_, rfl, .refl _⟩, ⟨_, rfl, .refl _⟩, ⟨_, rfl, .refl _⟩, ⟨_, rfl, .refl _⟩, ⟨_, rfl, .refl _⟩, ⟨_, rfl, le_lit (by rw [decide_eq_true hb, Bool.true_or])⟩, ⟨_, rfl, le_int (by omega)⟩, trivial⟩) (by exact ⟨⟨_, rfl, .refl _⟩, trivial⟩) rfl rfl rfl hih2
        | exact g_sub (by exact ⟨⟨_, rfl, .refl _⟩, ⟨_, rfl, .refl _⟩, ⟨_, rfl, .refl _⟩, ⟨_, rfl, .refl _⟩, ⟨_, rfl, .refl _⟩, ⟨_, rfl, .refl _⟩, ⟨_, rfl, .refl _⟩, ⟨_, rfl, le_ct (by rw [decide_eq_false hb, Bool.false_or])⟩, ⟨_, rfl, le_int (by omega)⟩, trivial⟩) (by exact ⟨⟨_, rfl, .refl _⟩, trivial⟩) rfl rfl rfl hih2
    · have hme : m = tw.length := by omega
      rw [hme, List.take_length, decide_eq_true hmem]
      repeat' (first
       | refine gc_ rfl ?_
       | (refine g_region ?_; refine run_ th rfl ?_)
       | (refine g_drawC mix rfl rfl ?_; refine drun_ th rfl ?_)
       | (refine g_drawEC mix rfl rfl ?_; refine erun_ th rfl ?_)
       | refine SOps.nil ?_
       | refine DOps.nil ?_
       | refine EOps.nil ?_ rfl rfl
       | (refine s_split rfl rfl (fun hb => ?_) (fun hb => ?_) <;> (try simp only [hbL] at hb) <;> first | (exfalso; omega) | refine run_ th rfl ?_)
       | (refine d_split rfl rfl rfl (fun hb => ?_) (fun hb => ?_) <;> (try simp only [hbL] at hb) <;> first | (exfalso; omega) | refine drun_ th rfl ?_)
       | (refine g_if rfl (fun hb => ?_) (fun hb => ?_) <;> (try simp only [hbL] at hb) <;> (try (exfalso; omega)))
       | (refine s_add rfl rfl rfl rfl rfl rfl (by omega) ?_; refine run_ th rfl ?_))
      all_goals first
        | (exfalso; revert hb; simp; done)
        | exact g_sub (by exact ⟨⟨_, rfl, .refl _⟩, ⟨_, rfl, .refl _⟩, ⟨_, rfl, .refl _⟩, ⟨_, rfl, .refl _⟩, ⟨_, rfl, .refl _⟩, ⟨_, rfl, .refl _⟩, ⟨_, rfl, le_int (by omega)⟩, trivial⟩) (by exact ⟨⟨_, rfl, .refl _⟩, trivial⟩) rfl rfl rfl hihj
  · have hle3 := near_len (role := role) hpin (l := [kI]) (m := [mI]) (o := [mI, kI, mI]) (fun x hx => by simp at hx ⊢; omega)
    have hn0 := hnear []
    rw [near_nil hpin] at hn0
    have hn0' : Con Try.prog 17 [] [Ag p.cs, C1 (.str role), C1 .nils] (Rv (intsT [])) [] := hn0.args (.cons (.refl _) (.cons (.refl _) (.cons (.one (.c (.nil 1))) .nil)))
    have hn1 := hnear [mI]
    obtain ⟨ot, hot⟩ : ∃ t, t = nearL p role [mI] := ⟨_, rfl⟩
    have hotl : ot.length ≤ 24 := by
      have h1 := near_nodup p role [mI]
      rw [← hot] at h1
      have h2 := nodup_sub h1 (m := (List.range p.points.length).map Int.ofNat) (fun x hx => (List.mem_filter.1 (hot ▸ hx)).1)
      simp at h2; omega
    rw [← hot] at hn1
    rw [← htw, ← hon, ← hot] at hle3
    repeat' (first
     | refine gc_ rfl ?_
     | (refine g_region ?_; refine run_ th rfl ?_)
     | (refine g_drawC mix rfl rfl ?_; refine drun_ th rfl ?_)
     | (refine g_drawEC mix rfl rfl ?_; refine erun_ th rfl ?_)
     | refine SOps.nil ?_
     | refine DOps.nil ?_
     | refine EOps.nil ?_ rfl rfl
     | (refine s_split rfl rfl (fun hb => ?_) (fun hb => ?_) <;> (try simp only [hbL] at hb) <;> first | (exfalso; omega) | refine run_ th rfl ?_)
     | (refine d_split rfl rfl rfl (fun hb => ?_) (fun hb => ?_) <;> (try simp only [hbL] at hb) <;> first | (exfalso; omega) | refine drun_ th rfl ?_)
     | (refine g_if rfl (fun hb => ?_) (fun hb => ?_) <;> (try simp only [hbL] at hb) <;> (try (exfalso; omega)))
     | (refine s_freeze 174 rfl rfl ?_; refine s_leT 174 (.v (C1 (intsT [mI]))) rfl (.v (.one (.c (.nn true 1 _)))) ?_; refine run_ th rfl ?_)
     | (refine s_call hn1 [] rfl rfl rfl rfl rfl rfl rfl rfl rfl rfl ?_; refine run_ th rfl ?_)
     | (refine s_call hn0' [] rfl rfl rfl rfl rfl rfl rfl rfl rfl rfl ?_; refine run_ th rfl ?_)
     | (refine s_add rfl rfl rfl rfl rfl rfl (by simp only [List.length_map]; omega) ?_; refine run_ th rfl ?_))
    all_goals first
      | (exfalso; simp only [List.length_map] at hb; omega)
      | (refine g_endL th Try.func3 (.inr ⟨_, rfl⟩) rfl rfl rfl ?_ rfl
         first | exact .refl _ | exact le_ct (by simp))
end Go.Sy
