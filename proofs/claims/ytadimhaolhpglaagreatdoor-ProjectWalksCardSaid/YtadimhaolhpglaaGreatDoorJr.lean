/- The law ProjectWalks. -/
import Derived.Test.YtadimhaolhpglaaGreatDoorJq
import Derived.Test.YtadimhaolhpglaaGreatDoorBu4
set_option linter.unusedSimpArgs false
set_option linter.unusedVariables false
set_option linter.unusedSectionVars false
namespace Go.Sy
open Go.Proofs
set_option maxRecDepth 100000
attribute [local irreducible] SOps Goes DOps EOps GOps

theorem proj_big {p : Prt} {role : ByteArray} {S : List (List Int)} {l : Loc} (h : Proj p role S l) (hB : PrtBig p) : LocBig l := by
  intro t ht a ha
  obtain ⟨j, hj, rfl⟩ := List.mem_iff_getElem.1 ht
  have hjS : j < S.length := by rw [← h.turns]; exact hj
  rcases h.turn j S[j] l.turns[j] (List.getElem?_eq_getElem hjS) (List.getElem?_eq_getElem hj) with ⟨_, h2⟩ | ⟨_, h2⟩
  · rw [h2] at ha; cases ha
  · have q1 := (h2.arm a ha).1
    have hs : a.label ∈ allL p S[j] := by rw [← h2.labs]; exact List.mem_map_of_mem ha
    obtain ⟨b, hb, _, e2⟩ := carA_some (allL_mem.1 hs)
    obtain ⟨y, _, hby⟩ := armsN_mem.1 hb
    rw [e2] at q1
    injection q1 with _ k2
    rw [k2]
    rcases pntAt_or p y with hm | hm
    · exact hB _ hm b hby
    · rw [hm] at hby; cases hby
theorem walkG_snoc {g : Grp} {z : ByteArray} {a : Arm} : ∀ (w : List ByteArray) {x y : Int}, walkG g x w = some y → (armsAt g y).find? (fun b => decide (b.label = z)) = some a → walkG g x (w ++ [z]) = some a.next
  | [], x, y, h, hf => by
    rw [walkG] at h; injection h with h; subst h
    rw [List.nil_append, walkG, hf]
    rfl
  | s :: w, x, y, h, hf => by
    rw [walkG] at h
    rw [List.cons_append, walkG]
    split at h
    · cases h
    · exact walkG_snoc w h hf
theorem gwalk_rng {p : Prt} (hv : prtB p = true) : ∀ (w : List ByteArray) {x y : Int}, 0 ≤ x ∧ x < (p.points.length : Int) → walkG p.g x w = some y → 0 ≤ y ∧ y < (p.points.length : Int)
  | [], x, y, hx, h => by simp [walkG] at h; subst h; exact hx
  | s :: w, x, y, hx, h => by
    rw [walkG] at h
    split at h
    · cases h
    · rename_i a ha
      have hm := List.mem_of_find?_eq_some ha
      rw [armsAt_prt] at hm
      exact gwalk_rng hv w (prt_in hv x a hm) h

set_option maxHeartbeats 32000000 in
theorem projectWalks_c (made labels : List Int) (who : Int) (hbig : (made.length + 1) * 8 ≤ 140737488355328) : Con Tryz.prog 7 [] [C1 (intsT made), C1 (intsT labels), C1 (.int .i64 who)] (Rv (.bool true)) [] := by
  obtain ⟨hv, hB⟩ := pr2_ok made
  have hpr := prot82_c giv8 made hbig
  have hro := pr2_roles made
  obtain ⟨p, hp⟩ : ∃ p, p = pr2 made := ⟨_, rfl⟩
  rw [← hp] at hv hB hpr hro
  have hpl := prt_len hv
  obtain ⟨nr, hnr⟩ : ∃ nr, nr = p.roles.length := ⟨_, rfl⟩
  have hw := pick_v (x := who) (n := (nr : Int)) (by omega) (by omega)
  have hwr : IntKind.u64.wrap ((p.roles.map fun s => [CT.str s]).length : Int) ≠ 0 := by rw [List.length_map, ← hnr, wrapU_id (by omega) (by omega)]; omega
  have hrr : ((p.roles.map fun s => [CT.str s]).length : Int) = (nr : Int) := by rw [List.length_map, hnr]
  obtain ⟨wi, hwi⟩ : ∃ wi : Nat, IntKind.i64.wrap ((IntKind.u64.wrap who).tmod (IntKind.u64.wrap ((p.roles.map fun s => [CT.str s]).length : Int))) = (wi : Int) := by
    rw [hrr]; exact ⟨_, (Int.toNat_of_nonneg hw.1).symm⟩
  have hwl : wi < p.roles.length := by rw [hrr] at hwi; omega
  have hxw : (p.roles.map fun s => [CT.str s])[wi]? = some [.str p.roles[wi]] := by simp [hwl]
  have hmem : p.roles[wi] ∈ p.roles := List.getElem_mem hwl
  obtain ⟨role, hrole⟩ : ∃ r, r = p.roles[wi] := ⟨_, rfl⟩
  rw [← hrole] at hxw hmem
  have hhas := hasB_iff.2 hmem
  have hr1 := role_c p hB role
  have hpj : (roleE p role).2 = 0 → ∃ S, Proj p role S (roleE p role).1 := roleE_ok
  generalize roleE p role = E at hr1 hpj
  obtain ⟨l, e⟩ := E
  simp only at hpj
  refine con_of (c := _) Tryz.func7 rfl rfl rfl (by decide) fun w M0 H Z => ?_
  refine g_len 0 rfl fun hll => ?_
  simp only [List.length_map] at hll
  refine g_len 1 rfl fun hll2 => ?_
  simp only [List.length_map] at hll2
  repeat' (first
   | refine gc_ rfl ?_
   | (refine g_region ?_; refine run_ th rfl ?_)
   | (refine g_drawC mix rfl rfl ?_; refine drun_ th rfl ?_)
   | (refine g_drawEC mix rfl rfl ?_; refine erun_ th rfl ?_)
   | refine SOps.nil ?_
   | refine DOps.nil ?_
   | refine EOps.nil ?_ rfl rfl
   | (refine s_split rfl rfl (fun hb => ?_) (fun hb => ?_) <;> (try simp only [hbL] at hb) <;> first | (exfalso; omega) | refine run_ th rfl ?_)
   | (refine d_split rfl rfl rfl (fun hb => ?_) (fun hb => ?_) <;> (try simp only [hbL] at hb) <;> first | (exfalso; omega) | refine drun_ th rfl ?_)
   | (refine g_if rfl (fun hb => ?_) (fun hb => ?_) <;> (try simp only [hbL] at hb) <;> (try (exfalso; omega)))
   | (refine s_call first8_c [] rfl rfl rfl rfl rfl rfl rfl rfl rfl rfl ?_; refine run_ th rfl ?_)
   | (refine s_call givR_c [] rfl rfl rfl rfl rfl rfl rfl rfl rfl rfl ?_; refine run_ th rfl ?_)
   | (refine s_appendF th rfl rfl rfl rfl rfl rfl rfl rfl rfl rfl rfl rfl rfl rfl (by constructor <;> simp <;> omega) ?_; refine s_freeze 26 rfl rfl ?_; refine run_ th rfl ?_)
   | (refine s_call hpr [] rfl rfl rfl rfl rfl rfl rfl rfl rfl rfl ?_; refine run_ th rfl ?_)
   | (refine d_rem rfl rfl rfl rfl rfl rfl hwr ?_; refine drun_ th rfl ?_)
   | (refine d_idx th rfl rfl rfl rfl rfl rfl rfl rfl rfl wi _ hwi hxw ?_; refine drun_ th rfl ?_)
   | (refine s_call hr1 [] rfl rfl rfl rfl rfl rfl rfl rfl rfl rfl ?_; refine run_ th rfl ?_))
  all_goals first
    | (exfalso; revert hb; simp; done)
    | (refine g_endL th Tryz.func7 (.inr ⟨_, rfl⟩) rfl rfl rfl ?_ rfl
       exact .refl _)
    | skip
  have he : e = 0 := by simpa using hb
  obtain ⟨S, hP⟩ := hpj he
  have hlB := proj_big hP hB
  have hlv := proj_may hP
  clear hpj
  refine g_adopt 11 290 9 1 rfl rfl rfl ?_
  refine g_loop2 (fun (i : Nat) (s : List ByteArray × Int) => (i ≤ labels.length ∧ i ≤ 30) ∧ s.1.length ≤ i ∧ walkG p.g 0 s.1 = some s.2)
    (fun i s => [(1, .v (C1 (intsT labels))), (7, .v (.one (.ptr 7 0))), (8, .v (C1 (.str role))), (9, .v (.one (.ptr 9 0))), (11, .v (.one (.own 290))), (12, .v (C1 (.int .i64 (i : Int))))])
    (fun i s => [(7, .box (p.cs.map SC.c)), (9, .box (l.cs.map SC.c)), (290, .arr false 9 1 (s.1.map fun s => [CT.str s]))])
    (fun i _ => labels.length - i) 0 ([], 0) ⟨⟨Nat.zero_le _, by omega⟩, Nat.le_refl _, rfl⟩
    (fun a w h => h.sub (by exact ⟨⟨_, rfl, .refl _⟩, ⟨_, rfl, .refl _⟩, ⟨_, rfl, .refl _⟩, ⟨_, rfl, .refl _⟩, ⟨_, rfl, .refl _⟩, ⟨_, rfl, le_int rfl⟩, trivial⟩) (by exact ⟨⟨_, rfl, .refl _⟩, ⟨_, rfl, .refl _⟩, ⟨_, rfl, le_arr rfl⟩, trivial⟩) rfl rfl rfl) (fun i s hi ih => ?_)
  obtain ⟨W, y⟩ := s
  obtain ⟨⟨hi1, hi2⟩, hWl, hWk⟩ := hi
  simp only at hWl hWk ⊢
  have hyr := gwalk_rng hv W (x := 0) ⟨by omega, by omega⟩ hWk
  have hgw := gwalk_c p hB W
  rw [show walkP p W = .tup [C1 (.int .i64 y), C1 (.bool true)] by unfold walkP; rw [if_pos hv, hWk]] at hgw
  have hxp := pntAt_get hyr
  obtain ⟨mine, t, hm1, hm2, hm3⟩ := walk_own hP W (at_zero hP) hWk
  have hown := own_c p hv role W (by omega)
  rw [hm1] at hown
  have htw := twalk_c l hlB mine
  rw [show walkR l mine = .tup [C1 (.int .i64 t), C1 (.bool true)] by unfold walkR; rw [if_pos hlv, hm2]] at htw
  obtain ⟨hend, ht0, htl⟩ := at_end hP hm3
  have hnc := near_c p hB role [y]
  rw [show nearR p role [y] = nearL p role [y] by rw [nearR, hv, hhas]; rfl] at hnc
  have hxt : (l.turns.map Trn.cs)[t.toNat]? = some (trnAt l t).cs := by
    have : t.toNat < l.turns.length := by omega
    rw [List.getElem?_map, List.getElem?_eq_getElem this]
    unfold trnAt
    rw [List.getD_eq_getElem?_getD, List.getElem?_eq_getElem this]; rfl
  generalize nearL p role [y] = N at hend hnc
  generalize trnAt l t = T at hend hxt
  by_cases hlt : i < labels.length ∧ i < 30
  · obtain ⟨hlt1, hlt2⟩ := hlt
    obtain ⟨h6, hnd⟩ := pnt_arms6 hv y
    obtain ⟨q, hq⟩ : ∃ q, q = pntAt p y := ⟨_, rfl⟩
    rw [← hq] at hxp h6 hnd
    by_cases hqa : q.arms.length = 0
    · clear ih
      repeat' (first
       | (refine g_atR 16 rfl ?_; refine g_freeze 290 rfl rfl ?_)
       | refine gc_ rfl ?_
       | (refine g_region ?_; refine run_ th rfl ?_)
       | (refine g_drawC mix rfl rfl ?_; refine drun_ th rfl ?_)
       | (refine g_drawEC mix rfl rfl ?_; refine erun_ th rfl ?_)
       | refine SOps.nil ?_
       | refine DOps.nil ?_
       | refine EOps.nil ?_ rfl rfl
       | (refine s_split rfl rfl (fun hb => ?_) (fun hb => ?_) <;> (try simp only [hbL] at hb) <;> first | (exfalso; omega) | refine run_ th rfl ?_)
       | (refine d_split rfl rfl rfl (fun hb => ?_) (fun hb => ?_) <;> (try simp only [hbL] at hb) <;> first | (exfalso; omega) | refine drun_ th rfl ?_)
       | (refine g_if rfl (fun hb => ?_) (fun hb => ?_) <;> (try simp only [hbL] at hb) <;> (try (exfalso; omega)))
       | (refine s_call hgw [] rfl rfl rfl rfl rfl rfl rfl rfl rfl rfl ?_; refine run_ th rfl ?_)
       | (refine s_callL hgw rfl rfl rfl rfl rfl rfl rfl rfl rfl ?_; refine run_ th rfl ?_)
       | (refine s_idx th rfl rfl rfl rfl rfl rfl rfl rfl rfl y.toNat _ (by omega) hxp ?_; refine run_ th rfl ?_)
       | (refine s_call hown [] rfl rfl rfl rfl rfl rfl rfl rfl rfl rfl ?_; refine run_ th rfl ?_)
       | (refine s_call htw [] rfl rfl rfl rfl rfl rfl rfl rfl rfl rfl ?_; refine run_ th rfl ?_)
       | (refine s_freeze 120 rfl rfl ?_; refine s_leT 120 (.v (C1 (intsT [y]))) rfl (.v (.one (.c (.nn true 1 _)))) ?_; refine run_ th rfl ?_)
       | (refine s_call hnc [] rfl rfl rfl rfl rfl rfl rfl rfl rfl rfl ?_; refine run_ th rfl ?_)
       | (refine s_idx th rfl rfl rfl rfl rfl rfl rfl rfl rfl t.toNat _ (by omega) hxt ?_; refine run_ th rfl ?_))
      all_goals first
        | (exfalso; revert hb; simp; done)
        | (exfalso; simp only [List.length_map] at hb; omega)
        | (refine g_endL th Tryz.func7 (.inr ⟨_, rfl⟩) rfl rfl rfl ?_ rfl
           first | exact .refl _ | exact le_ct (by rw [decide_eq_false (show ¬ T.kind = 0 from fun h => by have := hend.2 h; omega)]; rfl) | (exfalso; simp only [List.length_map] at *; omega))
    · have hU := pick_v (x := labels[i]) (n := (q.arms.length : Int)) (by omega) (by omega)
      have hUl : ((q.arms.map Arm.cs).length : Int) = (q.arms.length : Int) := by simp
      have hUn : IntKind.u64.wrap ((q.arms.map Arm.cs).length : Int) ≠ 0 := by rw [hUl, wrapU_id (by omega) (by omega)]; omega
      obtain ⟨j, hj⟩ : ∃ j : Nat, IntKind.i64.wrap ((IntKind.u64.wrap labels[i]).tmod (IntKind.u64.wrap ((q.arms.map Arm.cs).length : Int))) = (j : Int) := by
        rw [hUl]; exact ⟨_, (Int.toNat_of_nonneg hU.1).symm⟩
      have hjl : j < q.arms.length := by rw [hUl] at hj; omega
      have hxj : (q.arms.map Arm.cs)[j]? = some (q.arms[j]).cs := by simp [hjl]
      have hxi : (labels.map fun r => [CT.int .i64 r])[i]? = some [.int .i64 labels[i]] := by simp [hlt1]
      have hfn := find_label hnd (List.getElem_mem hjl)
      have hsn := walkG_snoc (z := (q.arms[j]).label) W hWk (by rw [armsAt_prt, ← hq]; exact hfn)
      have hih := ih (i + 1) (W ++ [(q.arms[j]).label], (q.arms[j]).next) ⟨⟨hlt1, hlt2⟩, (show (W ++ [(q.arms[j]).label]).length ≤ i + 1 by rw [List.length_append, List.length_singleton]; omega), hsn⟩ (by omega)
      rw [show ((W ++ [(q.arms[j]).label], (q.arms[j]).next) : List ByteArray × Int).1.map (fun s => [CT.str s]) = W.map (fun s => [CT.str s]) ++ [[.str (q.arms[j]).label]] by simp] at hih
      obtain ⟨b1, hb1⟩ : ∃ b, b = q.arms[j] := ⟨_, rfl⟩
      rw [← hb1] at hxj hih
      clear hb1 hsn hfn ih hnc htw hown hxt hend
      repeat' (first
       | refine gc_ rfl ?_
       | (refine g_region ?_; refine run_ th rfl ?_)
       | (refine g_drawC mix rfl rfl ?_; refine drun_ th rfl ?_)
       | (refine g_drawEC mix rfl rfl ?_; refine erun_ th rfl ?_)
       | refine SOps.nil ?_
       | refine DOps.nil ?_
       | refine EOps.nil ?_ rfl rfl
       | (refine s_split rfl rfl (fun hb => ?_) (fun hb => ?_) <;> (try simp only [hbL] at hb) <;> first | (exfalso; omega) | refine run_ th rfl ?_)
       | (refine d_split rfl rfl rfl (fun hb => ?_) (fun hb => ?_) <;> (try simp only [hbL] at hb) <;> first | (exfalso; omega) | refine drun_ th rfl ?_)
       | (refine g_if rfl (fun hb => ?_) (fun hb => ?_) <;> (try simp only [hbL] at hb) <;> (try (exfalso; omega)))
       | (refine s_callL hgw rfl rfl rfl rfl rfl rfl rfl rfl rfl ?_; refine run_ th rfl ?_)
       | (refine s_idx th rfl rfl rfl rfl rfl rfl rfl rfl rfl y.toNat _ (by omega) hxp ?_; refine run_ th rfl ?_)
       | (refine s_idx th rfl rfl rfl rfl rfl rfl rfl rfl rfl i _ rfl hxi ?_; refine run_ th rfl ?_)
       | (refine s_rem rfl rfl rfl rfl rfl rfl hUn ?_; refine run_ th rfl ?_)
       | (refine s_idx th rfl rfl rfl rfl rfl rfl rfl rfl rfl j _ hj hxj ?_; refine run_ th rfl ?_)
       | (refine s_append th rfl rfl rfl rfl rfl rfl rfl rfl rfl rfl rfl rfl rfl rfl rfl (by constructor <;> simp <;> omega) ?_; refine run_ th rfl ?_)
       | (refine s_add rfl rfl rfl rfl rfl rfl (by omega) ?_; refine run_ th rfl ?_))
      all_goals first
        | (exfalso; simp only [List.length_map] at hb; omega)
        | exact g_sub (by exact ⟨⟨_, rfl, .refl _⟩, ⟨_, rfl, .refl _⟩, ⟨_, rfl, .refl _⟩, ⟨_, rfl, .refl _⟩, ⟨_, rfl, .refl _⟩, ⟨_, rfl, le_int (by omega)⟩, trivial⟩) (by exact ⟨⟨_, rfl, .refl _⟩, ⟨_, rfl, .refl _⟩, ⟨_, rfl, .refl _⟩, trivial⟩) rfl rfl rfl hih
  · clear ih hxp
    repeat' (first
     | (refine g_atR 16 rfl ?_; refine g_freeze 290 rfl rfl ?_)
     | refine gc_ rfl ?_
     | (refine g_region ?_; refine run_ th rfl ?_)
     | (refine g_drawC mix rfl rfl ?_; refine drun_ th rfl ?_)
     | (refine g_drawEC mix rfl rfl ?_; refine erun_ th rfl ?_)
     | refine SOps.nil ?_
     | refine DOps.nil ?_
     | refine EOps.nil ?_ rfl rfl
     | (refine s_split rfl rfl (fun hb => ?_) (fun hb => ?_) <;> (try simp only [hbL] at hb) <;> first | (exfalso; omega) | refine run_ th rfl ?_)
     | (refine d_split rfl rfl rfl (fun hb => ?_) (fun hb => ?_) <;> (try simp only [hbL] at hb) <;> first | (exfalso; omega) | refine drun_ th rfl ?_)
     | (refine g_if rfl (fun hb => ?_) (fun hb => ?_) <;> (try simp only [hbL] at hb) <;> (try (exfalso; omega)))
     | (refine s_call hgw [] rfl rfl rfl rfl rfl rfl rfl rfl rfl rfl ?_; refine run_ th rfl ?_)
     | (refine s_call hown [] rfl rfl rfl rfl rfl rfl rfl rfl rfl rfl ?_; refine run_ th rfl ?_)
     | (refine s_call htw [] rfl rfl rfl rfl rfl rfl rfl rfl rfl rfl ?_; refine run_ th rfl ?_)
     | (refine s_callL hgw rfl rfl rfl rfl rfl rfl rfl rfl rfl ?_; refine run_ th rfl ?_)
     | (refine s_freeze 120 rfl rfl ?_; refine s_leT 120 (.v (C1 (intsT [y]))) rfl (.v (.one (.c (.nn true 1 _)))) ?_; refine run_ th rfl ?_)
     | (refine s_call hnc [] rfl rfl rfl rfl rfl rfl rfl rfl rfl rfl ?_; refine run_ th rfl ?_)
     | (refine s_idx th rfl rfl rfl rfl rfl rfl rfl rfl rfl t.toNat _ (by omega) hxt ?_; refine run_ th rfl ?_))
    all_goals first
      | (exfalso; revert hb; simp; done)
      | (exfalso; simp only [List.length_map] at *; omega)
      | (refine g_endL th Tryz.func7 (.inr ⟨_, rfl⟩) rfl rfl rfl ?_ rfl
         first | exact .refl _ | exact le_ct (by rw [decide_eq_false (show ¬ T.kind = 0 from fun h => by have := hend.2 h; omega)]; rfl) | (exfalso; simp only [List.length_map] at *; omega))
end Go.Sy
