/- The law ProjectIdle. -/
import Derived.Test.YtadimhaolhpglaaGreatDoorJk
import Derived.Test.YtadimhaolhpglaaGreatDoorJm
set_option linter.unusedSimpArgs false
set_option linter.unusedVariables false
set_option linter.unusedSectionVars false
namespace Go.Sy
open Go.Proofs
set_option maxRecDepth 100000
attribute [local irreducible] SOps Goes DOps EOps GOps

/-! ### Roles that are in no point -/
abbrev idleB : ByteArray := ⟨#[105, 100, 108, 101]⟩
def moreP (p : Prt) (rs : List ByteArray) : Prt := ⟨p.name, rs, p.points⟩
theorem roleE_fit {p : Prt} {r : ByteArray} (hv : prtB p = true) (hr : hasB p.roles r = true) : ((roleE p r).2 = 0 → (roleE p r).1.name = dotN p.name r) ∧ ((roleE p r).2 ≠ 0 → (roleE p r).1 = noLoc) := by
  unfold roleE
  rw [hv, hr]
  simp only [Bool.and_self, if_true]
  by_cases k1 : (lookS p r [] [0]).1.2 = 0
  · rw [if_pos k1]
    by_cases k2 : (roleS p r 41 0 [] (lookS p r [] [0]).2).2 = 0
    · rw [if_pos k2]; exact ⟨fun _ => rfl, fun h => absurd rfl h⟩
    · rw [if_neg k2]; exact ⟨fun h => absurd h k2, fun _ => rfl⟩
  · rw [if_neg k1]; exact ⟨fun h => absurd h k1, fun _ => rfl⟩
theorem gT_id (l : List Trn) : l.map (gT id) = l := by
  have : gT id = id := by funext t; unfold gT; split <;> rfl
  rw [this, List.map_id]
theorem role_more {p : Prt} {r : ByteArray} {rs : List ByteArray} (hv : prtB p = true) (hr : hasB p.roles r = true) (hv' : prtB (moreP p rs) = true) (hr' : hasB rs r = true) : roleE (moreP p rs) r = roleE p r := by
  have hpl := prt_len hv
  have s : Sim p (moreP p rs) r r id id (fun x => 0 ≤ x ∧ x < (p.points.length : Int)) :=
    { pin := prt_in hv, qin := prt_in hv', zero := ⟨⟨by omega, by omega⟩, rfl⟩, rng := fun x h => ⟨h, h⟩, inj := fun x y _ _ e => e
      arms := fun x _ => by
        rw [show (fun a : Arm => (⟨a.label, a.kind, a.name, id a.next⟩ : Arm)) = id from rfl, List.map_id]; rfl
      step := fun x _ a ha => prt_in hv x a ha, isin := fun x _ => rfl, side := fun x _ _ => rfl, ginj := fun x y _ _ _ _ e => e }
  have h := s.roleE hv hr hv' hr'
  obtain ⟨f1, f2⟩ := roleE_fit hv hr
  rw [h, gT_id]
  by_cases he : (roleE p r).2 = 0
  · rw [if_pos he]
    refine Prod.ext ?_ he.symm
    show (⟨dotN p.name r, (roleE p r).1.turns⟩ : Loc) = _
    rw [← f1 he]
  · rw [if_neg he]
    exact Prod.ext (f2 he).symm rfl
theorem near_none {p : Prt} {r : ByteArray} (h : ∀ x, inP (pntAt p x) r = false) (X : List Int) : nearL p r X = [] := by
  unfold nearL
  rw [List.filter_eq_nil_iff]
  intro x _
  rw [h x, Bool.and_false]; simp
theorem role_none {p : Prt} {r : ByteArray} (hv : prtB p = true) (hr : hasB p.roles r = true) (h : ∀ x, inP (pntAt p x) r = false) : roleE p r = (⟨dotN p.name r, [noTrn]⟩, 0) := by
  have hm : mixE p r [0] = false := by
    unfold mixE
    rw [show (waitL p r [0]).any (fun x => !lostL p r x) = false from List.any_eq_false.2 fun x _ => by unfold lostL; rw [near_none h]; simp, Bool.and_false]
  have hl : lookS p r [] [0] = ((0, 0), [[]]) := by
    unfold lookS
    rw [hm, near_none h]; rfl
  have hs : roleS p r 41 0 [] [[]] = ([noTrn], 0) := by
    rw [roleS]
    simp only [List.getElem?_cons_zero]
    rw [show turnS p r [[]] [] = ((noTrn, 0), [[]]) from rfl, if_pos rfl, roleS]
    rfl
  unfold roleE
  rw [hv, hr, hl]
  simp only [Bool.and_self, if_true]
  rw [hs]
  rfl
theorem pnt_role {p : Prt} (hv : prtB p = true) {r : ByteArray} (hr : r ∉ p.roles) (hn : nameB r = true) (x : Int) : inP (pntAt p x) r = false := by
  have hne := name_ne hn
  rcases pntAt_or p x with hm | hm
  · have hb := prt_pnt hv _ hm
    generalize pntAt p x = y at hb
    unfold pntB endP at hb
    simp only [Bool.or_eq_true, Bool.and_eq_true, decide_eq_true_eq] at hb
    unfold inP
    rcases hb with hb | hb
    · rw [hb.1, hb.2.1, decide_eq_false (fun e => hne e.symm)]; rfl
    · rw [decide_eq_false (fun e => hr (by rw [← e]; exact hasB_iff.1 (decide_eq_true hb.1))), decide_eq_false (fun e => hr (by rw [← e]; exact hasB_iff.1 (decide_eq_true hb.2.1)))]; rfl
  · rw [hm]
    unfold inP noPnt
    simp only
    rw [decide_eq_false (fun e => hne e.symm)]; rfl
theorem prt_more {p : Prt} {rs : List ByteArray} (hv : prtB p = true) (hl : 2 ≤ rs.length ∧ rs.length ≤ 5) (ho : onceB rs = true) (hn : rs.all nameB = true) (hs : ∀ r ∈ p.roles, r ∈ rs) : prtB (moreP p rs) = true := by
  unfold prtB at hv ⊢
  simp only [Bool.and_eq_true, decide_eq_true_eq, moreP] at hv ⊢
  refine ⟨hv.1, decide_eq_true hl.1, decide_eq_true hl.2, ho, hn, decide_eq_true hv.2.2.2.2.2.1, decide_eq_true hv.2.2.2.2.2.2.1, ?_⟩
  have h := hv.2.2.2.2.2.2.2
  rw [List.all_eq_true] at h ⊢
  intro x hx
  have hb := h x hx
  unfold pntB at hb ⊢
  simp only [Bool.or_eq_true, Bool.and_eq_true, decide_eq_true_eq] at hb ⊢
  rcases hb with hb | hb
  · exact .inl hb
  · have hin : ∀ s, 0 ≤ placeI p.roles s → 0 ≤ placeI rs s := fun s h => of_decide_eq_true (hasB_iff.2 (hs s (hasB_iff.1 (decide_eq_true h))))
    exact .inr ⟨hin _ hb.1, hin _ hb.2.1, hb.2.2⟩

/-! ### The contracts -/
set_option maxHeartbeats 4000000 in
theorem idle_c (p : Prt) (hl : p.roles.length ≤ 1000) : Con Tryz.prog 20 [] [Ag p.cs] (.v (Ag (moreP p (p.roles ++ [idleB])).cs)) [] := by
  refine con_of (c := _) Tryz.func20 rfl rfl rfl (by decide) fun w M0 H Z => ?_
  repeat' (first
   | refine gc_ rfl ?_
   | (refine g_region ?_; refine run_ th rfl ?_)
   | (refine g_drawC mix rfl rfl ?_; refine drun_ th rfl ?_)
   | (refine g_drawEC mix rfl rfl ?_; refine erun_ th rfl ?_)
   | refine SOps.nil ?_
   | refine DOps.nil ?_
   | refine EOps.nil ?_ rfl rfl
   | (refine s_split rfl rfl (fun hb => ?_) (fun hb => ?_) <;> (try simp only [hbL] at hb) <;> first | (exfalso; omega) | refine run_ th rfl ?_)
   | (refine d_split rfl rfl rfl (fun hb => ?_) (fun hb => ?_) <;> (try simp only [hbL] at hb) <;> first | (exfalso; omega) | refine drun_ th rfl ?_)
   | (refine g_if rfl (fun hb => ?_) (fun hb => ?_) <;> (try simp only [hbL] at hb) <;> (try (exfalso; omega)))
   | refine g_endL th Tryz.func20 (.inr ⟨_, rfl⟩) rfl rfl rfl ?_ rfl
   | (refine s_appendN th 7 rfl rfl rfl rfl rfl rfl rfl rfl rfl rfl rfl rfl rfl rfl (by constructor <;> simp <;> omega) ?_; refine run_ th rfl ?_)
   | (refine s_append th rfl rfl rfl rfl rfl rfl rfl rfl rfl rfl rfl rfl rfl rfl rfl (by constructor <;> simp <;> omega) ?_; refine s_freeze 7 rfl rfl ?_; refine run_ th rfl ?_))
  all_goals
    rw [show (moreP p (p.roles ++ [idleB])).cs = [.str p.name, .slice false 1 (p.roles.map (fun s => [CT.str s]) ++ [[.str idleB]]), pointsC p.points] by
      show [CT.str p.name, namesT (p.roles ++ [idleB]), pointsC p.points] = _
      unfold namesT
      rw [List.map_append]; rfl]
    exact .refl _

set_option maxHeartbeats 16000000 in
theorem projectIdle_c (made : List Int) (who : Int) (hbig : (made.length + 1) * 8 ≤ 140737488355328) : Con Tryz.prog 4 [] [C1 (intsT made), C1 (.int .i64 who)] (Rv (.bool true)) [] := by
  obtain ⟨hv, hB⟩ := pr2_ok made
  have hpr := prot82_c giv8 made hbig
  have hro := pr2_roles made
  obtain ⟨p, hp⟩ : ∃ p, p = pr2 made := ⟨_, rfl⟩
  rw [← hp] at hv hB hpr hro
  have hid := idle_c p (by rw [hro]; decide)
  obtain ⟨q, hq⟩ : ∃ q, q = moreP p (p.roles ++ [idleB]) := ⟨_, rfl⟩
  have hqv : prtB (moreP p (p.roles ++ [idleB])) = true := prt_more hv (by rw [hro]; decide) (by rw [hro]; decide) (by rw [hro]; decide) (fun r h => List.mem_append_left _ h)
  have hqB : PrtBig q := by rw [hq]; exact hB
  have hqi : hasB q.roles idleB = true := by rw [hq]; exact hasB_iff.2 (by simp [moreP])
  have hno : ∀ x, inP (pntAt q x) idleB = false := fun x => by rw [hq]; exact pnt_role hv (fun h => absurd (hasB_iff.2 h) (by rw [hro]; decide)) (by decide) x
  have hmore : ∀ r ∈ p.roles, roleE q r = roleE p r := fun r h => by rw [hq]; exact role_more hv (hasB_iff.2 h) hqv (hasB_iff.2 (List.mem_append_left _ h))
  rw [← hq] at hqv hid
  have hlost := lost_c q hqB idleB 0
  have hpl := prt_len hqv
  rw [show lostR q idleB 0 = true by rw [lostR, hqv, hqi, decide_eq_true (show (0 : Int) ≤ 0 ∧ (0 : Int) < (q.points.length : Int) by omega), near_none hno]; rfl] at hlost
  have hri := role_c q hqB idleB
  rw [role_none hqv hqi hno] at hri
  obtain ⟨nr, hnr⟩ : ∃ nr, nr = p.roles.length := ⟨_, rfl⟩
  have hn3 : nr = 3 := by rw [hnr, hro]; rfl
  have hw := pick_v (x := who) (n := (nr : Int)) (by omega) (by omega)
  have hwr : IntKind.u64.wrap ((p.roles.map fun s => [CT.str s]).length : Int) ≠ 0 := by rw [List.length_map, ← hnr, wrapU_id (by omega) (by omega)]; omega
  have hrr : ((p.roles.map fun s => [CT.str s]).length : Int) = (nr : Int) := by rw [List.length_map, hnr]
  obtain ⟨wi, hwi⟩ : ∃ wi : Nat, IntKind.i64.wrap ((IntKind.u64.wrap who).tmod (IntKind.u64.wrap ((p.roles.map fun s => [CT.str s]).length : Int))) = (wi : Int) := by
    rw [hrr]; exact ⟨_, (Int.toNat_of_nonneg hw.1).symm⟩
  have hwl : wi < p.roles.length := by rw [hrr] at hwi; omega
  have hxw : (p.roles.map fun s => [CT.str s])[wi]? = some [.str p.roles[wi]] := by simp [hwl]
  have hmem : p.roles[wi] ∈ p.roles := List.getElem_mem hwl
  obtain ⟨role, hrole⟩ : ∃ r, r = p.roles[wi] := ⟨_, rfl⟩
  rw [← hrole] at hxw hmem
  have hr1 := role_c p hB role
  have hr2 := role_c q hqB role
  rw [hmore role hmem] at hr2
  generalize roleE p role = E at hr1 hr2
  obtain ⟨l, e⟩ := E
  have hsame := same8_c l l
  rw [show (decide (l.name = l.name) && decide (l.turns = l.turns)) = true by simp] at hsame
  have h0 : ([noTrn].map Trn.cs)[0]? = some noTrn.cs := rfl
  clear hno hmore hq hp hqi hqv hv
  refine con_of (c := _) Tryz.func4 rfl rfl rfl (by decide) fun w M0 H Z => ?_
  refine g_len 0 rfl fun hll => ?_
  simp only [List.length_map] at hll
  repeat' (first
   | refine gc_ rfl ?_
   | (refine g_region ?_; refine run_ th rfl ?_)
   | (refine g_drawC mix rfl rfl ?_; refine drun_ th rfl ?_)
   | (refine g_drawEC mix rfl rfl ?_; refine erun_ th rfl ?_)
   | refine SOps.nil ?_
   | refine DOps.nil ?_
   | refine EOps.nil ?_ rfl rfl
   | (refine s_split rfl rfl (fun hb => ?_) (fun hb => ?_) <;> (try simp only [hbL] at hb) <;> first | (exfalso; omega) | refine run_ th rfl ?_)
   | (refine d_split rfl rfl rfl (fun hb => ?_) (fun hb => ?_) <;> (try simp only [hbL] at hb) <;> first | (exfalso; omega) | refine drun_ th rfl ?_)
   | (refine g_if rfl (fun hb => ?_) (fun hb => ?_) <;> (try simp only [hbL] at hb) <;> (try (exfalso; omega)))
   | refine g_endL th Tryz.func4 (.inr ⟨_, rfl⟩) rfl rfl rfl ?_ rfl
   | (refine s_call first8_c [] rfl rfl rfl rfl rfl rfl rfl rfl rfl rfl ?_; refine run_ th rfl ?_)
   | (refine s_call givR_c [] rfl rfl rfl rfl rfl rfl rfl rfl rfl rfl ?_; refine run_ th rfl ?_)
   | (refine s_appendF th rfl rfl rfl rfl rfl rfl rfl rfl rfl rfl rfl rfl rfl rfl (by constructor <;> simp <;> omega) ?_; refine s_freeze 17 rfl rfl ?_; refine run_ th rfl ?_)
   | (refine s_call hpr [] rfl rfl rfl rfl rfl rfl rfl rfl rfl rfl ?_; refine run_ th rfl ?_)
   | (refine s_call hid [] rfl rfl rfl rfl rfl rfl rfl rfl rfl rfl ?_; refine run_ th rfl ?_)
   | (refine d_rem rfl rfl rfl rfl rfl rfl hwr ?_; refine drun_ th rfl ?_)
   | (refine d_idx th rfl rfl rfl rfl rfl rfl rfl rfl rfl wi _ hwi hxw ?_; refine drun_ th rfl ?_)
   | (refine s_call hr1 [] rfl rfl rfl rfl rfl rfl rfl rfl rfl rfl ?_; refine run_ th rfl ?_)
   | (refine s_call hr2 [] rfl rfl rfl rfl rfl rfl rfl rfl rfl rfl ?_; refine run_ th rfl ?_)
   | (refine s_call hri [] rfl rfl rfl rfl rfl rfl rfl rfl rfl rfl ?_; refine run_ th rfl ?_)
   | (refine s_call hsame [] rfl rfl rfl rfl rfl rfl rfl rfl rfl rfl ?_; refine run_ th rfl ?_)
   | (refine s_call hlost [] rfl rfl rfl rfl rfl rfl rfl rfl rfl rfl ?_; refine run_ th rfl ?_)
   | (refine s_idx th rfl rfl rfl rfl rfl rfl rfl rfl rfl 0 _ rfl h0 ?_; refine run_ th rfl ?_)
   | (refine d_idx th rfl rfl rfl rfl rfl rfl rfl rfl rfl 0 _ rfl h0 ?_; refine drun_ th rfl ?_))
  all_goals first
    | exact .refl _
    | (exfalso; revert hb; simp; done)
    | exact absurd rfl hb
end Go.Sy
