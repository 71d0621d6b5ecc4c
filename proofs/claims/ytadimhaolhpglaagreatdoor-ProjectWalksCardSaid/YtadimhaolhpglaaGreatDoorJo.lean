/- The law ProjectNames. -/
import Derived.Test.YtadimhaolhpglaaGreatDoorJn
import Derived.Test.YtadimhaolhpglaaGreatDoorBw3
set_option linter.unusedSimpArgs false
set_option linter.unusedVariables false
set_option linter.unusedSectionVars false
namespace Go.Sy
open Go.Proofs
set_option maxRecDepth 100000
attribute [local irreducible] SOps Goes DOps EOps GOps

/-! ### Roles under other names -/
abbrev rB : ByteArray := ⟨#[114]⟩
def renX (x : Pnt) : Pnt := if 0 < x.arms.length then ⟨rB ++ x.from_, rB ++ x.to, x.arms⟩ else x
def renP (p : Prt) : Prt := ⟨p.name, p.roles.map (rB ++ ·), p.points.map renX⟩
theorem rB_inj {a b : ByteArray} (h : rB ++ a = rB ++ b) : a = b := by
  have := congrArg (fun x : ByteArray => x.data.toList) h
  simp only [ByteArray.data_append, Array.toList_append] at this
  have := List.append_cancel_left this
  exact ByteArray.ext (Array.ext' this)
theorem rB_ne (a : ByteArray) : rB ++ a ≠ ⟨#[]⟩ := by
  intro h
  have := congrArg ByteArray.size h
  rw [ByteArray.size_append] at this
  revert this
  rw [show rB.size = 1 from rfl, show (ByteArray.mk #[]).size = 0 from rfl]
  omega
theorem renX_arms (x : Pnt) : (renX x).arms = x.arms := by unfold renX; split <;> rfl
theorem renP_at (p : Prt) (x : Int) : pntAt (renP p) x = renX (pntAt p x) := by
  unfold pntAt renP
  rw [List.getD_eq_getElem?_getD, List.getD_eq_getElem?_getD, List.getElem?_map]
  cases p.points[x.toNat]? with
  | none => rfl
  | some y => rfl
theorem arms_pos {n : Int} {l : List Arm} (h : armsOK n l = true) : 0 < l.length := by
  unfold armsOK at h
  simp only [Bool.and_eq_true, decide_eq_true_eq] at h
  omega
theorem pnt_kind {roles : List ByteArray} {n : Int} {x : Pnt} (h : pntB roles n x = true) : (x.from_ = ⟨#[]⟩ ∧ x.to = ⟨#[]⟩ ∧ x.arms = []) ∨ (x.from_ ∈ roles ∧ x.to ∈ roles ∧ x.from_ ≠ x.to ∧ armsOK n x.arms = true) := by
  unfold pntB endP at h
  simp only [Bool.or_eq_true, Bool.and_eq_true, decide_eq_true_eq, List.isEmpty_iff] at h
  rcases h with h | h
  · exact .inl h
  · exact .inr ⟨hasB_iff.1 (decide_eq_true h.1), hasB_iff.1 (decide_eq_true h.2.1), h.2.2⟩
theorem ren_in {p : Prt} (hv : prtB p = true) {r : ByteArray} (hr : nameB r = true) (x : Int) : inP (renX (pntAt p x)) (rB ++ r) = inP (pntAt p x) r := by
  have hne := name_ne hr
  have h0 : inP (pntAt p x) r = true ∨ inP (pntAt p x) r = false := by cases inP (pntAt p x) r <;> simp
  have hk : (pntAt p x).from_ = ⟨#[]⟩ ∧ (pntAt p x).to = ⟨#[]⟩ ∧ (pntAt p x).arms = [] ∨ 0 < (pntAt p x).arms.length := by
    rcases pntAt_or p x with hm | hm
    · rcases pnt_kind (prt_pnt hv _ hm) with h | h
      · exact .inl h
      · exact .inr (arms_pos h.2.2.2)
    · rw [hm]; exact .inl ⟨rfl, rfl, rfl⟩
  generalize pntAt p x = y at hk
  unfold inP renX
  rcases hk with ⟨e1, e2, e3⟩ | h
  · rw [if_neg (by rw [e3]; simp), e1, e2, decide_eq_false (fun e => rB_ne r e.symm), decide_eq_false (fun e => hne e.symm)]
  · rw [if_pos h]
    simp only
    rw [decide_eq_decide.2 ⟨fun e => rB_inj e, fun e => by rw [e]⟩, decide_eq_decide.2 (⟨fun e => rB_inj e, fun e => by rw [e]⟩ : rB ++ y.to = rB ++ r ↔ y.to = r)]
theorem prt_ren {p : Prt} (hv : prtB p = true) (ho : onceB (renP p).roles = true) (hn : (renP p).roles.all nameB = true) : prtB (renP p) = true := by
  unfold prtB at hv ⊢
  have hl : (renP p).roles.length = p.roles.length := by simp [renP]
  have hp : (renP p).points.length = p.points.length := by simp [renP]
  rw [hl, hp, ho, hn]
  simp only [Bool.and_eq_true, decide_eq_true_eq] at hv ⊢
  refine ⟨hv.1, hv.2.1, hv.2.2.1, trivial, trivial, hv.2.2.2.2.2.1, hv.2.2.2.2.2.2.1, ?_⟩
  have h := hv.2.2.2.2.2.2.2
  rw [List.all_eq_true] at h ⊢
  intro y hy
  obtain ⟨x, hx, rfl⟩ := List.mem_map.1 (show y ∈ p.points.map renX from hy)
  rcases pnt_kind (h x hx) with ⟨e1, e2, e3⟩ | ⟨h1, h2, h3, h4⟩
  · unfold renX pntB endP
    rw [if_neg (by rw [e3]; simp), e1, e2, e3]; simp
  · unfold renX
    rw [if_pos (arms_pos h4)]
    unfold pntB
    simp only
    have hin : ∀ s ∈ p.roles, decide (0 ≤ placeI (renP p).roles (rB ++ s)) = true := fun s hs => hasB_iff.2 (List.mem_map_of_mem (f := fun s => rB ++ s) hs)
    rw [hin _ h1, hin _ h2, h4, decide_eq_true (show rB ++ x.from_ ≠ rB ++ x.to from fun e => h3 (rB_inj e))]; simp
theorem role_ren {p : Prt} {r : ByteArray} (hv : prtB p = true) (hr : hasB p.roles r = true) (hv' : prtB (renP p) = true) :
    roleE (renP p) (rB ++ r) = if (roleE p r).2 = 0 then (⟨dotN p.name (rB ++ r), (roleE p r).1.turns.map (gT (rB ++ ·))⟩, 0) else (noLoc, (roleE p r).2) := by
  have hpl := prt_len hv
  have hnr := (rolesP hv).2.1 r (hasB_iff.1 hr)
  have s : Sim p (renP p) r (rB ++ r) id (rB ++ ·) (fun x => 0 ≤ x ∧ x < (p.points.length : Int)) :=
    { pin := prt_in hv, qin := prt_in hv', zero := ⟨⟨by omega, by omega⟩, rfl⟩, inj := fun x y _ _ e => e
      rng := fun x h => ⟨h, by rw [show (renP p).points.length = p.points.length by simp [renP]]; exact h⟩
      arms := fun x _ => by
        rw [show (fun a : Arm => (⟨a.label, a.kind, a.name, id a.next⟩ : Arm)) = id from rfl, List.map_id]
        show (pntAt (renP p) x).arms = _
        rw [renP_at, renX_arms]
      step := fun x _ a ha => prt_in hv x a ha
      isin := fun x _ => by
        show inP (pntAt (renP p) x) _ = _
        rw [renP_at]; exact ren_in hv hnr x
      side := fun x _ hin => by
        have ha := arms_pos (in_pnt hv hr hin).arms
        show sideL (rB ++ r) (pntAt (renP p) x) = _
        unfold sideAt
        rw [renP_at]
        generalize pntAt p x = y at ha
        unfold renX sideL
        rw [if_pos ha]
        simp only
        by_cases e : y.from_ = r
        · rw [if_pos (by rw [e]), if_pos e]
        · rw [if_neg (fun h => e (rB_inj h)), if_neg e]
      ginj := fun x y _ _ _ _ e => rB_inj e }
  exact s.roleE hv hr hv' (hasB_iff.2 (List.mem_map_of_mem (f := fun s => rB ++ s) (hasB_iff.1 hr)))
/-- What a law asks of a projection's turns. -/
theorem trn_small {l : Loc} (h : locB l = true) : ∀ t ∈ l.turns, t.arms.length ≤ 6 ∧ t.peer.size ≤ 100 := fun t ht => by
  unfold locB at h
  simp only [Bool.and_eq_true, List.all_eq_true] at h
  have hb := h.2.2 t ht
  unfold trnB armsOK at hb
  split at hb
  · simp only [Bool.and_eq_true, decide_eq_true_eq, List.isEmpty_iff] at hb
    rw [hb.1, hb.2]; exact ⟨by simp, by decide⟩
  · split at hb
    · simp only [Bool.and_eq_true, decide_eq_true_eq] at hb
      exact ⟨hb.2.2.1, nameB_size hb.1⟩
    · cases hb
theorem role_small {p : Prt} {r : ByteArray} (hv : prtB p = true) (hr : hasB p.roles r = true) : (roleE p r).1.turns.length ≤ 40 ∧ ∀ t ∈ (roleE p r).1.turns, t.arms.length ≤ 6 ∧ t.peer.size ≤ 100 := by
  by_cases he : (roleE p r).2 = 0
  · obtain ⟨S, hS⟩ := roleE_ok he
    exact ⟨by rw [hS.turns]; exact hS.len, trn_small (proj_may hS)⟩
  · rw [(roleE_fit hv hr).2 he]
    exact ⟨by decide, fun t ht => by cases ht⟩

/-! ### The contracts -/
set_option maxHeartbeats 8000000 in
theorem renamed_c (p : Prt) (hr : p.roles.length ≤ 1000 ∧ ∀ s ∈ p.roles, s.size ≤ 100) (hp : p.points.length ≤ 1000 ∧ ∀ x ∈ p.points, x.from_.size ≤ 100 ∧ x.to.size ≤ 100 ∧ x.arms.length ≤ 1000) :
    Con Tryz.prog 17 [] [Ag p.cs] (.v (Ag (renP p).cs)) [] := by
  refine con_of (c := _) Tryz.func17 rfl rfl rfl (by decide) fun w M0 H Z => ?_
  repeat' (first
   | refine gc_ rfl ?_
   | (refine g_region ?_; refine run_ th rfl ?_)
   | (refine g_drawC mix rfl rfl ?_; refine drun_ th rfl ?_)
   | (refine g_drawEC mix rfl rfl ?_; refine erun_ th rfl ?_)
   | refine SOps.nil ?_
   | refine DOps.nil ?_
   | refine EOps.nil ?_ rfl rfl
   | (refine s_split rfl rfl (fun hb => ?_) (fun hb => ?_) <;> (try simp only [hbL] at hb) <;> first | (exfalso; omega) | refine run_ th rfl ?_)
   | (refine d_split rfl rfl rfl (fun hb => ?_) (fun hb => ?_) <;> (try simp only [hbL] at hb) <;> first | (exfalso; omega) | refine drun_ th rfl ?_)
   | (refine g_if rfl (fun hb => ?_) (fun hb => ?_) <;> (try simp only [hbL] at hb) <;> (try (exfalso; omega))))
  refine g_adoptB 3 1 190 9 1 rfl rfl rfl rfl ?_
  refine g_adoptB 3 2 290 59 3 rfl rfl rfl rfl ?_
  refine g_loop1 (fun i : Nat => i ≤ p.roles.length)
    (fun i => [(1, .v (.one (.ptr 1 0))), (2, .v (.one (.ptr 2 0))), (3, .v (.one (.ptr 3 0))), (4, .v (C1 (.int .i64 (i : Int))))])
    (fun i => [(1, .box [.c (.str p.name), .c (namesT p.roles), .c (pointsC p.points)]), (2, .box [.c (.str ⟨#[]⟩), .c .nils, .c .nils]), (3, .box [.c (.str p.name), .own 190, .own 290]),
      (190, .arr false 9 1 (((p.roles.take i).map (rB ++ ·)).map fun s => [CT.str s])), (290, .arr false 59 3 [])])
    (fun i => p.roles.length - i) 0 (Nat.zero_le _)
    (fun a w h => h.sub (by exact ⟨⟨_, rfl, .refl _⟩, ⟨_, rfl, .refl _⟩, ⟨_, rfl, .refl _⟩, ⟨_, rfl, le_int rfl⟩, trivial⟩) (by exact ⟨⟨_, rfl, .refl _⟩, ⟨_, rfl, .refl _⟩, ⟨_, rfl, .refl _⟩, ⟨_, rfl, .refl _⟩, ⟨_, rfl, .refl _⟩, trivial⟩) rfl rfl rfl) (fun i hi ih => ?_)
  have htl : (((p.roles.take i).map (rB ++ ·)).map fun s => [CT.str s]).length = i := by simp; omega
  by_cases hlt : i < p.roles.length
  · have hx : (p.roles.map fun s => [CT.str s])[i]? = some [.str p.roles[i]] := by simp [hlt]
    have hsz := hr.2 p.roles[i] (List.getElem_mem hlt)
    have hstep : ((p.roles.take (i + 1)).map (rB ++ ·)).map (fun s => [CT.str s]) = ((p.roles.take i).map (rB ++ ·)).map (fun s => [CT.str s]) ++ [[.str (rB ++ p.roles[i])]] := by
      rw [List.take_succ_eq_append_getElem hlt, List.map_append, List.map_append]; rfl
    have hih := ih (i + 1) hlt (by omega)
    rw [hstep] at hih
    obtain ⟨s, hs⟩ : ∃ s, s = p.roles[i] := ⟨_, rfl⟩
    rw [← hs] at hx hsz hih
    clear hs hstep
    have hrb : rB.size + s.size ≤ 9223372036854775807 := by rw [show rB.size = 1 from rfl]; omega
    repeat' (first
     | (refine g_drawS 9 [] mix rfl rfl rfl rfl rfl rfl rfl rfl ?_; refine grun_ th rfl ?_)
     | refine gc_ rfl ?_
     | (refine g_region ?_; refine run_ th rfl ?_)
     | (refine g_drawC mix rfl rfl ?_; refine drun_ th rfl ?_)
     | (refine g_drawEC mix rfl rfl ?_; refine erun_ th rfl ?_)
     | refine SOps.nil ?_
     | refine DOps.nil ?_
     | refine EOps.nil ?_ rfl rfl
     | (refine s_split rfl rfl (fun hb => ?_) (fun hb => ?_) <;> (try simp only [hbL] at hb) <;> first | (exfalso; omega) | refine run_ th rfl ?_)
     | (refine d_split rfl rfl rfl (fun hb => ?_) (fun hb => ?_) <;> (try simp only [hbL] at hb) <;> first | (exfalso; omega) | refine drun_ th rfl ?_)
     | (refine g_if rfl (fun hb => ?_) (fun hb => ?_) <;> (try simp only [hbL] at hb) <;> (try (exfalso; omega)))
     | (refine q_idx th rfl rfl rfl rfl rfl rfl rfl rfl rfl i _ rfl hx ?_; refine grun_ th rfl ?_)
     | (refine q_step (fun mm' => op_catS rfl rfl rfl hrb rfl rfl) rfl rfl ?_; refine grun_ th rfl ?_)
     | (refine q_lit th rfl rfl rfl rfl rfl rfl rfl rfl rfl rfl rfl rfl (.refl _) ?_; refine grun_ th rfl ?_)
     | refine GOps.nil ?_
     | (refine s_anyB 3 1 rfl ?_; refine s_appendF th rfl rfl rfl rfl rfl rfl rfl rfl rfl rfl rfl rfl rfl rfl (by constructor <;> simp only [htl, List.length_singleton] <;> omega) ?_; refine run_ th rfl ?_)
     | (refine s_add rfl rfl rfl rfl rfl rfl (by omega) ?_; refine run_ th rfl ?_))
    exact g_sub (by exact ⟨⟨_, rfl, .refl _⟩, ⟨_, rfl, .refl _⟩, ⟨_, rfl, .refl _⟩, ⟨_, rfl, le_int (by omega)⟩, trivial⟩) (by exact ⟨⟨_, rfl, .refl _⟩, ⟨_, rfl, .refl _⟩, ⟨_, rfl, .refl _⟩, ⟨_, rfl, .refl _⟩, ⟨_, rfl, .refl _⟩, trivial⟩) rfl rfl rfl hih
  · have hie : i = p.roles.length := by omega
    subst hie
    rw [List.take_length]
    clear ih htl
    repeat' (first
     | (refine g_atR 6 rfl ?_; refine g_freeze 190 rfl rfl ?_)
     | refine gc_ rfl ?_
     | (refine g_region ?_; refine run_ th rfl ?_)
     | (refine g_drawC mix rfl rfl ?_; refine drun_ th rfl ?_)
     | (refine g_drawEC mix rfl rfl ?_; refine erun_ th rfl ?_)
     | refine SOps.nil ?_
     | refine DOps.nil ?_
     | refine EOps.nil ?_ rfl rfl
     | (refine s_split rfl rfl (fun hb => ?_) (fun hb => ?_) <;> (try simp only [hbL] at hb) <;> first | (exfalso; omega) | refine run_ th rfl ?_)
     | (refine d_split rfl rfl rfl (fun hb => ?_) (fun hb => ?_) <;> (try simp only [hbL] at hb) <;> first | (exfalso; omega) | refine drun_ th rfl ?_)
     | (refine g_if rfl (fun hb => ?_) (fun hb => ?_) <;> (try simp only [hbL] at hb) <;> (try (exfalso; omega))))
    refine g_loop1 (fun i : Nat => i ≤ p.points.length)
      (fun i => [(1, .v (.one (.ptr 1 0))), (2, .v (.one (.ptr 2 0))), (3, .v (.one (.ptr 3 0))), (5, .v (C1 (.int .i64 (i : Int))))])
      (fun i => [(1, .box [.c (.str p.name), .c (namesT p.roles), .c (pointsC p.points)]), (2, .box [.c (.str ⟨#[]⟩), .c .nils, .c .nils]), (3, .box [.c (.str p.name), .c (namesT (p.roles.map (rB ++ ·))), .own 290]),
        (290, .arr false 59 3 (((p.points.take i).map renX).map Pnt.cs))])
      (fun i => p.points.length - i) 0 (Nat.zero_le _)
      (fun a w h => h.sub (by exact ⟨⟨_, rfl, .refl _⟩, ⟨_, rfl, .refl _⟩, ⟨_, rfl, .refl _⟩, ⟨_, rfl, le_int rfl⟩, trivial⟩) (by exact ⟨⟨_, rfl, .refl _⟩, ⟨_, rfl, .refl _⟩, ⟨_, rfl, .refl _⟩, ⟨_, rfl, .refl _⟩, trivial⟩) rfl rfl rfl) (fun i hi ih => ?_)
    have htl : (((p.points.take i).map renX).map Pnt.cs).length = i := by simp; omega
    by_cases hlt : i < p.points.length
    · have hx : (p.points.map Pnt.cs)[i]? = some (p.points[i]).cs := by simp [hlt]
      obtain ⟨hs1, hs2, hs3⟩ := hp.2 p.points[i] (List.getElem_mem hlt)
      have hstep : ((p.points.take (i + 1)).map renX).map Pnt.cs = ((p.points.take i).map renX).map Pnt.cs ++ [(renX p.points[i]).cs] := by
        rw [List.take_succ_eq_append_getElem hlt, List.map_append, List.map_append]; rfl
      have hih := ih (i + 1) hlt (by omega)
      rw [hstep] at hih
      obtain ⟨x, hxx⟩ : ∃ x, x = p.points[i] := ⟨_, rfl⟩
      rw [← hxx] at hx hs1 hs2 hs3 hih
      clear hxx hstep
      have hc1 : rB.size + x.from_.size ≤ 9223372036854775807 := by rw [show rB.size = 1 from rfl]; omega
      have hc2 : rB.size + x.to.size ≤ 9223372036854775807 := by rw [show rB.size = 1 from rfl]; omega
      by_cases ha : 0 < x.arms.length
      · rw [show renX x = ⟨rB ++ x.from_, rB ++ x.to, x.arms⟩ by unfold renX; rw [if_pos ha]] at hih
        repeat' (first
         | refine gc_ rfl ?_
         | (refine g_region ?_; refine run_ th rfl ?_)
         | (refine g_drawC mix rfl rfl ?_; refine drun_ th rfl ?_)
         | (refine g_drawEC mix rfl rfl ?_; refine erun_ th rfl ?_)
         | refine SOps.nil ?_
         | refine DOps.nil ?_
         | refine EOps.nil ?_ rfl rfl
         | (refine s_split rfl rfl (fun hb => ?_) (fun hb => ?_) <;> (try simp only [hbL] at hb) <;> first | (exfalso; omega) | refine run_ th rfl ?_)
         | (refine d_split rfl rfl rfl (fun hb => ?_) (fun hb => ?_) <;> (try simp only [hbL] at hb) <;> first | (exfalso; omega) | refine drun_ th rfl ?_)
         | (refine g_if rfl (fun hb => ?_) (fun hb => ?_) <;> (try simp only [hbL] at hb) <;> (try (exfalso; omega)))
         | (refine s_idx th rfl rfl rfl rfl rfl rfl rfl rfl rfl i _ rfl hx ?_; refine run_ th rfl ?_)
         | (refine s_cat rfl rfl rfl rfl rfl rfl hc1 ?_; refine run_ th rfl ?_)
         | (refine s_cat rfl rfl rfl rfl rfl rfl hc2 ?_; refine run_ th rfl ?_)
         | (refine s_appendN th 54 rfl rfl rfl rfl rfl rfl rfl rfl rfl rfl rfl rfl rfl rfl (by constructor <;> simp only [List.length_map] <;> omega) ?_; refine s_freeze 54 rfl rfl ?_; refine run_ th rfl ?_)
         | (refine s_anyB 3 2 rfl ?_; refine s_append th rfl rfl rfl rfl rfl rfl rfl rfl rfl rfl rfl rfl rfl rfl rfl (by constructor <;> simp only [htl, List.length_singleton] <;> omega) ?_; refine run_ th rfl ?_)
         | (refine s_add rfl rfl rfl rfl rfl rfl (by omega) ?_; refine run_ th rfl ?_))
        all_goals first
          | (exfalso; omega)
          | (exfalso; simp only [List.length_map] at hb; omega)
          | exact g_sub (by exact ⟨⟨_, rfl, .refl _⟩, ⟨_, rfl, .refl _⟩, ⟨_, rfl, .refl _⟩, ⟨_, rfl, le_int (by omega)⟩, trivial⟩) (by exact ⟨⟨_, rfl, .refl _⟩, ⟨_, rfl, .refl _⟩, ⟨_, rfl, .refl _⟩, ⟨_, rfl, .refl _⟩, trivial⟩) rfl rfl rfl hih
      · rw [show renX x = x by unfold renX; rw [if_neg ha]] at hih
        repeat' (first
         | refine gc_ rfl ?_
         | (refine g_region ?_; refine run_ th rfl ?_)
         | (refine g_drawC mix rfl rfl ?_; refine drun_ th rfl ?_)
         | (refine g_drawEC mix rfl rfl ?_; refine erun_ th rfl ?_)
         | refine SOps.nil ?_
         | refine DOps.nil ?_
         | refine EOps.nil ?_ rfl rfl
         | (refine s_split rfl rfl (fun hb => ?_) (fun hb => ?_) <;> (try simp only [hbL] at hb) <;> first | (exfalso; omega) | refine run_ th rfl ?_)
         | (refine d_split rfl rfl rfl (fun hb => ?_) (fun hb => ?_) <;> (try simp only [hbL] at hb) <;> first | (exfalso; omega) | refine drun_ th rfl ?_)
         | (refine g_if rfl (fun hb => ?_) (fun hb => ?_) <;> (try simp only [hbL] at hb) <;> (try (exfalso; omega)))
         | (refine s_idx th rfl rfl rfl rfl rfl rfl rfl rfl rfl i _ rfl hx ?_; refine run_ th rfl ?_)
         | (refine s_cat rfl rfl rfl rfl rfl rfl hc1 ?_; refine run_ th rfl ?_)
         | (refine s_cat rfl rfl rfl rfl rfl rfl hc2 ?_; refine run_ th rfl ?_)
         | (refine s_appendN th 54 rfl rfl rfl rfl rfl rfl rfl rfl rfl rfl rfl rfl rfl rfl (by constructor <;> simp only [List.length_map] <;> omega) ?_; refine s_freeze 54 rfl rfl ?_; refine run_ th rfl ?_)
         | (refine s_anyB 3 2 rfl ?_; refine s_append th rfl rfl rfl rfl rfl rfl rfl rfl rfl rfl rfl rfl rfl rfl rfl (by constructor <;> simp only [htl, List.length_singleton] <;> omega) ?_; refine run_ th rfl ?_)
         | (refine s_add rfl rfl rfl rfl rfl rfl (by omega) ?_; refine run_ th rfl ?_))
        all_goals first
          | (exfalso; omega)
          | (exfalso; simp only [List.length_map] at hb; omega)
          | exact g_sub (by exact ⟨⟨_, rfl, .refl _⟩, ⟨_, rfl, .refl _⟩, ⟨_, rfl, .refl _⟩, ⟨_, rfl, le_int (by omega)⟩, trivial⟩) (by exact ⟨⟨_, rfl, .refl _⟩, ⟨_, rfl, .refl _⟩, ⟨_, rfl, .refl _⟩, ⟨_, rfl, .refl _⟩, trivial⟩) rfl rfl rfl hih
    · have hie : i = p.points.length := by omega
      subst hie
      rw [List.take_length]
      clear ih htl
      repeat' (first
       | (refine g_atR 14 rfl ?_; refine g_freeze 290 rfl rfl ?_)
       | refine gc_ rfl ?_
       | (refine g_region ?_; refine run_ th rfl ?_)
       | (refine g_drawC mix rfl rfl ?_; refine drun_ th rfl ?_)
       | (refine g_drawEC mix rfl rfl ?_; refine erun_ th rfl ?_)
       | refine SOps.nil ?_
       | refine DOps.nil ?_
       | refine EOps.nil ?_ rfl rfl
       | (refine s_split rfl rfl (fun hb => ?_) (fun hb => ?_) <;> (try simp only [hbL] at hb) <;> first | (exfalso; omega) | refine run_ th rfl ?_)
       | (refine d_split rfl rfl rfl (fun hb => ?_) (fun hb => ?_) <;> (try simp only [hbL] at hb) <;> first | (exfalso; omega) | refine drun_ th rfl ?_)
       | (refine g_if rfl (fun hb => ?_) (fun hb => ?_) <;> (try simp only [hbL] at hb) <;> (try (exfalso; omega))))
      refine g_endL th Tryz.func17 (.inr ⟨_, rfl⟩) rfl rfl rfl ?_ rfl
      exact .refl _
end Go.Sy
