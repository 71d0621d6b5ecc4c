/- Contracts: turns.Reach. -/
import Derived.Test.YtadimhaolhpglaaUf
import Derived.Test.YtadimhaolhpglaaUc
set_option linter.unusedSimpArgs false
set_option linter.unusedVariables false
set_option linter.unusedSectionVars false
namespace Go.Sy
open Go.Proofs
set_option maxRecDepth 100000
attribute [local irreducible] SOps Goes DOps EOps

def reachL (l : Loc) : List Int := if locB l then reachG l.g else []
theorem bfsIn_add : ∀ (a b : List Arm) (out : List Int), bfsIn out (a ++ b) = bfsIn (bfsIn out a) b
  | [], _, _ => rfl
  | x :: a, b, out => by rw [List.cons_append, bfsIn, bfsIn, bfsIn_add a b]
theorem bfsIn_succ {rs : List Arm} {j : Nat} (hj : j < rs.length) (out : List Int) :
    bfsIn out (rs.take (j + 1)) = if memB (bfsIn out (rs.take j)) rs[j].next then bfsIn out (rs.take j) else bfsIn out (rs.take j) ++ [rs[j].next] := by
  rw [List.take_succ_eq_append_getElem hj, bfsIn_add, bfsIn, bfsIn]
  unfold memB
  by_cases h : rs[j].next ∈ bfsIn out (rs.take j) <;> simp [h]

structure ReachI (g : Grp) (i : Nat) (out : List Int) : Prop where
  le : i ≤ out.length
  ok : Reached g out
  eq : bfs g (g.length + 1 - i) i out = reachG g
theorem ReachI.step {g : Grp} {i : Nat} {out : List Int} (hg : InG g) (h : ReachI g i out) (hlt : i < out.length) : ReachI g (i + 1) (bfsIn out (risA (armsAt g out[i]))) := by
  have hlen := h.ok.len
  have ho := bfsIn_ok (risA (armsAt g out[i])) h.ok (fun a ha => hg out[i] a (risA_mem.1 ha))
  obtain ⟨r, hr⟩ := bfsIn_app (risA (armsAt g out[i])) out
  refine ⟨by rw [hr, List.length_append]; omega, ho, ?_⟩
  have := h.eq
  rw [show g.length + 1 - i = (g.length + 1 - (i + 1)) + 1 by omega, bfs, List.getElem?_eq_getElem hlt] at this
  exact this
theorem ReachI.done {g : Grp} {out : List Int} (h : ReachI g out.length out) : reachG g = out := by
  have hlen := h.ok.len
  have := h.eq
  rw [show g.length + 1 - out.length = (g.length - out.length) + 1 by omega, bfs, List.getElem?_eq_none (Nat.le_refl _)] at this
  exact this.symm
theorem trnAt_get {l : Loc} {x : Int} (h : 0 ≤ x ∧ x < (l.turns.length : Int)) : (l.turns.map Trn.cs)[x.toNat]? = some (trnAt l x).cs := by
  have hx : x.toNat < l.turns.length := by omega
  rw [List.getElem?_map, List.getElem?_eq_getElem hx]
  simp [trnAt, hx]
theorem trnAt_nodup {l : Loc} (h : locB l = true) (x : Int) : ((trnAt l x).arms.map Arm.label).Nodup ∧ (trnAt l x).arms.length ≤ 6 := by
  have h1 := trnAt_arms h x
  rw [armsAt_loc] at h1
  rcases h1 with h1 | h1
  · rw [h1]; simp
  · have := arms_all h1
    exact ⟨this.2.2, this.1.2⟩

set_option maxHeartbeats 8000000 in
theorem treach_c (l : Loc) (hs : LocBig l) : Con Try.prog 27 [] [Ag l.cs] (Rv (intsT (reachL l))) [] := by
  refine con_of (c := _) Try.func27 rfl rfl rfl (by decide) fun w M0 H Z => ?_
  repeat' (first
   | refine gc_ rfl ?_
   | (refine g_region ?_; refine run_ th rfl ?_)
   | (refine g_drawC mix rfl rfl ?_; refine drun_ th rfl ?_)
   | (refine g_drawEC mix rfl rfl ?_; refine erun_ th rfl ?_)
   | refine SOps.nil ?_
   | refine DOps.nil ?_
   | refine EOps.nil ?_ rfl rfl
   | (refine s_split rfl rfl (fun hb => ?_) (fun hb => ?_) <;> (try simp only [hbL] at hb) <;> first | (exfalso; omega) | refine run_ th rfl ?_)
   | (refine d_split rfl rfl rfl (fun hb => ?_) (fun hb => ?_) <;> (try simp only [hbL] at hb) <;> first | (exfalso; omega) | refine drun_ th rfl ?_)
   | (refine g_if rfl (fun hb => ?_) (fun hb => ?_) <;> (try simp only [hbL] at hb) <;> (try (exfalso; omega)))
   | refine g_endL th Try.func27 (.inr ⟨_, rfl⟩) rfl rfl rfl ?_ rfl
   | (refine s_call (tmay_c l hs) [] rfl rfl rfl rfl rfl rfl rfl rfl rfl rfl ?_; refine run_ th rfl ?_)
   | (refine s_assignAny rfl rfl rfl rfl ?_; refine run_ th rfl ?_)
   | (refine s_putI th (m := []) (.inr rfl) rfl rfl rfl rfl rfl rfl rfl rfl ?_; refine run_ th rfl ?_))
  · rw [show reachL l = [] by unfold reachL; rw [hb]; rfl]
    exact .v (.one (.c (.nil 1)))
  have hv := hb
  obtain ⟨hg, h0, hu⟩ := loc_g hv
  have hn40 := (loc_len hv).2
  have hgl : l.g.length = l.turns.length := by simp [Loc.g]
  refine g_loop2 (fun (i : Nat) (out : List Int) => ReachI l.g i out)
    (fun i _ => [(1, .v (.one (.ptr 1 0))), (3, .v (.one (.own 11))), (4, .v (.one (.mp 12))), (5, .v (C1 (.int .i64 (i : Int))))])
    (fun _ out => [(12, .mpo (entF intF (setK out))), (11, .arr false 3 1 (out.map fun r => [CT.int .i64 r])), (1, .box (l.cs.map SC.c))])
    (fun i _ => l.g.length + 1 - i) 0 [0] ⟨Nat.zero_le _, ⟨by simp, fun x hx => by simp at hx; subst hx; omega⟩, rfl⟩
    (fun a w h => h.sub (by exact ⟨⟨_, rfl, .refl _⟩, ⟨_, rfl, .refl _⟩, ⟨_, rfl, .refl _⟩, ⟨_, rfl, le_int rfl⟩, trivial⟩) (by exact ⟨⟨_, rfl, .refl _⟩, ⟨_, rfl, le_arr rfl⟩, ⟨_, rfl, .refl _⟩, trivial⟩) rfl rfl rfl) (fun i out hI ih => ?_)
  have hlen := hI.ok.len
  have hle := hI.le
  by_cases hlt : i < out.length
  · have hxi : (out.map fun r => [CT.int .i64 r])[i]? = some [.int .i64 out[i]] := by simp [hlt]
    have hxr := hI.ok.range out[i] (List.getElem_mem hlt)
    rw [hgl] at hxr
    have hti := trnAt_get hxr
    have hnd := trnAt_nodup hv out[i]
    have hst := hI.step hg hlt
    rw [armsAt_loc] at hst
    have hrm : ∀ a ∈ risA (trnAt l out[i]).arms, 0 ≤ a.next ∧ a.next < (l.g.length : Int) := fun a ha => hg out[i] a (by rw [armsAt_loc]; exact risA_mem.1 ha)
    repeat' (first
     | refine gc_ rfl ?_
     | (refine g_region ?_; refine run_ th rfl ?_)
     | (refine g_drawC mix rfl rfl ?_; refine drun_ th rfl ?_)
     | (refine g_drawEC mix rfl rfl ?_; refine erun_ th rfl ?_)
     | refine SOps.nil ?_
     | refine DOps.nil ?_
     | refine EOps.nil ?_ rfl rfl
     | (refine s_split rfl rfl (fun hb => ?_) (fun hb => ?_) <;> (try simp only [hbL] at hb) <;> first | (exfalso; omega) | refine run_ th rfl ?_)
     | (refine d_split rfl rfl rfl (fun hb => ?_) (fun hb => ?_) <;> (try simp only [hbL] at hb) <;> first | (exfalso; omega) | refine drun_ th rfl ?_)
     | (refine g_if rfl (fun hb => ?_) (fun hb => ?_) <;> (try simp only [hbL] at hb) <;> (try (exfalso; omega)))
     | (refine d_idxo th rfl rfl rfl rfl rfl rfl rfl rfl rfl rfl i rfl (by rw [List.length_map]; omega) ?_; refine drun_ th rfl ?_)
     | (refine d_loada th _ rfl rfl rfl rfl hxi rfl rfl rfl rfl rfl ?_; refine drun_ th rfl ?_)
     | (refine d_idx th rfl rfl rfl rfl rfl rfl rfl rfl rfl (out[i]).toNat _ (by omega) hti ?_; refine drun_ th rfl ?_)
     | (refine d_call (rising_c (trnAt l out[i]).arms hnd.1 (by omega)) [] rfl rfl rfl rfl rfl rfl rfl rfl rfl rfl rfl ?_; refine drun_ th rfl ?_))
    obtain ⟨rs, hrs⟩ : ∃ rs, rs = risA (trnAt l out[i]).arms := ⟨_, rfl⟩
    rw [← hrs] at hst hrm
    have hrl : rs.length ≤ 6 := by rw [hrs, risA_len]; exact hnd.2
    refine g_loop1 (fun j : Nat => j ≤ rs.length)
      (fun j => [(1, .v (.one (.ptr 1 0))), (3, .v (.one (.own 11))), (4, .v (.one (.mp 12))), (5, .v (C1 (.int .i64 (i : Int)))), (29, .v (C1 (armsC rs))), (30, .v (C1 (.int .i64 (rs.length : Int)))), (31, .v (C1 (.int .i64 (j : Int))))])
      (fun j => [(12, .mpo (entF intF (setK (bfsIn out (rs.take j))))), (11, .arr false 3 1 ((bfsIn out (rs.take j)).map fun r => [CT.int .i64 r])), (1, .box (l.cs.map SC.c))])
      (fun j => rs.length - j) 0 (Nat.zero_le _)
      (fun a w h => h.sub (by exact ⟨⟨_, rfl, .refl _⟩, ⟨_, rfl, .refl _⟩, ⟨_, rfl, .refl _⟩, ⟨_, rfl, .refl _⟩, ⟨_, rfl, le_ct (by rw [hrs])⟩, ⟨_, rfl, le_int (by rw [hrs]; simp)⟩, ⟨_, rfl, le_int rfl⟩, trivial⟩) (by exact ⟨⟨_, rfl, .refl _⟩, ⟨_, rfl, .refl _⟩, ⟨_, rfl, .refl _⟩, trivial⟩) rfl rfl rfl) (fun j hj ih2 => ?_)
    by_cases hjt : j < rs.length
    · have hxj : (rs.map Arm.cs)[j]? = some (rs[j]).cs := by simp [hjt]
      have hok : Reached l.g (bfsIn out (rs.take j)) := bfsIn_ok _ hI.ok fun a ha => hrm a (List.mem_of_mem_take ha)
      have hokl : (bfsIn out (rs.take j)).length ≤ 40 := by have := hok.len; rw [hgl] at this; omega
      have hsucc := bfsIn_succ hjt out
      have hlook : lookC (setK (bfsIn out (rs.take j))) rs[j].next (.bool false) = .bool (memB (bfsIn out (rs.take j)) rs[j].next) := setK_look _ _
      obtain ⟨mb, hmb⟩ : ∃ mb, memB (bfsIn out (rs.take j)) rs[j].next = mb := ⟨_, rfl⟩
      rw [hmb] at hlook hsucc
      repeat' (first
       | refine gc_ rfl ?_
       | (refine g_region ?_; refine run_ th rfl ?_)
       | (refine g_drawC mix rfl rfl ?_; refine drun_ th rfl ?_)
       | (refine g_drawEC mix rfl rfl ?_; refine erun_ th rfl ?_)
       | refine SOps.nil ?_
       | refine DOps.nil ?_
       | refine EOps.nil ?_ rfl rfl
       | (refine s_split rfl rfl (fun hb => ?_) (fun hb => ?_) <;> (try simp only [hbL] at hb) <;> first | (exfalso; omega) | refine run_ th rfl ?_)
       | (refine d_split rfl rfl rfl (fun hb => ?_) (fun hb => ?_) <;> (try simp only [hbL] at hb) <;> first | (exfalso; omega) | refine drun_ th rfl ?_)
       | (refine g_if rfl (fun hb => ?_) (fun hb => ?_) <;> (try simp only [hbL] at hb) <;> (try (exfalso; omega)))
       | (refine s_idx th rfl rfl rfl rfl rfl rfl rfl rfl rfl j _ rfl hxj ?_; refine run_ th rfl ?_)
       | (refine s_lookI th (m := setK (bfsIn out (rs.take j))) rfl rfl rfl rfl rfl rfl rfl rfl rfl rfl rfl rfl ?_; rw [hlook]; refine run_ th rfl ?_)
       | (refine s_putI th (m := setK (bfsIn out (rs.take j))) (.inl rfl) rfl rfl rfl rfl rfl rfl rfl rfl ?_; refine run_ th rfl ?_)
       | (refine s_append th rfl rfl rfl rfl rfl rfl rfl rfl rfl rfl rfl rfl rfl rfl rfl (by constructor <;> simp <;> omega) ?_; refine run_ th rfl ?_)
       | (refine s_add rfl rfl rfl rfl rfl rfl (by omega) ?_; refine run_ th rfl ?_))
      · have hih := ih2 (j + 1) hjt (by omega)
        rw [hb] at hsucc hmb
        rw [hsucc] at hih
        exact g_sub (by exact ⟨⟨_, rfl, .refl _⟩, ⟨_, rfl, .refl _⟩, ⟨_, rfl, .refl _⟩, ⟨_, rfl, .refl _⟩, ⟨_, rfl, .refl _⟩, ⟨_, rfl, .refl _⟩, ⟨_, rfl, le_int (by omega)⟩, trivial⟩)
          (by exact ⟨⟨_, rfl, le_mpo (by rw [setK_put (notMem_of hmb)]; rfl)⟩, ⟨_, rfl, le_arr (by simp)⟩, ⟨_, rfl, .refl _⟩, trivial⟩) rfl rfl rfl hih
      · have hih := ih2 (j + 1) hjt (by omega)
        rw [hb] at hsucc
        rw [hsucc] at hih
        exact g_sub (by exact ⟨⟨_, rfl, .refl _⟩, ⟨_, rfl, .refl _⟩, ⟨_, rfl, .refl _⟩, ⟨_, rfl, .refl _⟩, ⟨_, rfl, .refl _⟩, ⟨_, rfl, .refl _⟩, ⟨_, rfl, le_int (by omega)⟩, trivial⟩)
          (by exact ⟨⟨_, rfl, .refl _⟩, ⟨_, rfl, .refl _⟩, ⟨_, rfl, .refl _⟩, trivial⟩) rfl rfl rfl hih
    · have hje : j = rs.length := by omega
      subst hje
      rw [List.take_length]
      repeat' (first
       | refine gc_ rfl ?_
       | (refine g_region ?_; refine run_ th rfl ?_)
       | (refine g_drawC mix rfl rfl ?_; refine drun_ th rfl ?_)
       | (refine g_drawEC mix rfl rfl ?_; refine erun_ th rfl ?_)
       | refine SOps.nil ?_
       | refine DOps.nil ?_
       | refine EOps.nil ?_ rfl rfl
       | (refine s_split rfl rfl (fun hb => ?_) (fun hb => ?_) <;> (try simp only [hbL] at hb) <;> first | (exfalso; omega) | refine run_ th rfl ?_)
       | (refine d_split rfl rfl rfl (fun hb => ?_) (fun hb => ?_) <;> (try simp only [hbL] at hb) <;> first | (exfalso; omega) | refine drun_ th rfl ?_)
       | (refine g_if rfl (fun hb => ?_) (fun hb => ?_) <;> (try simp only [hbL] at hb) <;> (try (exfalso; omega)))
       | (refine s_add rfl rfl rfl rfl rfl rfl (by omega) ?_; refine run_ th rfl ?_))
      have hih := ih (i + 1) (bfsIn out rs) hst (by omega)
      exact g_sub (by exact ⟨⟨_, rfl, .refl _⟩, ⟨_, rfl, .refl _⟩, ⟨_, rfl, .refl _⟩, ⟨_, rfl, le_int (by omega)⟩, trivial⟩) (by exact ⟨⟨_, rfl, .refl _⟩, ⟨_, rfl, .refl _⟩, ⟨_, rfl, .refl _⟩, trivial⟩) rfl rfl rfl hih
  · have hie : i = out.length := by omega
    subst hie
    have hdn : reachL l = out := by unfold reachL; rw [if_pos hv]; exact hI.done
    repeat' (first
     | refine gc_ rfl ?_
     | (refine g_region ?_; refine run_ th rfl ?_)
     | (refine g_drawC mix rfl rfl ?_; refine drun_ th rfl ?_)
     | (refine g_drawEC mix rfl rfl ?_; refine erun_ th rfl ?_)
     | refine SOps.nil ?_
     | refine DOps.nil ?_
     | refine EOps.nil ?_ rfl rfl
     | (refine s_split rfl rfl (fun hb => ?_) (fun hb => ?_) <;> (try simp only [hbL] at hb) <;> first | (exfalso; omega) | refine run_ th rfl ?_)
     | (refine d_split rfl rfl rfl (fun hb => ?_) (fun hb => ?_) <;> (try simp only [hbL] at hb) <;> first | (exfalso; omega) | refine drun_ th rfl ?_)
     | (refine g_if rfl (fun hb => ?_) (fun hb => ?_) <;> (try simp only [hbL] at hb) <;> (try (exfalso; omega)))
     | refine g_endL th Try.func27 (.inr ⟨_, rfl⟩) rfl rfl rfl ?_ rfl
     | (refine g_freeze 11 rfl rfl ?_))
    rw [hdn]
    exact .refl _
end Go.Sy
