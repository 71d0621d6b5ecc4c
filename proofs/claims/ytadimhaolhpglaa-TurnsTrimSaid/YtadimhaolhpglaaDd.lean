/- Contracts: SameArms, SameTurns of the reference, same. -/
import Derived.Test.YtadimhaolhpglaaNe
import Derived.Test.YtadimhaolhpglaaUk
set_option linter.unusedSimpArgs false
set_option linter.unusedVariables false
set_option linter.unusedSectionVars false
namespace Go.Sy
open Go.Proofs
set_option maxRecDepth 100000
attribute [local irreducible] SOps Goes DOps EOps

set_option maxHeartbeats 4000000 in
theorem sameArms_c (l m : List Arm) : Con Try.prog 41 [] [C1 (armsC l), C1 (armsC m)] (Rv (.bool (decide (l = m)))) [] := by
  refine con_of (c := _) Try.func41 rfl rfl rfl (by decide) fun w M0 H Z => ?_
  refine g_len 0 rfl fun hll => ?_
  simp only [List.length_map] at hll
  refine g_len 1 rfl fun hmm => ?_
  simp only [List.length_map] at hmm
  repeat' (first
   | refine gc_ rfl ?_
   | (refine g_region ?_; refine run_ th rfl ?_)
   | (refine g_drawC mix rfl rfl ?_; refine drun_ th rfl ?_)
   | (refine g_drawEC mix rfl rfl ?_; refine erun_ th rfl ?_)
   | refine SOps.nil ?_
   | refine DOps.nil ?_
   | refine EOps.nil ?_ rfl rfl
   | (refine s_split rfl rfl (fun hb => ?_) (fun hb => ?_) <;> (try simp only [hbL] at hb) <;> first | (exfalso; omega) | refine run_ th rfl ?_)
   | (refine d_split rfl rfl rfl (fun hb => ?_) (fun hb => ?_) <;> (try simp only [hbL] at hb) <;> first | (exfalso; omega) | refine drun_ th rfl ?_)
   | (refine g_if rfl (fun hb => ?_) (fun hb => ?_) <;> (try simp only [hbL] at hb) <;> (try (exfalso; omega)))
   | refine g_endL th Try.func41 (.inr ⟨_, rfl⟩) rfl rfl rfl ?_ rfl)
  · have hne : l ≠ m := fun e => by rw [e] at hb; simp at hb
    rw [show decide (l = m) = false by simpa using hne]
    exact .refl _
  have hlen : l.length = m.length := by omega
  refine g_loop1 (fun k : Nat => k ≤ l.length ∧ ∀ i (h : i < k) (h1 : i < l.length) (h2 : i < m.length), l[i] = m[i])
    (fun k => [(0, .v (C1 (armsC l))), (0 + 1, .v (C1 (armsC m))), (5, .v (C1 (.int .i64 (k : Int))))])
    (fun _ => []) (fun k => l.length - k) 0 ⟨Nat.zero_le _, fun i h => by omega⟩
    (fun a w h => h.sub (by exact ⟨⟨_, rfl, .refl _⟩, ⟨_, rfl, .refl _⟩, ⟨_, rfl, le_int rfl⟩, trivial⟩) (by exact trivial) rfl rfl rfl) (fun k hk ih => ?_)
  obtain ⟨hk, ha⟩ := hk
  by_cases hlt : k < l.length
  · have hlt2 : k < m.length := by omega
    have hx : (l.map Arm.cs)[k]? = some (l[k]).cs := by simp [hlt]
    have hy : (m.map Arm.cs)[k]? = some (m[k]).cs := by simp [hlt2]
    repeat' (first
     | refine gc_ rfl ?_
     | (refine g_region ?_; refine run_ th rfl ?_)
     | (refine g_drawC mix rfl rfl ?_; refine drun_ th rfl ?_)
     | (refine g_drawEC mix rfl rfl ?_; refine erun_ th rfl ?_)
     | refine SOps.nil ?_
     | refine DOps.nil ?_
     | refine EOps.nil ?_ rfl rfl
     | (refine s_split rfl rfl (fun hb => ?_) (fun hb => ?_) <;> (try simp only [hbL] at hb) <;> first | (exfalso; omega) | refine run_ th rfl ?_)
     | (refine d_split rfl rfl rfl (fun hb => ?_) (fun hb => ?_) <;> (try simp only [hbL] at hb) <;> first | (exfalso; omega) | refine drun_ th rfl ?_)
     | (refine g_if rfl (fun hb => ?_) (fun hb => ?_) <;> (try simp only [hbL] at hb) <;> (try (exfalso; omega)))
     | refine g_endL th Try.func41 (.inr ⟨_, rfl⟩) rfl rfl rfl ?_ rfl
     | (refine d_idx th rfl rfl rfl rfl rfl rfl rfl rfl rfl k _ rfl hx ?_; refine drun_ th rfl ?_)
     | (refine d_idx th rfl rfl rfl rfl rfl rfl rfl rfl rfl k _ rfl hy ?_; refine drun_ th rfl ?_)
     | (refine d_neArm (a := l[k]) (b := m[k]) rfl rfl rfl rfl rfl rfl rfl ?_; refine drun_ th rfl ?_)
     | (refine s_add rfl rfl rfl rfl rfl rfl (by omega) ?_; refine run_ th rfl ?_))
    all_goals first
      | (have hne : l ≠ m := eqL_no hlt hlt2 (by simpa using hb)
         rw [show decide (l = m) = false by simpa using hne]; exact .refl _)
      | exact g_sub (by exact ⟨⟨_, rfl, .refl _⟩, ⟨_, rfl, .refl _⟩, ⟨_, rfl, le_int (by omega)⟩, trivial⟩) (by exact trivial) rfl rfl rfl (ih (k + 1) ⟨hlt, fun i h h1 h2 => by
          by_cases hik : i = k
          · subst hik; simpa using hb
          · exact ha i (by omega) h1 h2⟩ (by omega))
  · have he : l = m := eqL_yes hlen fun i h1 h2 => ha i (by omega) h1 h2
    repeat' (first
     | refine gc_ rfl ?_
     | (refine g_region ?_; refine run_ th rfl ?_)
     | (refine g_drawC mix rfl rfl ?_; refine drun_ th rfl ?_)
     | (refine g_drawEC mix rfl rfl ?_; refine erun_ th rfl ?_)
     | refine SOps.nil ?_
     | refine DOps.nil ?_
     | refine EOps.nil ?_ rfl rfl
     | (refine s_split rfl rfl (fun hb => ?_) (fun hb => ?_) <;> (try simp only [hbL] at hb) <;> first | (exfalso; omega) | refine run_ th rfl ?_)
     | (refine d_split rfl rfl rfl (fun hb => ?_) (fun hb => ?_) <;> (try simp only [hbL] at hb) <;> first | (exfalso; omega) | refine drun_ th rfl ?_)
     | (refine g_if rfl (fun hb => ?_) (fun hb => ?_) <;> (try simp only [hbL] at hb) <;> (try (exfalso; omega)))
     | refine g_endL th Try.func41 (.inr ⟨_, rfl⟩) rfl rfl rfl ?_ rfl)
    rw [show decide (l = m) = true by simpa using he]; exact .refl _

theorem trn_eq {x y : Trn} (h1 : x.kind = y.kind) (h2 : x.peer = y.peer) (h3 : x.arms = y.arms) : x = y := by
  cases x; cases y; simp only at h1 h2 h3; subst h1 h2 h3; rfl
set_option maxHeartbeats 4000000 in
theorem sameTurns_c (l m : List Trn) : Con Try.prog 33 [] [C1 (turnsC l), C1 (turnsC m)] (Rv (.bool (decide (l = m)))) [] := by
  refine con_of (c := _) Try.func33 rfl rfl rfl (by decide) fun w M0 H Z => ?_
  refine g_len 0 rfl fun hll => ?_
  simp only [List.length_map] at hll
  refine g_len 1 rfl fun hmm => ?_
  simp only [List.length_map] at hmm
  repeat' (first
   | refine gc_ rfl ?_
   | (refine g_region ?_; refine run_ th rfl ?_)
   | (refine g_drawC mix rfl rfl ?_; refine drun_ th rfl ?_)
   | (refine g_drawEC mix rfl rfl ?_; refine erun_ th rfl ?_)
   | refine SOps.nil ?_
   | refine DOps.nil ?_
   | refine EOps.nil ?_ rfl rfl
   | (refine s_split rfl rfl (fun hb => ?_) (fun hb => ?_) <;> (try simp only [hbL] at hb) <;> first | (exfalso; omega) | refine run_ th rfl ?_)
   | (refine d_split rfl rfl rfl (fun hb => ?_) (fun hb => ?_) <;> (try simp only [hbL] at hb) <;> first | (exfalso; omega) | refine drun_ th rfl ?_)
   | (refine g_if rfl (fun hb => ?_) (fun hb => ?_) <;> (try simp only [hbL] at hb) <;> (try (exfalso; omega)))
   | refine g_endL th Try.func33 (.inr ⟨_, rfl⟩) rfl rfl rfl ?_ rfl)
  · have hne : l ≠ m := fun e => by rw [e] at hb; simp at hb
    rw [show decide (l = m) = false by simpa using hne]
    exact .refl _
  have hlen : l.length = m.length := by omega
  refine g_loop1 (fun k : Nat => k ≤ l.length ∧ ∀ i (h : i < k) (h1 : i < l.length) (h2 : i < m.length), l[i] = m[i])
    (fun k => [(0, .v (C1 (turnsC l))), (0 + 1, .v (C1 (turnsC m))), (5, .v (C1 (.int .i64 (k : Int))))])
    (fun _ => []) (fun k => l.length - k) 0 ⟨Nat.zero_le _, fun i h => by omega⟩
    (fun a w h => h.sub (by exact ⟨⟨_, rfl, .refl _⟩, ⟨_, rfl, .refl _⟩, ⟨_, rfl, le_int rfl⟩, trivial⟩) (by exact trivial) rfl rfl rfl) (fun k hk ih => ?_)
  obtain ⟨hk, ha⟩ := hk
  by_cases hlt : k < l.length
  · have hlt2 : k < m.length := by omega
    have hx : (l.map Trn.cs)[k]? = some (l[k]).cs := by simp [hlt]
    have hy : (m.map Trn.cs)[k]? = some (m[k]).cs := by simp [hlt2]
    repeat' (first
     | refine gc_ rfl ?_
     | (refine g_region ?_; refine run_ th rfl ?_)
     | (refine g_drawC mix rfl rfl ?_; refine drun_ th rfl ?_)
     | (refine g_drawEC mix rfl rfl ?_; refine erun_ th rfl ?_)
     | refine SOps.nil ?_
     | refine DOps.nil ?_
     | refine EOps.nil ?_ rfl rfl
     | (refine s_split rfl rfl (fun hb => ?_) (fun hb => ?_) <;> (try simp only [hbL] at hb) <;> first | (exfalso; omega) | refine run_ th rfl ?_)
     | (refine d_split rfl rfl rfl (fun hb => ?_) (fun hb => ?_) <;> (try simp only [hbL] at hb) <;> first | (exfalso; omega) | refine drun_ th rfl ?_)
     | (refine g_if rfl (fun hb => ?_) (fun hb => ?_) <;> (try simp only [hbL] at hb) <;> (try (exfalso; omega)))
     | refine g_endL th Try.func33 (.inr ⟨_, rfl⟩) rfl rfl rfl ?_ rfl
     | (refine d_idx th rfl rfl rfl rfl rfl rfl rfl rfl rfl k _ rfl hx ?_; refine drun_ th rfl ?_)
     | (refine d_idx th rfl rfl rfl rfl rfl rfl rfl rfl rfl k _ rfl hy ?_; refine drun_ th rfl ?_)
     | (refine d_call (sameArms_c _ _) [] rfl rfl rfl rfl rfl rfl rfl rfl rfl rfl rfl ?_; refine drun_ th rfl ?_)
     | (refine s_add rfl rfl rfl rfl rfl rfl (by omega) ?_; refine run_ th rfl ?_))
    all_goals first
      | (have hne : l ≠ m := eqL_no hlt hlt2 (fun e => by simp_all)
         rw [show decide (l = m) = false by simpa using hne]; exact .refl _)
      | exact g_sub (by exact ⟨⟨_, rfl, .refl _⟩, ⟨_, rfl, .refl _⟩, ⟨_, rfl, le_int (by omega)⟩, trivial⟩) (by exact trivial) rfl rfl rfl (ih (k + 1) ⟨hlt, fun i h h1 h2 => by
          by_cases hik : i = k
          · subst hik; refine trn_eq ?_ ?_ ?_ <;> simp_all
          · exact ha i (by omega) h1 h2⟩ (by omega))
  · have he : l = m := eqL_yes hlen fun i h1 h2 => ha i (by omega) h1 h2
    repeat' (first
     | refine gc_ rfl ?_
     | (refine g_region ?_; refine run_ th rfl ?_)
     | (refine g_drawC mix rfl rfl ?_; refine drun_ th rfl ?_)
     | (refine g_drawEC mix rfl rfl ?_; refine erun_ th rfl ?_)
     | refine SOps.nil ?_
     | refine DOps.nil ?_
     | refine EOps.nil ?_ rfl rfl
     | (refine s_split rfl rfl (fun hb => ?_) (fun hb => ?_) <;> (try simp only [hbL] at hb) <;> first | (exfalso; omega) | refine run_ th rfl ?_)
     | (refine d_split rfl rfl rfl (fun hb => ?_) (fun hb => ?_) <;> (try simp only [hbL] at hb) <;> first | (exfalso; omega) | refine drun_ th rfl ?_)
     | (refine g_if rfl (fun hb => ?_) (fun hb => ?_) <;> (try simp only [hbL] at hb) <;> (try (exfalso; omega)))
     | refine g_endL th Try.func33 (.inr ⟨_, rfl⟩) rfl rfl rfl ?_ rfl)
    rw [show decide (l = m) = true by simpa using he]; exact .refl _

theorem samel_c (a b : Loc) : Con Try.prog 25 [] [Ag a.cs, Ag b.cs] (Rv (.bool (decide (a.name = b.name) && decide (a.turns = b.turns)))) [] := by
  refine con_of (c := _) Try.func25 rfl rfl rfl (by decide) fun w M0 H Z => ?_
  repeat' (first
   | refine gc_ rfl ?_
   | (refine g_region ?_; refine run_ th rfl ?_)
   | (refine g_drawC mix rfl rfl ?_; refine drun_ th rfl ?_)
   | (refine g_drawEC mix rfl rfl ?_; refine erun_ th rfl ?_)
   | refine SOps.nil ?_
   | refine DOps.nil ?_
   | refine EOps.nil ?_ rfl rfl
   | (refine s_split rfl rfl (fun hb => ?_) (fun hb => ?_) <;> (try simp only [hbL] at hb) <;> first | (exfalso; omega) | refine run_ th rfl ?_)
   | (refine d_split rfl rfl rfl (fun hb => ?_) (fun hb => ?_) <;> (try simp only [hbL] at hb) <;> first | (exfalso; omega) | refine drun_ th rfl ?_)
   | (refine g_if rfl (fun hb => ?_) (fun hb => ?_) <;> (try simp only [hbL] at hb) <;> (try (exfalso; omega)))
   | refine g_endL th Try.func25 (.inr ⟨_, rfl⟩) rfl rfl rfl ?_ rfl
   | (refine s_call (sameTurns_c _ _) [] rfl rfl rfl rfl rfl rfl rfl rfl rfl rfl ?_; refine run_ th rfl ?_))
  
  all_goals exact le_ct (by simp [*])
end Go.Sy
