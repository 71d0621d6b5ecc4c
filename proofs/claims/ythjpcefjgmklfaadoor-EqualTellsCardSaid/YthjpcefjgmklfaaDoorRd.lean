/- Contracts of the reference: rows that are compared. -/
import Derived.Test.YthjpcefjgmklfaaDoorRc
import Derived.Test.YthjpcefjgmklfaaDoorQk
import Derived.Laws.StructEq
set_option linter.unusedSimpArgs false
set_option linter.unusedVariables false
set_option linter.unusedSectionVars false
namespace Go.Sy
open Go.Proofs Go.RowKit
set_option maxRecDepth 100000
attribute [local irreducible] SOps Goes DOps EOps

theorem eqQ_no {α : Type} {l m : List α} {k : Nat} (hl : k < l.length) (hm : k < m.length) (h : l[k] ≠ m[k]) : l ≠ m := by
  rintro rfl; exact h rfl
theorem eqQ_yes {α : Type} {l m : List α} (hlen : l.length = m.length) (h : ∀ i (h1 : i < l.length) (h2 : i < m.length), l[i] = m[i]) : l = m := List.ext_getElem hlen h

set_option maxHeartbeats 4000000 in
theorem sameNamesQ_c (l : List ByteArray) : Con Tryd.prog 22 [] [C1 (namesT l), C1 (namesT l)] (Rv (.bool true)) [] := by
  refine con_of (c := _) Tryd.func22 rfl rfl rfl (by decide) fun w M0 H Z => ?_
  refine g_len 0 rfl fun hll => ?_
  simp only [List.length_map] at hll
  repeat' (first
    | refine g_seq ?_
    | (refine g_region ?_; refine run_ th rfl ?_)
    | (refine g_drawC mix rfl rfl ?_; refine drun_ th rfl ?_)
    | (refine g_drawEC mix rfl rfl ?_; refine erun_ th rfl ?_)
    | refine SOps.nil ?_
    | refine DOps.nil ?_
    | refine EOps.nil ?_ rfl rfl
    | refine g_block ?_
    | refine g_inBlock ?_
    | refine g_skip ?_
    | refine g_exit rfl ?_
    | refine g_if_true rfl ?_
    | refine g_if_false rfl ?_
    | (refine s_split rfl rfl (fun hb => ?_) (fun hb => ?_) <;> (try simp only [decide_eq_true_eq, decide_eq_false_iff_not, Bool.not_eq_true', Bool.not_eq_false', Bool.not_eq_true, Bool.not_eq_false, Bool.not_true, Bool.not_false, Bool.false_eq_true, Bool.true_eq_false, reduceCtorEq, not_true_eq_false, not_false_eq_true, List.length_map] at hb) <;> first | (exfalso; omega) | refine run_ th rfl ?_)
    | (refine d_split rfl rfl rfl (fun hb => ?_) (fun hb => ?_) <;> (try simp only [decide_eq_true_eq, decide_eq_false_iff_not, Bool.not_eq_true', Bool.not_eq_false', Bool.not_eq_true, Bool.not_eq_false, Bool.not_true, Bool.not_false, Bool.false_eq_true, Bool.true_eq_false, reduceCtorEq, not_true_eq_false, not_false_eq_true, List.length_map] at hb) <;> first | (exfalso; omega) | refine drun_ th rfl ?_)
    | (refine g_if rfl (fun hb => ?_) (fun hb => ?_) <;> (try simp only [decide_eq_true_eq, decide_eq_false_iff_not, Bool.not_eq_true', Bool.not_eq_false', Bool.not_eq_true, Bool.not_eq_false, Bool.not_true, Bool.not_false, Bool.false_eq_true, Bool.true_eq_false, reduceCtorEq, not_true_eq_false, not_false_eq_true, List.length_map] at hb) <;> (try (exfalso; omega)))
    | (exfalso; revert hb; simp; done))
  refine g_loop1 (fun k : Nat => k ≤ l.length)
    (fun k => [(0, .v (C1 (namesT l))), (0 + 1, .v (C1 (namesT l))), (5, .v (C1 (.int .i64 (k : Int))))])
    (fun _ => []) (fun k => l.length - k) 0 (Nat.zero_le _)
    (fun a w h => h.sub (by exact ⟨⟨_, rfl, .refl _⟩, ⟨_, rfl, .refl _⟩, ⟨_, rfl, le_int rfl⟩, trivial⟩) (by exact trivial) rfl rfl rfl) (fun k hk ih => ?_)
  by_cases hlt : k < l.length
  · have hx : (l.map fun r => [CT.str r])[k]? = some [.str l[k]] := by simp [hlt]
    have hih := ih (k + 1) hlt (by omega)
    repeat' (first
      | refine g_seq ?_
      | (refine g_region ?_; refine run_ th rfl ?_)
      | (refine g_drawC mix rfl rfl ?_; refine drun_ th rfl ?_)
      | (refine g_drawEC mix rfl rfl ?_; refine erun_ th rfl ?_)
      | refine SOps.nil ?_
      | refine DOps.nil ?_
      | refine EOps.nil ?_ rfl rfl
      | refine g_block ?_
      | refine g_inBlock ?_
      | refine g_skip ?_
      | refine g_exit rfl ?_
      | refine g_if_true rfl ?_
      | refine g_if_false rfl ?_
      | (refine s_split rfl rfl (fun hb => ?_) (fun hb => ?_) <;> (try simp only [decide_eq_true_eq, decide_eq_false_iff_not, Bool.not_eq_true', Bool.not_eq_false', Bool.not_eq_true, Bool.not_eq_false, Bool.not_true, Bool.not_false, Bool.false_eq_true, Bool.true_eq_false, reduceCtorEq, not_true_eq_false, not_false_eq_true, List.length_map] at hb) <;> first | (exfalso; omega) | refine run_ th rfl ?_)
      | (refine d_split rfl rfl rfl (fun hb => ?_) (fun hb => ?_) <;> (try simp only [decide_eq_true_eq, decide_eq_false_iff_not, Bool.not_eq_true', Bool.not_eq_false', Bool.not_eq_true, Bool.not_eq_false, Bool.not_true, Bool.not_false, Bool.false_eq_true, Bool.true_eq_false, reduceCtorEq, not_true_eq_false, not_false_eq_true, List.length_map] at hb) <;> first | (exfalso; omega) | refine drun_ th rfl ?_)
      | (refine g_if rfl (fun hb => ?_) (fun hb => ?_) <;> (try simp only [decide_eq_true_eq, decide_eq_false_iff_not, Bool.not_eq_true', Bool.not_eq_false', Bool.not_eq_true, Bool.not_eq_false, Bool.not_true, Bool.not_false, Bool.false_eq_true, Bool.true_eq_false, reduceCtorEq, not_true_eq_false, not_false_eq_true, List.length_map] at hb) <;> (try (exfalso; omega)))
      | (refine d_idx th rfl rfl rfl rfl rfl rfl rfl rfl rfl k _ rfl hx ?_; refine drun_ th rfl ?_)
      | (refine s_add rfl rfl rfl rfl rfl rfl (by omega) ?_; refine run_ th rfl ?_)
      | (exfalso; revert hb; simp; done))
    all_goals exact g_sub (by exact ⟨⟨_, rfl, .refl _⟩, ⟨_, rfl, .refl _⟩, ⟨_, rfl, le_int (by omega)⟩, trivial⟩) (by exact trivial) rfl rfl rfl hih
  · skip
    repeat' (first
      | refine g_seq ?_
      | (refine g_region ?_; refine run_ th rfl ?_)
      | (refine g_drawC mix rfl rfl ?_; refine drun_ th rfl ?_)
      | (refine g_drawEC mix rfl rfl ?_; refine erun_ th rfl ?_)
      | refine SOps.nil ?_
      | refine DOps.nil ?_
      | refine EOps.nil ?_ rfl rfl
      | refine g_block ?_
      | refine g_inBlock ?_
      | refine g_skip ?_
      | refine g_exit rfl ?_
      | refine g_if_true rfl ?_
      | refine g_if_false rfl ?_
      | (refine s_split rfl rfl (fun hb => ?_) (fun hb => ?_) <;> (try simp only [decide_eq_true_eq, decide_eq_false_iff_not, Bool.not_eq_true', Bool.not_eq_false', Bool.not_eq_true, Bool.not_eq_false, Bool.not_true, Bool.not_false, Bool.false_eq_true, Bool.true_eq_false, reduceCtorEq, not_true_eq_false, not_false_eq_true, List.length_map] at hb) <;> first | (exfalso; omega) | refine run_ th rfl ?_)
      | (refine d_split rfl rfl rfl (fun hb => ?_) (fun hb => ?_) <;> (try simp only [decide_eq_true_eq, decide_eq_false_iff_not, Bool.not_eq_true', Bool.not_eq_false', Bool.not_eq_true, Bool.not_eq_false, Bool.not_true, Bool.not_false, Bool.false_eq_true, Bool.true_eq_false, reduceCtorEq, not_true_eq_false, not_false_eq_true, List.length_map] at hb) <;> first | (exfalso; omega) | refine drun_ th rfl ?_)
      | (refine g_if rfl (fun hb => ?_) (fun hb => ?_) <;> (try simp only [decide_eq_true_eq, decide_eq_false_iff_not, Bool.not_eq_true', Bool.not_eq_false', Bool.not_eq_true, Bool.not_eq_false, Bool.not_true, Bool.not_false, Bool.false_eq_true, Bool.true_eq_false, reduceCtorEq, not_true_eq_false, not_false_eq_true, List.length_map] at hb) <;> (try (exfalso; omega)))
      | refine g_endL th Tryd.func22 (.inr ⟨_, rfl⟩) rfl rfl rfl ?_ rfl)
    all_goals exact .refl _

set_option maxHeartbeats 4000000 in
theorem sameIntsL_c (l m : List Nat) : Con Tryd.prog 14 [] [C1 (natF l), C1 (natF m)] (Rv (.bool (decide (l = m)))) [] := by
  refine con_of (c := _) Tryd.func14 rfl rfl rfl (by decide) fun w M0 H Z => ?_
  refine g_len 0 rfl fun hll => ?_
  simp only [List.length_map] at hll
  by_cases hlen : l.length = m.length
  · have hlenI : ((natR l).length : Int) = ((natR m).length : Int) := by simp [hlen]
    repeat' (first
      | refine g_seq ?_
      | (refine g_region ?_; refine run_ th rfl ?_)
      | (refine g_drawC mix rfl rfl ?_; refine drun_ th rfl ?_)
      | (refine g_drawEC mix rfl rfl ?_; refine erun_ th rfl ?_)
      | refine SOps.nil ?_
      | refine DOps.nil ?_
      | refine EOps.nil ?_ rfl rfl
      | refine g_block ?_
      | refine g_inBlock ?_
      | refine g_skip ?_
      | refine g_exit rfl ?_
      | refine g_if_true rfl ?_
      | refine g_if_false rfl ?_
      | (refine s_split rfl rfl (fun hb => ?_) (fun hb => ?_) <;> (try simp only [decide_eq_true_eq, decide_eq_false_iff_not, Bool.not_eq_true', Bool.not_eq_false', Bool.not_eq_true, Bool.not_eq_false, Bool.not_true, Bool.not_false, Bool.false_eq_true, Bool.true_eq_false, reduceCtorEq, not_true_eq_false, not_false_eq_true, List.length_map] at hb) <;> first | (exfalso; omega) | refine run_ th rfl ?_)
      | (refine d_split rfl rfl rfl (fun hb => ?_) (fun hb => ?_) <;> (try simp only [decide_eq_true_eq, decide_eq_false_iff_not, Bool.not_eq_true', Bool.not_eq_false', Bool.not_eq_true, Bool.not_eq_false, Bool.not_true, Bool.not_false, Bool.false_eq_true, Bool.true_eq_false, reduceCtorEq, not_true_eq_false, not_false_eq_true, List.length_map] at hb) <;> first | (exfalso; omega) | refine drun_ th rfl ?_)
      | (refine g_if rfl (fun hb => ?_) (fun hb => ?_) <;> (try simp only [decide_eq_true_eq, decide_eq_false_iff_not, Bool.not_eq_true', Bool.not_eq_false', Bool.not_eq_true, Bool.not_eq_false, Bool.not_true, Bool.not_false, Bool.false_eq_true, Bool.true_eq_false, reduceCtorEq, not_true_eq_false, not_false_eq_true, List.length_map] at hb) <;> (try (exfalso; omega)))
      | (exfalso; revert hb; simp [hlen]; done))
    refine g_loop1 (fun k : Nat => k ≤ l.length ∧ ∀ i (h : i < k) (h1 : i < l.length) (h2 : i < m.length), l[i] = m[i])
      (fun k => [(0, .v (C1 (natF l))), (0 + 1, .v (C1 (natF m))), (5, .v (C1 (.int .i64 (k : Int))))])
      (fun _ => []) (fun k => l.length - k) 0 ⟨Nat.zero_le _, fun i h => by omega⟩
      (fun a w h => h.sub (by exact ⟨⟨_, rfl, .refl _⟩, ⟨_, rfl, .refl _⟩, ⟨_, rfl, le_int rfl⟩, trivial⟩) (by exact trivial) rfl rfl rfl) (fun k hk ih => ?_)
    obtain ⟨hk, ha⟩ := hk
    by_cases hlt : k < l.length
    · have hlt2 : k < m.length := by omega
      have hx := natR_at hlt
      have hy := natR_at hlt2
      repeat' (first
        | refine g_seq ?_
        | (refine g_region ?_; refine run_ th rfl ?_)
        | (refine g_drawC mix rfl rfl ?_; refine drun_ th rfl ?_)
        | (refine g_drawEC mix rfl rfl ?_; refine erun_ th rfl ?_)
        | refine SOps.nil ?_
        | refine DOps.nil ?_
        | refine EOps.nil ?_ rfl rfl
        | refine g_block ?_
        | refine g_inBlock ?_
        | refine g_skip ?_
        | refine g_exit rfl ?_
        | refine g_if_true rfl ?_
        | refine g_if_false rfl ?_
        | (refine s_split rfl rfl (fun hb => ?_) (fun hb => ?_) <;> (try simp only [decide_eq_true_eq, decide_eq_false_iff_not, Bool.not_eq_true', Bool.not_eq_false', Bool.not_eq_true, Bool.not_eq_false, Bool.not_true, Bool.not_false, Bool.false_eq_true, Bool.true_eq_false, reduceCtorEq, not_true_eq_false, not_false_eq_true, List.length_map] at hb) <;> first | (exfalso; omega) | refine run_ th rfl ?_)
        | (refine d_split rfl rfl rfl (fun hb => ?_) (fun hb => ?_) <;> (try simp only [decide_eq_true_eq, decide_eq_false_iff_not, Bool.not_eq_true', Bool.not_eq_false', Bool.not_eq_true, Bool.not_eq_false, Bool.not_true, Bool.not_false, Bool.false_eq_true, Bool.true_eq_false, reduceCtorEq, not_true_eq_false, not_false_eq_true, List.length_map] at hb) <;> first | (exfalso; omega) | refine drun_ th rfl ?_)
        | (refine g_if rfl (fun hb => ?_) (fun hb => ?_) <;> (try simp only [decide_eq_true_eq, decide_eq_false_iff_not, Bool.not_eq_true', Bool.not_eq_false', Bool.not_eq_true, Bool.not_eq_false, Bool.not_true, Bool.not_false, Bool.false_eq_true, Bool.true_eq_false, reduceCtorEq, not_true_eq_false, not_false_eq_true, List.length_map] at hb) <;> (try (exfalso; omega)))
        | refine g_endL th Tryd.func14 (.inr ⟨_, rfl⟩) rfl rfl rfl ?_ rfl
        | (refine d_idx th rfl rfl rfl rfl rfl rfl rfl rfl rfl k _ rfl hx ?_; refine drun_ th rfl ?_)
        | (refine d_idx th rfl rfl rfl rfl rfl rfl rfl rfl rfl k _ rfl hy ?_; refine drun_ th rfl ?_)
        | (refine s_add rfl rfl rfl rfl rfl rfl (by omega) ?_; refine run_ th rfl ?_)
        | (exfalso; revert hb; simp; done))
      all_goals first
        | (have hne : l ≠ m := eqQ_no hlt hlt2 (by omega)
           rw [show decide (l = m) = false by simpa using hne]; exact .refl _)
        | exact g_sub (by exact ⟨⟨_, rfl, .refl _⟩, ⟨_, rfl, .refl _⟩, ⟨_, rfl, le_int (by omega)⟩, trivial⟩) (by exact trivial) rfl rfl rfl (ih (k + 1) ⟨hlt, fun i h h1 h2 => by
            by_cases hik : i = k
            · subst hik; omega
            · exact ha i (by omega) h1 h2⟩ (by omega))
    · have he : l = m := eqQ_yes hlen fun i h1 h2 => ha i (by omega) h1 h2
      repeat' (first
        | refine g_seq ?_
        | (refine g_region ?_; refine run_ th rfl ?_)
        | (refine g_drawC mix rfl rfl ?_; refine drun_ th rfl ?_)
        | (refine g_drawEC mix rfl rfl ?_; refine erun_ th rfl ?_)
        | refine SOps.nil ?_
        | refine DOps.nil ?_
        | refine EOps.nil ?_ rfl rfl
        | refine g_block ?_
        | refine g_inBlock ?_
        | refine g_skip ?_
        | refine g_exit rfl ?_
        | refine g_if_true rfl ?_
        | refine g_if_false rfl ?_
        | (refine s_split rfl rfl (fun hb => ?_) (fun hb => ?_) <;> (try simp only [decide_eq_true_eq, decide_eq_false_iff_not, Bool.not_eq_true', Bool.not_eq_false', Bool.not_eq_true, Bool.not_eq_false, Bool.not_true, Bool.not_false, Bool.false_eq_true, Bool.true_eq_false, reduceCtorEq, not_true_eq_false, not_false_eq_true, List.length_map] at hb) <;> first | (exfalso; omega) | refine run_ th rfl ?_)
        | (refine d_split rfl rfl rfl (fun hb => ?_) (fun hb => ?_) <;> (try simp only [decide_eq_true_eq, decide_eq_false_iff_not, Bool.not_eq_true', Bool.not_eq_false', Bool.not_eq_true, Bool.not_eq_false, Bool.not_true, Bool.not_false, Bool.false_eq_true, Bool.true_eq_false, reduceCtorEq, not_true_eq_false, not_false_eq_true, List.length_map] at hb) <;> first | (exfalso; omega) | refine drun_ th rfl ?_)
        | (refine g_if rfl (fun hb => ?_) (fun hb => ?_) <;> (try simp only [decide_eq_true_eq, decide_eq_false_iff_not, Bool.not_eq_true', Bool.not_eq_false', Bool.not_eq_true, Bool.not_eq_false, Bool.not_true, Bool.not_false, Bool.false_eq_true, Bool.true_eq_false, reduceCtorEq, not_true_eq_false, not_false_eq_true, List.length_map] at hb) <;> (try (exfalso; omega)))
        | refine g_endL th Tryd.func14 (.inr ⟨_, rfl⟩) rfl rfl rfl ?_ rfl)
      rw [show decide (l = m) = true by simpa using he]; exact .refl _
  · have hne : l ≠ m := fun e => hlen (by rw [e])
    rw [show decide (l = m) = false by simpa using hne]
    repeat' (first
      | refine g_seq ?_
      | (refine g_region ?_; refine run_ th rfl ?_)
      | (refine g_drawC mix rfl rfl ?_; refine drun_ th rfl ?_)
      | (refine g_drawEC mix rfl rfl ?_; refine erun_ th rfl ?_)
      | refine SOps.nil ?_
      | refine DOps.nil ?_
      | refine EOps.nil ?_ rfl rfl
      | refine g_block ?_
      | refine g_inBlock ?_
      | refine g_skip ?_
      | refine g_exit rfl ?_
      | refine g_if_true rfl ?_
      | refine g_if_false rfl ?_
      | (refine s_split rfl rfl (fun hb => ?_) (fun hb => ?_) <;> (try simp only [decide_eq_true_eq, decide_eq_false_iff_not, Bool.not_eq_true', Bool.not_eq_false', Bool.not_eq_true, Bool.not_eq_false, Bool.not_true, Bool.not_false, Bool.false_eq_true, Bool.true_eq_false, reduceCtorEq, not_true_eq_false, not_false_eq_true, List.length_map] at hb) <;> first | (exfalso; omega) | refine run_ th rfl ?_)
      | (refine d_split rfl rfl rfl (fun hb => ?_) (fun hb => ?_) <;> (try simp only [decide_eq_true_eq, decide_eq_false_iff_not, Bool.not_eq_true', Bool.not_eq_false', Bool.not_eq_true, Bool.not_eq_false, Bool.not_true, Bool.not_false, Bool.false_eq_true, Bool.true_eq_false, reduceCtorEq, not_true_eq_false, not_false_eq_true, List.length_map] at hb) <;> first | (exfalso; omega) | refine drun_ th rfl ?_)
      | (refine g_if rfl (fun hb => ?_) (fun hb => ?_) <;> (try simp only [decide_eq_true_eq, decide_eq_false_iff_not, Bool.not_eq_true', Bool.not_eq_false', Bool.not_eq_true, Bool.not_eq_false, Bool.not_true, Bool.not_false, Bool.false_eq_true, Bool.true_eq_false, reduceCtorEq, not_true_eq_false, not_false_eq_true, List.length_map] at hb) <;> (try (exfalso; omega)))
      | refine g_endL th Tryd.func14 (.inr ⟨_, rfl⟩) rfl rfl rfl ?_ rfl
      | (exfalso; revert hb; simp [hlen]; done))
    all_goals first
      | exact .refl _
      | (exfalso; simp only [List.length_map] at *; omega)
set_option maxHeartbeats 4000000 in
theorem sameIntsR_c (l m : List Nat) : Con Tryd.prog 33 [] [C1 (natF l), C1 (natF m)] (Rv (.bool (decide (l = m)))) [] := by
  refine con_of (c := _) Tryd.func33 rfl rfl rfl (by decide) fun w M0 H Z => ?_
  refine g_len 0 rfl fun hll => ?_
  simp only [List.length_map] at hll
  by_cases hlen : l.length = m.length
  · have hlenI : ((natR l).length : Int) = ((natR m).length : Int) := by simp [hlen]
    repeat' (first
      | refine g_seq ?_
      | (refine g_region ?_; refine run_ th rfl ?_)
      | (refine g_drawC mix rfl rfl ?_; refine drun_ th rfl ?_)
      | (refine g_drawEC mix rfl rfl ?_; refine erun_ th rfl ?_)
      | refine SOps.nil ?_
      | refine DOps.nil ?_
      | refine EOps.nil ?_ rfl rfl
      | refine g_block ?_
      | refine g_inBlock ?_
      | refine g_skip ?_
      | refine g_exit rfl ?_
      | refine g_if_true rfl ?_
      | refine g_if_false rfl ?_
      | (refine s_split rfl rfl (fun hb => ?_) (fun hb => ?_) <;> (try simp only [decide_eq_true_eq, decide_eq_false_iff_not, Bool.not_eq_true', Bool.not_eq_false', Bool.not_eq_true, Bool.not_eq_false, Bool.not_true, Bool.not_false, Bool.false_eq_true, Bool.true_eq_false, reduceCtorEq, not_true_eq_false, not_false_eq_true, List.length_map] at hb) <;> first | (exfalso; omega) | refine run_ th rfl ?_)
      | (refine d_split rfl rfl rfl (fun hb => ?_) (fun hb => ?_) <;> (try simp only [decide_eq_true_eq, decide_eq_false_iff_not, Bool.not_eq_true', Bool.not_eq_false', Bool.not_eq_true, Bool.not_eq_false, Bool.not_true, Bool.not_false, Bool.false_eq_true, Bool.true_eq_false, reduceCtorEq, not_true_eq_false, not_false_eq_true, List.length_map] at hb) <;> first | (exfalso; omega) | refine drun_ th rfl ?_)
      | (refine g_if rfl (fun hb => ?_) (fun hb => ?_) <;> (try simp only [decide_eq_true_eq, decide_eq_false_iff_not, Bool.not_eq_true', Bool.not_eq_false', Bool.not_eq_true, Bool.not_eq_false, Bool.not_true, Bool.not_false, Bool.false_eq_true, Bool.true_eq_false, reduceCtorEq, not_true_eq_false, not_false_eq_true, List.length_map] at hb) <;> (try (exfalso; omega)))
      | (exfalso; revert hb; simp [hlen]; done))
    refine g_loop1 (fun k : Nat => k ≤ l.length ∧ ∀ i (h : i < k) (h1 : i < l.length) (h2 : i < m.length), l[i] = m[i])
      (fun k => [(0, .v (C1 (natF l))), (0 + 1, .v (C1 (natF m))), (5, .v (C1 (.int .i64 (k : Int))))])
      (fun _ => []) (fun k => l.length - k) 0 ⟨Nat.zero_le _, fun i h => by omega⟩
      (fun a w h => h.sub (by exact ⟨⟨_, rfl, .refl _⟩, ⟨_, rfl, .refl _⟩, ⟨_, rfl, le_int rfl⟩, trivial⟩) (by exact trivial) rfl rfl rfl) (fun k hk ih => ?_)
    obtain ⟨hk, ha⟩ := hk
    by_cases hlt : k < l.length
    · have hlt2 : k < m.length := by omega
      have hx := natR_at hlt
      have hy := natR_at hlt2
      repeat' (first
        | refine g_seq ?_
        | (refine g_region ?_; refine run_ th rfl ?_)
        | (refine g_drawC mix rfl rfl ?_; refine drun_ th rfl ?_)
        | (refine g_drawEC mix rfl rfl ?_; refine erun_ th rfl ?_)
        | refine SOps.nil ?_
        | refine DOps.nil ?_
        | refine EOps.nil ?_ rfl rfl
        | refine g_block ?_
        | refine g_inBlock ?_
        | refine g_skip ?_
        | refine g_exit rfl ?_
        | refine g_if_true rfl ?_
        | refine g_if_false rfl ?_
        | (refine s_split rfl rfl (fun hb => ?_) (fun hb => ?_) <;> (try simp only [decide_eq_true_eq, decide_eq_false_iff_not, Bool.not_eq_true', Bool.not_eq_false', Bool.not_eq_true, Bool.not_eq_false, Bool.not_true, Bool.not_false, Bool.false_eq_true, Bool.true_eq_false, reduceCtorEq, not_true_eq_false, not_false_eq_true, List.length_map] at hb) <;> first | (exfalso; omega) | refine run_ th rfl ?_)
        | (refine d_split rfl rfl rfl (fun hb => ?_) (fun hb => ?_) <;> (try simp only [decide_eq_true_eq, decide_eq_false_iff_not, Bool.not_eq_true', Bool.not_eq_false', Bool.not_eq_true, Bool.not_eq_false, Bool.not_true, Bool.not_false, Bool.false_eq_true, Bool.true_eq_false, reduceCtorEq, not_true_eq_false, not_false_eq_true, List.length_map] at hb) <;> first | (exfalso; omega) | refine drun_ th rfl ?_)
        | (refine g_if rfl (fun hb => ?_) (fun hb => ?_) <;> (try simp only [decide_eq_true_eq, decide_eq_false_iff_not, Bool.not_eq_true', Bool.not_eq_false', Bool.not_eq_true, Bool.not_eq_false, Bool.not_true, Bool.not_false, Bool.false_eq_true, Bool.true_eq_false, reduceCtorEq, not_true_eq_false, not_false_eq_true, List.length_map] at hb) <;> (try (exfalso; omega)))
        | refine g_endL th Tryd.func33 (.inr ⟨_, rfl⟩) rfl rfl rfl ?_ rfl
        | (refine d_idx th rfl rfl rfl rfl rfl rfl rfl rfl rfl k _ rfl hx ?_; refine drun_ th rfl ?_)
        | (refine d_idx th rfl rfl rfl rfl rfl rfl rfl rfl rfl k _ rfl hy ?_; refine drun_ th rfl ?_)
        | (refine s_add rfl rfl rfl rfl rfl rfl (by omega) ?_; refine run_ th rfl ?_)
        | (exfalso; revert hb; simp; done))
      all_goals first
        | (have hne : l ≠ m := eqQ_no hlt hlt2 (by omega)
           rw [show decide (l = m) = false by simpa using hne]; exact .refl _)
        | exact g_sub (by exact ⟨⟨_, rfl, .refl _⟩, ⟨_, rfl, .refl _⟩, ⟨_, rfl, le_int (by omega)⟩, trivial⟩) (by exact trivial) rfl rfl rfl (ih (k + 1) ⟨hlt, fun i h h1 h2 => by
            by_cases hik : i = k
            · subst hik; omega
            · exact ha i (by omega) h1 h2⟩ (by omega))
    · have he : l = m := eqQ_yes hlen fun i h1 h2 => ha i (by omega) h1 h2
      repeat' (first
        | refine g_seq ?_
        | (refine g_region ?_; refine run_ th rfl ?_)
        | (refine g_drawC mix rfl rfl ?_; refine drun_ th rfl ?_)
        | (refine g_drawEC mix rfl rfl ?_; refine erun_ th rfl ?_)
        | refine SOps.nil ?_
        | refine DOps.nil ?_
        | refine EOps.nil ?_ rfl rfl
        | refine g_block ?_
        | refine g_inBlock ?_
        | refine g_skip ?_
        | refine g_exit rfl ?_
        | refine g_if_true rfl ?_
        | refine g_if_false rfl ?_
        | (refine s_split rfl rfl (fun hb => ?_) (fun hb => ?_) <;> (try simp only [decide_eq_true_eq, decide_eq_false_iff_not, Bool.not_eq_true', Bool.not_eq_false', Bool.not_eq_true, Bool.not_eq_false, Bool.not_true, Bool.not_false, Bool.false_eq_true, Bool.true_eq_false, reduceCtorEq, not_true_eq_false, not_false_eq_true, List.length_map] at hb) <;> first | (exfalso; omega) | refine run_ th rfl ?_)
        | (refine d_split rfl rfl rfl (fun hb => ?_) (fun hb => ?_) <;> (try simp only [decide_eq_true_eq, decide_eq_false_iff_not, Bool.not_eq_true', Bool.not_eq_false', Bool.not_eq_true, Bool.not_eq_false, Bool.not_true, Bool.not_false, Bool.false_eq_true, Bool.true_eq_false, reduceCtorEq, not_true_eq_false, not_false_eq_true, List.length_map] at hb) <;> first | (exfalso; omega) | refine drun_ th rfl ?_)
        | (refine g_if rfl (fun hb => ?_) (fun hb => ?_) <;> (try simp only [decide_eq_true_eq, decide_eq_false_iff_not, Bool.not_eq_true', Bool.not_eq_false', Bool.not_eq_true, Bool.not_eq_false, Bool.not_true, Bool.not_false, Bool.false_eq_true, Bool.true_eq_false, reduceCtorEq, not_true_eq_false, not_false_eq_true, List.length_map] at hb) <;> (try (exfalso; omega)))
        | refine g_endL th Tryd.func33 (.inr ⟨_, rfl⟩) rfl rfl rfl ?_ rfl)
      rw [show decide (l = m) = true by simpa using he]; exact .refl _
  · have hne : l ≠ m := fun e => hlen (by rw [e])
    rw [show decide (l = m) = false by simpa using hne]
    repeat' (first
      | refine g_seq ?_
      | (refine g_region ?_; refine run_ th rfl ?_)
      | (refine g_drawC mix rfl rfl ?_; refine drun_ th rfl ?_)
      | (refine g_drawEC mix rfl rfl ?_; refine erun_ th rfl ?_)
      | refine SOps.nil ?_
      | refine DOps.nil ?_
      | refine EOps.nil ?_ rfl rfl
      | refine g_block ?_
      | refine g_inBlock ?_
      | refine g_skip ?_
      | refine g_exit rfl ?_
      | refine g_if_true rfl ?_
      | refine g_if_false rfl ?_
      | (refine s_split rfl rfl (fun hb => ?_) (fun hb => ?_) <;> (try simp only [decide_eq_true_eq, decide_eq_false_iff_not, Bool.not_eq_true', Bool.not_eq_false', Bool.not_eq_true, Bool.not_eq_false, Bool.not_true, Bool.not_false, Bool.false_eq_true, Bool.true_eq_false, reduceCtorEq, not_true_eq_false, not_false_eq_true, List.length_map] at hb) <;> first | (exfalso; omega) | refine run_ th rfl ?_)
      | (refine d_split rfl rfl rfl (fun hb => ?_) (fun hb => ?_) <;> (try simp only [decide_eq_true_eq, decide_eq_false_iff_not, Bool.not_eq_true', Bool.not_eq_false', Bool.not_eq_true, Bool.not_eq_false, Bool.not_true, Bool.not_false, Bool.false_eq_true, Bool.true_eq_false, reduceCtorEq, not_true_eq_false, not_false_eq_true, List.length_map] at hb) <;> first | (exfalso; omega) | refine drun_ th rfl ?_)
      | (refine g_if rfl (fun hb => ?_) (fun hb => ?_) <;> (try simp only [decide_eq_true_eq, decide_eq_false_iff_not, Bool.not_eq_true', Bool.not_eq_false', Bool.not_eq_true, Bool.not_eq_false, Bool.not_true, Bool.not_false, Bool.false_eq_true, Bool.true_eq_false, reduceCtorEq, not_true_eq_false, not_false_eq_true, List.length_map] at hb) <;> (try (exfalso; omega)))
      | refine g_endL th Tryd.func33 (.inr ⟨_, rfl⟩) rfl rfl rfl ?_ rfl
      | (exfalso; revert hb; simp [hlen]; done))
    all_goals first
      | exact .refl _
      | (exfalso; simp only [List.length_map] at *; omega)
set_option maxHeartbeats 4000000 in
theorem sameIntsZ_c (l : List Int) : Con Tryd.prog 33 [] [C1 (intsT l), C1 (intsT l)] (Rv (.bool true)) [] := by
  refine con_of (c := _) Tryd.func33 rfl rfl rfl (by decide) fun w M0 H Z => ?_
  refine g_len 0 rfl fun hll => ?_
  simp only [List.length_map] at hll
  repeat' (first
    | refine g_seq ?_
    | (refine g_region ?_; refine run_ th rfl ?_)
    | (refine g_drawC mix rfl rfl ?_; refine drun_ th rfl ?_)
    | (refine g_drawEC mix rfl rfl ?_; refine erun_ th rfl ?_)
    | refine SOps.nil ?_
    | refine DOps.nil ?_
    | refine EOps.nil ?_ rfl rfl
    | refine g_block ?_
    | refine g_inBlock ?_
    | refine g_skip ?_
    | refine g_exit rfl ?_
    | refine g_if_true rfl ?_
    | refine g_if_false rfl ?_
    | (refine s_split rfl rfl (fun hb => ?_) (fun hb => ?_) <;> (try simp only [decide_eq_true_eq, decide_eq_false_iff_not, Bool.not_eq_true', Bool.not_eq_false', Bool.not_eq_true, Bool.not_eq_false, Bool.not_true, Bool.not_false, Bool.false_eq_true, Bool.true_eq_false, reduceCtorEq, not_true_eq_false, not_false_eq_true, List.length_map] at hb) <;> first | (exfalso; omega) | refine run_ th rfl ?_)
    | (refine d_split rfl rfl rfl (fun hb => ?_) (fun hb => ?_) <;> (try simp only [decide_eq_true_eq, decide_eq_false_iff_not, Bool.not_eq_true', Bool.not_eq_false', Bool.not_eq_true, Bool.not_eq_false, Bool.not_true, Bool.not_false, Bool.false_eq_true, Bool.true_eq_false, reduceCtorEq, not_true_eq_false, not_false_eq_true, List.length_map] at hb) <;> first | (exfalso; omega) | refine drun_ th rfl ?_)
    | (refine g_if rfl (fun hb => ?_) (fun hb => ?_) <;> (try simp only [decide_eq_true_eq, decide_eq_false_iff_not, Bool.not_eq_true', Bool.not_eq_false', Bool.not_eq_true, Bool.not_eq_false, Bool.not_true, Bool.not_false, Bool.false_eq_true, Bool.true_eq_false, reduceCtorEq, not_true_eq_false, not_false_eq_true, List.length_map] at hb) <;> (try (exfalso; omega)))
    | (exfalso; revert hb; simp; done))
  refine g_loop1 (fun k : Nat => k ≤ l.length)
    (fun k => [(0, .v (C1 (intsT l))), (0 + 1, .v (C1 (intsT l))), (5, .v (C1 (.int .i64 (k : Int))))])
    (fun _ => []) (fun k => l.length - k) 0 (Nat.zero_le _)
    (fun a w h => h.sub (by exact ⟨⟨_, rfl, .refl _⟩, ⟨_, rfl, .refl _⟩, ⟨_, rfl, le_int rfl⟩, trivial⟩) (by exact trivial) rfl rfl rfl) (fun k hk ih => ?_)
  by_cases hlt : k < l.length
  · have hx : (l.map fun r => [CT.int .i64 r])[k]? = some [.int .i64 l[k]] := by simp [hlt]
    have hih := ih (k + 1) hlt (by omega)
    repeat' (first
      | refine g_seq ?_
      | (refine g_region ?_; refine run_ th rfl ?_)
      | (refine g_drawC mix rfl rfl ?_; refine drun_ th rfl ?_)
      | (refine g_drawEC mix rfl rfl ?_; refine erun_ th rfl ?_)
      | refine SOps.nil ?_
      | refine DOps.nil ?_
      | refine EOps.nil ?_ rfl rfl
      | refine g_block ?_
      | refine g_inBlock ?_
      | refine g_skip ?_
      | refine g_exit rfl ?_
      | refine g_if_true rfl ?_
      | refine g_if_false rfl ?_
      | (refine s_split rfl rfl (fun hb => ?_) (fun hb => ?_) <;> (try simp only [decide_eq_true_eq, decide_eq_false_iff_not, Bool.not_eq_true', Bool.not_eq_false', Bool.not_eq_true, Bool.not_eq_false, Bool.not_true, Bool.not_false, Bool.false_eq_true, Bool.true_eq_false, reduceCtorEq, not_true_eq_false, not_false_eq_true, List.length_map] at hb) <;> first | (exfalso; omega) | refine run_ th rfl ?_)
      | (refine d_split rfl rfl rfl (fun hb => ?_) (fun hb => ?_) <;> (try simp only [decide_eq_true_eq, decide_eq_false_iff_not, Bool.not_eq_true', Bool.not_eq_false', Bool.not_eq_true, Bool.not_eq_false, Bool.not_true, Bool.not_false, Bool.false_eq_true, Bool.true_eq_false, reduceCtorEq, not_true_eq_false, not_false_eq_true, List.length_map] at hb) <;> first | (exfalso; omega) | refine drun_ th rfl ?_)
      | (refine g_if rfl (fun hb => ?_) (fun hb => ?_) <;> (try simp only [decide_eq_true_eq, decide_eq_false_iff_not, Bool.not_eq_true', Bool.not_eq_false', Bool.not_eq_true, Bool.not_eq_false, Bool.not_true, Bool.not_false, Bool.false_eq_true, Bool.true_eq_false, reduceCtorEq, not_true_eq_false, not_false_eq_true, List.length_map] at hb) <;> (try (exfalso; omega)))
      | (refine d_idx th rfl rfl rfl rfl rfl rfl rfl rfl rfl k _ rfl hx ?_; refine drun_ th rfl ?_)
      | (refine s_add rfl rfl rfl rfl rfl rfl (by omega) ?_; refine run_ th rfl ?_)
      | (exfalso; revert hb; simp; done))
    all_goals exact g_sub (by exact ⟨⟨_, rfl, .refl _⟩, ⟨_, rfl, .refl _⟩, ⟨_, rfl, le_int (by omega)⟩, trivial⟩) (by exact trivial) rfl rfl rfl hih
  · skip
    repeat' (first
      | refine g_seq ?_
      | (refine g_region ?_; refine run_ th rfl ?_)
      | (refine g_drawC mix rfl rfl ?_; refine drun_ th rfl ?_)
      | (refine g_drawEC mix rfl rfl ?_; refine erun_ th rfl ?_)
      | refine SOps.nil ?_
      | refine DOps.nil ?_
      | refine EOps.nil ?_ rfl rfl
      | refine g_block ?_
      | refine g_inBlock ?_
      | refine g_skip ?_
      | refine g_exit rfl ?_
      | refine g_if_true rfl ?_
      | refine g_if_false rfl ?_
      | (refine s_split rfl rfl (fun hb => ?_) (fun hb => ?_) <;> (try simp only [decide_eq_true_eq, decide_eq_false_iff_not, Bool.not_eq_true', Bool.not_eq_false', Bool.not_eq_true, Bool.not_eq_false, Bool.not_true, Bool.not_false, Bool.false_eq_true, Bool.true_eq_false, reduceCtorEq, not_true_eq_false, not_false_eq_true, List.length_map] at hb) <;> first | (exfalso; omega) | refine run_ th rfl ?_)
      | (refine d_split rfl rfl rfl (fun hb => ?_) (fun hb => ?_) <;> (try simp only [decide_eq_true_eq, decide_eq_false_iff_not, Bool.not_eq_true', Bool.not_eq_false', Bool.not_eq_true, Bool.not_eq_false, Bool.not_true, Bool.not_false, Bool.false_eq_true, Bool.true_eq_false, reduceCtorEq, not_true_eq_false, not_false_eq_true, List.length_map] at hb) <;> first | (exfalso; omega) | refine drun_ th rfl ?_)
      | (refine g_if rfl (fun hb => ?_) (fun hb => ?_) <;> (try simp only [decide_eq_true_eq, decide_eq_false_iff_not, Bool.not_eq_true', Bool.not_eq_false', Bool.not_eq_true, Bool.not_eq_false, Bool.not_true, Bool.not_false, Bool.false_eq_true, Bool.true_eq_false, reduceCtorEq, not_true_eq_false, not_false_eq_true, List.length_map] at hb) <;> (try (exfalso; omega)))
      | refine g_endL th Tryd.func33 (.inr ⟨_, rfl⟩) rfl rfl rfl ?_ rfl)
    all_goals exact .refl _
end Go.Sy
