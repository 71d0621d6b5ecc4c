/- Contracts: a valid book. -/
import Derived.Test.YthjpcefjgmklfaaDoorFc
import Derived.Test.YthjpcefjgmklfaaDoorSy3
set_option linter.unusedSimpArgs false
set_option linter.unusedVariables false
set_option linter.unusedSectionVars false
namespace Go.Sy
open Go.Proofs
set_option maxRecDepth 100000
attribute [local irreducible] SOps Goes DOps

def rootAt (b : Bk) (i : Nat) : Bool :=
  match b.roots[i]? with
  | none => true
  | some r => decide (0 ≤ r) && (decide (r < (b.nodes.length : Int)) && (match i with | 0 => true | j + 1 => (match b.names[j]?, b.names[j + 1]? with | some p, some q => sLt p q | _, _ => true)))
/-- A valid book (P9.1). -/
def bookB (b : Bk) : Bool :=
  decide (b.nodes.length ≤ 400) && (decide (b.names.length = b.roots.length) && ((List.range b.roots.length).all (rootAt b) && b.nodes.all (nodeB b.nodes.length)))

theorem rootAt_zero {b : Bk} (h : 0 < b.roots.length) : rootAt b 0 = (decide (0 ≤ b.roots[0]) && decide (b.roots[0] < (b.nodes.length : Int))) := by simp [rootAt, h]
theorem rootAt_succ {b : Bk} {j : Nat} (h : j + 1 < b.roots.length) (hn : j + 1 < b.names.length) :
    rootAt b (j + 1) = (decide (0 ≤ b.roots[j + 1]) && (decide (b.roots[j + 1] < (b.nodes.length : Int)) && sLt b.names[j] b.names[j + 1])) := by
  simp [rootAt, h, hn, show j < b.names.length by omega]
theorem bookB_root {b : Bk} {k : Nat} (hk : k < b.roots.length) (h : rootAt b k = false) : bookB b = false := by
  have : (List.range b.roots.length).all (rootAt b) = false := List.all_eq_false.2 ⟨k, List.mem_range.2 hk, by simp [h]⟩
  simp [bookB, this]
theorem bookB_node {b : Bk} {k : Nat} (hk : k < b.nodes.length) (h : nodeB b.nodes.length b.nodes[k] = false) : bookB b = false := by
  have : b.nodes.all (nodeB b.nodes.length) = false := List.all_eq_false.2 ⟨b.nodes[k], List.getElem_mem hk, by simp [h]⟩
  simp [bookB, this]

set_option maxHeartbeats 4000000 in
theorem bookmay_c (b : Bk) : Con Tryd.prog 21 [] [Ag b.cs] (Rv (.bool (bookB b))) [] := by
  obtain ⟨nodes, names, roots⟩ := b
  refine con_of (c := _) Tryd.func21 rfl rfl rfl (by decide) fun w M0 H Z => ?_
  repeat' (first
    | refine g_seq ?_
    | (refine g_region ?_; refine run_ th rfl ?_)
    | (refine g_drawC mix rfl rfl ?_; refine drun_ th rfl ?_)
    | (refine g_drawEC mix rfl rfl ?_; refine erun_ th rfl ?_)
    | refine SOps.nil ?_
    | refine DOps.nil ?_
    | refine EOps.nil ?_ rfl rfl
    | refine g_block ?_
    | refine g_inBlock ?_
    | refine g_skip ?_
    | refine g_exit rfl ?_
    | refine g_if_true rfl ?_
    | refine g_if_false rfl ?_
    | (refine s_split rfl rfl (fun hb => ?_) (fun hb => ?_) <;> (try simp only [decide_eq_true_eq, decide_eq_false_iff_not, Bool.not_eq_true', Bool.not_eq_false', Bool.not_eq_true, Bool.not_eq_false, Bool.not_true, Bool.not_false, Bool.false_eq_true, Bool.true_eq_false, reduceCtorEq, not_true_eq_false, not_false_eq_true, List.length_map] at hb) <;> first | (exfalso; omega) | refine run_ th rfl ?_)
    | (refine d_split rfl rfl rfl (fun hb => ?_) (fun hb => ?_) <;> (try simp only [decide_eq_true_eq, decide_eq_false_iff_not, Bool.not_eq_true', Bool.not_eq_false', Bool.not_eq_true, Bool.not_eq_false, Bool.not_true, Bool.not_false, Bool.false_eq_true, Bool.true_eq_false, reduceCtorEq, not_true_eq_false, not_false_eq_true, List.length_map] at hb) <;> first | (exfalso; omega) | refine drun_ th rfl ?_)
    | (refine g_if rfl (fun hb => ?_) (fun hb => ?_) <;> (try simp only [decide_eq_true_eq, decide_eq_false_iff_not, Bool.not_eq_true', Bool.not_eq_false', Bool.not_eq_true, Bool.not_eq_false, Bool.not_true, Bool.not_false, Bool.false_eq_true, Bool.true_eq_false, reduceCtorEq, not_true_eq_false, not_false_eq_true, List.length_map] at hb) <;> (try (exfalso; omega)))
    | refine g_end th Tryd.func21 (.inr ⟨_, rfl⟩) rfl rfl rfl ⟨?_, rfl⟩)
  all_goals try simp only [List.length_map] at *
  · have : ¬ nodes.length ≤ 400 := by omega
    simp [packS, bookB, this]
  · simp [packS, bookB, *]; omega
  · have h400 : nodes.length ≤ 400 := by omega
    have hnr : names.length = roots.length := by omega
    refine g_len 21 rfl fun hrl => ?_
    simp only [List.length_map] at hrl
    refine g_loop1 (fun k : Nat => k ≤ roots.length ∧ (List.range k).all (rootAt ⟨nodes, names, roots⟩) = true)
      (fun k => [(1, .v (.one (.ptr 1 0))), (21, .v (C1 (intsT roots))), (22, .v (C1 (.int .i64 (roots.length : Int)))), (23, .v (C1 (.int .i64 (k : Int))))])
      (fun _ => [(1, .box [.c (nodesT nodes), .c (namesT names), .c (intsT roots)])]) (fun k => roots.length - k) 0 ⟨Nat.zero_le _, rfl⟩
      (fun a w h => h.sub (by exact ⟨⟨_, rfl, .refl _⟩, ⟨_, rfl, .refl _⟩, ⟨_, rfl, le_int (by simp)⟩, ⟨_, rfl, le_int rfl⟩, trivial⟩) (by exact ⟨⟨_, rfl, .refl _⟩, trivial⟩) rfl rfl rfl) (fun k hk ih => ?_)
    obtain ⟨hk, hok⟩ := hk
    by_cases hlt : k < roots.length
    · have hx : (roots.map fun r => [CT.int .i64 r])[k]? = some [.int .i64 roots[k]] := by simp [hlt]
      cases k with
      | zero =>
        repeat' (first
          | refine g_seq ?_
          | (refine g_region ?_; refine run_ th rfl ?_)
          | (refine g_drawC mix rfl rfl ?_; refine drun_ th rfl ?_)
          | (refine g_drawEC mix rfl rfl ?_; refine erun_ th rfl ?_)
          | refine SOps.nil ?_
          | refine DOps.nil ?_
          | refine EOps.nil ?_ rfl rfl
          | refine g_block ?_
          | refine g_inBlock ?_
          | refine g_skip ?_
          | refine g_exit rfl ?_
          | refine g_if_true rfl ?_
          | refine g_if_false rfl ?_
          | (refine s_split rfl rfl (fun hb => ?_) (fun hb => ?_) <;> (try simp only [decide_eq_true_eq, decide_eq_false_iff_not, Bool.not_eq_true', Bool.not_eq_false', Bool.not_eq_true, Bool.not_eq_false, Bool.not_true, Bool.not_false, Bool.false_eq_true, Bool.true_eq_false, reduceCtorEq, not_true_eq_false, not_false_eq_true, List.length_map] at hb) <;> first | (exfalso; omega) | refine run_ th rfl ?_)
          | (refine d_split rfl rfl rfl (fun hb => ?_) (fun hb => ?_) <;> (try simp only [decide_eq_true_eq, decide_eq_false_iff_not, Bool.not_eq_true', Bool.not_eq_false', Bool.not_eq_true, Bool.not_eq_false, Bool.not_true, Bool.not_false, Bool.false_eq_true, Bool.true_eq_false, reduceCtorEq, not_true_eq_false, not_false_eq_true, List.length_map] at hb) <;> first | (exfalso; omega) | refine drun_ th rfl ?_)
          | (refine g_if rfl (fun hb => ?_) (fun hb => ?_) <;> (try simp only [decide_eq_true_eq, decide_eq_false_iff_not, Bool.not_eq_true', Bool.not_eq_false', Bool.not_eq_true, Bool.not_eq_false, Bool.not_true, Bool.not_false, Bool.false_eq_true, Bool.true_eq_false, reduceCtorEq, not_true_eq_false, not_false_eq_true, List.length_map] at hb) <;> (try (exfalso; omega)))
          | refine g_end th Tryd.func21 (.inr ⟨_, rfl⟩) rfl rfl rfl ⟨?_, rfl⟩
          | (refine s_add rfl rfl rfl rfl rfl rfl (by omega) ?_; refine run_ th rfl ?_)
          | (refine s_idx th rfl rfl rfl rfl rfl rfl rfl rfl rfl 0 _ rfl hx ?_; refine run_ th rfl ?_))
        all_goals try simp only [List.length_map] at *
        all_goals first
          | (have hbad : rootAt ⟨nodes, names, roots⟩ 0 = false := by
               clear ih
               rw [rootAt_zero hlt]
               first | (simp [*]; done) | (simp; omega)
             simp [packS, bookB_root hlt hbad]; done)
          | (refine g_sub (by exact ⟨⟨_, rfl, .refl _⟩, ⟨_, rfl, .refl _⟩, ⟨_, rfl, .refl _⟩, ⟨_, rfl, le_int (by omega)⟩, trivial⟩) (by exact ⟨⟨_, rfl, .refl _⟩, trivial⟩) rfl rfl rfl (ih (0 + 1) ⟨hlt, ?_⟩ (by omega))
             rw [List.range_succ, List.all_append, hok]
             clear ih
             simp only [List.all_cons, List.all_nil, Bool.true_and, Bool.and_true]
             rw [rootAt_zero hlt]
             first | (simp [*]; done) | (simp; omega))
      | succ j =>
        have hx1 : (names.map fun s => [CT.str s])[j]? = some [.str names[j]] := by simp [show j < names.length by omega]
        have hx2 : (names.map fun s => [CT.str s])[j + 1]? = some [.str names[j + 1]] := by simp [show j + 1 < names.length by omega]
        repeat' (first
          | refine g_seq ?_
          | (refine g_region ?_; refine run_ th rfl ?_)
          | (refine g_drawC mix rfl rfl ?_; refine drun_ th rfl ?_)
          | (refine g_drawEC mix rfl rfl ?_; refine erun_ th rfl ?_)
          | refine SOps.nil ?_
          | refine DOps.nil ?_
          | refine EOps.nil ?_ rfl rfl
          | refine g_block ?_
          | refine g_inBlock ?_
          | refine g_skip ?_
          | refine g_exit rfl ?_
          | refine g_if_true rfl ?_
          | refine g_if_false rfl ?_
          | (refine s_split rfl rfl (fun hb => ?_) (fun hb => ?_) <;> (try simp only [decide_eq_true_eq, decide_eq_false_iff_not, Bool.not_eq_true', Bool.not_eq_false', Bool.not_eq_true, Bool.not_eq_false, Bool.not_true, Bool.not_false, Bool.false_eq_true, Bool.true_eq_false, reduceCtorEq, not_true_eq_false, not_false_eq_true, List.length_map] at hb) <;> first | (exfalso; omega) | refine run_ th rfl ?_)
          | (refine d_split rfl rfl rfl (fun hb => ?_) (fun hb => ?_) <;> (try simp only [decide_eq_true_eq, decide_eq_false_iff_not, Bool.not_eq_true', Bool.not_eq_false', Bool.not_eq_true, Bool.not_eq_false, Bool.not_true, Bool.not_false, Bool.false_eq_true, Bool.true_eq_false, reduceCtorEq, not_true_eq_false, not_false_eq_true, List.length_map] at hb) <;> first | (exfalso; omega) | refine drun_ th rfl ?_)
          | (refine g_if rfl (fun hb => ?_) (fun hb => ?_) <;> (try simp only [decide_eq_true_eq, decide_eq_false_iff_not, Bool.not_eq_true', Bool.not_eq_false', Bool.not_eq_true, Bool.not_eq_false, Bool.not_true, Bool.not_false, Bool.false_eq_true, Bool.true_eq_false, reduceCtorEq, not_true_eq_false, not_false_eq_true, List.length_map] at hb) <;> (try (exfalso; omega)))
          | refine g_end th Tryd.func21 (.inr ⟨_, rfl⟩) rfl rfl rfl ⟨?_, rfl⟩
          | (refine s_add rfl rfl rfl rfl rfl rfl (by omega) ?_; refine run_ th rfl ?_)
          | (refine s_idx th rfl rfl rfl rfl rfl rfl rfl rfl rfl (j + 1) _ rfl hx ?_; refine run_ th rfl ?_)
          | (refine d_subI rfl rfl rfl rfl rfl rfl (by omega) ?_; refine drun_ th rfl ?_)
          | (refine d_idx th rfl rfl rfl rfl rfl rfl rfl rfl rfl j _ (by omega) hx1 ?_; refine drun_ th rfl ?_)
          | (refine d_idx th rfl rfl rfl rfl rfl rfl rfl rfl rfl (j + 1) _ (by omega) hx2 ?_; refine drun_ th rfl ?_))
        all_goals try simp only [List.length_map] at *
        all_goals first
          | (have hbad : rootAt ⟨nodes, names, roots⟩ (j + 1) = false := by
               clear ih
               rw [rootAt_succ hlt (by simp only; omega)]
               first | (simp [*]; done) | (simp [*]; omega)
             simp [packS, bookB_root hlt hbad]; done)
          | (refine g_sub (by exact ⟨⟨_, rfl, .refl _⟩, ⟨_, rfl, .refl _⟩, ⟨_, rfl, .refl _⟩, ⟨_, rfl, le_int (by omega)⟩, trivial⟩) (by exact ⟨⟨_, rfl, .refl _⟩, trivial⟩) rfl rfl rfl (ih (j + 1 + 1) ⟨hlt, ?_⟩ (by omega))
             rw [List.range_succ, List.all_append, hok]
             clear ih
             simp only [List.all_cons, List.all_nil, Bool.true_and, Bool.and_true]
             rw [rootAt_succ hlt (by simp only; omega)]
             first | (simp [*]; done) | (simp [*]; omega))
    · have hke : k = roots.length := by omega
      subst hke
      have hall : bookB ⟨nodes, names, roots⟩ = nodes.all (nodeB nodes.length) := by simp [bookB, h400, hnr, hok]
      clear ih hok
      repeat' (first
        | refine g_seq ?_
        | (refine g_region ?_; refine run_ th rfl ?_)
        | (refine g_drawC mix rfl rfl ?_; refine drun_ th rfl ?_)
        | (refine g_drawEC mix rfl rfl ?_; refine erun_ th rfl ?_)
        | refine SOps.nil ?_
        | refine DOps.nil ?_
        | refine EOps.nil ?_ rfl rfl
        | refine g_block ?_
        | refine g_inBlock ?_
        | refine g_skip ?_
        | refine g_exit rfl ?_
        | refine g_if_true rfl ?_
        | refine g_if_false rfl ?_
        | (refine s_split rfl rfl (fun hb => ?_) (fun hb => ?_) <;> (try simp only [decide_eq_true_eq, decide_eq_false_iff_not, Bool.not_eq_true', Bool.not_eq_false', Bool.not_eq_true, Bool.not_eq_false, Bool.not_true, Bool.not_false, Bool.false_eq_true, Bool.true_eq_false, reduceCtorEq, not_true_eq_false, not_false_eq_true, List.length_map] at hb) <;> first | (exfalso; omega) | refine run_ th rfl ?_)
        | (refine d_split rfl rfl rfl (fun hb => ?_) (fun hb => ?_) <;> (try simp only [decide_eq_true_eq, decide_eq_false_iff_not, Bool.not_eq_true', Bool.not_eq_false', Bool.not_eq_true, Bool.not_eq_false, Bool.not_true, Bool.not_false, Bool.false_eq_true, Bool.true_eq_false, reduceCtorEq, not_true_eq_false, not_false_eq_true, List.length_map] at hb) <;> first | (exfalso; omega) | refine drun_ th rfl ?_)
        | (refine g_if rfl (fun hb => ?_) (fun hb => ?_) <;> (try simp only [decide_eq_true_eq, decide_eq_false_iff_not, Bool.not_eq_true', Bool.not_eq_false', Bool.not_eq_true, Bool.not_eq_false, Bool.not_true, Bool.not_false, Bool.false_eq_true, Bool.true_eq_false, reduceCtorEq, not_true_eq_false, not_false_eq_true, List.length_map] at hb) <;> (try (exfalso; omega)))
        | refine g_end th Tryd.func21 (.inr ⟨_, rfl⟩) rfl rfl rfl ⟨?_, rfl⟩)
      all_goals try simp only [List.length_map] at *
      refine g_loop1 (fun k : Nat => k ≤ nodes.length ∧ (nodes.take k).all (nodeB nodes.length) = true)
        (fun k => [(1, .v (.one (.ptr 1 0))), (57, .v (C1 (nodesT nodes))), (58, .v (C1 (.int .i64 (nodes.length : Int)))), (59, .v (C1 (.int .i64 (k : Int))))])
        (fun _ => [(1, .box [.c (nodesT nodes), .c (namesT names), .c (intsT roots)])]) (fun k => nodes.length - k) 0 ⟨Nat.zero_le _, rfl⟩
        (fun a w h => h.sub (by exact ⟨⟨_, rfl, .refl _⟩, ⟨_, rfl, .refl _⟩, ⟨_, rfl, le_int (by simp)⟩, ⟨_, rfl, le_int rfl⟩, trivial⟩) (by exact ⟨⟨_, rfl, .refl _⟩, trivial⟩) rfl rfl rfl) (fun k hk ih => ?_)
      obtain ⟨hk, hok⟩ := hk
      by_cases hlt : k < nodes.length
      · have hx : (nodes.map Nd.cs)[k]? = some (nodes[k]).cs := by simp [hlt]
        have hcast : (((nodes.map Nd.cs).length : Nat) : Int) = (nodes.length : Int) := by simp
        have hcon := node_c nodes[k] (nodes.length : Int)
        rw [← hcast] at hcon
        repeat' (first
          | refine g_seq ?_
          | (refine g_region ?_; refine run_ th rfl ?_)
          | (refine g_drawC mix rfl rfl ?_; refine drun_ th rfl ?_)
          | (refine g_drawEC mix rfl rfl ?_; refine erun_ th rfl ?_)
          | refine SOps.nil ?_
          | refine DOps.nil ?_
          | refine EOps.nil ?_ rfl rfl
          | refine g_block ?_
          | refine g_inBlock ?_
          | refine g_skip ?_
          | refine g_exit rfl ?_
          | refine g_if_true rfl ?_
          | refine g_if_false rfl ?_
          | (refine s_split rfl rfl (fun hb => ?_) (fun hb => ?_) <;> (try simp only [decide_eq_true_eq, decide_eq_false_iff_not, Bool.not_eq_true', Bool.not_eq_false', Bool.not_eq_true, Bool.not_eq_false, Bool.not_true, Bool.not_false, Bool.false_eq_true, Bool.true_eq_false, reduceCtorEq, not_true_eq_false, not_false_eq_true, List.length_map] at hb) <;> first | (exfalso; omega) | refine run_ th rfl ?_)
          | (refine d_split rfl rfl rfl (fun hb => ?_) (fun hb => ?_) <;> (try simp only [decide_eq_true_eq, decide_eq_false_iff_not, Bool.not_eq_true', Bool.not_eq_false', Bool.not_eq_true, Bool.not_eq_false, Bool.not_true, Bool.not_false, Bool.false_eq_true, Bool.true_eq_false, reduceCtorEq, not_true_eq_false, not_false_eq_true, List.length_map] at hb) <;> first | (exfalso; omega) | refine drun_ th rfl ?_)
          | (refine g_if rfl (fun hb => ?_) (fun hb => ?_) <;> (try simp only [decide_eq_true_eq, decide_eq_false_iff_not, Bool.not_eq_true', Bool.not_eq_false', Bool.not_eq_true, Bool.not_eq_false, Bool.not_true, Bool.not_false, Bool.false_eq_true, Bool.true_eq_false, reduceCtorEq, not_true_eq_false, not_false_eq_true, List.length_map] at hb) <;> (try (exfalso; omega)))
          | refine g_end th Tryd.func21 (.inr ⟨_, rfl⟩) rfl rfl rfl ⟨?_, rfl⟩
          | (refine s_add rfl rfl rfl rfl rfl rfl (by omega) ?_; refine run_ th rfl ?_)
          | (refine s_idx th rfl rfl rfl rfl rfl rfl rfl rfl rfl k _ rfl hx ?_; refine run_ th rfl ?_)
          | (refine s_call hcon [] rfl rfl rfl rfl rfl rfl rfl rfl rfl rfl ?_; refine run_ th rfl ?_))
        all_goals try simp only [List.length_map] at *
        all_goals first
          | (simp [packS, bookB_node (b := ⟨nodes, names, roots⟩) hlt hb]; done)
          | (refine g_sub (by exact ⟨⟨_, rfl, .refl _⟩, ⟨_, rfl, .refl _⟩, ⟨_, rfl, .refl _⟩, ⟨_, rfl, le_int (by omega)⟩, trivial⟩) (by exact ⟨⟨_, rfl, .refl _⟩, trivial⟩) rfl rfl rfl (ih (k + 1) ⟨hlt, ?_⟩ (by omega))
             rw [List.take_succ_eq_append_getElem hlt, List.all_append, hok]
             simp [hb])
      · have hke : k = nodes.length := by omega
        subst hke
        rw [List.take_length] at hok
        repeat' (first
          | refine g_seq ?_
          | (refine g_region ?_; refine run_ th rfl ?_)
          | (refine g_drawC mix rfl rfl ?_; refine drun_ th rfl ?_)
          | (refine g_drawEC mix rfl rfl ?_; refine erun_ th rfl ?_)
          | refine SOps.nil ?_
          | refine DOps.nil ?_
          | refine EOps.nil ?_ rfl rfl
          | refine g_block ?_
          | refine g_inBlock ?_
          | refine g_skip ?_
          | refine g_exit rfl ?_
          | refine g_if_true rfl ?_
          | refine g_if_false rfl ?_
          | (refine s_split rfl rfl (fun hb => ?_) (fun hb => ?_) <;> (try simp only [decide_eq_true_eq, decide_eq_false_iff_not, Bool.not_eq_true', Bool.not_eq_false', Bool.not_eq_true, Bool.not_eq_false, Bool.not_true, Bool.not_false, Bool.false_eq_true, Bool.true_eq_false, reduceCtorEq, not_true_eq_false, not_false_eq_true, List.length_map] at hb) <;> first | (exfalso; omega) | refine run_ th rfl ?_)
          | (refine d_split rfl rfl rfl (fun hb => ?_) (fun hb => ?_) <;> (try simp only [decide_eq_true_eq, decide_eq_false_iff_not, Bool.not_eq_true', Bool.not_eq_false', Bool.not_eq_true, Bool.not_eq_false, Bool.not_true, Bool.not_false, Bool.false_eq_true, Bool.true_eq_false, reduceCtorEq, not_true_eq_false, not_false_eq_true, List.length_map] at hb) <;> first | (exfalso; omega) | refine drun_ th rfl ?_)
          | (refine g_if rfl (fun hb => ?_) (fun hb => ?_) <;> (try simp only [decide_eq_true_eq, decide_eq_false_iff_not, Bool.not_eq_true', Bool.not_eq_false', Bool.not_eq_true, Bool.not_eq_false, Bool.not_true, Bool.not_false, Bool.false_eq_true, Bool.true_eq_false, reduceCtorEq, not_true_eq_false, not_false_eq_true, List.length_map] at hb) <;> (try (exfalso; omega)))
          | refine g_end th Tryd.func21 (.inr ⟨_, rfl⟩) rfl rfl rfl ⟨?_, rfl⟩)
        all_goals simp [packS, hall, hok]
end Go.Sy
