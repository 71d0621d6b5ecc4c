/- Contracts: under.Holds. -/
import Derived.Test.YthjpcefjgmklfaaDoorFi
set_option linter.unusedSimpArgs false
set_option linter.unusedVariables false
set_option linter.unusedSectionVars false
namespace Go.Sy
open Go.Proofs
set_option maxRecDepth 100000
attribute [local irreducible] SOps Goes DOps EOps

def heldB (b : Bk) (l : List (Int × Int)) (p : Int × Int) : Bool :=
  match asksAt b p with
  | none => false
  | some w => w.all fun q => decide (q ∈ l)
def holdsB (b : Bk) (l : List (Int × Int)) : Bool := bookB b && ((l.all fun p => placesB b.nodes.length p.1 p.2) && l.all (heldB b l))

theorem places_inR {n : Nat} {p : Int × Int} (h : placesB n p.1 p.2 = true) : inR n p := by
  simp [placesB] at h
  simp only [inR]
  omega
theorem mem_addAll_nil {l : List (Int × Int)} {q : Int × Int} : q ∈ addAll [] l ↔ q ∈ l := by rw [addAll_mem]; simp

set_option maxHeartbeats 8000000 in
theorem holds_c (b : Bk) (l : List (Int × Int)) : Con Tryd.prog 39 [] [Ag b.cs, C1 (pairsT l)] (Rv (.bool (holdsB b l))) [] := by
  refine con_of (c := _) Tryd.func39 rfl rfl rfl (by decide) fun w M0 H Z => ?_
  repeat' (first
    | refine g_seq ?_
    | (refine g_region ?_; refine run_ th rfl ?_)
    | (refine g_drawC mix rfl rfl ?_; refine drun_ th rfl ?_)
    | (refine g_drawEC mix rfl rfl ?_; refine erun_ th rfl ?_)
    | refine SOps.nil ?_
    | refine DOps.nil ?_
    | refine EOps.nil ?_ rfl rfl
    | refine g_block ?_
    | refine g_inBlock ?_
    | refine g_skip ?_
    | refine g_exit rfl ?_
    | refine g_if_true rfl ?_
    | refine g_if_false rfl ?_
    | (refine s_split rfl rfl (fun hb => ?_) (fun hb => ?_) <;> (try simp only [decide_eq_true_eq, decide_eq_false_iff_not, Bool.not_eq_true', Bool.not_eq_false', Bool.not_eq_true, Bool.not_eq_false, Bool.not_true, Bool.not_false, Bool.false_eq_true, Bool.true_eq_false, reduceCtorEq, not_true_eq_false, not_false_eq_true, List.length_map] at hb) <;> first | (exfalso; omega) | refine run_ th rfl ?_)
    | (refine d_split rfl rfl rfl (fun hb => ?_) (fun hb => ?_) <;> (try simp only [decide_eq_true_eq, decide_eq_false_iff_not, Bool.not_eq_true', Bool.not_eq_false', Bool.not_eq_true, Bool.not_eq_false, Bool.not_true, Bool.not_false, Bool.false_eq_true, Bool.true_eq_false, reduceCtorEq, not_true_eq_false, not_false_eq_true, List.length_map] at hb) <;> first | (exfalso; omega) | refine drun_ th rfl ?_)
    | (refine g_if rfl (fun hb => ?_) (fun hb => ?_) <;> (try simp only [decide_eq_true_eq, decide_eq_false_iff_not, Bool.not_eq_true', Bool.not_eq_false', Bool.not_eq_true, Bool.not_eq_false, Bool.not_true, Bool.not_false, Bool.false_eq_true, Bool.true_eq_false, reduceCtorEq, not_true_eq_false, not_false_eq_true, List.length_map] at hb) <;> (try (exfalso; omega)))
    | refine g_end th Tryd.func39 (.inr ⟨_, rfl⟩) rfl rfl rfl ⟨?_, rfl⟩
    | (refine s_call (bookmay_c b) [] rfl rfl rfl rfl rfl rfl rfl rfl rfl rfl ?_; refine run_ th rfl ?_))
  · simp [packS, holdsB, hb]
  · refine g_len 1 rfl fun hll => ?_
    simp only [List.length_map] at hll
    refine g_loop1 (fun k : Nat => k ≤ l.length ∧ (l.take k).all (fun p => placesB b.nodes.length p.1 p.2) = true)
      (fun k => [(1, .v (C1 (pairsT l))), (2, .v (.one (.ptr 2 0))), (5, .v (.one (.mp 17))), (18, .v (C1 (pairsT l))), (19, .v (C1 (.int .i64 (l.length : Int)))), (20, .v (C1 (.int .i64 (k : Int))))])
      (fun k => [(2, .box [.c (nodesT b.nodes), .c (namesT b.names), .c (intsT b.roots)]), (17, setM (addAll [] (l.take k)))])
      (fun k => l.length - k) 0 ⟨Nat.zero_le _, rfl⟩
      (fun a w h => h.sub (by exact ⟨⟨_, rfl, .refl _⟩, ⟨_, rfl, .refl _⟩, ⟨_, rfl, .refl _⟩, ⟨_, rfl, .refl _⟩, ⟨_, rfl, le_int (by simp)⟩, ⟨_, rfl, le_int rfl⟩, trivial⟩) (by exact ⟨⟨_, rfl, .refl _⟩, ⟨_, rfl, .refl _⟩, trivial⟩) rfl rfl rfl) (fun k hk ih => ?_)
    obtain ⟨hk, hok⟩ := hk
    by_cases hlt : k < l.length
    · have hxl : (l.map pairC)[k]? = some [.int .i64 l[k].1, .int .i64 l[k].2] := by simp [hlt]
      have htk := addAll_take (out := []) hlt
      repeat' (first
        | refine g_seq ?_
        | (refine g_region ?_; refine run_ th rfl ?_)
        | (refine g_drawC mix rfl rfl ?_; refine drun_ th rfl ?_)
        | (refine g_drawEC mix rfl rfl ?_; refine erun_ th rfl ?_)
        | refine SOps.nil ?_
        | refine DOps.nil ?_
        | refine EOps.nil ?_ rfl rfl
        | refine g_block ?_
        | refine g_inBlock ?_
        | refine g_skip ?_
        | refine g_exit rfl ?_
        | refine g_if_true rfl ?_
        | refine g_if_false rfl ?_
        | (refine s_split rfl rfl (fun hb => ?_) (fun hb => ?_) <;> (try simp only [decide_eq_true_eq, decide_eq_false_iff_not, Bool.not_eq_true', Bool.not_eq_false', Bool.not_eq_true, Bool.not_eq_false, Bool.not_true, Bool.not_false, Bool.false_eq_true, Bool.true_eq_false, reduceCtorEq, not_true_eq_false, not_false_eq_true, List.length_map] at hb) <;> first | (exfalso; omega) | refine run_ th rfl ?_)
        | (refine d_split rfl rfl rfl (fun hb => ?_) (fun hb => ?_) <;> (try simp only [decide_eq_true_eq, decide_eq_false_iff_not, Bool.not_eq_true', Bool.not_eq_false', Bool.not_eq_true, Bool.not_eq_false, Bool.not_true, Bool.not_false, Bool.false_eq_true, Bool.true_eq_false, reduceCtorEq, not_true_eq_false, not_false_eq_true, List.length_map] at hb) <;> first | (exfalso; omega) | refine drun_ th rfl ?_)
        | (refine g_if rfl (fun hb => ?_) (fun hb => ?_) <;> (try simp only [decide_eq_true_eq, decide_eq_false_iff_not, Bool.not_eq_true', Bool.not_eq_false', Bool.not_eq_true, Bool.not_eq_false, Bool.not_true, Bool.not_false, Bool.false_eq_true, Bool.true_eq_false, reduceCtorEq, not_true_eq_false, not_false_eq_true, List.length_map] at hb) <;> (try (exfalso; omega)))
        | refine g_end th Tryd.func39 (.inr ⟨_, rfl⟩) rfl rfl rfl ⟨?_, rfl⟩
        | (refine s_idx th rfl rfl rfl rfl rfl rfl rfl rfl rfl k _ rfl hxl ?_; refine run_ th rfl ?_)
        | (refine s_call (places_c b _ _) [] rfl rfl rfl rfl rfl rfl rfl rfl rfl rfl ?_; refine run_ th rfl ?_)
        | (refine s_put th (.inl rfl) rfl rfl rfl rfl rfl rfl rfl rfl rfl ?_; refine run_ th rfl ?_)
        | (refine s_add rfl rfl rfl rfl rfl rfl (by omega) ?_; refine run_ th rfl ?_))
      · have : (l.all fun p => placesB b.nodes.length p.1 p.2) = false := List.all_eq_false.2 ⟨l[k], List.getElem_mem hlt, by simp [hb]⟩
        simp [packS, holdsB, this]
      · have hih := ih (k + 1) ⟨hlt, by rw [List.take_succ_eq_append_getElem hlt, List.all_append, hok]; simp [hb]⟩ (by omega)
        rw [htk] at hih
        exact g_sub (by exact ⟨⟨_, rfl, .refl _⟩, ⟨_, rfl, .refl _⟩, ⟨_, rfl, .refl _⟩, ⟨_, rfl, .refl _⟩, ⟨_, rfl, .refl _⟩, ⟨_, rfl, le_int (by omega)⟩, trivial⟩) (by exact ⟨⟨_, rfl, .refl _⟩, ⟨_, rfl, .refl _⟩, trivial⟩) rfl rfl rfl hih
    · have hke : k = l.length := by omega
      subst hke
      rw [List.take_length] at hok ⊢
      clear ih
      repeat' (first
        | refine g_seq ?_
        | (refine g_region ?_; refine run_ th rfl ?_)
        | (refine g_drawC mix rfl rfl ?_; refine drun_ th rfl ?_)
        | (refine g_drawEC mix rfl rfl ?_; refine erun_ th rfl ?_)
        | refine SOps.nil ?_
        | refine DOps.nil ?_
        | refine EOps.nil ?_ rfl rfl
        | refine g_block ?_
        | refine g_inBlock ?_
        | refine g_skip ?_
        | refine g_exit rfl ?_
        | refine g_if_true rfl ?_
        | refine g_if_false rfl ?_
        | (refine s_split rfl rfl (fun hb => ?_) (fun hb => ?_) <;> (try simp only [decide_eq_true_eq, decide_eq_false_iff_not, Bool.not_eq_true', Bool.not_eq_false', Bool.not_eq_true, Bool.not_eq_false, Bool.not_true, Bool.not_false, Bool.false_eq_true, Bool.true_eq_false, reduceCtorEq, not_true_eq_false, not_false_eq_true, List.length_map] at hb) <;> first | (exfalso; omega) | refine run_ th rfl ?_)
        | (refine d_split rfl rfl rfl (fun hb => ?_) (fun hb => ?_) <;> (try simp only [decide_eq_true_eq, decide_eq_false_iff_not, Bool.not_eq_true', Bool.not_eq_false', Bool.not_eq_true, Bool.not_eq_false, Bool.not_true, Bool.not_false, Bool.false_eq_true, Bool.true_eq_false, reduceCtorEq, not_true_eq_false, not_false_eq_true, List.length_map] at hb) <;> first | (exfalso; omega) | refine drun_ th rfl ?_)
        | (refine g_if rfl (fun hb => ?_) (fun hb => ?_) <;> (try simp only [decide_eq_true_eq, decide_eq_false_iff_not, Bool.not_eq_true', Bool.not_eq_false', Bool.not_eq_true, Bool.not_eq_false, Bool.not_true, Bool.not_false, Bool.false_eq_true, Bool.true_eq_false, reduceCtorEq, not_true_eq_false, not_false_eq_true, List.length_map] at hb) <;> (try (exfalso; omega)))
        | refine g_end th Tryd.func39 (.inr ⟨_, rfl⟩) rfl rfl rfl ⟨?_, rfl⟩)
      refine g_loop1 (fun k : Nat => k ≤ l.length ∧ (l.take k).all (heldB b l) = true)
        (fun k => [(2, .v (.one (.ptr 2 0))), (5, .v (.one (.mp 17))), (31, .v (C1 (pairsT l))), (32, .v (C1 (.int .i64 (l.length : Int)))), (33, .v (C1 (.int .i64 (k : Int))))])
        (fun k => [(2, .box [.c (nodesT b.nodes), .c (namesT b.names), .c (intsT b.roots)]), (17, setM (addAll [] l))])
        (fun k => l.length - k) 0 ⟨Nat.zero_le _, rfl⟩
        (fun a w h => h.sub (by exact ⟨⟨_, rfl, .refl _⟩, ⟨_, rfl, .refl _⟩, ⟨_, rfl, .refl _⟩, ⟨_, rfl, le_int (by simp)⟩, ⟨_, rfl, le_int rfl⟩, trivial⟩) (by exact ⟨⟨_, rfl, .refl _⟩, ⟨_, rfl, .refl _⟩, trivial⟩) rfl rfl rfl) (fun k hk ih => ?_)
      obtain ⟨hk, hheld⟩ := hk
      by_cases hlt2 : k < l.length
      · have hxl : (l.map pairC)[k]? = some [.int .i64 l[k].1, .int .i64 l[k].2] := by simp [hlt2]
        have hbk : bookB b = true := by assumption
        have hR := places_inR (List.all_eq_true.1 hok l[k] (List.getElem_mem hlt2))
        have hcon := asksAt_c hbk hR
        have hbad : heldB b l l[k] = false → holdsB b l = false := fun h => by
          have : l.all (heldB b l) = false := List.all_eq_false.2 ⟨l[k], List.getElem_mem hlt2, by simp [h]⟩
          simp [holdsB, this]
        cases hA : asksAt b l[k] with
        | none =>
          rw [hA] at hcon
          simp only [asksR, Option.getD_none, Option.isSome_none] at hcon
          repeat' (first
            | refine g_seq ?_
            | (refine g_region ?_; refine run_ th rfl ?_)
            | (refine g_drawC mix rfl rfl ?_; refine drun_ th rfl ?_)
            | (refine g_drawEC mix rfl rfl ?_; refine erun_ th rfl ?_)
            | refine SOps.nil ?_
            | refine DOps.nil ?_
            | refine EOps.nil ?_ rfl rfl
            | refine g_block ?_
            | refine g_inBlock ?_
            | refine g_skip ?_
            | refine g_exit rfl ?_
            | refine g_if_true rfl ?_
            | refine g_if_false rfl ?_
            | (refine s_split rfl rfl (fun hb => ?_) (fun hb => ?_) <;> (try simp only [decide_eq_true_eq, decide_eq_false_iff_not, Bool.not_eq_true', Bool.not_eq_false', Bool.not_eq_true, Bool.not_eq_false, Bool.not_true, Bool.not_false, Bool.false_eq_true, Bool.true_eq_false, reduceCtorEq, not_true_eq_false, not_false_eq_true, List.length_map] at hb) <;> first | (exfalso; omega) | refine run_ th rfl ?_)
            | (refine d_split rfl rfl rfl (fun hb => ?_) (fun hb => ?_) <;> (try simp only [decide_eq_true_eq, decide_eq_false_iff_not, Bool.not_eq_true', Bool.not_eq_false', Bool.not_eq_true, Bool.not_eq_false, Bool.not_true, Bool.not_false, Bool.false_eq_true, Bool.true_eq_false, reduceCtorEq, not_true_eq_false, not_false_eq_true, List.length_map] at hb) <;> first | (exfalso; omega) | refine drun_ th rfl ?_)
            | (refine g_if rfl (fun hb => ?_) (fun hb => ?_) <;> (try simp only [decide_eq_true_eq, decide_eq_false_iff_not, Bool.not_eq_true', Bool.not_eq_false', Bool.not_eq_true, Bool.not_eq_false, Bool.not_true, Bool.not_false, Bool.false_eq_true, Bool.true_eq_false, reduceCtorEq, not_true_eq_false, not_false_eq_true, List.length_map] at hb) <;> (try (exfalso; omega)))
            | refine g_end th Tryd.func39 (.inr ⟨_, rfl⟩) rfl rfl rfl ⟨?_, rfl⟩
            | (refine s_idx th rfl rfl rfl rfl rfl rfl rfl rfl rfl k _ rfl hxl ?_; refine run_ th rfl ?_)
            | (refine s_call hcon [] rfl rfl rfl rfl rfl rfl rfl rfl rfl rfl ?_; refine run_ th rfl ?_))
          all_goals simp [packS, hbad (by simp [heldB, hA])]
        | some ws =>
          rw [hA] at hcon
          simp only [asksR, Option.getD_some, Option.isSome_some] at hcon
          have hw18 := asksAt_len hbk hR hA
          repeat' (first
            | refine g_seq ?_
            | (refine g_region ?_; refine run_ th rfl ?_)
            | (refine g_drawC mix rfl rfl ?_; refine drun_ th rfl ?_)
            | (refine g_drawEC mix rfl rfl ?_; refine erun_ th rfl ?_)
            | refine SOps.nil ?_
            | refine DOps.nil ?_
            | refine EOps.nil ?_ rfl rfl
            | refine g_block ?_
            | refine g_inBlock ?_
            | refine g_skip ?_
            | refine g_exit rfl ?_
            | refine g_if_true rfl ?_
            | refine g_if_false rfl ?_
            | (refine s_split rfl rfl (fun hb => ?_) (fun hb => ?_) <;> (try simp only [decide_eq_true_eq, decide_eq_false_iff_not, Bool.not_eq_true', Bool.not_eq_false', Bool.not_eq_true, Bool.not_eq_false, Bool.not_true, Bool.not_false, Bool.false_eq_true, Bool.true_eq_false, reduceCtorEq, not_true_eq_false, not_false_eq_true, List.length_map] at hb) <;> first | (exfalso; omega) | refine run_ th rfl ?_)
            | (refine d_split rfl rfl rfl (fun hb => ?_) (fun hb => ?_) <;> (try simp only [decide_eq_true_eq, decide_eq_false_iff_not, Bool.not_eq_true', Bool.not_eq_false', Bool.not_eq_true, Bool.not_eq_false, Bool.not_true, Bool.not_false, Bool.false_eq_true, Bool.true_eq_false, reduceCtorEq, not_true_eq_false, not_false_eq_true, List.length_map] at hb) <;> first | (exfalso; omega) | refine drun_ th rfl ?_)
            | (refine g_if rfl (fun hb => ?_) (fun hb => ?_) <;> (try simp only [decide_eq_true_eq, decide_eq_false_iff_not, Bool.not_eq_true', Bool.not_eq_false', Bool.not_eq_true, Bool.not_eq_false, Bool.not_true, Bool.not_false, Bool.false_eq_true, Bool.true_eq_false, reduceCtorEq, not_true_eq_false, not_false_eq_true, List.length_map] at hb) <;> (try (exfalso; omega)))
            | refine g_end th Tryd.func39 (.inr ⟨_, rfl⟩) rfl rfl rfl ⟨?_, rfl⟩
            | (refine s_idx th rfl rfl rfl rfl rfl rfl rfl rfl rfl k _ rfl hxl ?_; refine run_ th rfl ?_)
            | (refine s_call hcon [] rfl rfl rfl rfl rfl rfl rfl rfl rfl rfl ?_; refine run_ th rfl ?_))
          refine g_loop1 (fun m : Nat => m ≤ ws.length ∧ (ws.take m).all (fun q => decide (q ∈ l)) = true)
            (fun m => [(2, .v (.one (.ptr 2 0))), (5, .v (.one (.mp 17))), (31, .v (C1 (pairsT l))), (32, .v (C1 (.int .i64 (l.length : Int)))), (33, .v (C1 (.int .i64 (k : Int)))), (45, .v (C1 (pairsT ws))), (46, .v (C1 (.int .i64 (ws.length : Int)))), (47, .v (C1 (.int .i64 (m : Int))))])
            (fun m => [(2, .box [.c (nodesT b.nodes), .c (namesT b.names), .c (intsT b.roots)]), (17, setM (addAll [] l))])
            (fun m => ws.length - m) 0 ⟨Nat.zero_le _, rfl⟩
            (fun a w h => h.sub (by exact ⟨⟨_, rfl, .refl _⟩, ⟨_, rfl, .refl _⟩, ⟨_, rfl, .refl _⟩, ⟨_, rfl, .refl _⟩, ⟨_, rfl, .refl _⟩, ⟨_, rfl, .refl _⟩, ⟨_, rfl, le_int (by simp)⟩, ⟨_, rfl, le_int rfl⟩, trivial⟩) (by exact ⟨⟨_, rfl, .refl _⟩, ⟨_, rfl, .refl _⟩, trivial⟩) rfl rfl rfl) (fun m hm ih3 => ?_)
          obtain ⟨hm, hall⟩ := hm
          by_cases hlm : m < ws.length
          · have hxm : (ws.map pairC)[m]? = some [.int .i64 ws[m].1, .int .i64 ws[m].2] := by simp [hlm]
            repeat' (first
              | refine g_seq ?_
              | (refine g_region ?_; refine run_ th rfl ?_)
              | (refine g_drawC mix rfl rfl ?_; refine drun_ th rfl ?_)
              | (refine g_drawEC mix rfl rfl ?_; refine erun_ th rfl ?_)
              | refine SOps.nil ?_
              | refine DOps.nil ?_
              | refine EOps.nil ?_ rfl rfl
              | refine g_block ?_
              | refine g_inBlock ?_
              | refine g_skip ?_
              | refine g_exit rfl ?_
              | refine g_if_true rfl ?_
              | refine g_if_false rfl ?_
              | (refine s_split rfl rfl (fun hb => ?_) (fun hb => ?_) <;> (try simp only [decide_eq_true_eq, decide_eq_false_iff_not, Bool.not_eq_true', Bool.not_eq_false', Bool.not_eq_true, Bool.not_eq_false, Bool.not_true, Bool.not_false, Bool.false_eq_true, Bool.true_eq_false, reduceCtorEq, not_true_eq_false, not_false_eq_true, List.length_map] at hb) <;> first | (exfalso; omega) | refine run_ th rfl ?_)
              | (refine d_split rfl rfl rfl (fun hb => ?_) (fun hb => ?_) <;> (try simp only [decide_eq_true_eq, decide_eq_false_iff_not, Bool.not_eq_true', Bool.not_eq_false', Bool.not_eq_true, Bool.not_eq_false, Bool.not_true, Bool.not_false, Bool.false_eq_true, Bool.true_eq_false, reduceCtorEq, not_true_eq_false, not_false_eq_true, List.length_map] at hb) <;> first | (exfalso; omega) | refine drun_ th rfl ?_)
              | (refine g_if rfl (fun hb => ?_) (fun hb => ?_) <;> (try simp only [decide_eq_true_eq, decide_eq_false_iff_not, Bool.not_eq_true', Bool.not_eq_false', Bool.not_eq_true, Bool.not_eq_false, Bool.not_true, Bool.not_false, Bool.false_eq_true, Bool.true_eq_false, reduceCtorEq, not_true_eq_false, not_false_eq_true, List.length_map] at hb) <;> (try (exfalso; omega)))
              | refine g_end th Tryd.func39 (.inr ⟨_, rfl⟩) rfl rfl rfl ⟨?_, rfl⟩
              | (refine s_idx th rfl rfl rfl rfl rfl rfl rfl rfl rfl m _ rfl hxm ?_; refine run_ th rfl ?_)
              | (refine s_has th rfl rfl rfl rfl rfl rfl rfl rfl rfl rfl rfl ?_; refine run_ th rfl ?_)
              | (refine s_add rfl rfl rfl rfl rfl rfl (by omega) ?_; refine run_ th rfl ?_))
            · have hn : ws[m] ∉ l := fun h => by
                have := mem_addAll_nil.2 h
                simp_all
              have : (ws.all fun q => decide (q ∈ l)) = false := List.all_eq_false.2 ⟨ws[m], List.getElem_mem hlm, by simp [hn]⟩
              simp [packS, hbad (by simp only [heldB, hA]; exact this)]
            · have hy : ws[m] ∈ l := by
                refine mem_addAll_nil.1 ?_
                simp_all
              have hih := ih3 (m + 1) ⟨hlm, by rw [List.take_succ_eq_append_getElem hlm, List.all_append, hall]; simp [hy]⟩ (by omega)
              exact g_sub (by exact ⟨⟨_, rfl, .refl _⟩, ⟨_, rfl, .refl _⟩, ⟨_, rfl, .refl _⟩, ⟨_, rfl, .refl _⟩, ⟨_, rfl, .refl _⟩, ⟨_, rfl, .refl _⟩, ⟨_, rfl, .refl _⟩, ⟨_, rfl, le_int (by omega)⟩, trivial⟩) (by exact ⟨⟨_, rfl, .refl _⟩, ⟨_, rfl, .refl _⟩, trivial⟩) rfl rfl rfl hih
          · have hme : m = ws.length := by omega
            subst hme
            rw [List.take_length] at hall
            have hih := ih (k + 1) ⟨hlt2, by rw [List.take_succ_eq_append_getElem hlt2, List.all_append, hheld]; simp [heldB, hA]; simpa using hall⟩ (by omega)
            repeat' (first
              | refine g_seq ?_
              | (refine g_region ?_; refine run_ th rfl ?_)
              | (refine g_drawC mix rfl rfl ?_; refine drun_ th rfl ?_)
              | (refine g_drawEC mix rfl rfl ?_; refine erun_ th rfl ?_)
              | refine SOps.nil ?_
              | refine DOps.nil ?_
              | refine EOps.nil ?_ rfl rfl
              | refine g_block ?_
              | refine g_inBlock ?_
              | refine g_skip ?_
              | refine g_exit rfl ?_
              | refine g_if_true rfl ?_
              | refine g_if_false rfl ?_
              | (refine s_split rfl rfl (fun hb => ?_) (fun hb => ?_) <;> (try simp only [decide_eq_true_eq, decide_eq_false_iff_not, Bool.not_eq_true', Bool.not_eq_false', Bool.not_eq_true, Bool.not_eq_false, Bool.not_true, Bool.not_false, Bool.false_eq_true, Bool.true_eq_false, reduceCtorEq, not_true_eq_false, not_false_eq_true, List.length_map] at hb) <;> first | (exfalso; omega) | refine run_ th rfl ?_)
              | (refine d_split rfl rfl rfl (fun hb => ?_) (fun hb => ?_) <;> (try simp only [decide_eq_true_eq, decide_eq_false_iff_not, Bool.not_eq_true', Bool.not_eq_false', Bool.not_eq_true, Bool.not_eq_false, Bool.not_true, Bool.not_false, Bool.false_eq_true, Bool.true_eq_false, reduceCtorEq, not_true_eq_false, not_false_eq_true, List.length_map] at hb) <;> first | (exfalso; omega) | refine drun_ th rfl ?_)
              | (refine g_if rfl (fun hb => ?_) (fun hb => ?_) <;> (try simp only [decide_eq_true_eq, decide_eq_false_iff_not, Bool.not_eq_true', Bool.not_eq_false', Bool.not_eq_true, Bool.not_eq_false, Bool.not_true, Bool.not_false, Bool.false_eq_true, Bool.true_eq_false, reduceCtorEq, not_true_eq_false, not_false_eq_true, List.length_map] at hb) <;> (try (exfalso; omega)))
              | refine g_end th Tryd.func39 (.inr ⟨_, rfl⟩) rfl rfl rfl ⟨?_, rfl⟩
              | (refine s_add rfl rfl rfl rfl rfl rfl (by omega) ?_; refine run_ th rfl ?_))
            all_goals exact g_sub (by exact ⟨⟨_, rfl, .refl _⟩, ⟨_, rfl, .refl _⟩, ⟨_, rfl, .refl _⟩, ⟨_, rfl, .refl _⟩, ⟨_, rfl, le_int (by omega)⟩, trivial⟩) (by exact ⟨⟨_, rfl, .refl _⟩, ⟨_, rfl, .refl _⟩, trivial⟩) rfl rfl rfl hih
      · have hke : k = l.length := by omega
        subst hke
        rw [List.take_length] at hheld
        repeat' (first
          | refine g_seq ?_
          | (refine g_region ?_; refine run_ th rfl ?_)
          | (refine g_drawC mix rfl rfl ?_; refine drun_ th rfl ?_)
          | (refine g_drawEC mix rfl rfl ?_; refine erun_ th rfl ?_)
          | refine SOps.nil ?_
          | refine DOps.nil ?_
          | refine EOps.nil ?_ rfl rfl
          | refine g_block ?_
          | refine g_inBlock ?_
          | refine g_skip ?_
          | refine g_exit rfl ?_
          | refine g_if_true rfl ?_
          | refine g_if_false rfl ?_
          | (refine s_split rfl rfl (fun hb => ?_) (fun hb => ?_) <;> (try simp only [decide_eq_true_eq, decide_eq_false_iff_not, Bool.not_eq_true', Bool.not_eq_false', Bool.not_eq_true, Bool.not_eq_false, Bool.not_true, Bool.not_false, Bool.false_eq_true, Bool.true_eq_false, reduceCtorEq, not_true_eq_false, not_false_eq_true, List.length_map] at hb) <;> first | (exfalso; omega) | refine run_ th rfl ?_)
          | (refine d_split rfl rfl rfl (fun hb => ?_) (fun hb => ?_) <;> (try simp only [decide_eq_true_eq, decide_eq_false_iff_not, Bool.not_eq_true', Bool.not_eq_false', Bool.not_eq_true, Bool.not_eq_false, Bool.not_true, Bool.not_false, Bool.false_eq_true, Bool.true_eq_false, reduceCtorEq, not_true_eq_false, not_false_eq_true, List.length_map] at hb) <;> first | (exfalso; omega) | refine drun_ th rfl ?_)
          | (refine g_if rfl (fun hb => ?_) (fun hb => ?_) <;> (try simp only [decide_eq_true_eq, decide_eq_false_iff_not, Bool.not_eq_true', Bool.not_eq_false', Bool.not_eq_true, Bool.not_eq_false, Bool.not_true, Bool.not_false, Bool.false_eq_true, Bool.true_eq_false, reduceCtorEq, not_true_eq_false, not_false_eq_true, List.length_map] at hb) <;> (try (exfalso; omega)))
          | refine g_end th Tryd.func39 (.inr ⟨_, rfl⟩) rfl rfl rfl ⟨?_, rfl⟩)
        all_goals simp_all [packS, holdsB]
end Go.Sy
