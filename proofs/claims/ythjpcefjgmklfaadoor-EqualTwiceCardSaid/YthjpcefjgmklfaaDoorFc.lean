/- Contracts: a valid book. -/
import Derived.Test.YthjpcefjgmklfaaDoorFb
import Derived.Test.YthjpcefjgmklfaaDoorDat
set_option linter.unusedSimpArgs false
set_option linter.unusedVariables false
set_option linter.unusedSectionVars false
namespace Go.Sy
open Go.Proofs
set_option maxRecDepth 100000
attribute [local irreducible] SOps Goes DOps

def sortB (k at_ n : Int) : Bool :=
  if k = 5 then decide (at_ ≥ 0) && decide (at_ < n) else decide (k ≥ 0) && decide (k < 5) && decide (at_ = 0)

theorem sort_c (k at_ n : Int) : Con Tryd.prog 49 [] [Ag [.int .i64 k, .int .i64 at_], C1 (.int .i64 n)] (Rv (.bool (sortB k at_ n))) [] := by
  refine con_of (c := _) Tryd.func49 rfl rfl rfl (by decide) fun w M0 H Z => ?_
  repeat' (first
    | refine g_seq ?_
    | (refine g_region ?_; refine run_ th rfl ?_)
    | (refine g_drawC mix rfl rfl ?_; refine drun_ th rfl ?_)
    | (refine g_drawEC mix rfl rfl ?_; refine erun_ th rfl ?_)
    | refine SOps.nil ?_
    | refine DOps.nil ?_
    | refine EOps.nil ?_ rfl rfl
    | refine g_block ?_
    | refine g_inBlock ?_
    | refine g_skip ?_
    | refine g_exit rfl ?_
    | refine g_if_true rfl ?_
    | refine g_if_false rfl ?_
    | (refine s_split rfl rfl (fun hb => ?_) (fun hb => ?_) <;> (try simp only [decide_eq_true_eq, decide_eq_false_iff_not, Bool.not_eq_true', Bool.not_eq_false', Bool.not_eq_true, Bool.not_eq_false, Bool.not_true, Bool.not_false, Bool.false_eq_true, Bool.true_eq_false, reduceCtorEq, not_true_eq_false, not_false_eq_true, List.length_map] at hb) <;> first | (exfalso; omega) | refine run_ th rfl ?_)
    | (refine d_split rfl rfl rfl (fun hb => ?_) (fun hb => ?_) <;> (try simp only [decide_eq_true_eq, decide_eq_false_iff_not, Bool.not_eq_true', Bool.not_eq_false', Bool.not_eq_true, Bool.not_eq_false, Bool.not_true, Bool.not_false, Bool.false_eq_true, Bool.true_eq_false, reduceCtorEq, not_true_eq_false, not_false_eq_true, List.length_map] at hb) <;> first | (exfalso; omega) | refine drun_ th rfl ?_)
    | (refine g_if rfl (fun hb => ?_) (fun hb => ?_) <;> (try simp only [decide_eq_true_eq, decide_eq_false_iff_not, Bool.not_eq_true', Bool.not_eq_false', Bool.not_eq_true, Bool.not_eq_false, Bool.not_true, Bool.not_false, Bool.false_eq_true, Bool.true_eq_false, reduceCtorEq, not_true_eq_false, not_false_eq_true, List.length_map] at hb) <;> (try (exfalso; omega)))
    | refine g_end th Tryd.func49 (.inr ⟨_, rfl⟩) rfl rfl rfl ⟨?_, rfl⟩)
  all_goals simp [packS, sortB, *]

def okAt (n : Int) (l : List Edge) (i : Nat) : Bool :=
  match l[i]? with
  | none => true
  | some e => nameB e.label && ((match i with | 0 => true | j + 1 => (match l[j]? with | some p => sLt p.label e.label | none => true)) && (decide (0 ≤ e.next) && (decide (e.next < n) && sortB e.kind e.at_ n)))
def armsB (n : Int) (l : List Edge) : Bool := (List.range l.length).all (okAt n l)
def nodeB (n : Int) (x : Nd) : Bool :=
  if x.kind = 0 then decide (x.peer = ⟨#[]⟩) && decide (x.arms.length = 0)
  else (decide (x.kind = 1) || decide (x.kind = 2)) && (nameB x.peer && (decide (1 ≤ x.arms.length) && (decide (x.arms.length ≤ 6) && armsB n x.arms)))

theorem okAt_zero {n : Int} {l : List Edge} (h : 0 < l.length) :
    okAt n l 0 = (nameB l[0].label && (decide (0 ≤ l[0].next) && (decide (l[0].next < n) && sortB l[0].kind l[0].at_ n))) := by simp [okAt, h]
theorem okAt_succ {n : Int} {l : List Edge} {j : Nat} (h : j + 1 < l.length) :
    okAt n l (j + 1) = (nameB l[j + 1].label && (sLt l[j].label l[j + 1].label && (decide (0 ≤ l[j + 1].next) && (decide (l[j + 1].next < n) && sortB l[j + 1].kind l[j + 1].at_ n)))) := by
  simp [okAt, h, show j < l.length by omega]
theorem armsB_false {n : Int} {l : List Edge} {k : Nat} (hk : k < l.length) (h : okAt n l k = false) : armsB n l = false :=
  List.all_eq_false.2 ⟨k, List.mem_range.2 hk, by simp [h]⟩

set_option maxHeartbeats 4000000 in
theorem node_c (x : Nd) (n : Int) : Con Tryd.prog 37 [] [Ag x.cs, C1 (.int .i64 n)] (Rv (.bool (nodeB n x))) [] := by
  obtain ⟨kind, peer, arms⟩ := x
  refine con_of (c := _) Tryd.func37 rfl rfl rfl (by decide) fun w M0 H Z => ?_
  repeat' (first
    | refine g_seq ?_
    | (refine g_region ?_; refine run_ th rfl ?_)
    | (refine g_drawC mix rfl rfl ?_; refine drun_ th rfl ?_)
    | (refine g_drawEC mix rfl rfl ?_; refine erun_ th rfl ?_)
    | refine SOps.nil ?_
    | refine DOps.nil ?_
    | refine EOps.nil ?_ rfl rfl
    | refine g_block ?_
    | refine g_inBlock ?_
    | refine g_skip ?_
    | refine g_exit rfl ?_
    | refine g_if_true rfl ?_
    | refine g_if_false rfl ?_
    | (refine s_split rfl rfl (fun hb => ?_) (fun hb => ?_) <;> (try simp only [decide_eq_true_eq, decide_eq_false_iff_not, Bool.not_eq_true', Bool.not_eq_false', Bool.not_eq_true, Bool.not_eq_false, Bool.not_true, Bool.not_false, Bool.false_eq_true, Bool.true_eq_false, reduceCtorEq, not_true_eq_false, not_false_eq_true, List.length_map] at hb) <;> first | (exfalso; omega) | refine run_ th rfl ?_)
    | (refine d_split rfl rfl rfl (fun hb => ?_) (fun hb => ?_) <;> (try simp only [decide_eq_true_eq, decide_eq_false_iff_not, Bool.not_eq_true', Bool.not_eq_false', Bool.not_eq_true, Bool.not_eq_false, Bool.not_true, Bool.not_false, Bool.false_eq_true, Bool.true_eq_false, reduceCtorEq, not_true_eq_false, not_false_eq_true, List.length_map] at hb) <;> first | (exfalso; omega) | refine drun_ th rfl ?_)
    | (refine g_if rfl (fun hb => ?_) (fun hb => ?_) <;> (try simp only [decide_eq_true_eq, decide_eq_false_iff_not, Bool.not_eq_true', Bool.not_eq_false', Bool.not_eq_true, Bool.not_eq_false, Bool.not_true, Bool.not_false, Bool.false_eq_true, Bool.true_eq_false, reduceCtorEq, not_true_eq_false, not_false_eq_true, List.length_map] at hb) <;> (try (exfalso; omega)))
    | refine g_end th Tryd.func37 (.inr ⟨_, rfl⟩) rfl rfl rfl ⟨?_, rfl⟩
    | (refine s_call (may_c _) [] rfl rfl rfl rfl rfl rfl rfl rfl rfl rfl ?_; refine run_ th rfl ?_))
  all_goals try simp only [List.length_map] at *
  all_goals try (simp [packS, nodeB, *]; done)
  all_goals try (simp [packS, nodeB, *]; omega)
  all_goals
    have hnode : nodeB n ⟨kind, peer, arms⟩ = armsB n arms := by
      have h1 : 1 ≤ arms.length := by omega
      have h2 : arms.length ≤ 6 := by omega
      simp [nodeB, *]
    refine g_loop1 (fun k : Nat => k ≤ arms.length ∧ (List.range k).all (okAt n arms) = true)
      (fun k => [(1, .v (C1 (.int .i64 n))), (2, .v (.one (.ptr 2 0))), (46, .v (C1 (armsT arms))), (47, .v (C1 (.int .i64 (arms.length : Int)))), (48, .v (C1 (.int .i64 (k : Int))))])
      (fun _ => [(2, .box [.c (.int .i64 kind), .c (.str peer), .c (armsT arms)])]) (fun k => arms.length - k) 0 ⟨Nat.zero_le _, rfl⟩
      (fun a w h => h.sub (by exact ⟨⟨_, rfl, .refl _⟩, ⟨_, rfl, .refl _⟩, ⟨_, rfl, .refl _⟩, ⟨_, rfl, le_int (by simp)⟩, ⟨_, rfl, le_int rfl⟩, trivial⟩) (by exact ⟨⟨_, rfl, .refl _⟩, trivial⟩) rfl rfl rfl) (fun k hk ih => ?_)
    obtain ⟨hk, hok⟩ := hk
    by_cases hlt : k < arms.length
    · have hx : (arms.map Edge.cs)[k]? = some (arms[k]).cs := by simp [hlt]
      cases k with
      | zero =>
        repeat' (first
          | refine g_seq ?_
          | (refine g_region ?_; refine run_ th rfl ?_)
          | (refine g_drawC mix rfl rfl ?_; refine drun_ th rfl ?_)
          | (refine g_drawEC mix rfl rfl ?_; refine erun_ th rfl ?_)
          | refine SOps.nil ?_
          | refine DOps.nil ?_
          | refine EOps.nil ?_ rfl rfl
          | refine g_block ?_
          | refine g_inBlock ?_
          | refine g_skip ?_
          | refine g_exit rfl ?_
          | refine g_if_true rfl ?_
          | refine g_if_false rfl ?_
          | (refine s_split rfl rfl (fun hb => ?_) (fun hb => ?_) <;> (try simp only [decide_eq_true_eq, decide_eq_false_iff_not, Bool.not_eq_true', Bool.not_eq_false', Bool.not_eq_true, Bool.not_eq_false, Bool.not_true, Bool.not_false, Bool.false_eq_true, Bool.true_eq_false, reduceCtorEq, not_true_eq_false, not_false_eq_true, List.length_map] at hb) <;> first | (exfalso; omega) | refine run_ th rfl ?_)
          | (refine d_split rfl rfl rfl (fun hb => ?_) (fun hb => ?_) <;> (try simp only [decide_eq_true_eq, decide_eq_false_iff_not, Bool.not_eq_true', Bool.not_eq_false', Bool.not_eq_true, Bool.not_eq_false, Bool.not_true, Bool.not_false, Bool.false_eq_true, Bool.true_eq_false, reduceCtorEq, not_true_eq_false, not_false_eq_true, List.length_map] at hb) <;> first | (exfalso; omega) | refine drun_ th rfl ?_)
          | (refine g_if rfl (fun hb => ?_) (fun hb => ?_) <;> (try simp only [decide_eq_true_eq, decide_eq_false_iff_not, Bool.not_eq_true', Bool.not_eq_false', Bool.not_eq_true, Bool.not_eq_false, Bool.not_true, Bool.not_false, Bool.false_eq_true, Bool.true_eq_false, reduceCtorEq, not_true_eq_false, not_false_eq_true, List.length_map] at hb) <;> (try (exfalso; omega)))
          | refine g_end th Tryd.func37 (.inr ⟨_, rfl⟩) rfl rfl rfl ⟨?_, rfl⟩
          | (refine s_idx th rfl rfl rfl rfl rfl rfl rfl rfl rfl 0 (arms[0]).cs rfl hx ?_; refine run_ th rfl ?_)
          | (refine s_add rfl rfl rfl rfl rfl rfl (by omega) ?_; refine run_ th rfl ?_)
          | (refine d_call (may_c _) [] rfl rfl rfl rfl rfl rfl rfl rfl rfl rfl rfl ?_; refine drun_ th rfl ?_)
          | (refine d_call (sort_c _ _ _) [] rfl rfl rfl rfl rfl rfl rfl rfl rfl rfl rfl ?_; refine drun_ th rfl ?_))
        all_goals first
          | (have hbad : okAt n arms 0 = false := by
               clear ih
               rw [okAt_zero hlt]
               first | (simp [*]; done) | (simp [*]; intros; omega) | (simp [*]; intros; exfalso; omega)
             simp [packS, hnode, armsB_false hlt hbad]; done)
          | (refine g_sub (by exact ⟨⟨_, rfl, .refl _⟩, ⟨_, rfl, .refl _⟩, ⟨_, rfl, .refl _⟩, ⟨_, rfl, le_int rfl⟩, ⟨_, rfl, le_int (by omega)⟩, trivial⟩) (by exact ⟨⟨_, rfl, .refl _⟩, trivial⟩) rfl rfl rfl (ih (0 + 1) ⟨hlt, ?_⟩ (by omega))
             rw [List.range_succ, List.all_append, hok]
             clear ih
             simp only [List.all_cons, List.all_nil, Bool.true_and, Bool.and_true]
             rw [okAt_zero hlt]
             first | (simp [*]; done) | (simp [*]; omega))
      | succ j =>
        have hx' : (arms.map Edge.cs)[j]? = some (arms[j]).cs := by simp [show j < arms.length by omega]
        repeat' (first
          | refine g_seq ?_
          | (refine g_region ?_; refine run_ th rfl ?_)
          | (refine g_drawC mix rfl rfl ?_; refine drun_ th rfl ?_)
          | (refine g_drawEC mix rfl rfl ?_; refine erun_ th rfl ?_)
          | refine SOps.nil ?_
          | refine DOps.nil ?_
          | refine EOps.nil ?_ rfl rfl
          | refine g_block ?_
          | refine g_inBlock ?_
          | refine g_skip ?_
          | refine g_exit rfl ?_
          | refine g_if_true rfl ?_
          | refine g_if_false rfl ?_
          | (refine s_split rfl rfl (fun hb => ?_) (fun hb => ?_) <;> (try simp only [decide_eq_true_eq, decide_eq_false_iff_not, Bool.not_eq_true', Bool.not_eq_false', Bool.not_eq_true, Bool.not_eq_false, Bool.not_true, Bool.not_false, Bool.false_eq_true, Bool.true_eq_false, reduceCtorEq, not_true_eq_false, not_false_eq_true, List.length_map] at hb) <;> first | (exfalso; omega) | refine run_ th rfl ?_)
          | (refine d_split rfl rfl rfl (fun hb => ?_) (fun hb => ?_) <;> (try simp only [decide_eq_true_eq, decide_eq_false_iff_not, Bool.not_eq_true', Bool.not_eq_false', Bool.not_eq_true, Bool.not_eq_false, Bool.not_true, Bool.not_false, Bool.false_eq_true, Bool.true_eq_false, reduceCtorEq, not_true_eq_false, not_false_eq_true, List.length_map] at hb) <;> first | (exfalso; omega) | refine drun_ th rfl ?_)
          | (refine g_if rfl (fun hb => ?_) (fun hb => ?_) <;> (try simp only [decide_eq_true_eq, decide_eq_false_iff_not, Bool.not_eq_true', Bool.not_eq_false', Bool.not_eq_true, Bool.not_eq_false, Bool.not_true, Bool.not_false, Bool.false_eq_true, Bool.true_eq_false, reduceCtorEq, not_true_eq_false, not_false_eq_true, List.length_map] at hb) <;> (try (exfalso; omega)))
          | refine g_end th Tryd.func37 (.inr ⟨_, rfl⟩) rfl rfl rfl ⟨?_, rfl⟩
          | (refine s_idx th rfl rfl rfl rfl rfl rfl rfl rfl rfl (j + 1) (arms[j + 1]).cs rfl hx ?_; refine run_ th rfl ?_)
          | (refine s_add rfl rfl rfl rfl rfl rfl (by omega) ?_; refine run_ th rfl ?_)
          | (refine d_call (may_c _) [] rfl rfl rfl rfl rfl rfl rfl rfl rfl rfl rfl ?_; refine drun_ th rfl ?_)
          | (refine d_call (sort_c _ _ _) [] rfl rfl rfl rfl rfl rfl rfl rfl rfl rfl rfl ?_; refine drun_ th rfl ?_)
          | (refine d_subI rfl rfl rfl rfl rfl rfl (by omega) ?_; refine drun_ th rfl ?_)
          | (refine d_idx th rfl rfl rfl rfl rfl rfl rfl rfl rfl j (arms[j]).cs (by omega) hx' ?_; refine drun_ th rfl ?_))
        all_goals first
          | (have hbad : okAt n arms (j + 1) = false := by
               clear ih
               rw [okAt_succ hlt]
               first | (simp [*]; done) | (simp [*]; intros; omega) | (simp [*]; intros; exfalso; omega)
             simp [packS, hnode, armsB_false hlt hbad]; done)
          | (refine g_sub (by exact ⟨⟨_, rfl, .refl _⟩, ⟨_, rfl, .refl _⟩, ⟨_, rfl, .refl _⟩, ⟨_, rfl, le_int rfl⟩, ⟨_, rfl, le_int (by omega)⟩, trivial⟩) (by exact ⟨⟨_, rfl, .refl _⟩, trivial⟩) rfl rfl rfl (ih ((j + 1) + 1) ⟨hlt, ?_⟩ (by omega))
             rw [List.range_succ, List.all_append, hok]
             clear ih
             simp only [List.all_cons, List.all_nil, Bool.true_and, Bool.and_true]
             rw [okAt_succ hlt]
             first | (simp [*]; done) | (simp [*]; omega))
    · have hke : k = arms.length := by omega
      subst hke
      repeat' (first
        | refine g_seq ?_
        | (refine g_region ?_; refine run_ th rfl ?_)
        | (refine g_drawC mix rfl rfl ?_; refine drun_ th rfl ?_)
        | (refine g_drawEC mix rfl rfl ?_; refine erun_ th rfl ?_)
        | refine SOps.nil ?_
        | refine DOps.nil ?_
        | refine EOps.nil ?_ rfl rfl
        | refine g_block ?_
        | refine g_inBlock ?_
        | refine g_skip ?_
        | refine g_exit rfl ?_
        | refine g_if_true rfl ?_
        | refine g_if_false rfl ?_
        | (refine s_split rfl rfl (fun hb => ?_) (fun hb => ?_) <;> (try simp only [decide_eq_true_eq, decide_eq_false_iff_not, Bool.not_eq_true', Bool.not_eq_false', Bool.not_eq_true, Bool.not_eq_false, Bool.not_true, Bool.not_false, Bool.false_eq_true, Bool.true_eq_false, reduceCtorEq, not_true_eq_false, not_false_eq_true, List.length_map] at hb) <;> first | (exfalso; omega) | refine run_ th rfl ?_)
        | (refine d_split rfl rfl rfl (fun hb => ?_) (fun hb => ?_) <;> (try simp only [decide_eq_true_eq, decide_eq_false_iff_not, Bool.not_eq_true', Bool.not_eq_false', Bool.not_eq_true, Bool.not_eq_false, Bool.not_true, Bool.not_false, Bool.false_eq_true, Bool.true_eq_false, reduceCtorEq, not_true_eq_false, not_false_eq_true, List.length_map] at hb) <;> first | (exfalso; omega) | refine drun_ th rfl ?_)
        | (refine g_if rfl (fun hb => ?_) (fun hb => ?_) <;> (try simp only [decide_eq_true_eq, decide_eq_false_iff_not, Bool.not_eq_true', Bool.not_eq_false', Bool.not_eq_true, Bool.not_eq_false, Bool.not_true, Bool.not_false, Bool.false_eq_true, Bool.true_eq_false, reduceCtorEq, not_true_eq_false, not_false_eq_true, List.length_map] at hb) <;> (try (exfalso; omega)))
        | refine g_end th Tryd.func37 (.inr ⟨_, rfl⟩) rfl rfl rfl ⟨?_, rfl⟩)
      all_goals simp [packS, hnode, armsB, hok]

end Go.Sy
