/- Contracts: UnderSteps. -/
import Derived.Test.YthjpcefjgmklfaaFp
import Derived.Test.YthjpcefjgmklfaaPe
import Derived.Test.YthjpcefjgmklfaaSy5
set_option linter.unusedSimpArgs false
set_option linter.unusedVariables false
set_option linter.unusedSectionVars false
namespace Go.Sy
open Go.Proofs
set_option maxRecDepth 100000
attribute [local irreducible] SOps Goes DOps EOps

set_option maxHeartbeats 16000000 in
theorem underSteps_c (l : List Int) (x y : Int) (ls : List Int) (hbig : (l.length + 1) * 8 ≤ 140737488355328) :
    Con Try.prog 5 [] [C1 (intsT l), C1 (.int .i64 x), C1 (.int .i64 y), C1 (intsT ls)] (Rv (.bool true)) [] := by
  refine con_of (c := _) Try.func5 rfl rfl rfl (by decide) fun w M0 H Z => ?_
  refine g_len 3 rfl fun hpl => ?_
  simp only [List.length_map] at hpl
  repeat' (first
    | refine g_seq ?_
    | (refine g_region ?_; refine run_ th rfl ?_)
    | (refine g_drawC mix rfl rfl ?_; refine drun_ th rfl ?_)
    | (refine g_drawEC mix rfl rfl ?_; refine erun_ th rfl ?_)
    | refine SOps.nil ?_
    | refine DOps.nil ?_
    | refine EOps.nil ?_ rfl rfl
    | refine g_block ?_
    | refine g_inBlock ?_
    | refine g_skip ?_
    | refine g_exit rfl ?_
    | refine g_if_true rfl ?_
    | refine g_if_false rfl ?_
    | (refine s_split rfl rfl (fun hb => ?_) (fun hb => ?_) <;> (try simp only [decide_eq_true_eq, decide_eq_false_iff_not, Bool.not_eq_true', Bool.not_eq_false', Bool.not_eq_true, Bool.not_eq_false, Bool.not_true, Bool.not_false, Bool.false_eq_true, Bool.true_eq_false, reduceCtorEq, not_true_eq_false, not_false_eq_true, List.length_map] at hb) <;> first | (exfalso; omega) | refine run_ th rfl ?_)
    | (refine d_split rfl rfl rfl (fun hb => ?_) (fun hb => ?_) <;> (try simp only [decide_eq_true_eq, decide_eq_false_iff_not, Bool.not_eq_true', Bool.not_eq_false', Bool.not_eq_true, Bool.not_eq_false, Bool.not_true, Bool.not_false, Bool.false_eq_true, Bool.true_eq_false, reduceCtorEq, not_true_eq_false, not_false_eq_true, List.length_map] at hb) <;> first | (exfalso; omega) | refine drun_ th rfl ?_)
    | (refine g_if rfl (fun hb => ?_) (fun hb => ?_) <;> (try simp only [decide_eq_true_eq, decide_eq_false_iff_not, Bool.not_eq_true', Bool.not_eq_false', Bool.not_eq_true, Bool.not_eq_false, Bool.not_true, Bool.not_false, Bool.false_eq_true, Bool.true_eq_false, reduceCtorEq, not_true_eq_false, not_false_eq_true, List.length_map] at hb) <;> (try (exfalso; omega)))
    | (refine s_call first_c [] rfl rfl rfl rfl rfl rfl rfl rfl rfl rfl ?_; refine run_ th rfl ?_)
    | (refine s_call given_c [] rfl rfl rfl rfl rfl rfl rfl rfl rfl rfl ?_; refine run_ th rfl ?_)
    | (refine s_appendF th rfl rfl rfl rfl rfl rfl rfl rfl rfl rfl rfl rfl rfl rfl (by constructor <;> simp <;> omega) ?_; refine s_freeze 23 rfl rfl ?_; refine run_ th rfl ?_)
    | (refine s_callQ (made_c givenB (6 :: l) (by simp) (by simpa using hbig)) [] rfl rfl rfl rfl rfl rfl rfl rfl rfl (fun res hr => by obtain ⟨b, _, _, _, rfl⟩ := hr; rfl) (fun res hr => ?_); obtain ⟨b, hbk, hb1, hb8, rfl⟩ := hr; refine run_ th rfl ?_)
    | (refine d_call (picku_c b _ hb1 hb8) [] rfl rfl rfl rfl rfl rfl rfl rfl rfl rfl rfl ?_; refine drun_ th rfl ?_))
  generalize pickI b.nodes.length x = p
  generalize pickI b.nodes.length y = q
  have hic := is_c b p q
  cases his : isB b p q with
  | false =>
    rw [his] at hic
    repeat' (first
      | refine g_seq ?_
      | (refine g_region ?_; refine run_ th rfl ?_)
      | (refine g_drawC mix rfl rfl ?_; refine drun_ th rfl ?_)
      | (refine g_drawEC mix rfl rfl ?_; refine erun_ th rfl ?_)
      | refine SOps.nil ?_
      | refine DOps.nil ?_
      | refine EOps.nil ?_ rfl rfl
      | refine g_block ?_
      | refine g_inBlock ?_
      | refine g_skip ?_
      | refine g_exit rfl ?_
      | refine g_if_true rfl ?_
      | refine g_if_false rfl ?_
      | (refine s_split rfl rfl (fun hb => ?_) (fun hb => ?_) <;> (try simp only [decide_eq_true_eq, decide_eq_false_iff_not, Bool.not_eq_true', Bool.not_eq_false', Bool.not_eq_true, Bool.not_eq_false, Bool.not_true, Bool.not_false, Bool.false_eq_true, Bool.true_eq_false, reduceCtorEq, not_true_eq_false, not_false_eq_true, List.length_map] at hb) <;> first | (exfalso; omega) | refine run_ th rfl ?_)
      | (refine d_split rfl rfl rfl (fun hb => ?_) (fun hb => ?_) <;> (try simp only [decide_eq_true_eq, decide_eq_false_iff_not, Bool.not_eq_true', Bool.not_eq_false', Bool.not_eq_true, Bool.not_eq_false, Bool.not_true, Bool.not_false, Bool.false_eq_true, Bool.true_eq_false, reduceCtorEq, not_true_eq_false, not_false_eq_true, List.length_map] at hb) <;> first | (exfalso; omega) | refine drun_ th rfl ?_)
      | (refine g_if rfl (fun hb => ?_) (fun hb => ?_) <;> (try simp only [decide_eq_true_eq, decide_eq_false_iff_not, Bool.not_eq_true', Bool.not_eq_false', Bool.not_eq_true, Bool.not_eq_false, Bool.not_true, Bool.not_false, Bool.false_eq_true, Bool.true_eq_false, reduceCtorEq, not_true_eq_false, not_false_eq_true, List.length_map] at hb) <;> (try (exfalso; omega)))
      | (refine s_call hic [] rfl rfl rfl rfl rfl rfl rfl rfl rfl rfl ?_; refine run_ th rfl ?_))
    first
    | exact g_endL th Try.func5 (.inr ⟨_, rfl⟩) rfl rfl rfl (.v (.one (.lit true))) rfl
    | exact g_endL th Try.func5 (.inr ⟨_, rfl⟩) rfl rfl rfl (.refl _) rfl
  | true =>
    rw [his] at hic
    repeat' (first
      | refine g_seq ?_
      | (refine g_region ?_; refine run_ th rfl ?_)
      | (refine g_drawC mix rfl rfl ?_; refine drun_ th rfl ?_)
      | (refine g_drawEC mix rfl rfl ?_; refine erun_ th rfl ?_)
      | refine SOps.nil ?_
      | refine DOps.nil ?_
      | refine EOps.nil ?_ rfl rfl
      | refine g_block ?_
      | refine g_inBlock ?_
      | refine g_skip ?_
      | refine g_exit rfl ?_
      | refine g_if_true rfl ?_
      | refine g_if_false rfl ?_
      | (refine s_split rfl rfl (fun hb => ?_) (fun hb => ?_) <;> (try simp only [decide_eq_true_eq, decide_eq_false_iff_not, Bool.not_eq_true', Bool.not_eq_false', Bool.not_eq_true, Bool.not_eq_false, Bool.not_true, Bool.not_false, Bool.false_eq_true, Bool.true_eq_false, reduceCtorEq, not_true_eq_false, not_false_eq_true, List.length_map] at hb) <;> first | (exfalso; omega) | refine run_ th rfl ?_)
      | (refine d_split rfl rfl rfl (fun hb => ?_) (fun hb => ?_) <;> (try simp only [decide_eq_true_eq, decide_eq_false_iff_not, Bool.not_eq_true', Bool.not_eq_false', Bool.not_eq_true, Bool.not_eq_false, Bool.not_true, Bool.not_false, Bool.false_eq_true, Bool.true_eq_false, reduceCtorEq, not_true_eq_false, not_false_eq_true, List.length_map] at hb) <;> first | (exfalso; omega) | refine drun_ th rfl ?_)
      | (refine g_if rfl (fun hb => ?_) (fun hb => ?_) <;> (try simp only [decide_eq_true_eq, decide_eq_false_iff_not, Bool.not_eq_true', Bool.not_eq_false', Bool.not_eq_true, Bool.not_eq_false, Bool.not_true, Bool.not_false, Bool.false_eq_true, Bool.true_eq_false, reduceCtorEq, not_true_eq_false, not_false_eq_true, List.length_map] at hb) <;> (try (exfalso; omega)))
      | (refine s_call hic [] rfl rfl rfl rfl rfl rfl rfl rfl rfl rfl ?_; refine run_ th rfl ?_))
    clear hic
    refine g_loop3 (fun (i : Nat) (p q : Int) => i ≤ ls.length ∧ isB b p q = true)
      (fun i p q => [(3, .v (C1 (intsT ls))), (9, .v (.one (.ptr 9 0))), (10, .v (C1 (.int .i64 p))), (11, .v (C1 (.int .i64 q))), (12, .v (C1 (.int .i64 (i : Int))))])
      (fun _ _ _ => [(9, .box [.c (nodesT b.nodes), .c (namesT b.names), .c (intsT b.roots)])])
      (fun i _ _ => ls.length - i) 0 p q ⟨Nat.zero_le _, his⟩
      (fun a w h => h.sub (by exact ⟨⟨_, rfl, .refl _⟩, ⟨_, rfl, .refl _⟩, ⟨_, rfl, .refl _⟩, ⟨_, rfl, .refl _⟩, ⟨_, rfl, le_int rfl⟩, trivial⟩) (by exact ⟨⟨_, rfl, .refl _⟩, trivial⟩) rfl rfl rfl) (fun i p q hI ih => ?_)
    obtain ⟨hi, hpq⟩ := hI
    by_cases hlt : i < ls.length
    · have hxl : (ls.map fun r => [CT.int .i64 r])[i]? = some [.int .i64 ls[i]] := by simp [hlt]
      have hS := step_ok hpq
      generalize ndAt b p = A at hS
      generalize ndAt b q = C at hS
      obtain ⟨ka, pa, aa⟩ := A
      obtain ⟨kc, pc, cc⟩ := C
      obtain ⟨hp, hq, hatp, hatq, hk, hpe, hla, hlc, hcases, harms, hua, huc⟩ := hS
      simp only at hk hpe hla hlc hcases harms
      subst hk hpe
      rcases hcases with ⟨h0, ha0⟩ | ⟨h1, hl1, hall⟩ | ⟨h1, hl1, hall⟩
      · subst h0 ha0
        repeat' (first
          | refine g_seq ?_
          | (refine g_region ?_; refine run_ th rfl ?_)
          | (refine g_drawC mix rfl rfl ?_; refine drun_ th rfl ?_)
          | (refine g_drawEC mix rfl rfl ?_; refine erun_ th rfl ?_)
          | refine SOps.nil ?_
          | refine DOps.nil ?_
          | refine EOps.nil ?_ rfl rfl
          | refine g_block ?_
          | refine g_inBlock ?_
          | refine g_skip ?_
          | refine g_exit rfl ?_
          | refine g_if_true rfl ?_
          | refine g_if_false rfl ?_
          | (refine s_split rfl rfl (fun hb => ?_) (fun hb => ?_) <;> (try simp only [decide_eq_true_eq, decide_eq_false_iff_not, Bool.not_eq_true', Bool.not_eq_false', Bool.not_eq_true, Bool.not_eq_false, Bool.not_true, Bool.not_false, Bool.false_eq_true, Bool.true_eq_false, reduceCtorEq, not_true_eq_false, not_false_eq_true, List.length_map] at hb) <;> first | (exfalso; omega) | refine run_ th rfl ?_)
          | (refine d_split rfl rfl rfl (fun hb => ?_) (fun hb => ?_) <;> (try simp only [decide_eq_true_eq, decide_eq_false_iff_not, Bool.not_eq_true', Bool.not_eq_false', Bool.not_eq_true, Bool.not_eq_false, Bool.not_true, Bool.not_false, Bool.false_eq_true, Bool.true_eq_false, reduceCtorEq, not_true_eq_false, not_false_eq_true, List.length_map] at hb) <;> first | (exfalso; omega) | refine drun_ th rfl ?_)
          | (refine g_if rfl (fun hb => ?_) (fun hb => ?_) <;> (try simp only [decide_eq_true_eq, decide_eq_false_iff_not, Bool.not_eq_true', Bool.not_eq_false', Bool.not_eq_true, Bool.not_eq_false, Bool.not_true, Bool.not_false, Bool.false_eq_true, Bool.true_eq_false, reduceCtorEq, not_true_eq_false, not_false_eq_true, List.length_map] at hb) <;> (try (exfalso; omega)))
          | (refine e_idx th rfl rfl rfl rfl rfl rfl rfl rfl rfl p.toNat _ (by omega) hatp ?_; refine erun_ th rfl ?_)
          | (refine e_idx th rfl rfl rfl rfl rfl rfl rfl rfl rfl q.toNat _ (by omega) hatq ?_; refine erun_ th rfl ?_)
          | exact g_endL th Try.func5 (.inr ⟨_, rfl⟩) rfl rfl rfl (.v (.one (.lit true))) rfl
          | exact g_endL th Try.func5 (.inr ⟨_, rfl⟩) rfl rfl rfl (.refl _) rfl
          | (exfalso; revert hb; simp; done))
      · subst h1
        have hfin : ∀ k m (hk : k < cc.length) (hm : m < aa.length), aa[m].label = cc[k].label → aa[m].kind = cc[k].kind ∧ isB b aa[m].next cc[k].next = true := by
          intro k m hk hm he
          exact harms _ (List.getElem_mem hm) _ (List.getElem_mem hk) he
        have hpv := pick_v (x := ls[i]) (n := (((cc.map Edge.cs).length : Nat) : Int)) (by simp; omega) (by simp; omega)
        repeat' (first
          | (refine g_drawGC [15, 16] mix rfl rfl rfl rfl rfl ?_; refine erun_ th rfl ?_)
          | refine g_seq ?_
          | (refine g_region ?_; refine run_ th rfl ?_)
          | (refine g_drawC mix rfl rfl ?_; refine drun_ th rfl ?_)
          | (refine g_drawEC mix rfl rfl ?_; refine erun_ th rfl ?_)
          | refine SOps.nil ?_
          | refine DOps.nil ?_
          | refine EOps.nil ?_ rfl rfl
          | refine g_block ?_
          | refine g_inBlock ?_
          | refine g_skip ?_
          | refine g_exit rfl ?_
          | refine g_if_true rfl ?_
          | refine g_if_false rfl ?_
          | (refine s_split rfl rfl (fun hb => ?_) (fun hb => ?_) <;> (try simp only [decide_eq_true_eq, decide_eq_false_iff_not, Bool.not_eq_true', Bool.not_eq_false', Bool.not_eq_true, Bool.not_eq_false, Bool.not_true, Bool.not_false, Bool.false_eq_true, Bool.true_eq_false, reduceCtorEq, not_true_eq_false, not_false_eq_true, List.length_map] at hb) <;> first | (exfalso; omega) | refine run_ th rfl ?_)
          | (refine d_split rfl rfl rfl (fun hb => ?_) (fun hb => ?_) <;> (try simp only [decide_eq_true_eq, decide_eq_false_iff_not, Bool.not_eq_true', Bool.not_eq_false', Bool.not_eq_true, Bool.not_eq_false, Bool.not_true, Bool.not_false, Bool.false_eq_true, Bool.true_eq_false, reduceCtorEq, not_true_eq_false, not_false_eq_true, List.length_map] at hb) <;> first | (exfalso; omega) | refine drun_ th rfl ?_)
          | (refine g_if rfl (fun hb => ?_) (fun hb => ?_) <;> (try simp only [decide_eq_true_eq, decide_eq_false_iff_not, Bool.not_eq_true', Bool.not_eq_false', Bool.not_eq_true, Bool.not_eq_false, Bool.not_true, Bool.not_false, Bool.false_eq_true, Bool.true_eq_false, reduceCtorEq, not_true_eq_false, not_false_eq_true, List.length_map] at hb) <;> (try (exfalso; omega)))
          | (refine e_idx th rfl rfl rfl rfl rfl rfl rfl rfl rfl p.toNat _ (by omega) hatp ?_; refine erun_ th rfl ?_)
          | (refine e_idx th rfl rfl rfl rfl rfl rfl rfl rfl rfl q.toNat _ (by omega) hatq ?_; refine erun_ th rfl ?_)
          | exact g_endL th Try.func5 (.inr ⟨_, rfl⟩) rfl rfl rfl (.v (.one (.lit true))) rfl
          | exact g_endL th Try.func5 (.inr ⟨_, rfl⟩) rfl rfl rfl (.refl _) rfl
          | (exfalso; revert hb; simp; done)
          | (refine d_idx th rfl rfl rfl rfl rfl rfl rfl rfl rfl i _ rfl hxl ?_; refine drun_ th rfl ?_)
          | (refine d_rem rfl rfl rfl rfl rfl rfl (by simp only [List.length_map]; rw [wrapU_id (by omega) (by omega)]; omega) ?_; refine drun_ th rfl ?_))
        generalize IntKind.i64.wrap ((IntKind.u64.wrap ls[i]).tmod (IntKind.u64.wrap (((cc.map Edge.cs).length : Nat) : Int))) = kk at hpv ⊢
        simp only [List.length_map] at hpv
        have hkl : kk.toNat < cc.length := by omega
        have hkn : kk = ((kk.toNat : Nat) : Int) := by omega
        have hxk : (cc.map Edge.cs)[kk.toNat]? = some (cc[kk.toNat]).cs := by simp [hkl]
        refine g_loop2 (fun (j : Nat) (m : Int) => j ≤ aa.length ∧ ((m = -1 ∧ ∀ t (h : t < aa.length), t < j → aa[t].label ≠ cc[kk.toNat].label) ∨ (∃ t, ∃ h : t < aa.length, m = (t : Int) ∧ aa[t].label = cc[kk.toNat].label)))
          (fun j m => [(3, .v (C1 (intsT ls))), (9, .v (.one (.ptr 9 0))), (12, .v (C1 (.int .i64 (i : Int)))), (13, .v (.one (.ptr 13 0))), (15, .v (.one (.ptr 15 0))), (16, .v (.one (.ptr 16 0))), (17, .v (C1 (.int .i64 kk))), (18, .v (C1 (.int .i64 m))), (19, .v (C1 (.int .i64 (j : Int))))])
          (fun _ _ => [(9, .box [.c (nodesT b.nodes), .c (namesT b.names), .c (intsT b.roots)]), (13, .box [.c (.int .i64 1), .c (.str pc), .c (armsT aa)]), (15, .box [.c (.int .i64 1), .c (.str pc), .c (armsT cc)]), (16, .box [.c (.int .i64 1), .c (.str pc), .c (armsT aa)])])
          (fun j _ => aa.length - j) 0 (-1) ⟨Nat.zero_le _, .inl ⟨rfl, fun t h hj => absurd hj (Nat.not_lt_zero _)⟩⟩
          (fun a w h => h.sub (by exact ⟨⟨_, rfl, .refl _⟩, ⟨_, rfl, .refl _⟩, ⟨_, rfl, .refl _⟩, ⟨_, rfl, .refl _⟩, ⟨_, rfl, .refl _⟩, ⟨_, rfl, .refl _⟩, ⟨_, rfl, .refl _⟩, ⟨_, rfl, le_int rfl⟩, ⟨_, rfl, le_int rfl⟩, trivial⟩) (by exact ⟨⟨_, rfl, .refl _⟩, ⟨_, rfl, .refl _⟩, ⟨_, rfl, .refl _⟩, ⟨_, rfl, .refl _⟩, trivial⟩) rfl rfl rfl) (fun j m hJ ih2 => ?_)
        obtain ⟨hj, hm⟩ := hJ
        by_cases hjt : j < aa.length
        · have hxj : (aa.map Edge.cs)[j]? = some (aa[j]).cs := by simp [hjt]
          repeat' (first
            | refine g_seq ?_
            | (refine g_region ?_; refine run_ th rfl ?_)
            | (refine g_drawC mix rfl rfl ?_; refine drun_ th rfl ?_)
            | (refine g_drawEC mix rfl rfl ?_; refine erun_ th rfl ?_)
            | refine SOps.nil ?_
            | refine DOps.nil ?_
            | refine EOps.nil ?_ rfl rfl
            | refine g_block ?_
            | refine g_inBlock ?_
            | refine g_skip ?_
            | refine g_exit rfl ?_
            | refine g_if_true rfl ?_
            | refine g_if_false rfl ?_
            | (refine s_split rfl rfl (fun hb => ?_) (fun hb => ?_) <;> (try simp only [decide_eq_true_eq, decide_eq_false_iff_not, Bool.not_eq_true', Bool.not_eq_false', Bool.not_eq_true, Bool.not_eq_false, Bool.not_true, Bool.not_false, Bool.false_eq_true, Bool.true_eq_false, reduceCtorEq, not_true_eq_false, not_false_eq_true, List.length_map] at hb) <;> first | (exfalso; omega) | refine run_ th rfl ?_)
            | (refine d_split rfl rfl rfl (fun hb => ?_) (fun hb => ?_) <;> (try simp only [decide_eq_true_eq, decide_eq_false_iff_not, Bool.not_eq_true', Bool.not_eq_false', Bool.not_eq_true, Bool.not_eq_false, Bool.not_true, Bool.not_false, Bool.false_eq_true, Bool.true_eq_false, reduceCtorEq, not_true_eq_false, not_false_eq_true, List.length_map] at hb) <;> first | (exfalso; omega) | refine drun_ th rfl ?_)
            | (refine g_if rfl (fun hb => ?_) (fun hb => ?_) <;> (try simp only [decide_eq_true_eq, decide_eq_false_iff_not, Bool.not_eq_true', Bool.not_eq_false', Bool.not_eq_true, Bool.not_eq_false, Bool.not_true, Bool.not_false, Bool.false_eq_true, Bool.true_eq_false, reduceCtorEq, not_true_eq_false, not_false_eq_true, List.length_map] at hb) <;> (try (exfalso; omega)))
            | (refine d_idx th rfl rfl rfl rfl rfl rfl rfl rfl rfl j _ rfl hxj ?_; refine drun_ th rfl ?_)
            | (refine d_idx th rfl rfl rfl rfl rfl rfl rfl rfl rfl kk.toNat _ hkn hxk ?_; refine drun_ th rfl ?_)
            | (refine s_add rfl rfl rfl rfl rfl rfl (by omega) ?_; refine run_ th rfl ?_))
          · have hih := ih2 (j + 1) j ⟨hjt, .inr ⟨j, hjt, rfl, hb⟩⟩ (by omega)
            exact g_sub (by exact ⟨⟨_, rfl, .refl _⟩, ⟨_, rfl, .refl _⟩, ⟨_, rfl, .refl _⟩, ⟨_, rfl, .refl _⟩, ⟨_, rfl, .refl _⟩, ⟨_, rfl, .refl _⟩, ⟨_, rfl, .refl _⟩, ⟨_, rfl, le_int rfl⟩, ⟨_, rfl, le_int (by omega)⟩, trivial⟩) (by exact ⟨⟨_, rfl, .refl _⟩, ⟨_, rfl, .refl _⟩, ⟨_, rfl, .refl _⟩, ⟨_, rfl, .refl _⟩, trivial⟩) rfl rfl rfl hih
          · have hih := ih2 (j + 1) m ⟨hjt, by
              rcases hm with ⟨hm1, hm2⟩ | hm
              · refine .inl ⟨hm1, fun t h ht => ?_⟩
                by_cases htj : t < j
                · exact hm2 t h htj
                · obtain rfl : t = j := by omega
                  exact hb
              · exact .inr hm⟩ (by omega)
            exact g_sub (by exact ⟨⟨_, rfl, .refl _⟩, ⟨_, rfl, .refl _⟩, ⟨_, rfl, .refl _⟩, ⟨_, rfl, .refl _⟩, ⟨_, rfl, .refl _⟩, ⟨_, rfl, .refl _⟩, ⟨_, rfl, .refl _⟩, ⟨_, rfl, le_int rfl⟩, ⟨_, rfl, le_int (by omega)⟩, trivial⟩) (by exact ⟨⟨_, rfl, .refl _⟩, ⟨_, rfl, .refl _⟩, ⟨_, rfl, .refl _⟩, ⟨_, rfl, .refl _⟩, trivial⟩) rfl rfl rfl hih
        · have hfound : ∃ t, ∃ h : t < aa.length, m = (t : Int) ∧ aa[t].label = cc[kk.toNat].label := by
            rcases hm with ⟨hm1, hm2⟩ | hm
            · exfalso
              obtain ⟨a, ha, hae⟩ := hall cc[kk.toNat] (List.getElem_mem hkl)
              obtain ⟨t, ht, rfl⟩ := List.mem_iff_getElem.1 ha
              exact hm2 t ht (by omega) hae
            · exact hm
          obtain ⟨t, ht, rfl, hte⟩ := hfound
          obtain ⟨hke, hnx⟩ := hfin kk.toNat t hkl ht hte
          have hxt : (aa.map Edge.cs)[t]? = some (aa[t]).cs := by simp [ht]
          have hic2 := is_c b (aa[t].next) (cc[kk.toNat].next)
          rw [hnx] at hic2
          repeat' (first
            | refine g_seq ?_
            | (refine g_region ?_; refine run_ th rfl ?_)
            | (refine g_drawC mix rfl rfl ?_; refine drun_ th rfl ?_)
            | (refine g_drawEC mix rfl rfl ?_; refine erun_ th rfl ?_)
            | refine SOps.nil ?_
            | refine DOps.nil ?_
            | refine EOps.nil ?_ rfl rfl
            | refine g_block ?_
            | refine g_inBlock ?_
            | refine g_skip ?_
            | refine g_exit rfl ?_
            | refine g_if_true rfl ?_
            | refine g_if_false rfl ?_
            | (refine s_split rfl rfl (fun hb => ?_) (fun hb => ?_) <;> (try simp only [decide_eq_true_eq, decide_eq_false_iff_not, Bool.not_eq_true', Bool.not_eq_false', Bool.not_eq_true, Bool.not_eq_false, Bool.not_true, Bool.not_false, Bool.false_eq_true, Bool.true_eq_false, reduceCtorEq, not_true_eq_false, not_false_eq_true, List.length_map] at hb) <;> first | (exfalso; omega) | refine run_ th rfl ?_)
            | (refine d_split rfl rfl rfl (fun hb => ?_) (fun hb => ?_) <;> (try simp only [decide_eq_true_eq, decide_eq_false_iff_not, Bool.not_eq_true', Bool.not_eq_false', Bool.not_eq_true, Bool.not_eq_false, Bool.not_true, Bool.not_false, Bool.false_eq_true, Bool.true_eq_false, reduceCtorEq, not_true_eq_false, not_false_eq_true, List.length_map] at hb) <;> first | (exfalso; omega) | refine drun_ th rfl ?_)
            | (refine g_if rfl (fun hb => ?_) (fun hb => ?_) <;> (try simp only [decide_eq_true_eq, decide_eq_false_iff_not, Bool.not_eq_true', Bool.not_eq_false', Bool.not_eq_true, Bool.not_eq_false, Bool.not_true, Bool.not_false, Bool.false_eq_true, Bool.true_eq_false, reduceCtorEq, not_true_eq_false, not_false_eq_true, List.length_map] at hb) <;> (try (exfalso; omega)))
            | (refine d_idx th rfl rfl rfl rfl rfl rfl rfl rfl rfl t _ rfl hxt ?_; refine drun_ th rfl ?_)
            | (refine d_idx th rfl rfl rfl rfl rfl rfl rfl rfl rfl kk.toNat _ hkn hxk ?_; refine drun_ th rfl ?_)
            | (refine s_call hic2 [] rfl rfl rfl rfl rfl rfl rfl rfl rfl rfl ?_; refine run_ th rfl ?_)
            | (refine s_add rfl rfl rfl rfl rfl rfl (by omega) ?_; refine run_ th rfl ?_))
          have hih := ih (i + 1) _ _ ⟨hlt, hnx⟩ (by omega)
          exact g_sub (by exact ⟨⟨_, rfl, .refl _⟩, ⟨_, rfl, .refl _⟩, ⟨_, rfl, .refl _⟩, ⟨_, rfl, .refl _⟩, ⟨_, rfl, le_int (by omega)⟩, trivial⟩) (by exact ⟨⟨_, rfl, .refl _⟩, trivial⟩) rfl rfl rfl hih
      · subst h1
        have hfin : ∀ k m (hk : k < aa.length) (hm : m < cc.length), cc[m].label = aa[k].label → cc[m].kind = aa[k].kind ∧ isB b aa[k].next cc[m].next = true := by
          intro k m hk hm he
          have := harms _ (List.getElem_mem hk) _ (List.getElem_mem hm) he.symm; exact ⟨this.1.symm, this.2⟩
        have hpv := pick_v (x := ls[i]) (n := (((aa.map Edge.cs).length : Nat) : Int)) (by simp; omega) (by simp; omega)
        repeat' (first
          | (refine g_drawGC [15, 16] mix rfl rfl rfl rfl rfl ?_; refine erun_ th rfl ?_)
          | refine g_seq ?_
          | (refine g_region ?_; refine run_ th rfl ?_)
          | (refine g_drawC mix rfl rfl ?_; refine drun_ th rfl ?_)
          | (refine g_drawEC mix rfl rfl ?_; refine erun_ th rfl ?_)
          | refine SOps.nil ?_
          | refine DOps.nil ?_
          | refine EOps.nil ?_ rfl rfl
          | refine g_block ?_
          | refine g_inBlock ?_
          | refine g_skip ?_
          | refine g_exit rfl ?_
          | refine g_if_true rfl ?_
          | refine g_if_false rfl ?_
          | (refine s_split rfl rfl (fun hb => ?_) (fun hb => ?_) <;> (try simp only [decide_eq_true_eq, decide_eq_false_iff_not, Bool.not_eq_true', Bool.not_eq_false', Bool.not_eq_true, Bool.not_eq_false, Bool.not_true, Bool.not_false, Bool.false_eq_true, Bool.true_eq_false, reduceCtorEq, not_true_eq_false, not_false_eq_true, List.length_map] at hb) <;> first | (exfalso; omega) | refine run_ th rfl ?_)
          | (refine d_split rfl rfl rfl (fun hb => ?_) (fun hb => ?_) <;> (try simp only [decide_eq_true_eq, decide_eq_false_iff_not, Bool.not_eq_true', Bool.not_eq_false', Bool.not_eq_true, Bool.not_eq_false, Bool.not_true, Bool.not_false, Bool.false_eq_true, Bool.true_eq_false, reduceCtorEq, not_true_eq_false, not_false_eq_true, List.length_map] at hb) <;> first | (exfalso; omega) | refine drun_ th rfl ?_)
          | (refine g_if rfl (fun hb => ?_) (fun hb => ?_) <;> (try simp only [decide_eq_true_eq, decide_eq_false_iff_not, Bool.not_eq_true', Bool.not_eq_false', Bool.not_eq_true, Bool.not_eq_false, Bool.not_true, Bool.not_false, Bool.false_eq_true, Bool.true_eq_false, reduceCtorEq, not_true_eq_false, not_false_eq_true, List.length_map] at hb) <;> (try (exfalso; omega)))
          | (refine e_idx th rfl rfl rfl rfl rfl rfl rfl rfl rfl p.toNat _ (by omega) hatp ?_; refine erun_ th rfl ?_)
          | (refine e_idx th rfl rfl rfl rfl rfl rfl rfl rfl rfl q.toNat _ (by omega) hatq ?_; refine erun_ th rfl ?_)
          | exact g_endL th Try.func5 (.inr ⟨_, rfl⟩) rfl rfl rfl (.v (.one (.lit true))) rfl
          | exact g_endL th Try.func5 (.inr ⟨_, rfl⟩) rfl rfl rfl (.refl _) rfl
          | (exfalso; revert hb; simp; done)
          | (refine d_idx th rfl rfl rfl rfl rfl rfl rfl rfl rfl i _ rfl hxl ?_; refine drun_ th rfl ?_)
          | (refine d_rem rfl rfl rfl rfl rfl rfl (by simp only [List.length_map]; rw [wrapU_id (by omega) (by omega)]; omega) ?_; refine drun_ th rfl ?_))
        generalize IntKind.i64.wrap ((IntKind.u64.wrap ls[i]).tmod (IntKind.u64.wrap (((aa.map Edge.cs).length : Nat) : Int))) = kk at hpv ⊢
        simp only [List.length_map] at hpv
        have hkl : kk.toNat < aa.length := by omega
        have hkn : kk = ((kk.toNat : Nat) : Int) := by omega
        have hxk : (aa.map Edge.cs)[kk.toNat]? = some (aa[kk.toNat]).cs := by simp [hkl]
        refine g_loop2 (fun (j : Nat) (m : Int) => j ≤ cc.length ∧ ((m = -1 ∧ ∀ t (h : t < cc.length), t < j → cc[t].label ≠ aa[kk.toNat].label) ∨ (∃ t, ∃ h : t < cc.length, m = (t : Int) ∧ cc[t].label = aa[kk.toNat].label)))
          (fun j m => [(3, .v (C1 (intsT ls))), (9, .v (.one (.ptr 9 0))), (12, .v (C1 (.int .i64 (i : Int)))), (13, .v (.one (.ptr 13 0))), (15, .v (.one (.ptr 15 0))), (16, .v (.one (.ptr 16 0))), (17, .v (C1 (.int .i64 kk))), (18, .v (C1 (.int .i64 m))), (19, .v (C1 (.int .i64 (j : Int))))])
          (fun _ _ => [(9, .box [.c (nodesT b.nodes), .c (namesT b.names), .c (intsT b.roots)]), (13, .box [.c (.int .i64 2), .c (.str pc), .c (armsT aa)]), (15, .box [.c (.int .i64 2), .c (.str pc), .c (armsT aa)]), (16, .box [.c (.int .i64 2), .c (.str pc), .c (armsT cc)])])
          (fun j _ => cc.length - j) 0 (-1) ⟨Nat.zero_le _, .inl ⟨rfl, fun t h hj => absurd hj (Nat.not_lt_zero _)⟩⟩
          (fun a w h => h.sub (by exact ⟨⟨_, rfl, .refl _⟩, ⟨_, rfl, .refl _⟩, ⟨_, rfl, .refl _⟩, ⟨_, rfl, .refl _⟩, ⟨_, rfl, .refl _⟩, ⟨_, rfl, .refl _⟩, ⟨_, rfl, .refl _⟩, ⟨_, rfl, le_int rfl⟩, ⟨_, rfl, le_int rfl⟩, trivial⟩) (by exact ⟨⟨_, rfl, .refl _⟩, ⟨_, rfl, .refl _⟩, ⟨_, rfl, .refl _⟩, ⟨_, rfl, .refl _⟩, trivial⟩) rfl rfl rfl) (fun j m hJ ih2 => ?_)
        obtain ⟨hj, hm⟩ := hJ
        by_cases hjt : j < cc.length
        · have hxj : (cc.map Edge.cs)[j]? = some (cc[j]).cs := by simp [hjt]
          repeat' (first
            | refine g_seq ?_
            | (refine g_region ?_; refine run_ th rfl ?_)
            | (refine g_drawC mix rfl rfl ?_; refine drun_ th rfl ?_)
            | (refine g_drawEC mix rfl rfl ?_; refine erun_ th rfl ?_)
            | refine SOps.nil ?_
            | refine DOps.nil ?_
            | refine EOps.nil ?_ rfl rfl
            | refine g_block ?_
            | refine g_inBlock ?_
            | refine g_skip ?_
            | refine g_exit rfl ?_
            | refine g_if_true rfl ?_
            | refine g_if_false rfl ?_
            | (refine s_split rfl rfl (fun hb => ?_) (fun hb => ?_) <;> (try simp only [decide_eq_true_eq, decide_eq_false_iff_not, Bool.not_eq_true', Bool.not_eq_false', Bool.not_eq_true, Bool.not_eq_false, Bool.not_true, Bool.not_false, Bool.false_eq_true, Bool.true_eq_false, reduceCtorEq, not_true_eq_false, not_false_eq_true, List.length_map] at hb) <;> first | (exfalso; omega) | refine run_ th rfl ?_)
            | (refine d_split rfl rfl rfl (fun hb => ?_) (fun hb => ?_) <;> (try simp only [decide_eq_true_eq, decide_eq_false_iff_not, Bool.not_eq_true', Bool.not_eq_false', Bool.not_eq_true, Bool.not_eq_false, Bool.not_true, Bool.not_false, Bool.false_eq_true, Bool.true_eq_false, reduceCtorEq, not_true_eq_false, not_false_eq_true, List.length_map] at hb) <;> first | (exfalso; omega) | refine drun_ th rfl ?_)
            | (refine g_if rfl (fun hb => ?_) (fun hb => ?_) <;> (try simp only [decide_eq_true_eq, decide_eq_false_iff_not, Bool.not_eq_true', Bool.not_eq_false', Bool.not_eq_true, Bool.not_eq_false, Bool.not_true, Bool.not_false, Bool.false_eq_true, Bool.true_eq_false, reduceCtorEq, not_true_eq_false, not_false_eq_true, List.length_map] at hb) <;> (try (exfalso; omega)))
            | (refine d_idx th rfl rfl rfl rfl rfl rfl rfl rfl rfl j _ rfl hxj ?_; refine drun_ th rfl ?_)
            | (refine d_idx th rfl rfl rfl rfl rfl rfl rfl rfl rfl kk.toNat _ hkn hxk ?_; refine drun_ th rfl ?_)
            | (refine s_add rfl rfl rfl rfl rfl rfl (by omega) ?_; refine run_ th rfl ?_))
          · have hih := ih2 (j + 1) j ⟨hjt, .inr ⟨j, hjt, rfl, hb⟩⟩ (by omega)
            exact g_sub (by exact ⟨⟨_, rfl, .refl _⟩, ⟨_, rfl, .refl _⟩, ⟨_, rfl, .refl _⟩, ⟨_, rfl, .refl _⟩, ⟨_, rfl, .refl _⟩, ⟨_, rfl, .refl _⟩, ⟨_, rfl, .refl _⟩, ⟨_, rfl, le_int rfl⟩, ⟨_, rfl, le_int (by omega)⟩, trivial⟩) (by exact ⟨⟨_, rfl, .refl _⟩, ⟨_, rfl, .refl _⟩, ⟨_, rfl, .refl _⟩, ⟨_, rfl, .refl _⟩, trivial⟩) rfl rfl rfl hih
          · have hih := ih2 (j + 1) m ⟨hjt, by
              rcases hm with ⟨hm1, hm2⟩ | hm
              · refine .inl ⟨hm1, fun t h ht => ?_⟩
                by_cases htj : t < j
                · exact hm2 t h htj
                · obtain rfl : t = j := by omega
                  exact hb
              · exact .inr hm⟩ (by omega)
            exact g_sub (by exact ⟨⟨_, rfl, .refl _⟩, ⟨_, rfl, .refl _⟩, ⟨_, rfl, .refl _⟩, ⟨_, rfl, .refl _⟩, ⟨_, rfl, .refl _⟩, ⟨_, rfl, .refl _⟩, ⟨_, rfl, .refl _⟩, ⟨_, rfl, le_int rfl⟩, ⟨_, rfl, le_int (by omega)⟩, trivial⟩) (by exact ⟨⟨_, rfl, .refl _⟩, ⟨_, rfl, .refl _⟩, ⟨_, rfl, .refl _⟩, ⟨_, rfl, .refl _⟩, trivial⟩) rfl rfl rfl hih
        · have hfound : ∃ t, ∃ h : t < cc.length, m = (t : Int) ∧ cc[t].label = aa[kk.toNat].label := by
            rcases hm with ⟨hm1, hm2⟩ | hm
            · exfalso
              obtain ⟨a, ha, hae⟩ := hall aa[kk.toNat] (List.getElem_mem hkl)
              obtain ⟨t, ht, rfl⟩ := List.mem_iff_getElem.1 ha
              exact hm2 t ht (by omega) hae
            · exact hm
          obtain ⟨t, ht, rfl, hte⟩ := hfound
          obtain ⟨hke, hnx⟩ := hfin kk.toNat t hkl ht hte
          have hxt : (cc.map Edge.cs)[t]? = some (cc[t]).cs := by simp [ht]
          have hic2 := is_c b (aa[kk.toNat].next) (cc[t].next)
          rw [hnx] at hic2
          repeat' (first
            | refine g_seq ?_
            | (refine g_region ?_; refine run_ th rfl ?_)
            | (refine g_drawC mix rfl rfl ?_; refine drun_ th rfl ?_)
            | (refine g_drawEC mix rfl rfl ?_; refine erun_ th rfl ?_)
            | refine SOps.nil ?_
            | refine DOps.nil ?_
            | refine EOps.nil ?_ rfl rfl
            | refine g_block ?_
            | refine g_inBlock ?_
            | refine g_skip ?_
            | refine g_exit rfl ?_
            | refine g_if_true rfl ?_
            | refine g_if_false rfl ?_
            | (refine s_split rfl rfl (fun hb => ?_) (fun hb => ?_) <;> (try simp only [decide_eq_true_eq, decide_eq_false_iff_not, Bool.not_eq_true', Bool.not_eq_false', Bool.not_eq_true, Bool.not_eq_false, Bool.not_true, Bool.not_false, Bool.false_eq_true, Bool.true_eq_false, reduceCtorEq, not_true_eq_false, not_false_eq_true, List.length_map] at hb) <;> first | (exfalso; omega) | refine run_ th rfl ?_)
            | (refine d_split rfl rfl rfl (fun hb => ?_) (fun hb => ?_) <;> (try simp only [decide_eq_true_eq, decide_eq_false_iff_not, Bool.not_eq_true', Bool.not_eq_false', Bool.not_eq_true, Bool.not_eq_false, Bool.not_true, Bool.not_false, Bool.false_eq_true, Bool.true_eq_false, reduceCtorEq, not_true_eq_false, not_false_eq_true, List.length_map] at hb) <;> first | (exfalso; omega) | refine drun_ th rfl ?_)
            | (refine g_if rfl (fun hb => ?_) (fun hb => ?_) <;> (try simp only [decide_eq_true_eq, decide_eq_false_iff_not, Bool.not_eq_true', Bool.not_eq_false', Bool.not_eq_true, Bool.not_eq_false, Bool.not_true, Bool.not_false, Bool.false_eq_true, Bool.true_eq_false, reduceCtorEq, not_true_eq_false, not_false_eq_true, List.length_map] at hb) <;> (try (exfalso; omega)))
            | (refine d_idx th rfl rfl rfl rfl rfl rfl rfl rfl rfl t _ rfl hxt ?_; refine drun_ th rfl ?_)
            | (refine d_idx th rfl rfl rfl rfl rfl rfl rfl rfl rfl kk.toNat _ hkn hxk ?_; refine drun_ th rfl ?_)
            | (refine s_call hic2 [] rfl rfl rfl rfl rfl rfl rfl rfl rfl rfl ?_; refine run_ th rfl ?_)
            | (refine s_add rfl rfl rfl rfl rfl rfl (by omega) ?_; refine run_ th rfl ?_))
          have hih := ih (i + 1) _ _ ⟨hlt, hnx⟩ (by omega)
          exact g_sub (by exact ⟨⟨_, rfl, .refl _⟩, ⟨_, rfl, .refl _⟩, ⟨_, rfl, .refl _⟩, ⟨_, rfl, .refl _⟩, ⟨_, rfl, le_int (by omega)⟩, trivial⟩) (by exact ⟨⟨_, rfl, .refl _⟩, trivial⟩) rfl rfl rfl hih
    · skip
      repeat' (first
        | refine g_seq ?_
        | (refine g_region ?_; refine run_ th rfl ?_)
        | (refine g_drawC mix rfl rfl ?_; refine drun_ th rfl ?_)
        | (refine g_drawEC mix rfl rfl ?_; refine erun_ th rfl ?_)
        | refine SOps.nil ?_
        | refine DOps.nil ?_
        | refine EOps.nil ?_ rfl rfl
        | refine g_block ?_
        | refine g_inBlock ?_
        | refine g_skip ?_
        | refine g_exit rfl ?_
        | refine g_if_true rfl ?_
        | refine g_if_false rfl ?_
        | (refine s_split rfl rfl (fun hb => ?_) (fun hb => ?_) <;> (try simp only [decide_eq_true_eq, decide_eq_false_iff_not, Bool.not_eq_true', Bool.not_eq_false', Bool.not_eq_true, Bool.not_eq_false, Bool.not_true, Bool.not_false, Bool.false_eq_true, Bool.true_eq_false, reduceCtorEq, not_true_eq_false, not_false_eq_true, List.length_map] at hb) <;> first | (exfalso; omega) | refine run_ th rfl ?_)
        | (refine d_split rfl rfl rfl (fun hb => ?_) (fun hb => ?_) <;> (try simp only [decide_eq_true_eq, decide_eq_false_iff_not, Bool.not_eq_true', Bool.not_eq_false', Bool.not_eq_true, Bool.not_eq_false, Bool.not_true, Bool.not_false, Bool.false_eq_true, Bool.true_eq_false, reduceCtorEq, not_true_eq_false, not_false_eq_true, List.length_map] at hb) <;> first | (exfalso; omega) | refine drun_ th rfl ?_)
        | (refine g_if rfl (fun hb => ?_) (fun hb => ?_) <;> (try simp only [decide_eq_true_eq, decide_eq_false_iff_not, Bool.not_eq_true', Bool.not_eq_false', Bool.not_eq_true, Bool.not_eq_false, Bool.not_true, Bool.not_false, Bool.false_eq_true, Bool.true_eq_false, reduceCtorEq, not_true_eq_false, not_false_eq_true, List.length_map] at hb) <;> (try (exfalso; omega)))
        | exact g_endL th Try.func5 (.inr ⟨_, rfl⟩) rfl rfl rfl (.v (.one (.lit true))) rfl
        | exact g_endL th Try.func5 (.inr ⟨_, rfl⟩) rfl rfl rfl (.refl _) rfl)
end Go.Sy

