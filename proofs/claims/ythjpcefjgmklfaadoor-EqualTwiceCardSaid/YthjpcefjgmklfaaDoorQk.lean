/- Contracts: equal.Shrink. -/
import Derived.Test.YthjpcefjgmklfaaDoorQj
set_option linter.unusedSimpArgs false
set_option linter.unusedVariables false
set_option linter.unusedSectionVars false
namespace Go.Sy
open Go.Proofs Go.RowKit
set_option maxRecDepth 100000
attribute [local irreducible] SOps Goes DOps EOps FOps

theorem q_root {b : Bk} (h : bookB b = true) {j : Nat} (hj : j < b.roots.length) : 0 ≤ b.roots[j] ∧ b.roots[j] < b.nodes.length := by
  simp only [bookB, Bool.and_eq_true] at h
  have := List.all_eq_true.1 h.2.2.1 j (List.mem_range.2 hj)
  unfold rootAt at this
  rw [List.getElem?_eq_getElem hj] at this
  simp only [Bool.and_eq_true, decide_eq_true_eq] at this
  exact ⟨this.1, this.2.1⟩
theorem q_names {b : Bk} (h : bookB b = true) : b.names.length = b.roots.length := by
  simp only [bookB, Bool.and_eq_true, decide_eq_true_eq] at h
  exact h.2.1
theorem keepZ_yes {c : List Nat} {i : Nat} (h : c[i]? = some i) : intL (keepN c (i + 1)) = intL (keepN c i) ++ [(i : Int)] := by rw [keepN_yes h, intL, List.map_append]; rfl
theorem keepZ_no {c : List Nat} {i : Nat} (h : c[i]? ≠ some i) : intL (keepN c (i + 1)) = intL (keepN c i) := by rw [keepN_no h]
abbrev zR (l : List Int) : List (List CT) := l.map fun r => [CT.int .i64 r]
theorem le_arrF {nn : Bool} {e sz : Nat} {xs ys : List (List CT)} (h : xs = ys) : LeM (.arr nn e sz xs) (.arr false e sz ys) := by subst h; exact .nn (.refl _)
theorem le_poolZ {e sz : Nat} {v : Value} {xs ys : List (List CT)} (h : xs = ys) : LeM (.pool e sz [(v, xs)]) (.pool e sz [(v, ys)]) := by subst h; exact .refl _

/-! The state ahead of the nodes, as it is carried. -/
abbrev shB (b : Bk) (c : List Nat) (ks : List Int) : MM := [(22, .mpo (entF intF (numM ks))), (4, .box [.mp 22]), (3, .box [.c (natF c)]), (1, .box [.c (nodesT b.nodes), .c (namesT b.names), .c (intsT b.roots)]), (2, .box [.c .nils, .c .nils, .c .nils])]
abbrev shR (b : Bk) (c : List Nat) (ks : List Int) (vR vB : Value) (rs : List (List CT)) : MM := (92, .pool 3 1 [(vR, rs)]) :: (8, .box [.c .nils, .c (namesT b.names), .c (.val vB)]) :: shB b c ks
def shET : Nat → Value → TM
  | 1, v => [(57, .v (C1 (.val v)))]
  | _, _ => []
def shMM (b : Bk) (c : List Nat) (ks : List Int) (vR : Value) (rs : List (List CT)) (r : Int) : Nat → Value → MM
  | 0, _ => shR b c ks vR vR rs
  | 1, v => shR b c ks v vR (rs ++ [[.int .i64 r]])
  | _, v => shR b c ks v v (rs ++ [[.int .i64 r]])

set_option maxHeartbeats 16000000 in
theorem shrink_c (b : Bk) (hn : b.nodes.length ≤ 60) (hnm : b.names.length ≤ 60) : Con Tryd.prog 18 [] [Ag b.cs] (.v (Ag (shrinkS b).cs)) [] := by
  have hm := bookmay_c b
  have hcl := classes_c b hn
  cases hbk : bookB b with
  | false =>
    rw [hbk] at hm
    rw [show shrinkS b = ⟨[], [], []⟩ by simp [shrinkS, hbk]]
    refine con_of (c := _) Tryd.func18 rfl rfl rfl (by decide) fun w M0 H Z => ?_
    repeat' (first
      | refine g_seq ?_
      | (refine g_region ?_; refine run_ th rfl ?_)
      | (refine g_drawC mix rfl rfl ?_; refine drun_ th rfl ?_)
      | (refine g_drawEC mix rfl rfl ?_; refine erun_ th rfl ?_)
      | refine SOps.nil ?_
      | refine DOps.nil ?_
      | refine EOps.nil ?_ rfl rfl
      | refine g_block ?_
      | refine g_inBlock ?_
      | refine g_skip ?_
      | refine g_exit rfl ?_
      | refine g_if_true rfl ?_
      | refine g_if_false rfl ?_
      | (refine s_split rfl rfl (fun hb => ?_) (fun hb => ?_) <;> (try simp only [decide_eq_true_eq, decide_eq_false_iff_not, Bool.not_eq_true', Bool.not_eq_false', Bool.not_eq_true, Bool.not_eq_false, Bool.not_true, Bool.not_false, Bool.false_eq_true, Bool.true_eq_false, reduceCtorEq, not_true_eq_false, not_false_eq_true, List.length_map] at hb) <;> first | (exfalso; omega) | refine run_ th rfl ?_)
      | (refine d_split rfl rfl rfl (fun hb => ?_) (fun hb => ?_) <;> (try simp only [decide_eq_true_eq, decide_eq_false_iff_not, Bool.not_eq_true', Bool.not_eq_false', Bool.not_eq_true, Bool.not_eq_false, Bool.not_true, Bool.not_false, Bool.false_eq_true, Bool.true_eq_false, reduceCtorEq, not_true_eq_false, not_false_eq_true, List.length_map] at hb) <;> first | (exfalso; omega) | refine drun_ th rfl ?_)
      | (refine g_if rfl (fun hb => ?_) (fun hb => ?_) <;> (try simp only [decide_eq_true_eq, decide_eq_false_iff_not, Bool.not_eq_true', Bool.not_eq_false', Bool.not_eq_true, Bool.not_eq_false, Bool.not_true, Bool.not_false, Bool.false_eq_true, Bool.true_eq_false, reduceCtorEq, not_true_eq_false, not_false_eq_true, List.length_map] at hb) <;> (try (exfalso; omega)))
      | refine g_endL th Tryd.func18 (.inr ⟨_, rfl⟩) rfl rfl rfl ?_ rfl
      | (refine s_call hm [] rfl rfl rfl rfl rfl rfl rfl rfl rfl rfl ?_; refine run_ th rfl ?_)
      | (exfalso; revert hb; simp; done))
    all_goals exact .v (.agg (.cons (.c (.nil 3)) (.cons (.c (.nil 1)) (.cons (.c (.nil 1)) .nil))))
  | true =>
    rw [hbk] at hm
    have hcn := cls_length hbk
    have hgb := q_gb hbk
    have hrl := q_names hbk
    have hroot := fun j hj => q_root hbk (j := j) hj
    rw [show shrinkS b = ⟨(keepS b).map fun i : Nat => shrN (plS b) (ndE b (i : Int)), b.names, b.roots.map (plS b)⟩ by simp [shrinkS, hbk]]
    unfold keepS plS keepS
    generalize classesS b = c at *
    refine con_of (c := _) Tryd.func18 rfl rfl rfl (by decide) fun w M0 H Z => ?_
    repeat' (first
      | refine g_seq ?_
      | (refine g_region ?_; refine run_ th rfl ?_)
      | (refine g_drawC mix rfl rfl ?_; refine drun_ th rfl ?_)
      | (refine g_drawEC mix rfl rfl ?_; refine erun_ th rfl ?_)
      | refine SOps.nil ?_
      | refine DOps.nil ?_
      | refine EOps.nil ?_ rfl rfl
      | refine g_block ?_
      | refine g_inBlock ?_
      | refine g_skip ?_
      | refine g_exit rfl ?_
      | refine g_if_true rfl ?_
      | refine g_if_false rfl ?_
      | (refine s_split rfl rfl (fun hb => ?_) (fun hb => ?_) <;> (try simp only [decide_eq_true_eq, decide_eq_false_iff_not, Bool.not_eq_true', Bool.not_eq_false', Bool.not_eq_true, Bool.not_eq_false, Bool.not_true, Bool.not_false, Bool.false_eq_true, Bool.true_eq_false, reduceCtorEq, not_true_eq_false, not_false_eq_true, List.length_map] at hb) <;> first | (exfalso; omega) | refine run_ th rfl ?_)
      | (refine d_split rfl rfl rfl (fun hb => ?_) (fun hb => ?_) <;> (try simp only [decide_eq_true_eq, decide_eq_false_iff_not, Bool.not_eq_true', Bool.not_eq_false', Bool.not_eq_true, Bool.not_eq_false, Bool.not_true, Bool.not_false, Bool.false_eq_true, Bool.true_eq_false, reduceCtorEq, not_true_eq_false, not_false_eq_true, List.length_map] at hb) <;> first | (exfalso; omega) | refine drun_ th rfl ?_)
      | (refine g_if rfl (fun hb => ?_) (fun hb => ?_) <;> (try simp only [decide_eq_true_eq, decide_eq_false_iff_not, Bool.not_eq_true', Bool.not_eq_false', Bool.not_eq_true, Bool.not_eq_false, Bool.not_true, Bool.not_false, Bool.false_eq_true, Bool.true_eq_false, reduceCtorEq, not_true_eq_false, not_false_eq_true, List.length_map] at hb) <;> (try (exfalso; omega)))
      | (refine s_call hm [] rfl rfl rfl rfl rfl rfl rfl rfl rfl rfl ?_; refine run_ th rfl ?_)
      | (refine s_call hcl [] rfl rfl rfl rfl rfl rfl rfl rfl rfl rfl ?_; refine run_ th rfl ?_)
      | (refine s_allocZ Tryd.zeroValue55 rfl rfl rfl rfl rfl rfl rfl ?_; refine run_ th rfl ?_)
      | (exfalso; revert hb; simp; done))
    refine g_loop1 (fun i : Nat => i ≤ c.length)
      (fun i => [(1, .v (.one (.ptr 1 0))), (2, .v (.one (.ptr 2 0))), (3, .v (.one (.ptr 3 0))), (4, .v (.one (.ptr 4 0))), (23, .v (C1 (natF c))), (24, .v (C1 (.int .i64 (c.length : Int)))), (25, .v (C1 (.int .i64 (i : Int))))])
      (fun i => shB b c (intL (keepN c i))) (fun i => c.length - i) 0 (Nat.zero_le _)
      (fun a w h => h.sub (by exact ⟨⟨_, rfl, .refl _⟩, ⟨_, rfl, .refl _⟩, ⟨_, rfl, .refl _⟩, ⟨_, rfl, .refl _⟩, ⟨_, rfl, .refl _⟩, ⟨_, rfl, le_int (by simp)⟩, ⟨_, rfl, le_int rfl⟩, trivial⟩)
        (by exact ⟨⟨_, rfl, .refl _⟩, ⟨_, rfl, .refl _⟩, ⟨_, rfl, .refl _⟩, ⟨_, rfl, .refl _⟩, ⟨_, rfl, .refl _⟩, trivial⟩) rfl rfl rfl) (fun i hi ih => ?_)
    by_cases hlt : i < c.length
    · have hxl := natR_at hlt
      have hih := ih (i + 1) hlt (by omega)
      by_cases hci : c[i] = i
      · rw [keepZ_yes (by rw [List.getElem?_eq_getElem hlt, hci])] at hih
        have hmem : ((i : Int)) ∉ intL (keepN c i) := by
          intro hh
          obtain ⟨k, hk, he⟩ := List.mem_map.1 hh
          have := keepN_lt hk
          omega
        repeat' (first
          | (refine g_drawA mix rfl rfl rfl rfl rfl rfl ?_; refine drun_ th rfl ?_)
          | (refine DOps.nil ?_; refine run_ th rfl ?_)
          | refine g_seq ?_
          | (refine g_region ?_; refine run_ th rfl ?_)
          | (refine g_drawC mix rfl rfl ?_; refine drun_ th rfl ?_)
          | (refine g_drawEC mix rfl rfl ?_; refine erun_ th rfl ?_)
          | refine SOps.nil ?_
          | refine DOps.nil ?_
          | refine EOps.nil ?_ rfl rfl
          | refine g_block ?_
          | refine g_inBlock ?_
          | refine g_skip ?_
          | refine g_exit rfl ?_
          | refine g_if_true rfl ?_
          | refine g_if_false rfl ?_
          | (refine s_split rfl rfl (fun hb => ?_) (fun hb => ?_) <;> (try simp only [decide_eq_true_eq, decide_eq_false_iff_not, Bool.not_eq_true', Bool.not_eq_false', Bool.not_eq_true, Bool.not_eq_false, Bool.not_true, Bool.not_false, Bool.false_eq_true, Bool.true_eq_false, reduceCtorEq, not_true_eq_false, not_false_eq_true, List.length_map] at hb) <;> first | (exfalso; omega) | refine run_ th rfl ?_)
          | (refine d_split rfl rfl rfl (fun hb => ?_) (fun hb => ?_) <;> (try simp only [decide_eq_true_eq, decide_eq_false_iff_not, Bool.not_eq_true', Bool.not_eq_false', Bool.not_eq_true, Bool.not_eq_false, Bool.not_true, Bool.not_false, Bool.false_eq_true, Bool.true_eq_false, reduceCtorEq, not_true_eq_false, not_false_eq_true, List.length_map] at hb) <;> first | (exfalso; omega) | refine drun_ th rfl ?_)
          | (refine g_if rfl (fun hb => ?_) (fun hb => ?_) <;> (try simp only [decide_eq_true_eq, decide_eq_false_iff_not, Bool.not_eq_true', Bool.not_eq_false', Bool.not_eq_true, Bool.not_eq_false, Bool.not_true, Bool.not_false, Bool.false_eq_true, Bool.true_eq_false, reduceCtorEq, not_true_eq_false, not_false_eq_true, List.length_map] at hb) <;> (try (exfalso; omega)))
          | (refine s_idx th rfl rfl rfl rfl rfl rfl rfl rfl rfl i _ rfl hxl ?_; refine run_ th rfl ?_)
          | (refine s_putNI th (.inl rfl) rfl rfl rfl rfl rfl rfl rfl rfl (by rw [numM_len]) hmem ?_; refine run_ th rfl ?_)
          | (refine s_add rfl rfl rfl rfl rfl rfl (by omega) ?_; refine run_ th rfl ?_)
          | (exfalso; revert hb; simp; done))
        all_goals
          exact g_sub (by exact ⟨⟨_, rfl, .refl _⟩, ⟨_, rfl, .refl _⟩, ⟨_, rfl, .refl _⟩, ⟨_, rfl, .refl _⟩, ⟨_, rfl, .refl _⟩, ⟨_, rfl, .refl _⟩, ⟨_, rfl, le_int (by omega)⟩, trivial⟩)
            (by exact ⟨⟨_, rfl, .refl _⟩, ⟨_, rfl, .refl _⟩, ⟨_, rfl, .refl _⟩, ⟨_, rfl, .refl _⟩, ⟨_, rfl, .refl _⟩, trivial⟩) rfl rfl rfl hih
      · rw [keepZ_no (by rw [List.getElem?_eq_getElem hlt]; intro e; exact hci (Option.some.inj e))] at hih
        repeat' (first
          | (refine g_drawA mix rfl rfl rfl rfl rfl rfl ?_; refine drun_ th rfl ?_)
          | (refine DOps.nil ?_; refine run_ th rfl ?_)
          | refine g_seq ?_
          | (refine g_region ?_; refine run_ th rfl ?_)
          | (refine g_drawC mix rfl rfl ?_; refine drun_ th rfl ?_)
          | (refine g_drawEC mix rfl rfl ?_; refine erun_ th rfl ?_)
          | refine SOps.nil ?_
          | refine DOps.nil ?_
          | refine EOps.nil ?_ rfl rfl
          | refine g_block ?_
          | refine g_inBlock ?_
          | refine g_skip ?_
          | refine g_exit rfl ?_
          | refine g_if_true rfl ?_
          | refine g_if_false rfl ?_
          | (refine s_split rfl rfl (fun hb => ?_) (fun hb => ?_) <;> (try simp only [decide_eq_true_eq, decide_eq_false_iff_not, Bool.not_eq_true', Bool.not_eq_false', Bool.not_eq_true, Bool.not_eq_false, Bool.not_true, Bool.not_false, Bool.false_eq_true, Bool.true_eq_false, reduceCtorEq, not_true_eq_false, not_false_eq_true, List.length_map] at hb) <;> first | (exfalso; omega) | refine run_ th rfl ?_)
          | (refine d_split rfl rfl rfl (fun hb => ?_) (fun hb => ?_) <;> (try simp only [decide_eq_true_eq, decide_eq_false_iff_not, Bool.not_eq_true', Bool.not_eq_false', Bool.not_eq_true, Bool.not_eq_false, Bool.not_true, Bool.not_false, Bool.false_eq_true, Bool.true_eq_false, reduceCtorEq, not_true_eq_false, not_false_eq_true, List.length_map] at hb) <;> first | (exfalso; omega) | refine drun_ th rfl ?_)
          | (refine g_if rfl (fun hb => ?_) (fun hb => ?_) <;> (try simp only [decide_eq_true_eq, decide_eq_false_iff_not, Bool.not_eq_true', Bool.not_eq_false', Bool.not_eq_true, Bool.not_eq_false, Bool.not_true, Bool.not_false, Bool.false_eq_true, Bool.true_eq_false, reduceCtorEq, not_true_eq_false, not_false_eq_true, List.length_map] at hb) <;> (try (exfalso; omega)))
          | (refine s_idx th rfl rfl rfl rfl rfl rfl rfl rfl rfl i _ rfl hxl ?_; refine run_ th rfl ?_)
          | (refine s_add rfl rfl rfl rfl rfl rfl (by omega) ?_; refine run_ th rfl ?_)
          | (exfalso; revert hb; simp; done))
        all_goals
          exact g_sub (by exact ⟨⟨_, rfl, .refl _⟩, ⟨_, rfl, .refl _⟩, ⟨_, rfl, .refl _⟩, ⟨_, rfl, .refl _⟩, ⟨_, rfl, .refl _⟩, ⟨_, rfl, .refl _⟩, ⟨_, rfl, le_int (by omega)⟩, trivial⟩)
            (by exact ⟨⟨_, rfl, .refl _⟩, ⟨_, rfl, .refl _⟩, ⟨_, rfl, .refl _⟩, ⟨_, rfl, .refl _⟩, ⟨_, rfl, .refl _⟩, trivial⟩) rfl rfl rfl hih
    · have hie : i = c.length := by omega
      subst hie
      clear ih
      have hpl : ∀ x : Int, 0 ≤ x → x < b.nodes.length → ConS Tryd.prog 35 (entF intF (numM (intL (keepN c c.length)))) (natF c) [.one (.c (.int .i64 x)), .one (.ptr given 0), .one (.ptr (given + 1) 0)] (Rv (.int .i64 (plI (intL (keepN c c.length)) c x))) :=
        fun x h0 h1 => shrink1_c _ c x h0 (by omega)
      generalize hks : intL (keepN c c.length) = ks at *
      generalize hpf : plI ks c = pf at *
      repeat' (first
        | refine g_seq ?_
        | (refine g_region ?_; refine run_ th rfl ?_)
        | (refine g_drawC mix rfl rfl ?_; refine drun_ th rfl ?_)
        | (refine g_drawEC mix rfl rfl ?_; refine erun_ th rfl ?_)
        | refine SOps.nil ?_
        | refine DOps.nil ?_
        | refine EOps.nil ?_ rfl rfl
        | refine g_block ?_
        | refine g_inBlock ?_
        | refine g_skip ?_
        | refine g_exit rfl ?_
        | refine g_if_true rfl ?_
        | refine g_if_false rfl ?_
        | (refine s_split rfl rfl (fun hb => ?_) (fun hb => ?_) <;> (try simp only [decide_eq_true_eq, decide_eq_false_iff_not, Bool.not_eq_true', Bool.not_eq_false', Bool.not_eq_true, Bool.not_eq_false, Bool.not_true, Bool.not_false, Bool.false_eq_true, Bool.true_eq_false, reduceCtorEq, not_true_eq_false, not_false_eq_true, List.length_map] at hb) <;> first | (exfalso; omega) | refine run_ th rfl ?_)
        | (refine d_split rfl rfl rfl (fun hb => ?_) (fun hb => ?_) <;> (try simp only [decide_eq_true_eq, decide_eq_false_iff_not, Bool.not_eq_true', Bool.not_eq_false', Bool.not_eq_true, Bool.not_eq_false, Bool.not_true, Bool.not_false, Bool.false_eq_true, Bool.true_eq_false, reduceCtorEq, not_true_eq_false, not_false_eq_true, List.length_map] at hb) <;> first | (exfalso; omega) | refine drun_ th rfl ?_)
        | (refine g_if rfl (fun hb => ?_) (fun hb => ?_) <;> (try simp only [decide_eq_true_eq, decide_eq_false_iff_not, Bool.not_eq_true', Bool.not_eq_false', Bool.not_eq_true, Bool.not_eq_false, Bool.not_true, Bool.not_false, Bool.false_eq_true, Bool.true_eq_false, reduceCtorEq, not_true_eq_false, not_false_eq_true, List.length_map] at hb) <;> (try (exfalso; omega)))
        | (refine s_appendF th rfl rfl rfl rfl rfl rfl rfl rfl rfl rfl rfl rfl rfl rfl (by constructor <;> simp <;> omega) ?_; refine s_freeze 39 rfl rfl ?_; refine run_ th rfl ?_)
        | (exfalso; revert hb; simp; done))
      refine g_nilVal 8 2 rfl rfl ?_
      refine g_newPool 92 3 1 rfl rfl ?_
      refine g_nilPool 92 rfl rfl rfl rfl ?_
      refine g_loop2 (fun (j : Nat) (_ : Value) => j ≤ b.roots.length)
        (fun j _ => [(1, .v (.one (.ptr 1 0))), (2, .v (.one (.ptr 2 0))), (3, .v (.one (.ptr 3 0))), (4, .v (.one (.ptr 4 0))), (7, .v (.one (.clo 35 [4, 3]))), (8, .v (.one (.ptr 8 0))), (45, .v (C1 (intsT b.roots))), (46, .v (C1 (.int .i64 (b.roots.length : Int)))), (47, .v (C1 (.int .i64 (j : Int))))])
        (fun j vR => shR b c ks vR vR (zR ((b.roots.take j).map pf))) (fun j _ => b.roots.length - j) 0 (.slice none 0 0) (Nat.zero_le _)
        (fun a w h => h.sub (by exact ⟨⟨_, rfl, .refl _⟩, ⟨_, rfl, .refl _⟩, ⟨_, rfl, .refl _⟩, ⟨_, rfl, .refl _⟩, ⟨_, rfl, .refl _⟩, ⟨_, rfl, .refl _⟩, ⟨_, rfl, .refl _⟩, ⟨_, rfl, le_int (by simp)⟩, ⟨_, rfl, le_int rfl⟩, trivial⟩)
          (by exact ⟨⟨_, rfl, .refl _⟩, ⟨_, rfl, .refl _⟩, ⟨_, rfl, .refl _⟩, ⟨_, rfl, .refl _⟩, ⟨_, rfl, .refl _⟩, ⟨_, rfl, .refl _⟩, ⟨_, rfl, .refl _⟩, trivial⟩) rfl rfl rfl) (fun j vR hj ih => ?_)
      by_cases hjl : j < b.roots.length
      · have hxr : (b.roots.map fun r => [CT.int .i64 r])[j]? = some [.int .i64 b.roots[j]] := by simp [hjl]
        obtain ⟨hr0, hr1⟩ := hroot j hjl
        have hclo := hpl b.roots[j] hr0 hr1
        have hzr : zR ((b.roots.take (j + 1)).map pf) = zR ((b.roots.take j).map pf) ++ [[.int .i64 (pf b.roots[j])]] := by
          rw [List.take_succ_eq_append_getElem hjl, List.map_append, zR, List.map_append]; rfl
        repeat' (first
          | (refine g_drawF (ι := Value) [6, 8] [92] shET (shMM b c ks vR (zR ((b.roots.take j).map pf)) (pf b.roots[j])) vR mix rfl (fun k x hk => by match k, hk with | 0, _ => (refine subG_spec ?_; repeat (first | exact trivial | refine ⟨rfl, ?_⟩)) | 1, _ => (refine subG_spec ?_; repeat (first | exact trivial | refine ⟨rfl, ?_⟩))) rfl (fun k x => by match k with | 0 => rfl | 1 => rfl | _ + 2 => rfl) rfl rfl (by simp) rfl rfl ?_; refine frun_ th rfl ?_)
          | refine g_seq ?_
          | (refine g_region ?_; refine run_ th rfl ?_)
          | (refine g_drawC mix rfl rfl ?_; refine drun_ th rfl ?_)
          | (refine g_drawEC mix rfl rfl ?_; refine erun_ th rfl ?_)
          | refine SOps.nil ?_
          | refine DOps.nil ?_
          | refine EOps.nil ?_ rfl rfl
          | refine g_block ?_
          | refine g_inBlock ?_
          | refine g_skip ?_
          | refine g_exit rfl ?_
          | refine g_if_true rfl ?_
          | refine g_if_false rfl ?_
          | (refine s_split rfl rfl (fun hb => ?_) (fun hb => ?_) <;> (try simp only [decide_eq_true_eq, decide_eq_false_iff_not, Bool.not_eq_true', Bool.not_eq_false', Bool.not_eq_true, Bool.not_eq_false, Bool.not_true, Bool.not_false, Bool.false_eq_true, Bool.true_eq_false, reduceCtorEq, not_true_eq_false, not_false_eq_true, List.length_map] at hb) <;> first | (exfalso; omega) | refine run_ th rfl ?_)
          | (refine d_split rfl rfl rfl (fun hb => ?_) (fun hb => ?_) <;> (try simp only [decide_eq_true_eq, decide_eq_false_iff_not, Bool.not_eq_true', Bool.not_eq_false', Bool.not_eq_true, Bool.not_eq_false, Bool.not_true, Bool.not_false, Bool.false_eq_true, Bool.true_eq_false, reduceCtorEq, not_true_eq_false, not_false_eq_true, List.length_map] at hb) <;> first | (exfalso; omega) | refine drun_ th rfl ?_)
          | (refine g_if rfl (fun hb => ?_) (fun hb => ?_) <;> (try simp only [decide_eq_true_eq, decide_eq_false_iff_not, Bool.not_eq_true', Bool.not_eq_false', Bool.not_eq_true, Bool.not_eq_false, Bool.not_true, Bool.not_false, Bool.false_eq_true, Bool.true_eq_false, reduceCtorEq, not_true_eq_false, not_false_eq_true, List.length_map] at hb) <;> (try (exfalso; omega)))
          | (refine s_idx th rfl rfl rfl rfl rfl rfl rfl rfl rfl j _ rfl hxr ?_; refine run_ th rfl ?_)
          | (refine f_clos hclo rfl rfl rfl rfl rfl rfl rfl rfl rfl rfl rfl rfl rfl rfl ?_; refine frun_ th rfl ?_)
          | (refine f_lit th rfl rfl rfl rfl rfl rfl rfl rfl rfl rfl rfl rfl rfl (.refl _) ?_; refine frun_ th rfl ?_)
          | (refine FOps.nil ⟨Effs.cons rfl (fun x => ?_) (Effs.cons rfl (fun x => ?_) Effs.nil), fun v => ?_⟩)
          | (exfalso; revert hb; simp; done))
        · exact ef_append (i := 92) th rfl rfl rfl rfl rfl rfl rfl rfl rfl rfl rfl rfl rfl rfl rfl rfl 0 rfl (by constructor <;> simp <;> omega) (fun v' => v') (fun _ => rfl) (fun _ => rfl)
        · exact ef_store (i := 8) th rfl rfl rfl rfl rfl rfl rfl rfl rfl rfl rfl rfl
        · have hih := ih (j + 1) v hjl (by omega)
          rw [hzr] at hih
          repeat' (first
            | refine g_seq ?_
            | (refine g_region ?_; refine run_ th rfl ?_)
            | (refine g_drawC mix rfl rfl ?_; refine drun_ th rfl ?_)
            | (refine g_drawEC mix rfl rfl ?_; refine erun_ th rfl ?_)
            | refine SOps.nil ?_
            | refine DOps.nil ?_
            | refine EOps.nil ?_ rfl rfl
            | refine g_block ?_
            | refine g_inBlock ?_
            | refine g_skip ?_
            | refine g_exit rfl ?_
            | refine g_if_true rfl ?_
            | refine g_if_false rfl ?_
            | (refine s_split rfl rfl (fun hb => ?_) (fun hb => ?_) <;> (try simp only [decide_eq_true_eq, decide_eq_false_iff_not, Bool.not_eq_true', Bool.not_eq_false', Bool.not_eq_true, Bool.not_eq_false, Bool.not_true, Bool.not_false, Bool.false_eq_true, Bool.true_eq_false, reduceCtorEq, not_true_eq_false, not_false_eq_true, List.length_map] at hb) <;> first | (exfalso; omega) | refine run_ th rfl ?_)
            | (refine d_split rfl rfl rfl (fun hb => ?_) (fun hb => ?_) <;> (try simp only [decide_eq_true_eq, decide_eq_false_iff_not, Bool.not_eq_true', Bool.not_eq_false', Bool.not_eq_true, Bool.not_eq_false, Bool.not_true, Bool.not_false, Bool.false_eq_true, Bool.true_eq_false, reduceCtorEq, not_true_eq_false, not_false_eq_true, List.length_map] at hb) <;> first | (exfalso; omega) | refine drun_ th rfl ?_)
            | (refine g_if rfl (fun hb => ?_) (fun hb => ?_) <;> (try simp only [decide_eq_true_eq, decide_eq_false_iff_not, Bool.not_eq_true', Bool.not_eq_false', Bool.not_eq_true, Bool.not_eq_false, Bool.not_true, Bool.not_false, Bool.false_eq_true, Bool.true_eq_false, reduceCtorEq, not_true_eq_false, not_false_eq_true, List.length_map] at hb) <;> (try (exfalso; omega)))
            | (refine s_add rfl rfl rfl rfl rfl rfl (by omega) ?_; refine run_ th rfl ?_))
          exact g_sub (by exact ⟨⟨_, rfl, .refl _⟩, ⟨_, rfl, .refl _⟩, ⟨_, rfl, .refl _⟩, ⟨_, rfl, .refl _⟩, ⟨_, rfl, .refl _⟩, ⟨_, rfl, .refl _⟩, ⟨_, rfl, .refl _⟩, ⟨_, rfl, .refl _⟩, ⟨_, rfl, le_int (by omega)⟩, trivial⟩)
            (by exact ⟨⟨_, rfl, .refl _⟩, ⟨_, rfl, .refl _⟩, ⟨_, rfl, .refl _⟩, ⟨_, rfl, .refl _⟩, ⟨_, rfl, .refl _⟩, ⟨_, rfl, .refl _⟩, ⟨_, rfl, .refl _⟩, trivial⟩) rfl rfl rfl hih
      · have hje : j = b.roots.length := by omega
        subst hje
        clear ih
        rw [List.take_length]
        refine g_freezeB 92 8 2 rfl rfl rfl rfl rfl rfl rfl ?_
        refine g_adoptB 8 0 200 41 3 rfl rfl rfl rfl ?_
        repeat' (first
          | refine g_seq ?_
          | (refine g_region ?_; refine run_ th rfl ?_)
          | (refine g_drawC mix rfl rfl ?_; refine drun_ th rfl ?_)
          | (refine g_drawEC mix rfl rfl ?_; refine erun_ th rfl ?_)
          | refine SOps.nil ?_
          | refine DOps.nil ?_
          | refine EOps.nil ?_ rfl rfl
          | refine g_block ?_
          | refine g_inBlock ?_
          | refine g_skip ?_
          | refine g_exit rfl ?_
          | refine g_if_true rfl ?_
          | refine g_if_false rfl ?_
          | (refine s_split rfl rfl (fun hb => ?_) (fun hb => ?_) <;> (try simp only [decide_eq_true_eq, decide_eq_false_iff_not, Bool.not_eq_true', Bool.not_eq_false', Bool.not_eq_true, Bool.not_eq_false, Bool.not_true, Bool.not_false, Bool.false_eq_true, Bool.true_eq_false, reduceCtorEq, not_true_eq_false, not_false_eq_true, List.length_map] at hb) <;> first | (exfalso; omega) | refine run_ th rfl ?_)
          | (refine d_split rfl rfl rfl (fun hb => ?_) (fun hb => ?_) <;> (try simp only [decide_eq_true_eq, decide_eq_false_iff_not, Bool.not_eq_true', Bool.not_eq_false', Bool.not_eq_true, Bool.not_eq_false, Bool.not_true, Bool.not_false, Bool.false_eq_true, Bool.true_eq_false, reduceCtorEq, not_true_eq_false, not_false_eq_true, List.length_map] at hb) <;> first | (exfalso; omega) | refine drun_ th rfl ?_)
          | (refine g_if rfl (fun hb => ?_) (fun hb => ?_) <;> (try simp only [decide_eq_true_eq, decide_eq_false_iff_not, Bool.not_eq_true', Bool.not_eq_false', Bool.not_eq_true, Bool.not_eq_false, Bool.not_true, Bool.not_false, Bool.false_eq_true, Bool.true_eq_false, reduceCtorEq, not_true_eq_false, not_false_eq_true, List.length_map] at hb) <;> (try (exfalso; omega)))
          | (exfalso; revert hb; simp; done))
        refine g_loop1 (fun i : Nat => i ≤ b.nodes.length)
          (fun i => [(1, .v (.one (.ptr 1 0))), (2, .v (.one (.ptr 2 0))), (3, .v (.one (.ptr 3 0))), (4, .v (.one (.ptr 4 0))), (7, .v (.one (.clo 35 [4, 3]))), (8, .v (.one (.ptr 8 0))), (61, .v (C1 (nodesT b.nodes))), (62, .v (C1 (.int .i64 (b.nodes.length : Int)))), (63, .v (C1 (.int .i64 (i : Int))))])
          (fun i => (200, .arr false 41 3 (((keepN c i).map fun k : Nat => shrN pf (ndE b (k : Int))).map Nd.cs)) :: (8, .box [.own 200, .c (namesT b.names), .c (intsT (b.roots.map pf))]) :: shB b c ks) (fun i => b.nodes.length - i) 0 (Nat.zero_le _)
          (fun a w h => h.sub (by exact ⟨⟨_, rfl, .refl _⟩, ⟨_, rfl, .refl _⟩, ⟨_, rfl, .refl _⟩, ⟨_, rfl, .refl _⟩, ⟨_, rfl, .refl _⟩, ⟨_, rfl, .refl _⟩, ⟨_, rfl, .refl _⟩, ⟨_, rfl, le_int (by simp)⟩, ⟨_, rfl, le_int rfl⟩, trivial⟩)
            (by exact ⟨⟨_, rfl, .refl _⟩, ⟨_, rfl, .refl _⟩, ⟨_, rfl, .refl _⟩, ⟨_, rfl, .refl _⟩, ⟨_, rfl, .refl _⟩, ⟨_, rfl, .refl _⟩, ⟨_, rfl, .refl _⟩, trivial⟩) rfl rfl rfl) (fun i hi ih => ?_)
        by_cases hlt : i < b.nodes.length
        · have hxn : (b.nodes.map Nd.cs)[i]? = some (b.nodes[i]).cs := by simp [hlt]
          have hlc : i < c.length := by omega
          have hxl := natR_at hlc
          have hih := ih (i + 1) hlt (by omega)
          have hkl := keepN_len c i
          have hgn := hgb _ (List.getElem_mem hlt)
          by_cases hci : c[i] = i
          · rw [keepN_yes (by rw [List.getElem?_eq_getElem hlc, hci]), List.map_append, List.map_append] at hih
            repeat' (first
              | (refine g_drawA mix rfl rfl rfl rfl rfl rfl ?_; refine drun_ th rfl ?_)
              | (refine DOps.nil ?_; refine run_ th rfl ?_)
              | refine g_seq ?_
              | (refine g_region ?_; refine run_ th rfl ?_)
              | (refine g_drawC mix rfl rfl ?_; refine drun_ th rfl ?_)
              | (refine g_drawEC mix rfl rfl ?_; refine erun_ th rfl ?_)
              | refine SOps.nil ?_
              | refine DOps.nil ?_
              | refine EOps.nil ?_ rfl rfl
              | refine g_block ?_
              | refine g_inBlock ?_
              | refine g_skip ?_
              | refine g_exit rfl ?_
              | refine g_if_true rfl ?_
              | refine g_if_false rfl ?_
              | (refine s_split rfl rfl (fun hb => ?_) (fun hb => ?_) <;> (try simp only [decide_eq_true_eq, decide_eq_false_iff_not, Bool.not_eq_true', Bool.not_eq_false', Bool.not_eq_true, Bool.not_eq_false, Bool.not_true, Bool.not_false, Bool.false_eq_true, Bool.true_eq_false, reduceCtorEq, not_true_eq_false, not_false_eq_true, List.length_map] at hb) <;> first | (exfalso; omega) | refine run_ th rfl ?_)
              | (refine d_split rfl rfl rfl (fun hb => ?_) (fun hb => ?_) <;> (try simp only [decide_eq_true_eq, decide_eq_false_iff_not, Bool.not_eq_true', Bool.not_eq_false', Bool.not_eq_true, Bool.not_eq_false, Bool.not_true, Bool.not_false, Bool.false_eq_true, Bool.true_eq_false, reduceCtorEq, not_true_eq_false, not_false_eq_true, List.length_map] at hb) <;> first | (exfalso; omega) | refine drun_ th rfl ?_)
              | (refine g_if rfl (fun hb => ?_) (fun hb => ?_) <;> (try simp only [decide_eq_true_eq, decide_eq_false_iff_not, Bool.not_eq_true', Bool.not_eq_false', Bool.not_eq_true, Bool.not_eq_false, Bool.not_true, Bool.not_false, Bool.false_eq_true, Bool.true_eq_false, reduceCtorEq, not_true_eq_false, not_false_eq_true, List.length_map] at hb) <;> (try (exfalso; omega)))
              | (refine s_idx th rfl rfl rfl rfl rfl rfl rfl rfl rfl i _ rfl hxn ?_; refine run_ th rfl ?_)
              | (refine s_idx th rfl rfl rfl rfl rfl rfl rfl rfl rfl i _ rfl hxl ?_; refine run_ th rfl ?_)
              | (refine d_idx th rfl rfl rfl rfl rfl rfl rfl rfl rfl i _ rfl hxl ?_; refine drun_ th rfl ?_)
              | (exfalso; revert hb; simp; done))
            have hnd : ndE b (i : Int) = b.nodes[i] := ndE_nat hlt
            refine g_adoptB 13 2 201 45 4 rfl rfl rfl rfl ?_
            generalize b.nodes[i] = x at *
            have hxl6 := hgn.len
            refine g_loop1 (fun k : Nat => k ≤ x.arms.length)
              (fun k => [(1, .v (.one (.ptr 1 0))), (2, .v (.one (.ptr 2 0))), (3, .v (.one (.ptr 3 0))), (4, .v (.one (.ptr 4 0))), (7, .v (.one (.clo 35 [4, 3]))), (8, .v (.one (.ptr 8 0))), (61, .v (C1 (nodesT b.nodes))), (62, .v (C1 (.int .i64 (b.nodes.length : Int)))), (63, .v (C1 (.int .i64 (i : Int)))), (13, .v (.one (.ptr 13 0))), (80, .v (C1 (armsT x.arms))), (81, .v (C1 (.int .i64 (x.arms.length : Int)))), (82, .v (C1 (.int .i64 (k : Int))))])
              (fun k => (201, .arr false 45 4 (((x.arms.take k).map (shrE pf)).map Edge.cs)) :: (13, .box [.c (.int .i64 x.kind), .c (.str x.peer), .own 201]) :: (200, .arr false 41 3 (((keepN c i).map fun k : Nat => shrN pf (ndE b (k : Int))).map Nd.cs)) :: (8, .box [.own 200, .c (namesT b.names), .c (intsT (b.roots.map pf))]) :: shB b c ks) (fun k => x.arms.length - k) 0 (Nat.zero_le _)
              (fun a w h => h.sub (by exact ⟨⟨_, rfl, .refl _⟩, ⟨_, rfl, .refl _⟩, ⟨_, rfl, .refl _⟩, ⟨_, rfl, .refl _⟩, ⟨_, rfl, .refl _⟩, ⟨_, rfl, .refl _⟩, ⟨_, rfl, .refl _⟩, ⟨_, rfl, .refl _⟩, ⟨_, rfl, .refl _⟩, ⟨_, rfl, .refl _⟩, ⟨_, rfl, .refl _⟩, ⟨_, rfl, le_int (by simp)⟩, ⟨_, rfl, le_int rfl⟩, trivial⟩)
                (by exact ⟨⟨_, rfl, .refl _⟩, ⟨_, rfl, .refl _⟩, ⟨_, rfl, .refl _⟩, ⟨_, rfl, .refl _⟩, ⟨_, rfl, .refl _⟩, ⟨_, rfl, .refl _⟩, ⟨_, rfl, .refl _⟩, ⟨_, rfl, .refl _⟩, ⟨_, rfl, .refl _⟩, trivial⟩) rfl rfl rfl) (fun k hk ih2 => ?_)
            by_cases hkl2 : k < x.arms.length
            · have hxa : (x.arms.map Edge.cs)[k]? = some (x.arms[k]).cs := by simp [hkl2]
              have hga := hgn.arm _ (List.getElem_mem hkl2)
              have hcn1 := hpl x.arms[k].next hga.nx.1 hga.nx.2
              have hih2 := ih2 (k + 1) hkl2 (by omega)
              rw [List.take_succ_eq_append_getElem hkl2, List.map_append, List.map_append] at hih2
              by_cases h5 : x.arms[k].kind = 5
              · have hca1 := hpl x.arms[k].at_ (hga.at_ h5).1 (hga.at_ h5).2
                repeat' (first
                  | refine g_seq ?_
                  | (refine g_region ?_; refine run_ th rfl ?_)
                  | (refine g_drawC mix rfl rfl ?_; refine drun_ th rfl ?_)
                  | (refine g_drawEC mix rfl rfl ?_; refine erun_ th rfl ?_)
                  | refine SOps.nil ?_
                  | refine DOps.nil ?_
                  | refine EOps.nil ?_ rfl rfl
                  | refine g_block ?_
                  | refine g_inBlock ?_
                  | refine g_skip ?_
                  | refine g_exit rfl ?_
                  | refine g_if_true rfl ?_
                  | refine g_if_false rfl ?_
                  | (refine s_split rfl rfl (fun hb => ?_) (fun hb => ?_) <;> (try simp only [decide_eq_true_eq, decide_eq_false_iff_not, Bool.not_eq_true', Bool.not_eq_false', Bool.not_eq_true, Bool.not_eq_false, Bool.not_true, Bool.not_false, Bool.false_eq_true, Bool.true_eq_false, reduceCtorEq, not_true_eq_false, not_false_eq_true, List.length_map] at hb) <;> first | (exfalso; omega) | refine run_ th rfl ?_)
                  | (refine d_split rfl rfl rfl (fun hb => ?_) (fun hb => ?_) <;> (try simp only [decide_eq_true_eq, decide_eq_false_iff_not, Bool.not_eq_true', Bool.not_eq_false', Bool.not_eq_true, Bool.not_eq_false, Bool.not_true, Bool.not_false, Bool.false_eq_true, Bool.true_eq_false, reduceCtorEq, not_true_eq_false, not_false_eq_true, List.length_map] at hb) <;> first | (exfalso; omega) | refine drun_ th rfl ?_)
                  | (refine g_if rfl (fun hb => ?_) (fun hb => ?_) <;> (try simp only [decide_eq_true_eq, decide_eq_false_iff_not, Bool.not_eq_true', Bool.not_eq_false', Bool.not_eq_true, Bool.not_eq_false, Bool.not_true, Bool.not_false, Bool.false_eq_true, Bool.true_eq_false, reduceCtorEq, not_true_eq_false, not_false_eq_true, List.length_map] at hb) <;> (try (exfalso; omega)))
                  | (refine s_idx th rfl rfl rfl rfl rfl rfl rfl rfl rfl k _ rfl hxa ?_; refine run_ th rfl ?_)
                  | (refine s_clos hcn1 rfl rfl rfl rfl rfl rfl rfl rfl rfl rfl rfl rfl rfl ?_; refine run_ th rfl ?_)
                  | (refine s_clos hca1 rfl rfl rfl rfl rfl rfl rfl rfl rfl rfl rfl rfl rfl ?_; refine run_ th rfl ?_)
                  | (refine s_anyB 13 2 rfl ?_; refine s_append th rfl rfl rfl rfl rfl rfl rfl rfl rfl rfl rfl rfl rfl rfl rfl (by constructor <;> simp <;> omega) ?_; refine run_ th rfl ?_)
                  | (refine s_add rfl rfl rfl rfl rfl rfl (by omega) ?_; refine run_ th rfl ?_)
                  | (exfalso; revert hb; simp; done))
                all_goals
                  exact g_sub (by exact ⟨⟨_, rfl, .refl _⟩, ⟨_, rfl, .refl _⟩, ⟨_, rfl, .refl _⟩, ⟨_, rfl, .refl _⟩, ⟨_, rfl, .refl _⟩, ⟨_, rfl, .refl _⟩, ⟨_, rfl, .refl _⟩, ⟨_, rfl, .refl _⟩, ⟨_, rfl, .refl _⟩, ⟨_, rfl, .refl _⟩, ⟨_, rfl, .refl _⟩, ⟨_, rfl, .refl _⟩, ⟨_, rfl, le_int (by omega)⟩, trivial⟩)
                    (by exact ⟨⟨_, rfl, le_arrF (by simp [shrE, h5])⟩, ⟨_, rfl, .refl _⟩, ⟨_, rfl, .refl _⟩, ⟨_, rfl, .refl _⟩, ⟨_, rfl, .refl _⟩, ⟨_, rfl, .refl _⟩, ⟨_, rfl, .refl _⟩, ⟨_, rfl, .refl _⟩, ⟨_, rfl, .refl _⟩, trivial⟩) rfl rfl rfl hih2
              · skip
                repeat' (first
                  | refine g_seq ?_
                  | (refine g_region ?_; refine run_ th rfl ?_)
                  | (refine g_drawC mix rfl rfl ?_; refine drun_ th rfl ?_)
                  | (refine g_drawEC mix rfl rfl ?_; refine erun_ th rfl ?_)
                  | refine SOps.nil ?_
                  | refine DOps.nil ?_
                  | refine EOps.nil ?_ rfl rfl
                  | refine g_block ?_
                  | refine g_inBlock ?_
                  | refine g_skip ?_
                  | refine g_exit rfl ?_
                  | refine g_if_true rfl ?_
                  | refine g_if_false rfl ?_
                  | (refine s_split rfl rfl (fun hb => ?_) (fun hb => ?_) <;> (try simp only [decide_eq_true_eq, decide_eq_false_iff_not, Bool.not_eq_true', Bool.not_eq_false', Bool.not_eq_true, Bool.not_eq_false, Bool.not_true, Bool.not_false, Bool.false_eq_true, Bool.true_eq_false, reduceCtorEq, not_true_eq_false, not_false_eq_true, List.length_map] at hb) <;> first | (exfalso; omega) | refine run_ th rfl ?_)
                  | (refine d_split rfl rfl rfl (fun hb => ?_) (fun hb => ?_) <;> (try simp only [decide_eq_true_eq, decide_eq_false_iff_not, Bool.not_eq_true', Bool.not_eq_false', Bool.not_eq_true, Bool.not_eq_false, Bool.not_true, Bool.not_false, Bool.false_eq_true, Bool.true_eq_false, reduceCtorEq, not_true_eq_false, not_false_eq_true, List.length_map] at hb) <;> first | (exfalso; omega) | refine drun_ th rfl ?_)
                  | (refine g_if rfl (fun hb => ?_) (fun hb => ?_) <;> (try simp only [decide_eq_true_eq, decide_eq_false_iff_not, Bool.not_eq_true', Bool.not_eq_false', Bool.not_eq_true, Bool.not_eq_false, Bool.not_true, Bool.not_false, Bool.false_eq_true, Bool.true_eq_false, reduceCtorEq, not_true_eq_false, not_false_eq_true, List.length_map] at hb) <;> (try (exfalso; omega)))
                  | (refine s_idx th rfl rfl rfl rfl rfl rfl rfl rfl rfl k _ rfl hxa ?_; refine run_ th rfl ?_)
                  | (refine s_clos hcn1 rfl rfl rfl rfl rfl rfl rfl rfl rfl rfl rfl rfl rfl ?_; refine run_ th rfl ?_)
                  | (refine s_anyB 13 2 rfl ?_; refine s_append th rfl rfl rfl rfl rfl rfl rfl rfl rfl rfl rfl rfl rfl rfl rfl (by constructor <;> simp <;> omega) ?_; refine run_ th rfl ?_)
                  | (refine s_add rfl rfl rfl rfl rfl rfl (by omega) ?_; refine run_ th rfl ?_)
                  | (exfalso; revert hb; simp; done))
                all_goals
                  exact g_sub (by exact ⟨⟨_, rfl, .refl _⟩, ⟨_, rfl, .refl _⟩, ⟨_, rfl, .refl _⟩, ⟨_, rfl, .refl _⟩, ⟨_, rfl, .refl _⟩, ⟨_, rfl, .refl _⟩, ⟨_, rfl, .refl _⟩, ⟨_, rfl, .refl _⟩, ⟨_, rfl, .refl _⟩, ⟨_, rfl, .refl _⟩, ⟨_, rfl, .refl _⟩, ⟨_, rfl, .refl _⟩, ⟨_, rfl, le_int (by omega)⟩, trivial⟩)
                    (by exact ⟨⟨_, rfl, le_arrF (by simp [shrE, h5])⟩, ⟨_, rfl, .refl _⟩, ⟨_, rfl, .refl _⟩, ⟨_, rfl, .refl _⟩, ⟨_, rfl, .refl _⟩, ⟨_, rfl, .refl _⟩, ⟨_, rfl, .refl _⟩, ⟨_, rfl, .refl _⟩, ⟨_, rfl, .refl _⟩, trivial⟩) rfl rfl rfl hih2
            · have hke : k = x.arms.length := by omega
              subst hke
              clear ih2
              rw [List.take_length]
              repeat' (first
                | refine g_seq ?_
                | (refine g_region ?_; refine run_ th rfl ?_)
                | (refine g_drawC mix rfl rfl ?_; refine drun_ th rfl ?_)
                | (refine g_drawEC mix rfl rfl ?_; refine erun_ th rfl ?_)
                | refine SOps.nil ?_
                | refine DOps.nil ?_
                | refine EOps.nil ?_ rfl rfl
                | refine g_block ?_
                | refine g_inBlock ?_
                | refine g_skip ?_
                | refine g_exit rfl ?_
                | refine g_if_true rfl ?_
                | refine g_if_false rfl ?_
                | (refine s_split rfl rfl (fun hb => ?_) (fun hb => ?_) <;> (try simp only [decide_eq_true_eq, decide_eq_false_iff_not, Bool.not_eq_true', Bool.not_eq_false', Bool.not_eq_true, Bool.not_eq_false, Bool.not_true, Bool.not_false, Bool.false_eq_true, Bool.true_eq_false, reduceCtorEq, not_true_eq_false, not_false_eq_true, List.length_map] at hb) <;> first | (exfalso; omega) | refine run_ th rfl ?_)
                | (refine d_split rfl rfl rfl (fun hb => ?_) (fun hb => ?_) <;> (try simp only [decide_eq_true_eq, decide_eq_false_iff_not, Bool.not_eq_true', Bool.not_eq_false', Bool.not_eq_true, Bool.not_eq_false, Bool.not_true, Bool.not_false, Bool.false_eq_true, Bool.true_eq_false, reduceCtorEq, not_true_eq_false, not_false_eq_true, List.length_map] at hb) <;> first | (exfalso; omega) | refine drun_ th rfl ?_)
                | (refine g_if rfl (fun hb => ?_) (fun hb => ?_) <;> (try simp only [decide_eq_true_eq, decide_eq_false_iff_not, Bool.not_eq_true', Bool.not_eq_false', Bool.not_eq_true, Bool.not_eq_false, Bool.not_true, Bool.not_false, Bool.false_eq_true, Bool.true_eq_false, reduceCtorEq, not_true_eq_false, not_false_eq_true, List.length_map] at hb) <;> (try (exfalso; omega)))
                | (refine s_freeze 201 rfl rfl ?_; refine run_ th rfl ?_)
                | (refine s_anyB 8 0 rfl ?_; refine s_append th rfl rfl rfl rfl rfl rfl rfl rfl rfl rfl rfl rfl rfl rfl rfl (by constructor <;> simp <;> omega) ?_; refine run_ th rfl ?_)
                | (refine s_add rfl rfl rfl rfl rfl rfl (by omega) ?_; refine run_ th rfl ?_)
                | (exfalso; revert hb; simp; done))
              all_goals
                exact g_sub (by exact ⟨⟨_, rfl, .refl _⟩, ⟨_, rfl, .refl _⟩, ⟨_, rfl, .refl _⟩, ⟨_, rfl, .refl _⟩, ⟨_, rfl, .refl _⟩, ⟨_, rfl, .refl _⟩, ⟨_, rfl, .refl _⟩, ⟨_, rfl, .refl _⟩, ⟨_, rfl, le_int (by omega)⟩, trivial⟩)
                  (by exact ⟨⟨_, rfl, le_arrF (by simp [shrN, hnd])⟩, ⟨_, rfl, .refl _⟩, ⟨_, rfl, .refl _⟩, ⟨_, rfl, .refl _⟩, ⟨_, rfl, .refl _⟩, ⟨_, rfl, .refl _⟩, ⟨_, rfl, .refl _⟩, trivial⟩) rfl rfl rfl hih
          · rw [keepN_no (by rw [List.getElem?_eq_getElem hlc]; intro e; exact hci (Option.some.inj e))] at hih
            repeat' (first
              | (refine g_drawA mix rfl rfl rfl rfl rfl rfl ?_; refine drun_ th rfl ?_)
              | (refine DOps.nil ?_; refine run_ th rfl ?_)
              | refine g_seq ?_
              | (refine g_region ?_; refine run_ th rfl ?_)
              | (refine g_drawC mix rfl rfl ?_; refine drun_ th rfl ?_)
              | (refine g_drawEC mix rfl rfl ?_; refine erun_ th rfl ?_)
              | refine SOps.nil ?_
              | refine DOps.nil ?_
              | refine EOps.nil ?_ rfl rfl
              | refine g_block ?_
              | refine g_inBlock ?_
              | refine g_skip ?_
              | refine g_exit rfl ?_
              | refine g_if_true rfl ?_
              | refine g_if_false rfl ?_
              | (refine s_split rfl rfl (fun hb => ?_) (fun hb => ?_) <;> (try simp only [decide_eq_true_eq, decide_eq_false_iff_not, Bool.not_eq_true', Bool.not_eq_false', Bool.not_eq_true, Bool.not_eq_false, Bool.not_true, Bool.not_false, Bool.false_eq_true, Bool.true_eq_false, reduceCtorEq, not_true_eq_false, not_false_eq_true, List.length_map] at hb) <;> first | (exfalso; omega) | refine run_ th rfl ?_)
              | (refine d_split rfl rfl rfl (fun hb => ?_) (fun hb => ?_) <;> (try simp only [decide_eq_true_eq, decide_eq_false_iff_not, Bool.not_eq_true', Bool.not_eq_false', Bool.not_eq_true, Bool.not_eq_false, Bool.not_true, Bool.not_false, Bool.false_eq_true, Bool.true_eq_false, reduceCtorEq, not_true_eq_false, not_false_eq_true, List.length_map] at hb) <;> first | (exfalso; omega) | refine drun_ th rfl ?_)
              | (refine g_if rfl (fun hb => ?_) (fun hb => ?_) <;> (try simp only [decide_eq_true_eq, decide_eq_false_iff_not, Bool.not_eq_true', Bool.not_eq_false', Bool.not_eq_true, Bool.not_eq_false, Bool.not_true, Bool.not_false, Bool.false_eq_true, Bool.true_eq_false, reduceCtorEq, not_true_eq_false, not_false_eq_true, List.length_map] at hb) <;> (try (exfalso; omega)))
              | (refine s_idx th rfl rfl rfl rfl rfl rfl rfl rfl rfl i _ rfl hxn ?_; refine run_ th rfl ?_)
              | (refine s_idx th rfl rfl rfl rfl rfl rfl rfl rfl rfl i _ rfl hxl ?_; refine run_ th rfl ?_)
              | (refine s_add rfl rfl rfl rfl rfl rfl (by omega) ?_; refine run_ th rfl ?_)
              | (exfalso; revert hb; simp; done))
            all_goals
              exact g_sub (by exact ⟨⟨_, rfl, .refl _⟩, ⟨_, rfl, .refl _⟩, ⟨_, rfl, .refl _⟩, ⟨_, rfl, .refl _⟩, ⟨_, rfl, .refl _⟩, ⟨_, rfl, .refl _⟩, ⟨_, rfl, .refl _⟩, ⟨_, rfl, .refl _⟩, ⟨_, rfl, le_int (by omega)⟩, trivial⟩)
                (by exact ⟨⟨_, rfl, .refl _⟩, ⟨_, rfl, .refl _⟩, ⟨_, rfl, .refl _⟩, ⟨_, rfl, .refl _⟩, ⟨_, rfl, .refl _⟩, ⟨_, rfl, .refl _⟩, ⟨_, rfl, .refl _⟩, trivial⟩) rfl rfl rfl hih
        · have hie2 : i = b.nodes.length := by omega
          subst hie2
          clear ih
          rw [hcn]
          repeat' (first
            | refine g_seq ?_
            | (refine g_region ?_; refine run_ th rfl ?_)
            | (refine g_drawC mix rfl rfl ?_; refine drun_ th rfl ?_)
            | (refine g_drawEC mix rfl rfl ?_; refine erun_ th rfl ?_)
            | refine SOps.nil ?_
            | refine DOps.nil ?_
            | refine EOps.nil ?_ rfl rfl
            | refine g_block ?_
            | refine g_inBlock ?_
            | refine g_skip ?_
            | refine g_exit rfl ?_
            | refine g_if_true rfl ?_
            | refine g_if_false rfl ?_
            | (refine s_split rfl rfl (fun hb => ?_) (fun hb => ?_) <;> (try simp only [decide_eq_true_eq, decide_eq_false_iff_not, Bool.not_eq_true', Bool.not_eq_false', Bool.not_eq_true, Bool.not_eq_false, Bool.not_true, Bool.not_false, Bool.false_eq_true, Bool.true_eq_false, reduceCtorEq, not_true_eq_false, not_false_eq_true, List.length_map] at hb) <;> first | (exfalso; omega) | refine run_ th rfl ?_)
            | (refine d_split rfl rfl rfl (fun hb => ?_) (fun hb => ?_) <;> (try simp only [decide_eq_true_eq, decide_eq_false_iff_not, Bool.not_eq_true', Bool.not_eq_false', Bool.not_eq_true, Bool.not_eq_false, Bool.not_true, Bool.not_false, Bool.false_eq_true, Bool.true_eq_false, reduceCtorEq, not_true_eq_false, not_false_eq_true, List.length_map] at hb) <;> first | (exfalso; omega) | refine drun_ th rfl ?_)
            | (refine g_if rfl (fun hb => ?_) (fun hb => ?_) <;> (try simp only [decide_eq_true_eq, decide_eq_false_iff_not, Bool.not_eq_true', Bool.not_eq_false', Bool.not_eq_true, Bool.not_eq_false, Bool.not_true, Bool.not_false, Bool.false_eq_true, Bool.true_eq_false, reduceCtorEq, not_true_eq_false, not_false_eq_true, List.length_map] at hb) <;> (try (exfalso; omega)))
            | refine g_endL th Tryd.func18 (.inr ⟨_, rfl⟩) rfl rfl rfl ?_ rfl
            | (refine g_freeze 200 rfl rfl ?_))
          all_goals exact .refl _
end Go.Sy
