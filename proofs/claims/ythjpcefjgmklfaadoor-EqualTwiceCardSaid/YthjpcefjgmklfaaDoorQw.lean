/- Contracts: EqualTwice. -/
import Derived.Test.YthjpcefjgmklfaaDoorQr
import Derived.Test.YthjpcefjgmklfaaDoorQv
set_option linter.unusedSimpArgs false
set_option linter.unusedVariables false
set_option linter.unusedSectionVars false
namespace Go.Sy
open Go.Proofs Go.RowKit
set_option maxRecDepth 100000
attribute [local irreducible] SOps Goes DOps EOps

abbrev pkN (n : Nat) (x : Int) : Int := IntKind.i64.wrap ((IntKind.u64.wrap x).tmod (IntKind.u64.wrap (n : Int)))
theorem pick_n {n : Nat} (h1 : 1 ≤ n) (h8 : n ≤ 60) (x : Int) : 0 ≤ pkN n x ∧ pkN n x < n := pick_v (by omega) (by omega)
abbrev twT (b : Bk) : TM := [(26, .v (.one (.ptr 7 1))), (27, .v (C1 (namesT b.names))), (28, .v (.one (.ptr 7 2))), (29, .v (C1 (intsT b.roots))), (30, .v (.one (.ptr 7 0))), (31, .v (C1 (nodesT b.nodes))), (32, .v (.one (.own 32))),
  (33, .v (.agg [.own 32, .c (namesT b.names), .c (intsT b.roots)])), (9, .v (.one (.ptr 9 0)))]
abbrev twM (b : Bk) : MKs := [(6, (32, .arr false 41 3 (b.nodes.map Nd.cs))), (8, (9, .box [.c .nils, .c .nils, .c .nils]))]

theorem two_step {α β : Type} (l : List α) (f : α → α) (g : α → β) (i : Nat) (h : i < l.length) : (l ++ (l.take (i + 1)).map f).map g = (l ++ (l.take i).map f).map g ++ [g (f l[i])] := by
  rw [List.take_succ_eq_append_getElem h]
  simp only [List.map_append, List.map_cons, List.map_nil, List.append_assoc]
theorem le_boolW {a b : Bool} (h : a = b) : LeT (Rv (.bool a)) (Rv (.bool b)) := by subst h; exact .refl _
set_option maxHeartbeats 16000000 in
theorem equalTwice_c (l : List Int) (x y : Int) (hbig : (l.length + 1) * 8 ≤ 140737488355328) :
    Con Tryd.prog 7 [] [C1 (intsT l), C1 (.int .i64 x), C1 (.int .i64 y)] (Rv (.bool true)) [] := by
  refine con_of (c := _) Tryd.func7 rfl rfl rfl (by decide) fun w M0 H Z => ?_
  repeat' (first
    | refine g_seq ?_
    | (refine g_region ?_; refine run_ th rfl ?_)
    | refine SOps.nil ?_
    | refine g_block ?_
    | refine g_inBlock ?_
    | refine g_skip ?_
    | refine g_exit rfl ?_
    | refine g_if_true rfl ?_
    | refine g_if_false rfl ?_
    | (refine s_split rfl rfl (fun hb => ?_) (fun hb => ?_) <;> (try simp only [decide_eq_true_eq, decide_eq_false_iff_not, Bool.not_eq_true', Bool.not_eq_false', Bool.not_eq_true, Bool.not_eq_false, Bool.not_true, Bool.not_false, Bool.false_eq_true, Bool.true_eq_false, reduceCtorEq, not_true_eq_false, not_false_eq_true, List.length_map] at hb) <;> first | (exfalso; omega) | refine run_ th rfl ?_)
    | (refine g_if rfl (fun hb => ?_) (fun hb => ?_) <;> (try simp only [decide_eq_true_eq, decide_eq_false_iff_not, Bool.not_eq_true', Bool.not_eq_false', Bool.not_eq_true, Bool.not_eq_false, Bool.not_true, Bool.not_false, Bool.false_eq_true, Bool.true_eq_false, reduceCtorEq, not_true_eq_false, not_false_eq_true, List.length_map] at hb) <;> (try (exfalso; omega)))
    | (refine s_call first10_c [] rfl rfl rfl rfl rfl rfl rfl rfl rfl rfl ?_; refine run_ th rfl ?_)
    | (refine s_call loop_c [] rfl rfl rfl rfl rfl rfl rfl rfl rfl rfl ?_; refine run_ th rfl ?_)
    | (refine s_appendF th rfl rfl rfl rfl rfl rfl rfl rfl rfl rfl rfl rfl rfl rfl (by constructor <;> simp <;> omega) ?_; refine s_freeze 19 rfl rfl ?_; refine run_ th rfl ?_)
    | (refine s_callQ (made10_c loopB (5 :: l) (by simp) (by simpa using hbig)) [] rfl rfl rfl rfl rfl rfl rfl rfl rfl (fun res hr => by obtain ⟨b, _, _, _, rfl⟩ := hr; rfl) (fun res hr => ?_); obtain ⟨b, ⟨hbk, hr2⟩, hb1, hb8, rfl⟩ := hr; refine run_ th rfl ?_)
    | (exfalso; revert hb; simp; done))
  have hgb := q_gb hbk
  have hnl := q_names hbk
  refine g_drawM (twT b) (twM b) mix rfl rfl rfl rfl rfl rfl rfl rfl rfl rfl rfl rfl ?_ ?_
  · intro i o h
    rcases i with _ | _ | _ | _ | _ | _ | _ | _ | _ | i
    · injection h with h; subst h
      exact ⟨26, _, [], okM_val rfl (.head _) (fun q => by simp) rfl fun mm' hb hu => (op_fieldAddr th rfl rfl rfl rfl rfl rfl rfl).toX⟩
    · injection h with h; subst h
      exact ⟨27, _, [], okM_val rfl (.tail _ (.head _)) (fun q => by simp) rfl fun mm' hb hu => (op_load_box th rfl rfl rfl (mono_get hb hu _ _ rfl) rfl rfl rfl rfl).toX⟩
    · injection h with h; subst h
      exact ⟨28, _, [], okM_val rfl (.tail _ (.tail _ (.head _))) (fun q => by simp) rfl fun mm' hb hu => (op_fieldAddr th rfl rfl rfl rfl rfl rfl rfl).toX⟩
    · injection h with h; subst h
      exact ⟨29, _, [], okM_val rfl (.tail _ (.tail _ (.tail _ (.head _)))) (fun q => by simp) rfl fun mm' hb hu => (op_load_box th rfl rfl rfl (mono_get hb hu _ _ rfl) rfl rfl rfl rfl).toX⟩
    · injection h with h; subst h
      exact ⟨30, _, [], okM_val rfl (.tail _ (.tail _ (.tail _ (.tail _ (.head _))))) (fun q => by simp) rfl fun mm' hb hu => (op_fieldAddr th rfl rfl rfl rfl rfl rfl rfl).toX⟩
    · injection h with h; subst h
      exact ⟨31, _, [], okM_val rfl (.tail _ (.tail _ (.tail _ (.tail _ (.tail _ (.head _)))))) (fun q => by simp) rfl fun mm' hb hu => (op_load_box th rfl rfl rfl (mono_get hb hu _ _ rfl) rfl rfl rfl rfl).toX⟩
    · injection h with h; subst h
      exact ⟨32, _, _, okM_appendN th rfl rfl rfl rfl rfl rfl rfl rfl rfl rfl rfl rfl (by constructor <;> simp <;> omega) (.tail _ (.tail _ (.tail _ (.tail _ (.tail _ (.tail _ (.head _))))))) (fun q => by simp)⟩
    · injection h with h; subst h
      exact ⟨33, _, [], okM_val rfl (.tail _ (.tail _ (.tail _ (.tail _ (.tail _ (.tail _ (.tail _ (.head _)))))))) (fun q => by simp) rfl fun mm' hb hu => (op_build_struct th rfl rfl rfl rfl rfl).toX⟩
    · injection h with h; subst h
      exact ⟨9, _, _, okM_alloc th rfl rfl rfl rfl rfl (.tail _ (.tail _ (.tail _ (.tail _ (.tail _ (.tail _ (.tail _ (.tail _ (.head _))))))))) (fun q => by simp)⟩
    · exact absurd h (by simp)
  refine run_ th rfl ?_
  refine SOps.nil ?_
  refine g_leT 8 (.v (C1 (.int .i64 (b.nodes.length : Int)))) rfl (le_int (by rw [List.length_map])) ?_
  repeat' (first
    | refine g_seq ?_
    | (refine g_region ?_; refine run_ th rfl ?_)
    | (refine g_drawC mix rfl rfl ?_; refine drun_ th rfl ?_)
    | (refine g_drawEC mix rfl rfl ?_; refine erun_ th rfl ?_)
    | refine SOps.nil ?_
    | refine DOps.nil ?_
    | refine EOps.nil ?_ rfl rfl
    | refine g_block ?_
    | refine g_inBlock ?_
    | refine g_skip ?_
    | refine g_exit rfl ?_
    | refine g_if_true rfl ?_
    | refine g_if_false rfl ?_
    | (refine s_split rfl rfl (fun hb => ?_) (fun hb => ?_) <;> (try simp only [decide_eq_true_eq, decide_eq_false_iff_not, Bool.not_eq_true', Bool.not_eq_false', Bool.not_eq_true, Bool.not_eq_false, Bool.not_true, Bool.not_false, Bool.false_eq_true, Bool.true_eq_false, reduceCtorEq, not_true_eq_false, not_false_eq_true, List.length_map] at hb) <;> first | (exfalso; omega) | refine run_ th rfl ?_)
    | (refine d_split rfl rfl rfl (fun hb => ?_) (fun hb => ?_) <;> (try simp only [decide_eq_true_eq, decide_eq_false_iff_not, Bool.not_eq_true', Bool.not_eq_false', Bool.not_eq_true, Bool.not_eq_false, Bool.not_true, Bool.not_false, Bool.false_eq_true, Bool.true_eq_false, reduceCtorEq, not_true_eq_false, not_false_eq_true, List.length_map] at hb) <;> first | (exfalso; omega) | refine drun_ th rfl ?_)
    | (refine g_if rfl (fun hb => ?_) (fun hb => ?_) <;> (try simp only [decide_eq_true_eq, decide_eq_false_iff_not, Bool.not_eq_true', Bool.not_eq_false', Bool.not_eq_true, Bool.not_eq_false, Bool.not_true, Bool.not_false, Bool.false_eq_true, Bool.true_eq_false, reduceCtorEq, not_true_eq_false, not_false_eq_true, List.length_map] at hb) <;> (try (exfalso; omega)))
    | (exfalso; revert hb; simp; done))
  refine g_loop1 (fun i : Nat => i ≤ b.nodes.length)
    (fun i => [(1, .v (C1 (.int .i64 x))), (2, .v (C1 (.int .i64 y))), (7, .v (.one (.ptr 7 0))), (8, .v (C1 (.int .i64 (b.nodes.length : Int)))), (9, .v (.one (.ptr 9 0))), (10, .v (C1 (.int .i64 (i : Int))))])
    (fun i => [(32, .arr false 41 3 ((b.nodes ++ (b.nodes.take i).map (dupN b.nodes.length)).map Nd.cs)), (9, .box [.own 32, .c (namesT b.names), .c (intsT b.roots)]), (7, .box [.c (nodesT b.nodes), .c (namesT b.names), .c (intsT b.roots)])]) (fun i => b.nodes.length - i) 0 (Nat.zero_le _)
    (fun a w h => h.sub (by exact ⟨⟨_, rfl, .refl _⟩, ⟨_, rfl, .refl _⟩, ⟨_, rfl, .refl _⟩, ⟨_, rfl, .refl _⟩, ⟨_, rfl, .refl _⟩, ⟨_, rfl, le_int rfl⟩, trivial⟩) (by exact ⟨⟨_, rfl, le_arrF (by simp)⟩, ⟨_, rfl, .refl _⟩, ⟨_, rfl, .refl _⟩, trivial⟩) rfl rfl rfl) (fun i hi ih => ?_)
  by_cases hlt : i < b.nodes.length
  · have hxn : (b.nodes.map Nd.cs)[i]? = some (b.nodes[i]).cs := by simp [hlt]
    have hgn := hgb _ (List.getElem_mem hlt)
    have hih := ih (i + 1) hlt (by omega)
    have hE2 : (b.nodes ++ (b.nodes.take (i + 1)).map (dupN b.nodes.length)).map Nd.cs = (b.nodes ++ (b.nodes.take i).map (dupN b.nodes.length)).map Nd.cs ++ [(dupN b.nodes.length b.nodes[i]).cs] := by
      exact two_step b.nodes (dupN b.nodes.length) Nd.cs i hlt
    rw [hE2] at hih
    clear hE2
    clear ih
    have hxl6 := hgn.len
    repeat' (first
      | refine g_seq ?_
      | (refine g_region ?_; refine run_ th rfl ?_)
      | (refine g_drawC mix rfl rfl ?_; refine drun_ th rfl ?_)
      | (refine g_drawEC mix rfl rfl ?_; refine erun_ th rfl ?_)
      | refine SOps.nil ?_
      | refine DOps.nil ?_
      | refine EOps.nil ?_ rfl rfl
      | refine g_block ?_
      | refine g_inBlock ?_
      | refine g_skip ?_
      | refine g_exit rfl ?_
      | refine g_if_true rfl ?_
      | refine g_if_false rfl ?_
      | (refine s_split rfl rfl (fun hb => ?_) (fun hb => ?_) <;> (try simp only [decide_eq_true_eq, decide_eq_false_iff_not, Bool.not_eq_true', Bool.not_eq_false', Bool.not_eq_true, Bool.not_eq_false, Bool.not_true, Bool.not_false, Bool.false_eq_true, Bool.true_eq_false, reduceCtorEq, not_true_eq_false, not_false_eq_true, List.length_map] at hb) <;> first | (exfalso; omega) | refine run_ th rfl ?_)
      | (refine d_split rfl rfl rfl (fun hb => ?_) (fun hb => ?_) <;> (try simp only [decide_eq_true_eq, decide_eq_false_iff_not, Bool.not_eq_true', Bool.not_eq_false', Bool.not_eq_true, Bool.not_eq_false, Bool.not_true, Bool.not_false, Bool.false_eq_true, Bool.true_eq_false, reduceCtorEq, not_true_eq_false, not_false_eq_true, List.length_map] at hb) <;> first | (exfalso; omega) | refine drun_ th rfl ?_)
      | (refine g_if rfl (fun hb => ?_) (fun hb => ?_) <;> (try simp only [decide_eq_true_eq, decide_eq_false_iff_not, Bool.not_eq_true', Bool.not_eq_false', Bool.not_eq_true, Bool.not_eq_false, Bool.not_true, Bool.not_false, Bool.false_eq_true, Bool.true_eq_false, reduceCtorEq, not_true_eq_false, not_false_eq_true, List.length_map] at hb) <;> (try (exfalso; omega)))
      | (refine e_idx th rfl rfl rfl rfl rfl rfl rfl rfl rfl i _ rfl hxn ?_; refine erun_ th rfl ?_)
      | (exfalso; revert hb; simp; done))
    refine g_adoptB 11 2 202 45 4 rfl rfl rfl rfl ?_
    generalize b.nodes[i] = X at *
    obtain ⟨kX, pX, aX⟩ := X
    simp only at hxl6
    refine g_loop1 (fun k : Nat => k ≤ aX.length)
      (fun k => [(1, .v (C1 (.int .i64 x))), (2, .v (C1 (.int .i64 y))), (7, .v (.one (.ptr 7 0))), (8, .v (C1 (.int .i64 (b.nodes.length : Int)))), (9, .v (.one (.ptr 9 0))), (10, .v (C1 (.int .i64 (i : Int)))), (11, .v (.one (.ptr 11 0))), (12, .v (C1 (.int .i64 (k : Int))))])
      (fun k => [(202, .arr false 45 4 (((aX.take k).map (dupE b.nodes.length)).map Edge.cs)), (11, .box [.c (.int .i64 kX), .c (.str pX), .own 202]), (32, .arr false 41 3 ((b.nodes ++ (b.nodes.take i).map (dupN b.nodes.length)).map Nd.cs)), (9, .box [.own 32, .c (namesT b.names), .c (intsT b.roots)]), (7, .box [.c (nodesT b.nodes), .c (namesT b.names), .c (intsT b.roots)])]) (fun k => aX.length - k) 0 (Nat.zero_le _)
      (fun a w h => h.sub (by exact ⟨⟨_, rfl, .refl _⟩, ⟨_, rfl, .refl _⟩, ⟨_, rfl, .refl _⟩, ⟨_, rfl, .refl _⟩, ⟨_, rfl, .refl _⟩, ⟨_, rfl, .refl _⟩, ⟨_, rfl, .refl _⟩, ⟨_, rfl, le_int rfl⟩, trivial⟩)
        (by exact ⟨⟨_, rfl, .refl _⟩, ⟨_, rfl, .refl _⟩, ⟨_, rfl, .refl _⟩, ⟨_, rfl, .refl _⟩, ⟨_, rfl, .refl _⟩, trivial⟩) rfl rfl rfl) (fun k hk ih => ?_)
    by_cases hkl : k < aX.length
    · have hxa : (aX.map Edge.cs)[k]? = some (aX[k]).cs := by simp [hkl]
      have hga : GE b.nodes.length aX[k] := hgn.arm _ (List.getElem_mem hkl)
      have hih2 := ih (k + 1) hkl (by omega)
      rw [List.take_succ_eq_append_getElem hkl, List.map_append, List.map_append] at hih2
      clear ih hih
      have n0 := hga.nx
      by_cases h5 : aX[k].kind = 5
      · have t0 := hga.at_ h5
        have hE : ((([aX[k]] : List Edge).map (dupE b.nodes.length)).map Edge.cs) = [[CT.str aX[k].label, .int .i64 aX[k].kind, .int .i64 (aX[k].at_ + b.nodes.length), .int .i64 (aX[k].next + b.nodes.length)]] := by simp [dupE, h5]
        rw [hE] at hih2
        clear hE
        generalize aX[k] = A at *
        obtain ⟨lA, kA, tA, nA⟩ := A
        simp only at h5 n0 t0 hih2
        subst h5
        repeat' (first
          | refine g_seq ?_
          | (refine g_region ?_; refine run_ th rfl ?_)
          | (refine g_drawC mix rfl rfl ?_; refine drun_ th rfl ?_)
          | (refine g_drawEC mix rfl rfl ?_; refine erun_ th rfl ?_)
          | refine SOps.nil ?_
          | refine DOps.nil ?_
          | refine EOps.nil ?_ rfl rfl
          | refine g_block ?_
          | refine g_inBlock ?_
          | refine g_skip ?_
          | refine g_exit rfl ?_
          | refine g_if_true rfl ?_
          | refine g_if_false rfl ?_
          | (refine s_split rfl rfl (fun hb => ?_) (fun hb => ?_) <;> (try simp only [decide_eq_true_eq, decide_eq_false_iff_not, Bool.not_eq_true', Bool.not_eq_false', Bool.not_eq_true, Bool.not_eq_false, Bool.not_true, Bool.not_false, Bool.false_eq_true, Bool.true_eq_false, reduceCtorEq, not_true_eq_false, not_false_eq_true, List.length_map] at hb) <;> first | (exfalso; omega) | refine run_ th rfl ?_)
          | (refine d_split rfl rfl rfl (fun hb => ?_) (fun hb => ?_) <;> (try simp only [decide_eq_true_eq, decide_eq_false_iff_not, Bool.not_eq_true', Bool.not_eq_false', Bool.not_eq_true, Bool.not_eq_false, Bool.not_true, Bool.not_false, Bool.false_eq_true, Bool.true_eq_false, reduceCtorEq, not_true_eq_false, not_false_eq_true, List.length_map] at hb) <;> first | (exfalso; omega) | refine drun_ th rfl ?_)
          | (refine g_if rfl (fun hb => ?_) (fun hb => ?_) <;> (try simp only [decide_eq_true_eq, decide_eq_false_iff_not, Bool.not_eq_true', Bool.not_eq_false', Bool.not_eq_true, Bool.not_eq_false, Bool.not_true, Bool.not_false, Bool.false_eq_true, Bool.true_eq_false, reduceCtorEq, not_true_eq_false, not_false_eq_true, List.length_map] at hb) <;> (try (exfalso; omega)))
          | (refine s_idx th rfl rfl rfl rfl rfl rfl rfl rfl rfl i _ rfl hxn ?_; refine run_ th rfl ?_)
          | (refine s_idx th rfl rfl rfl rfl rfl rfl rfl rfl rfl k _ rfl hxa ?_; refine run_ th rfl ?_)
          | (refine s_anyB 11 2 rfl ?_; refine s_append th rfl rfl rfl rfl rfl rfl rfl rfl rfl rfl rfl rfl rfl rfl rfl (by constructor <;> simp <;> omega) ?_; refine run_ th rfl ?_)
          | (refine s_add rfl rfl rfl rfl rfl rfl (by dsimp only; omega) ?_; refine run_ th rfl ?_)
          | (refine s_add rfl rfl rfl rfl rfl rfl (by omega) ?_; refine run_ th rfl ?_)
          | (exfalso; revert hb; simp; done))
        all_goals
          exact g_sub (by exact ⟨⟨_, rfl, .refl _⟩, ⟨_, rfl, .refl _⟩, ⟨_, rfl, .refl _⟩, ⟨_, rfl, .refl _⟩, ⟨_, rfl, .refl _⟩, ⟨_, rfl, .refl _⟩, ⟨_, rfl, .refl _⟩, ⟨_, rfl, le_int (by omega)⟩, trivial⟩)
            (by exact ⟨⟨_, rfl, .refl _⟩, ⟨_, rfl, .refl _⟩, ⟨_, rfl, .refl _⟩, ⟨_, rfl, .refl _⟩, ⟨_, rfl, .refl _⟩, trivial⟩) rfl rfl rfl hih2
      · have hE : ((([aX[k]] : List Edge).map (dupE b.nodes.length)).map Edge.cs) = [[CT.str aX[k].label, .int .i64 aX[k].kind, .int .i64 aX[k].at_, .int .i64 (aX[k].next + b.nodes.length)]] := by simp [dupE, h5]
        rw [hE] at hih2
        clear hE
        generalize aX[k] = A at *
        obtain ⟨lA, kA, tA, nA⟩ := A
        simp only at h5 n0 hih2
        repeat' (first
          | refine g_seq ?_
          | (refine g_region ?_; refine run_ th rfl ?_)
          | (refine g_drawC mix rfl rfl ?_; refine drun_ th rfl ?_)
          | (refine g_drawEC mix rfl rfl ?_; refine erun_ th rfl ?_)
          | refine SOps.nil ?_
          | refine DOps.nil ?_
          | refine EOps.nil ?_ rfl rfl
          | refine g_block ?_
          | refine g_inBlock ?_
          | refine g_skip ?_
          | refine g_exit rfl ?_
          | refine g_if_true rfl ?_
          | refine g_if_false rfl ?_
          | (refine s_split rfl rfl (fun hb => ?_) (fun hb => ?_) <;> (try simp only [decide_eq_true_eq, decide_eq_false_iff_not, Bool.not_eq_true', Bool.not_eq_false', Bool.not_eq_true, Bool.not_eq_false, Bool.not_true, Bool.not_false, Bool.false_eq_true, Bool.true_eq_false, reduceCtorEq, not_true_eq_false, not_false_eq_true, List.length_map] at hb) <;> first | (exfalso; omega) | refine run_ th rfl ?_)
          | (refine d_split rfl rfl rfl (fun hb => ?_) (fun hb => ?_) <;> (try simp only [decide_eq_true_eq, decide_eq_false_iff_not, Bool.not_eq_true', Bool.not_eq_false', Bool.not_eq_true, Bool.not_eq_false, Bool.not_true, Bool.not_false, Bool.false_eq_true, Bool.true_eq_false, reduceCtorEq, not_true_eq_false, not_false_eq_true, List.length_map] at hb) <;> first | (exfalso; omega) | refine drun_ th rfl ?_)
          | (refine g_if rfl (fun hb => ?_) (fun hb => ?_) <;> (try simp only [decide_eq_true_eq, decide_eq_false_iff_not, Bool.not_eq_true', Bool.not_eq_false', Bool.not_eq_true, Bool.not_eq_false, Bool.not_true, Bool.not_false, Bool.false_eq_true, Bool.true_eq_false, reduceCtorEq, not_true_eq_false, not_false_eq_true, List.length_map] at hb) <;> (try (exfalso; omega)))
          | (refine s_idx th rfl rfl rfl rfl rfl rfl rfl rfl rfl i _ rfl hxn ?_; refine run_ th rfl ?_)
          | (refine s_idx th rfl rfl rfl rfl rfl rfl rfl rfl rfl k _ rfl hxa ?_; refine run_ th rfl ?_)
          | (refine s_anyB 11 2 rfl ?_; refine s_append th rfl rfl rfl rfl rfl rfl rfl rfl rfl rfl rfl rfl rfl rfl rfl (by constructor <;> simp <;> omega) ?_; refine run_ th rfl ?_)
          | (refine s_add rfl rfl rfl rfl rfl rfl (by dsimp only; omega) ?_; refine run_ th rfl ?_)
          | (refine s_add rfl rfl rfl rfl rfl rfl (by omega) ?_; refine run_ th rfl ?_)
          | (exfalso; revert hb; simp; done))
        all_goals
          exact g_sub (by exact ⟨⟨_, rfl, .refl _⟩, ⟨_, rfl, .refl _⟩, ⟨_, rfl, .refl _⟩, ⟨_, rfl, .refl _⟩, ⟨_, rfl, .refl _⟩, ⟨_, rfl, .refl _⟩, ⟨_, rfl, .refl _⟩, ⟨_, rfl, le_int (by omega)⟩, trivial⟩)
            (by exact ⟨⟨_, rfl, .refl _⟩, ⟨_, rfl, .refl _⟩, ⟨_, rfl, .refl _⟩, ⟨_, rfl, .refl _⟩, ⟨_, rfl, .refl _⟩, trivial⟩) rfl rfl rfl hih2
    · have hke : k = aX.length := by omega
      subst hke
      clear ih
      rw [List.take_length]
      repeat' (first
        | refine g_seq ?_
        | (refine g_region ?_; refine run_ th rfl ?_)
        | (refine g_drawC mix rfl rfl ?_; refine drun_ th rfl ?_)
        | (refine g_drawEC mix rfl rfl ?_; refine erun_ th rfl ?_)
        | refine SOps.nil ?_
        | refine DOps.nil ?_
        | refine EOps.nil ?_ rfl rfl
        | refine g_block ?_
        | refine g_inBlock ?_
        | refine g_skip ?_
        | refine g_exit rfl ?_
        | refine g_if_true rfl ?_
        | refine g_if_false rfl ?_
        | (refine s_split rfl rfl (fun hb => ?_) (fun hb => ?_) <;> (try simp only [decide_eq_true_eq, decide_eq_false_iff_not, Bool.not_eq_true', Bool.not_eq_false', Bool.not_eq_true, Bool.not_eq_false, Bool.not_true, Bool.not_false, Bool.false_eq_true, Bool.true_eq_false, reduceCtorEq, not_true_eq_false, not_false_eq_true, List.length_map] at hb) <;> first | (exfalso; omega) | refine run_ th rfl ?_)
        | (refine d_split rfl rfl rfl (fun hb => ?_) (fun hb => ?_) <;> (try simp only [decide_eq_true_eq, decide_eq_false_iff_not, Bool.not_eq_true', Bool.not_eq_false', Bool.not_eq_true, Bool.not_eq_false, Bool.not_true, Bool.not_false, Bool.false_eq_true, Bool.true_eq_false, reduceCtorEq, not_true_eq_false, not_false_eq_true, List.length_map] at hb) <;> first | (exfalso; omega) | refine drun_ th rfl ?_)
        | (refine g_if rfl (fun hb => ?_) (fun hb => ?_) <;> (try simp only [decide_eq_true_eq, decide_eq_false_iff_not, Bool.not_eq_true', Bool.not_eq_false', Bool.not_eq_true, Bool.not_eq_false, Bool.not_true, Bool.not_false, Bool.false_eq_true, Bool.true_eq_false, reduceCtorEq, not_true_eq_false, not_false_eq_true, List.length_map] at hb) <;> (try (exfalso; omega)))
        | (refine s_idx th rfl rfl rfl rfl rfl rfl rfl rfl rfl i _ rfl hxn ?_; refine run_ th rfl ?_)
        | (refine s_freeze 202 rfl rfl ?_; refine run_ th rfl ?_)
        | (refine s_anyB 9 0 rfl ?_; refine s_append th rfl rfl rfl rfl rfl rfl rfl rfl rfl rfl rfl rfl rfl rfl rfl (by constructor <;> simp <;> omega) ?_; refine run_ th rfl ?_)
        | (refine s_add rfl rfl rfl rfl rfl rfl (by omega) ?_; refine run_ th rfl ?_)
        | (exfalso; revert hb; simp; done))
      all_goals
        exact g_sub (by exact ⟨⟨_, rfl, .refl _⟩, ⟨_, rfl, .refl _⟩, ⟨_, rfl, .refl _⟩, ⟨_, rfl, .refl _⟩, ⟨_, rfl, .refl _⟩, ⟨_, rfl, le_int (by omega)⟩, trivial⟩)
          (by exact ⟨⟨_, rfl, .refl _⟩, ⟨_, rfl, .refl _⟩, ⟨_, rfl, .refl _⟩, trivial⟩) rfl rfl rfl hih
  · have hie : i = b.nodes.length := by omega
    subst hie
    clear ih
    rw [List.take_length]
    refine g_freeze 32 rfl rfl ?_
    obtain ⟨p0, p1⟩ := pick_n hb1 (by omega) x
    obtain ⟨q0, q1⟩ := pick_n hb1 (by omega) y
    have h2l := two_len (b := b)
    have hne : (twoB b).nodes = b.nodes ++ b.nodes.map (dupN b.nodes.length) := rfl
    have s1 := same_c (twoB b) (by omega) (pkN b.nodes.length x) (pkN b.nodes.length x + b.nodes.length)
    have s2 := same_c (twoB b) (by omega) (pkN b.nodes.length x) (pkN b.nodes.length y)
    have s3 := same_c b (by omega) (pkN b.nodes.length x) (pkN b.nodes.length y)
    have s4 := same_c (twoB b) (by omega) (pkN b.nodes.length x + b.nodes.length) (pkN b.nodes.length y)
    rw [two_eqB hbk (by omega) ⟨p0, by omega, by omega, by omega⟩, hI_lo p1, hI_hi p0, (eqB_bis hbk (by omega) p0 p1 p0 p1).2 (bis_refl hgb p0 p1)] at s1
    rw [two_eqB hbk (by omega) ⟨p0, by omega, q0, by omega⟩, hI_lo p1, hI_lo q1] at s2
    rw [two_eqB hbk (by omega) ⟨by omega, by omega, q0, by omega⟩, hI_hi p0, hI_lo q1] at s4
    have c1 := shrink_c (twoB b) (by omega) (by show b.names.length ≤ 60; omega)
    have c2 := shrink_c b (by omega) (by omega)
    have hlen : (shrinkS (twoB b)).nodes.length = (shrinkS b).nodes.length := by rw [shr_len (two_book hbk (by omega)), shr_len hbk, two_keep hbk (by omega)]
    generalize shrinkS (twoB b) = z1 at *
    generalize shrinkS b = z2 at *
    generalize eqB b (pkN b.nodes.length x) (pkN b.nodes.length y) = e at *
    clear hne h2l
    have hadd : -9223372036854775808 ≤ pkN b.nodes.length x + b.nodes.length ∧ pkN b.nodes.length x + b.nodes.length ≤ 9223372036854775807 := by omega
    cases e
    all_goals
      repeat' (first
        | (refine g_drawA mix rfl rfl rfl rfl rfl rfl ?_; refine drun_ th rfl ?_)
        | (refine DOps.nil ?_; refine run_ th rfl ?_)
        | refine g_seq ?_
        | (refine g_region ?_; refine run_ th rfl ?_)
        | (refine g_drawC mix rfl rfl ?_; refine drun_ th rfl ?_)
        | (refine g_drawEC mix rfl rfl ?_; refine erun_ th rfl ?_)
        | refine SOps.nil ?_
        | refine DOps.nil ?_
        | refine EOps.nil ?_ rfl rfl
        | refine g_block ?_
        | refine g_inBlock ?_
        | refine g_skip ?_
        | refine g_exit rfl ?_
        | refine g_if_true rfl ?_
        | refine g_if_false rfl ?_
        | (refine s_split rfl rfl (fun hb => ?_) (fun hb => ?_) <;> (try simp only [decide_eq_true_eq, decide_eq_false_iff_not, Bool.not_eq_true', Bool.not_eq_false', Bool.not_eq_true, Bool.not_eq_false, Bool.not_true, Bool.not_false, Bool.false_eq_true, Bool.true_eq_false, reduceCtorEq, not_true_eq_false, not_false_eq_true, List.length_map] at hb) <;> first | (exfalso; omega) | refine run_ th rfl ?_)
        | (refine d_split rfl rfl rfl (fun hb => ?_) (fun hb => ?_) <;> (try simp only [decide_eq_true_eq, decide_eq_false_iff_not, Bool.not_eq_true', Bool.not_eq_false', Bool.not_eq_true, Bool.not_eq_false, Bool.not_true, Bool.not_false, Bool.false_eq_true, Bool.true_eq_false, reduceCtorEq, not_true_eq_false, not_false_eq_true, List.length_map] at hb) <;> first | (exfalso; omega) | refine drun_ th rfl ?_)
        | (refine g_if rfl (fun hb => ?_) (fun hb => ?_) <;> (try simp only [decide_eq_true_eq, decide_eq_false_iff_not, Bool.not_eq_true', Bool.not_eq_false', Bool.not_eq_true, Bool.not_eq_false, Bool.not_true, Bool.not_false, Bool.false_eq_true, Bool.true_eq_false, reduceCtorEq, not_true_eq_false, not_false_eq_true, List.length_map] at hb) <;> (try (exfalso; omega)))
        | (refine d_rem rfl rfl rfl rfl rfl rfl (by rw [wrapU_id (by omega) (by omega)]; omega) ?_; refine drun_ th rfl ?_)
        | (refine d_add rfl rfl rfl rfl rfl rfl hadd ?_; refine drun_ th rfl ?_)
        | (refine d_call s1 [] rfl rfl rfl rfl rfl rfl rfl rfl rfl rfl rfl ?_; refine drun_ th rfl ?_)
        | (refine d_call s2 [] rfl rfl rfl rfl rfl rfl rfl rfl rfl rfl rfl ?_; refine drun_ th rfl ?_)
        | (refine d_call s3 [] rfl rfl rfl rfl rfl rfl rfl rfl rfl rfl rfl ?_; refine drun_ th rfl ?_)
        | (refine d_call s4 [] rfl rfl rfl rfl rfl rfl rfl rfl rfl rfl rfl ?_; refine drun_ th rfl ?_)
        | (refine d_call c1 [] rfl rfl rfl rfl rfl rfl rfl rfl rfl rfl rfl ?_; refine drun_ th rfl ?_)
        | (refine d_call c2 [] rfl rfl rfl rfl rfl rfl rfl rfl rfl rfl rfl ?_; refine drun_ th rfl ?_)
        | (refine d_step (op_field1 th rfl rfl rfl rfl rfl rfl rfl rfl rfl) rfl ?_; refine drun_ th rfl ?_)
        | (exfalso; revert hb; simp; done))
    all_goals
      refine g_endL th Tryd.func7 (.inr ⟨_, rfl⟩) rfl rfl rfl ?_ rfl
      refine le_boolW ?_
      simp only [List.length_map, hlen, decide_true]
end Go.Sy
