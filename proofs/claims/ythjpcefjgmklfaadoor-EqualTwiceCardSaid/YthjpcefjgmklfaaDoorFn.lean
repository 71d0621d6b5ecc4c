/- Contracts: reparteemake.Book. -/
import Derived.Test.YthjpcefjgmklfaaDoorPd
set_option linter.unusedSimpArgs false
set_option linter.unusedVariables false
set_option linter.unusedSectionVars false
namespace Go.Sy
open Go.Proofs
set_option maxRecDepth 100000
attribute [local irreducible] SOps Goes DOps EOps

/-- A valid book with a node. -/
def BookQ (res : ST) : Prop := ∃ b : Bk, bookB b = true ∧ 1 ≤ b.nodes.length ∧ b.nodes.length ≤ 8 ∧ res = .v (Ag b.cs)
/-- A valid book with a node and two roots. -/
def BookQ2 (res : ST) : Prop := ∃ b : Bk, (bookB b = true ∧ b.roots.length = 2) ∧ 1 ≤ b.nodes.length ∧ b.nodes.length ≤ 8 ∧ res = .v (Ag b.cs)
theorem ConQ.le {P : Program} {f : FuncId} {pre post : List (List CT)} {args : List SV} {Q Q' : ST → Prop} (h : ConQ P f pre args Q post) (hq : ∀ r, Q r → Q' r) : ConQ P f pre args Q' post :=
  ⟨h.ok, fun w M0 H Z vs h1 h2 => (h.calls w M0 H Z vs h1 h2).mono fun e w' he => by
    obtain ⟨r, h3, h4⟩ := he
    exact ⟨r, hq r h3, h4⟩⟩

structure NInv (n : Int) (i : Nat) (ns : List Nd) : Prop where
  le : (i : Int) ≤ n
  len : ns.length = i
  ok : ∀ x ∈ ns, nodeB n x = true
structure EInv (n many : Int) (i : Nat) (es : List Edge) : Prop where
  le : (i : Int) ≤ many
  len : es.length = i
  ok : ∀ e ∈ es, GoodE n e

set_option maxHeartbeats 16000000 in
theorem book2_c (l : List Int) : ConQ Tryd.prog 28 [diceC l] [.one (.ptr given 0)] BookQ2 [diceC l] := by
  refine ConQ.of (c := _) Tryd.func28 rfl rfl rfl (by decide) fun w M0 H Z => ?_
  repeat' (first
    | refine g_seq ?_
    | (refine g_region ?_; refine run_ th rfl ?_)
    | (refine g_drawC mix rfl rfl ?_; refine drun_ th rfl ?_)
    | (refine g_drawEC mix rfl rfl ?_; refine erun_ th rfl ?_)
    | refine SOps.nil ?_
    | refine DOps.nil ?_
    | refine EOps.nil ?_ rfl rfl
    | refine g_block ?_
    | refine g_inBlock ?_
    | refine g_skip ?_
    | refine g_exit rfl ?_
    | refine g_if_true rfl ?_
    | refine g_if_false rfl ?_
    | (refine s_split rfl rfl (fun hb => ?_) (fun hb => ?_) <;> (try simp only [decide_eq_true_eq, decide_eq_false_iff_not, Bool.not_eq_true', Bool.not_eq_false', Bool.not_eq_true, Bool.not_eq_false, Bool.not_true, Bool.not_false, Bool.false_eq_true, Bool.true_eq_false, reduceCtorEq, not_true_eq_false, not_false_eq_true, List.length_map] at hb) <;> first | (exfalso; omega) | refine run_ th rfl ?_)
    | (refine d_split rfl rfl rfl (fun hb => ?_) (fun hb => ?_) <;> (try simp only [decide_eq_true_eq, decide_eq_false_iff_not, Bool.not_eq_true', Bool.not_eq_false', Bool.not_eq_true, Bool.not_eq_false, Bool.not_true, Bool.not_false, Bool.false_eq_true, Bool.true_eq_false, reduceCtorEq, not_true_eq_false, not_false_eq_true, List.length_map] at hb) <;> first | (exfalso; omega) | refine drun_ th rfl ?_)
    | (refine g_if rfl (fun hb => ?_) (fun hb => ?_) <;> (try simp only [decide_eq_true_eq, decide_eq_false_iff_not, Bool.not_eq_true', Bool.not_eq_false', Bool.not_eq_true, Bool.not_eq_false, Bool.not_true, Bool.not_false, Bool.false_eq_true, Bool.true_eq_false, reduceCtorEq, not_true_eq_false, not_false_eq_true, List.length_map] at hb) <;> (try (exfalso; omega)))
    | (refine s_callP (pick_c l _ (by omega) (by omega)) [given] rfl rfl rfl rfl rfl rfl rfl rfl rfl (fun m hm => ?_); refine run_ th rfl ?_)
    | (refine s_add rfl rfl rfl rfl rfl rfl (by omega) ?_; refine run_ th rfl ?_))
  have hn : 1 ≤ 1 + m ∧ 1 + m ≤ 8 := by omega
  generalize 1 + m = n at hn ⊢
  clear hm
  refine g_adoptB 4 0 200 41 3 rfl rfl rfl rfl ?_
  refine g_loop2 (NInv n)
    (fun i _ => [(0, .v (.one (.ptr given 0))), (2, .v (.one (.ptr 2 0))), (3, .v (C1 (.int .i64 n))), (4, .v (.one (.ptr 4 0))), (5, .v (C1 (.int .i64 (i : Int))))])
    (fun _ ns => [(given, .box ((diceC l).map SC.c)), (2, .box [.c .nils, .c .nils, .c .nils]), (4, .box [.own 200, .c .nils, .c .nils]), (200, .arr false 41 3 (ns.map Nd.cs))])
    (fun i _ => n.toNat - i) 0 [] ⟨by omega, rfl, fun x hx => by cases hx⟩
    (fun a w h => h.sub (by exact ⟨⟨_, rfl, .refl _⟩, ⟨_, rfl, .refl _⟩, ⟨_, rfl, .refl _⟩, ⟨_, rfl, .refl _⟩, ⟨_, rfl, le_int rfl⟩, trivial⟩) (by exact ⟨⟨_, rfl, .refl _⟩, ⟨_, rfl, .refl _⟩, ⟨_, rfl, .refl _⟩, ⟨_, rfl, le_arr rfl⟩, trivial⟩) rfl rfl rfl) (fun i ns hI ih => ?_)
  obtain ⟨hi, hlen, hok⟩ := hI
  by_cases hlt : (i : Int) < n
  · skip
    repeat' (first
      | refine g_seq ?_
      | (refine g_region ?_; refine run_ th rfl ?_)
      | (refine g_drawC mix rfl rfl ?_; refine drun_ th rfl ?_)
      | (refine g_drawEC mix rfl rfl ?_; refine erun_ th rfl ?_)
      | refine SOps.nil ?_
      | refine DOps.nil ?_
      | refine EOps.nil ?_ rfl rfl
      | refine g_block ?_
      | refine g_inBlock ?_
      | refine g_skip ?_
      | refine g_exit rfl ?_
      | refine g_if_true rfl ?_
      | refine g_if_false rfl ?_
      | (refine s_split rfl rfl (fun hb => ?_) (fun hb => ?_) <;> (try simp only [decide_eq_true_eq, decide_eq_false_iff_not, Bool.not_eq_true', Bool.not_eq_false', Bool.not_eq_true, Bool.not_eq_false, Bool.not_true, Bool.not_false, Bool.false_eq_true, Bool.true_eq_false, reduceCtorEq, not_true_eq_false, not_false_eq_true, List.length_map] at hb) <;> first | (exfalso; omega) | refine run_ th rfl ?_)
      | (refine d_split rfl rfl rfl (fun hb => ?_) (fun hb => ?_) <;> (try simp only [decide_eq_true_eq, decide_eq_false_iff_not, Bool.not_eq_true', Bool.not_eq_false', Bool.not_eq_true, Bool.not_eq_false, Bool.not_true, Bool.not_false, Bool.false_eq_true, Bool.true_eq_false, reduceCtorEq, not_true_eq_false, not_false_eq_true, List.length_map] at hb) <;> first | (exfalso; omega) | refine drun_ th rfl ?_)
      | (refine g_if rfl (fun hb => ?_) (fun hb => ?_) <;> (try simp only [decide_eq_true_eq, decide_eq_false_iff_not, Bool.not_eq_true', Bool.not_eq_false', Bool.not_eq_true, Bool.not_eq_false, Bool.not_true, Bool.not_false, Bool.false_eq_true, Bool.true_eq_false, reduceCtorEq, not_true_eq_false, not_false_eq_true, List.length_map] at hb) <;> (try (exfalso; omega)))
      | (refine s_callP (pick_c l _ (by omega) (by omega)) [given] rfl rfl rfl rfl rfl rfl rfl rfl rfl (fun m hm => ?_); refine run_ th rfl ?_)
      | (refine s_call roles_c [] rfl rfl rfl rfl rfl rfl rfl rfl rfl rfl ?_; refine run_ th rfl ?_)
      | (refine s_rem rfl rfl rfl rfl rfl rfl (by decide) ?_; have htm := tmodB m 2 (by omega) (by omega); refine run_ th rfl ?_)
      | (refine s_add rfl rfl rfl rfl rfl rfl (by omega) ?_; refine run_ th rfl ?_)
      | (refine s_idx th rfl rfl rfl rfl rfl rfl rfl rfl rfl m.toNat _ (by omega) (role_at m hm) ?_; refine run_ th rfl ?_)
      | (refine s_anyB 4 0 rfl ?_; refine s_append th rfl rfl rfl rfl rfl rfl rfl rfl rfl rfl rfl rfl rfl rfl rfl (by constructor <;> simp <;> omega) ?_; refine run_ th rfl ?_))
    · have hih := ih (i + 1) (ns ++ [⟨0, ⟨#[]⟩, []⟩]) ⟨by omega, by simp [hlen], fun x hx => by
        rcases List.mem_append.1 hx with hx | hx
        · exact hok x hx
        · simp at hx; subst hx; exact end_node n⟩ (by omega)
      refine g_sub ?_ ?_ rfl rfl rfl hih
      · exact ⟨⟨_, rfl, .refl _⟩, ⟨_, rfl, .refl _⟩, ⟨_, rfl, .refl _⟩, ⟨_, rfl, .refl _⟩, ⟨_, rfl, le_int (by omega)⟩, trivial⟩
      · refine ⟨⟨_, rfl, .refl _⟩, ⟨_, rfl, .refl _⟩, ⟨_, rfl, .refl _⟩, ⟨_, rfl, ?_⟩, trivial⟩
        rw [List.map_append]
        exact .arr (.append (.refl _) (.cons (.cons (.refl _) (.cons (.refl _) (.cons (.nil 4) .nil))) .nil))
    · have hkb := hb
      rename_i hb0 k hk r hr m1 hm1
      refine g_adopt 8 201 45 4 rfl rfl rfl ?_
      refine g_loop2 (EInv n (1 + m1))
        (fun j _ => [(0, .v (.one (.ptr given 0))), (2, .v (.one (.ptr 2 0))), (3, .v (C1 (.int .i64 n))), (4, .v (.one (.ptr 4 0))), (5, .v (C1 (.int .i64 (i : Int)))), (7, .v (.one (.ptr 7 0))), (8, .v (.one (.own 201))), (9, .v (C1 (.int .i64 (1 + m1)))), (10, .v (C1 (.int .i64 m))), (11, .v (C1 (.int .i64 (j : Int))))])
        (fun _ es => [(given, .box ((diceC l).map SC.c)), (2, .box [.c .nils, .c .nils, .c .nils]), (4, .box [.own 200, .c .nils, .c .nils]), (200, .arr false 41 3 (ns.map Nd.cs)), (7, .box [.c (.int .i64 (1 + k.tmod 2)), .c (.str (roleN r)), .c .nils]), (201, .arr false 45 4 (es.map Edge.cs))])
        (fun j _ => (1 + m1).toNat - j) 0 [] ⟨by omega, rfl, fun x hx => by cases hx⟩
        (fun a w h => h.sub (by exact ⟨⟨_, rfl, .refl _⟩, ⟨_, rfl, .refl _⟩, ⟨_, rfl, .refl _⟩, ⟨_, rfl, .refl _⟩, ⟨_, rfl, .refl _⟩, ⟨_, rfl, .refl _⟩, ⟨_, rfl, .refl _⟩, ⟨_, rfl, .refl _⟩, ⟨_, rfl, .refl _⟩, ⟨_, rfl, le_int rfl⟩, trivial⟩) (by exact ⟨⟨_, rfl, .refl _⟩, ⟨_, rfl, .refl _⟩, ⟨_, rfl, .refl _⟩, ⟨_, rfl, .refl _⟩, ⟨_, rfl, .refl _⟩, ⟨_, rfl, le_arr rfl⟩, trivial⟩) rfl rfl rfl) (fun j es hE ih2 => ?_)
      obtain ⟨hj, hjl, hgood⟩ := hE
      by_cases hjt : (j : Int) < 1 + m1
      · have htl := tmodB (m + j) 4 (by omega) (by omega)
        repeat' (first
          | refine g_seq ?_
          | (refine g_region ?_; refine run_ th rfl ?_)
          | (refine g_drawC mix rfl rfl ?_; refine drun_ th rfl ?_)
          | (refine g_drawEC mix rfl rfl ?_; refine erun_ th rfl ?_)
          | refine SOps.nil ?_
          | refine DOps.nil ?_
          | refine EOps.nil ?_ rfl rfl
          | refine g_block ?_
          | refine g_inBlock ?_
          | refine g_skip ?_
          | refine g_exit rfl ?_
          | refine g_if_true rfl ?_
          | refine g_if_false rfl ?_
          | (refine s_split rfl rfl (fun hb => ?_) (fun hb => ?_) <;> (try simp only [decide_eq_true_eq, decide_eq_false_iff_not, Bool.not_eq_true', Bool.not_eq_false', Bool.not_eq_true, Bool.not_eq_false, Bool.not_true, Bool.not_false, Bool.false_eq_true, Bool.true_eq_false, reduceCtorEq, not_true_eq_false, not_false_eq_true, List.length_map] at hb) <;> first | (exfalso; omega) | refine run_ th rfl ?_)
          | (refine d_split rfl rfl rfl (fun hb => ?_) (fun hb => ?_) <;> (try simp only [decide_eq_true_eq, decide_eq_false_iff_not, Bool.not_eq_true', Bool.not_eq_false', Bool.not_eq_true, Bool.not_eq_false, Bool.not_true, Bool.not_false, Bool.false_eq_true, Bool.true_eq_false, reduceCtorEq, not_true_eq_false, not_false_eq_true, List.length_map] at hb) <;> first | (exfalso; omega) | refine drun_ th rfl ?_)
          | (refine g_if rfl (fun hb => ?_) (fun hb => ?_) <;> (try simp only [decide_eq_true_eq, decide_eq_false_iff_not, Bool.not_eq_true', Bool.not_eq_false', Bool.not_eq_true, Bool.not_eq_false, Bool.not_true, Bool.not_false, Bool.false_eq_true, Bool.true_eq_false, reduceCtorEq, not_true_eq_false, not_false_eq_true, List.length_map] at hb) <;> (try (exfalso; omega)))
          | (refine e_call labels_c rfl rfl rfl rfl rfl rfl rfl ?_; refine erun_ th rfl ?_)
          | (refine e_add rfl rfl rfl rfl rfl rfl (by omega) ?_; refine erun_ th rfl ?_)
          | (refine e_rem rfl rfl rfl rfl rfl rfl (by decide) ?_; refine erun_ th rfl ?_)
          | (refine e_idx th rfl rfl rfl rfl rfl rfl rfl rfl rfl ((m + j).tmod 4).toNat _ (by omega) (lab_at _ htl) ?_; refine erun_ th rfl ?_)
          | (refine e_call1 (pick_c l _ (by omega) (by omega)) given rfl rfl rfl rfl rfl rfl rfl rfl rfl ?_; refine erun_ th rfl ?_)
          | (refine e_lit th rfl rfl rfl rfl rfl rfl rfl rfl rfl rfl rfl rfl kinds_le ?_; refine erun_ th rfl ?_)
          | (refine e_idxP th rfl rfl rfl rfl rfl rfl rfl rfl rfl [kindP] kinds_at ?_; refine erun_ th rfl ?_)
          | (refine s_openB 12 1 rfl rfl fun kd hkd => ?_; refine run_ th rfl ?_)
          | (refine s_openB 12 3 rfl rfl fun nx hnx => ?_; refine run_ th rfl ?_)
          | (refine s_callP (pick_c l _ (by omega) (by omega)) [given] rfl rfl rfl rfl rfl rfl rfl rfl rfl (fun q hq => ?_); refine run_ th rfl ?_)
          | (refine s_append th rfl rfl rfl rfl rfl rfl rfl rfl rfl rfl rfl rfl rfl rfl rfl (by constructor <;> simp <;> omega) ?_; refine run_ th rfl ?_)
          | (refine s_add rfl rfl rfl rfl rfl rfl (by omega) ?_; refine run_ th rfl ?_))
        · have hih := ih2 (j + 1) (es ++ [⟨labN ((m + j).tmod 4), 5, q, nx⟩]) ⟨by omega, by simp [hjl], fun x hx => by
            rcases List.mem_append.1 hx with hx | hx
            · exact hgood x hx
            · simp at hx; subst hx
              exact ⟨labN_mem _, hnx, by simp [sortB, hq]⟩⟩ (by omega)
          refine g_sub ?_ ?_ rfl rfl rfl hih
          · exact ⟨⟨_, rfl, .refl _⟩, ⟨_, rfl, .refl _⟩, ⟨_, rfl, .refl _⟩, ⟨_, rfl, .refl _⟩, ⟨_, rfl, .refl _⟩, ⟨_, rfl, .refl _⟩, ⟨_, rfl, .refl _⟩, ⟨_, rfl, .refl _⟩, ⟨_, rfl, .refl _⟩, ⟨_, rfl, le_int (by omega)⟩, trivial⟩
          · exact ⟨⟨_, rfl, .refl _⟩, ⟨_, rfl, .refl _⟩, ⟨_, rfl, .refl _⟩, ⟨_, rfl, .refl _⟩, ⟨_, rfl, .refl _⟩, ⟨_, rfl, le_arr (by simp)⟩, trivial⟩
        · have hih := ih2 (j + 1) (es ++ [⟨labN ((m + j).tmod 4), kd, 0, nx⟩]) ⟨by omega, by simp [hjl], fun x hx => by
            rcases List.mem_append.1 hx with hx | hx
            · exact hgood x hx
            · simp at hx; subst hx
              exact ⟨labN_mem _, hnx, by rcases hkd with h | h | h <;> subst h <;> simp [sortB]⟩⟩ (by omega)
          refine g_sub ?_ ?_ rfl rfl rfl hih
          · exact ⟨⟨_, rfl, .refl _⟩, ⟨_, rfl, .refl _⟩, ⟨_, rfl, .refl _⟩, ⟨_, rfl, .refl _⟩, ⟨_, rfl, .refl _⟩, ⟨_, rfl, .refl _⟩, ⟨_, rfl, .refl _⟩, ⟨_, rfl, .refl _⟩, ⟨_, rfl, .refl _⟩, ⟨_, rfl, le_int (by omega)⟩, trivial⟩
          · exact ⟨⟨_, rfl, .refl _⟩, ⟨_, rfl, .refl _⟩, ⟨_, rfl, .refl _⟩, ⟨_, rfl, .refl _⟩, ⟨_, rfl, .refl _⟩, ⟨_, rfl, le_arr (by simp)⟩, trivial⟩
      · have hne : es ≠ [] := fun h => by rw [h] at hjl; simp at hjl; omega
        repeat' (first
          | refine g_seq ?_
          | (refine g_region ?_; refine run_ th rfl ?_)
          | (refine g_drawC mix rfl rfl ?_; refine drun_ th rfl ?_)
          | (refine g_drawEC mix rfl rfl ?_; refine erun_ th rfl ?_)
          | refine SOps.nil ?_
          | refine DOps.nil ?_
          | refine EOps.nil ?_ rfl rfl
          | refine g_block ?_
          | refine g_inBlock ?_
          | refine g_skip ?_
          | refine g_exit rfl ?_
          | refine g_if_true rfl ?_
          | refine g_if_false rfl ?_
          | (refine s_split rfl rfl (fun hb => ?_) (fun hb => ?_) <;> (try simp only [decide_eq_true_eq, decide_eq_false_iff_not, Bool.not_eq_true', Bool.not_eq_false', Bool.not_eq_true, Bool.not_eq_false, Bool.not_true, Bool.not_false, Bool.false_eq_true, Bool.true_eq_false, reduceCtorEq, not_true_eq_false, not_false_eq_true, List.length_map] at hb) <;> first | (exfalso; omega) | refine run_ th rfl ?_)
          | (refine d_split rfl rfl rfl (fun hb => ?_) (fun hb => ?_) <;> (try simp only [decide_eq_true_eq, decide_eq_false_iff_not, Bool.not_eq_true', Bool.not_eq_false', Bool.not_eq_true, Bool.not_eq_false, Bool.not_true, Bool.not_false, Bool.false_eq_true, Bool.true_eq_false, reduceCtorEq, not_true_eq_false, not_false_eq_true, List.length_map] at hb) <;> first | (exfalso; omega) | refine drun_ th rfl ?_)
          | (refine g_if rfl (fun hb => ?_) (fun hb => ?_) <;> (try simp only [decide_eq_true_eq, decide_eq_false_iff_not, Bool.not_eq_true', Bool.not_eq_false', Bool.not_eq_true, Bool.not_eq_false, Bool.not_true, Bool.not_false, Bool.false_eq_true, Bool.true_eq_false, reduceCtorEq, not_true_eq_false, not_false_eq_true, List.length_map] at hb) <;> (try (exfalso; omega)))
          | (refine s_call (sorted_c es) [] rfl rfl rfl rfl rfl rfl rfl rfl rfl rfl ?_; refine run_ th rfl ?_)
          | (refine s_freeze 201 rfl rfl ?_; refine run_ th rfl ?_)
          | (refine s_anyB 4 0 rfl ?_; refine s_append th rfl rfl rfl rfl rfl rfl rfl rfl rfl rfl rfl rfl rfl rfl rfl (by constructor <;> simp <;> omega) ?_; refine run_ th rfl ?_)
          | (refine s_add rfl rfl rfl rfl rfl rfl (by omega) ?_; refine run_ th rfl ?_))
        have hih := ih (i + 1) (ns ++ [⟨1 + k.tmod 2, roleN r, sortedE es⟩]) ⟨by omega, by simp [hlen], fun x hx => by
          rcases List.mem_append.1 hx with hx | hx
          · exact hok x hx
          · simp at hx; subst hx; exact sorted_node hgood hne (by omega) (roleN_name r)⟩ (by omega)
        refine g_sub ?_ ?_ rfl rfl rfl hih
        · exact ⟨⟨_, rfl, .refl _⟩, ⟨_, rfl, .refl _⟩, ⟨_, rfl, .refl _⟩, ⟨_, rfl, .refl _⟩, ⟨_, rfl, le_int (by omega)⟩, trivial⟩
        · exact ⟨⟨_, rfl, .refl _⟩, ⟨_, rfl, .refl _⟩, ⟨_, rfl, .refl _⟩, ⟨_, rfl, le_arr (by simp)⟩, trivial⟩
  · have hin : (i : Int) = n := by omega
    subst hin
    repeat' (first
      | refine g_seq ?_
      | (refine g_region ?_; refine run_ th rfl ?_)
      | (refine g_drawC mix rfl rfl ?_; refine drun_ th rfl ?_)
      | (refine g_drawEC mix rfl rfl ?_; refine erun_ th rfl ?_)
      | refine SOps.nil ?_
      | refine DOps.nil ?_
      | refine EOps.nil ?_ rfl rfl
      | refine g_block ?_
      | refine g_inBlock ?_
      | refine g_skip ?_
      | refine g_exit rfl ?_
      | refine g_if_true rfl ?_
      | refine g_if_false rfl ?_
      | (refine s_split rfl rfl (fun hb => ?_) (fun hb => ?_) <;> (try simp only [decide_eq_true_eq, decide_eq_false_iff_not, Bool.not_eq_true', Bool.not_eq_false', Bool.not_eq_true, Bool.not_eq_false, Bool.not_true, Bool.not_false, Bool.false_eq_true, Bool.true_eq_false, reduceCtorEq, not_true_eq_false, not_false_eq_true, List.length_map] at hb) <;> first | (exfalso; omega) | refine run_ th rfl ?_)
      | (refine d_split rfl rfl rfl (fun hb => ?_) (fun hb => ?_) <;> (try simp only [decide_eq_true_eq, decide_eq_false_iff_not, Bool.not_eq_true', Bool.not_eq_false', Bool.not_eq_true, Bool.not_eq_false, Bool.not_true, Bool.not_false, Bool.false_eq_true, Bool.true_eq_false, reduceCtorEq, not_true_eq_false, not_false_eq_true, List.length_map] at hb) <;> first | (exfalso; omega) | refine drun_ th rfl ?_)
      | (refine g_if rfl (fun hb => ?_) (fun hb => ?_) <;> (try simp only [decide_eq_true_eq, decide_eq_false_iff_not, Bool.not_eq_true', Bool.not_eq_false', Bool.not_eq_true, Bool.not_eq_false, Bool.not_true, Bool.not_false, Bool.false_eq_true, Bool.true_eq_false, reduceCtorEq, not_true_eq_false, not_false_eq_true, List.length_map] at hb) <;> (try (exfalso; omega)))
      | (refine s_callP (pick_c l _ (by omega) (by omega)) [given] rfl rfl rfl rfl rfl rfl rfl rfl rfl (fun q hq => ?_); refine run_ th rfl ?_))
    refine g_freeze 200 rfl rfl ?_
    refine g_freeze 88 rfl rfl ?_
    refine g_freeze 93 rfl rfl ?_
    subst hlen
    refine g_wit (.v (Ag (Bk.cs ⟨ns, oneL, [0, q]⟩))) ⟨_, ⟨book_ok (by omega) (by omega) hq hok, rfl⟩, by show 1 ≤ ns.length; omega, by show ns.length ≤ 8; omega, rfl⟩ ?_
    refine g_endL th Tryd.func28 (.inr ⟨_, rfl⟩) rfl rfl rfl ?_ rfl
    exact .v (.agg (.cons (.refl _) (.cons (.c (.nn true 1 _)) (.cons (.c (.nn true 1 _)) .nil))))
theorem book_c (l : List Int) : ConQ Tryd.prog 28 [diceC l] [.one (.ptr given 0)] BookQ [diceC l] :=
  (book2_c l).le fun r ⟨b, ⟨h1, _⟩, h2, h3, h4⟩ => ⟨b, h1, h2, h3, h4⟩
end Go.Sy
