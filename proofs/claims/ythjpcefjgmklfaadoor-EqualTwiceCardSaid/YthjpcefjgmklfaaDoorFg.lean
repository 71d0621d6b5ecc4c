/- Contracts: under.asks. -/
import Derived.Test.YthjpcefjgmklfaaDoorFf
import Derived.Test.YthjpcefjgmklfaaDoorSy3
set_option linter.unusedSimpArgs false
set_option linter.unusedVariables false
set_option linter.unusedSectionVars false
namespace Go.Sy
open Go.Proofs
set_option maxRecDepth 100000
attribute [local irreducible] SOps Goes DOps EOps

theorem le_arr {nn : Bool} {e sz : Nat} {xs ys : List (List CT)} (h : xs = ys) : LeM (.arr nn e sz xs) (.arr false e sz ys) := by subst h; exact .nn (.refl _)

abbrev pairC (p : Int × Int) : List CT := [.int .i64 p.1, .int .i64 p.2]
abbrev pairsT (l : List (Int × Int)) : CT := .slice false 2 (l.map pairC)

/-- What an arm asks for. -/
def askE (k : Int) (y : Nd) (a : Edge) : Option (List (Int × Int)) :=
  match edgeS y a.label with
  | none => some []
  | some c => if a.kind = c.kind then some ((if a.kind = 5 ∧ k = 1 then [(c.at_, a.at_)] else []) ++ ((if a.kind = 5 ∧ k = 2 then [(a.at_, c.at_)] else []) ++ [(a.next, c.next)])) else none
def asksL (k : Int) (y : Nd) : List Edge → Option (List (Int × Int))
  | [] => some []
  | a :: r => match askE k y a with
    | none => none
    | some u => match asksL k y r with
      | none => none
      | some v => some (u ++ v)
def localB (x y : Nd) : Bool :=
  decide (x.kind = y.kind) && (decide (x.peer = y.peer) && ((!decide (x.kind = 1) || withinB y x) && (!decide (x.kind = 2) || withinB x y)))
def asksS (x y : Nd) : Option (List (Int × Int)) := if localB x y then asksL x.kind y x.arms else none
abbrev asksR (o : Option (List (Int × Int))) : ST := .tup [C1 (pairsT (o.getD [])), C1 (.bool o.isSome)]

theorem asksL_app (k : Int) (y : Nd) : ∀ (l r : List Edge), asksL k y (l ++ r) = match asksL k y l with | none => none | some u => match asksL k y r with | none => none | some v => some (u ++ v)
  | [], r => by cases h : asksL k y r <;> simp [asksL, h]
  | a :: l, r => by
    simp only [List.cons_append, asksL, asksL_app k y l r]
    cases askE k y a <;> cases asksL k y l <;> cases asksL k y r <;> simp
theorem asksL_len {k : Int} {y : Nd} : ∀ {l : List Edge} {u : List (Int × Int)}, asksL k y l = some u → u.length ≤ 3 * l.length
  | [], u, h => by simp [asksL] at h; subst h; simp
  | a :: l, u, h => by
    unfold asksL at h
    split at h
    · cases h
    · rename_i v hv
      split at h
      · cases h
      · rename_i v' hv'
        injection h with h; subst h
        have h1 := asksL_len hv'
        have h2 : v.length ≤ 3 := by
          unfold askE at hv
          split at hv
          · injection hv with hv; subst hv; simp
          · split at hv
            · injection hv with hv; subst hv
              split <;> split <;> simp
            · cases hv
        simp; omega
theorem asksL_take {k : Int} {y : Nd} {l : List Edge} {i : Nat} (hi : i < l.length) {u v : List (Int × Int)} (h : asksL k y (l.take i) = some u) (ha : askE k y l[i] = some v) : asksL k y (l.take (i + 1)) = some (u ++ v) := by
  rw [List.take_succ_eq_append_getElem hi, asksL_app, h]
  simp [asksL, ha]
theorem asksL_bad {k : Int} {y : Nd} {l : List Edge} {i : Nat} (hi : i < l.length) (ha : askE k y l[i] = none) : asksL k y l = none := by
  have : l = l.take i ++ l[i] :: l.drop (i + 1) := by simp
  rw [this, asksL_app]
  cases asksL k y (l.take i) <;> simp [asksL, ha]

set_option maxHeartbeats 8000000 in
theorem asks_c (b : Bk) (i j : Nat) (hi : i < b.nodes.length) (hj : j < b.nodes.length) (ha : b.nodes[i].arms.length ≤ 6) :
    Con Tryd.prog 51 [] [Ag b.cs, Ag [.int .i64 (i : Int), .int .i64 (j : Int)]] (asksR (asksS b.nodes[i] b.nodes[j])) [] := by
  obtain ⟨nodes, names, roots⟩ := b
  simp only at hi hj ha ⊢
  have hx : (nodes.map Nd.cs)[i]? = some (nodes[i]).cs := by simp [hi]
  have hy : (nodes.map Nd.cs)[j]? = some (nodes[j]).cs := by simp [hj]
  generalize nodes[i] = x at *
  generalize nodes[j] = y at *
  refine con_of (c := _) Tryd.func51 rfl rfl rfl (by decide) fun w M0 H Z => ?_
  repeat' (first
    | refine g_seq ?_
    | (refine g_region ?_; refine run_ th rfl ?_)
    | (refine g_drawC mix rfl rfl ?_; refine drun_ th rfl ?_)
    | (refine g_drawEC mix rfl rfl ?_; refine erun_ th rfl ?_)
    | refine SOps.nil ?_
    | refine DOps.nil ?_
    | refine EOps.nil ?_ rfl rfl
    | refine g_block ?_
    | refine g_inBlock ?_
    | refine g_skip ?_
    | refine g_exit rfl ?_
    | refine g_if_true rfl ?_
    | refine g_if_false rfl ?_
    | (refine s_split rfl rfl (fun hb => ?_) (fun hb => ?_) <;> (try simp only [decide_eq_true_eq, decide_eq_false_iff_not, Bool.not_eq_true', Bool.not_eq_false', Bool.not_eq_true, Bool.not_eq_false, Bool.not_true, Bool.not_false, Bool.false_eq_true, Bool.true_eq_false, reduceCtorEq, not_true_eq_false, not_false_eq_true, List.length_map] at hb) <;> first | (exfalso; omega) | refine run_ th rfl ?_)
    | (refine d_split rfl rfl rfl (fun hb => ?_) (fun hb => ?_) <;> (try simp only [decide_eq_true_eq, decide_eq_false_iff_not, Bool.not_eq_true', Bool.not_eq_false', Bool.not_eq_true, Bool.not_eq_false, Bool.not_true, Bool.not_false, Bool.false_eq_true, Bool.true_eq_false, reduceCtorEq, not_true_eq_false, not_false_eq_true, List.length_map] at hb) <;> first | (exfalso; omega) | refine drun_ th rfl ?_)
    | (refine g_if rfl (fun hb => ?_) (fun hb => ?_) <;> (try simp only [decide_eq_true_eq, decide_eq_false_iff_not, Bool.not_eq_true', Bool.not_eq_false', Bool.not_eq_true, Bool.not_eq_false, Bool.not_true, Bool.not_false, Bool.false_eq_true, Bool.true_eq_false, reduceCtorEq, not_true_eq_false, not_false_eq_true, List.length_map] at hb) <;> (try (exfalso; omega)))
    | refine g_endL th Tryd.func51 (.inr ⟨_, rfl⟩) rfl rfl rfl ?_ rfl
    | (refine e_idx th rfl rfl rfl rfl rfl rfl rfl rfl rfl i _ rfl hx ?_; refine erun_ th rfl ?_)
    | (refine e_idx th rfl rfl rfl rfl rfl rfl rfl rfl rfl j _ rfl hy ?_; refine erun_ th rfl ?_)
    | (refine s_call (within_c _ _) [] rfl rfl rfl rfl rfl rfl rfl rfl rfl rfl ?_; refine run_ th rfl ?_))
  all_goals first
    | (rw [show asksS x y = none by (simp_all [asksS, localB])]; exact .tup (.cons (.one (.c (.nil 2))) (.cons (.refl _) .nil)))
    | skip
  all_goals
    have hS : asksS x y = asksL x.kind y x.arms := by
      have : localB x y = true := by simp_all [localB]
      simp [asksS, this]
    refine g_adopt 8 8 65 2 rfl rfl rfl ?_
    refine g_loop2 (fun (k : Nat) (u : List (Int × Int)) => k ≤ x.arms.length ∧ asksL x.kind y (x.arms.take k) = some u)
      (fun k u => [(6, .v (.one (.ptr 6 0))), (7, .v (.one (.ptr 7 0))), (8, .v (.one (.own 8))), (60, .v (C1 (armsT x.arms))), (61, .v (C1 (.int .i64 (x.arms.length : Int)))), (62, .v (C1 (.int .i64 (k : Int))))])
      (fun k u => [(6, .box [.c (.int .i64 x.kind), .c (.str x.peer), .c (armsT x.arms)]), (7, .box [.c (.int .i64 y.kind), .c (.str y.peer), .c (armsT y.arms)]), (8, .arr false 65 2 (u.map pairC))])
      (fun k _ => x.arms.length - k) 0 [] ⟨Nat.zero_le _, rfl⟩
      (fun a w h => h.sub (by exact ⟨⟨_, rfl, .refl _⟩, ⟨_, rfl, .refl _⟩, ⟨_, rfl, .refl _⟩, ⟨_, rfl, .refl _⟩, ⟨_, rfl, le_int (by simp)⟩, ⟨_, rfl, le_int rfl⟩, trivial⟩) (by exact ⟨⟨_, rfl, .refl _⟩, ⟨_, rfl, .refl _⟩, ⟨_, rfl, .refl _⟩, trivial⟩) rfl rfl rfl) (fun k u hk ih => ?_)
    obtain ⟨hk, hu⟩ := hk
    by_cases hlt : k < x.arms.length
    · have hxk : (x.arms.map Edge.cs)[k]? = some (x.arms[k]).cs := by simp [hlt]
      have hlen : u.length ≤ 18 := by
        have := asksL_len hu
        rw [List.length_take] at this
        omega
      have hcon := edge_c y x.arms[k].label
      cases hE : edgeS y x.arms[k].label with
      | none =>
        rw [hE] at hcon
        simp only [edgeR, Option.getD_none, Option.isSome_none] at hcon
        have hak : askE x.kind y x.arms[k] = some [] := by simp [askE, hE]
        repeat' (first
          | refine g_seq ?_
          | (refine g_region ?_; refine run_ th rfl ?_)
          | (refine g_drawC mix rfl rfl ?_; refine drun_ th rfl ?_)
          | (refine g_drawEC mix rfl rfl ?_; refine erun_ th rfl ?_)
          | refine SOps.nil ?_
          | refine DOps.nil ?_
          | refine EOps.nil ?_ rfl rfl
          | refine g_block ?_
          | refine g_inBlock ?_
          | refine g_skip ?_
          | refine g_exit rfl ?_
          | refine g_if_true rfl ?_
          | refine g_if_false rfl ?_
          | (refine s_split rfl rfl (fun hb => ?_) (fun hb => ?_) <;> (try simp only [decide_eq_true_eq, decide_eq_false_iff_not, Bool.not_eq_true', Bool.not_eq_false', Bool.not_eq_true, Bool.not_eq_false, Bool.not_true, Bool.not_false, Bool.false_eq_true, Bool.true_eq_false, reduceCtorEq, not_true_eq_false, not_false_eq_true, List.length_map] at hb) <;> first | (exfalso; omega) | refine run_ th rfl ?_)
          | (refine d_split rfl rfl rfl (fun hb => ?_) (fun hb => ?_) <;> (try simp only [decide_eq_true_eq, decide_eq_false_iff_not, Bool.not_eq_true', Bool.not_eq_false', Bool.not_eq_true, Bool.not_eq_false, Bool.not_true, Bool.not_false, Bool.false_eq_true, Bool.true_eq_false, reduceCtorEq, not_true_eq_false, not_false_eq_true, List.length_map] at hb) <;> first | (exfalso; omega) | refine drun_ th rfl ?_)
          | (refine g_if rfl (fun hb => ?_) (fun hb => ?_) <;> (try simp only [decide_eq_true_eq, decide_eq_false_iff_not, Bool.not_eq_true', Bool.not_eq_false', Bool.not_eq_true, Bool.not_eq_false, Bool.not_true, Bool.not_false, Bool.false_eq_true, Bool.true_eq_false, reduceCtorEq, not_true_eq_false, not_false_eq_true, List.length_map] at hb) <;> (try (exfalso; omega)))
          | refine g_endL th Tryd.func51 (.inr ⟨_, rfl⟩) rfl rfl rfl ?_ rfl
          | (refine s_idx th rfl rfl rfl rfl rfl rfl rfl rfl rfl k _ rfl hxk ?_; refine run_ th rfl ?_)
          | (refine s_call hcon [] rfl rfl rfl rfl rfl rfl rfl rfl rfl rfl ?_; refine run_ th rfl ?_)
          | (refine s_add rfl rfl rfl rfl rfl rfl (by omega) ?_; refine run_ th rfl ?_))
        all_goals
          have hih := ih (k + 1) u ⟨hlt, by simpa using asksL_take hlt hu hak⟩ (by omega)
          exact g_sub (by exact ⟨⟨_, rfl, .refl _⟩, ⟨_, rfl, .refl _⟩, ⟨_, rfl, .refl _⟩, ⟨_, rfl, .refl _⟩, ⟨_, rfl, le_int rfl⟩, ⟨_, rfl, le_int (by omega)⟩, trivial⟩) (by exact ⟨⟨_, rfl, .refl _⟩, ⟨_, rfl, .refl _⟩, ⟨_, rfl, .refl _⟩, trivial⟩) rfl rfl rfl hih
      | some c =>
        rw [hE] at hcon
        simp only [edgeR, Option.getD_some, Option.isSome_some] at hcon
        repeat' (first
          | refine g_seq ?_
          | (refine g_region ?_; refine run_ th rfl ?_)
          | (refine g_drawC mix rfl rfl ?_; refine drun_ th rfl ?_)
          | (refine g_drawEC mix rfl rfl ?_; refine erun_ th rfl ?_)
          | refine SOps.nil ?_
          | refine DOps.nil ?_
          | refine EOps.nil ?_ rfl rfl
          | refine g_block ?_
          | refine g_inBlock ?_
          | refine g_skip ?_
          | refine g_exit rfl ?_
          | refine g_if_true rfl ?_
          | refine g_if_false rfl ?_
          | (refine s_split rfl rfl (fun hb => ?_) (fun hb => ?_) <;> (try simp only [decide_eq_true_eq, decide_eq_false_iff_not, Bool.not_eq_true', Bool.not_eq_false', Bool.not_eq_true, Bool.not_eq_false, Bool.not_true, Bool.not_false, Bool.false_eq_true, Bool.true_eq_false, reduceCtorEq, not_true_eq_false, not_false_eq_true, List.length_map] at hb) <;> first | (exfalso; omega) | refine run_ th rfl ?_)
          | (refine d_split rfl rfl rfl (fun hb => ?_) (fun hb => ?_) <;> (try simp only [decide_eq_true_eq, decide_eq_false_iff_not, Bool.not_eq_true', Bool.not_eq_false', Bool.not_eq_true, Bool.not_eq_false, Bool.not_true, Bool.not_false, Bool.false_eq_true, Bool.true_eq_false, reduceCtorEq, not_true_eq_false, not_false_eq_true, List.length_map] at hb) <;> first | (exfalso; omega) | refine drun_ th rfl ?_)
          | (refine g_if rfl (fun hb => ?_) (fun hb => ?_) <;> (try simp only [decide_eq_true_eq, decide_eq_false_iff_not, Bool.not_eq_true', Bool.not_eq_false', Bool.not_eq_true, Bool.not_eq_false, Bool.not_true, Bool.not_false, Bool.false_eq_true, Bool.true_eq_false, reduceCtorEq, not_true_eq_false, not_false_eq_true, List.length_map] at hb) <;> (try (exfalso; omega)))
          | refine g_endL th Tryd.func51 (.inr ⟨_, rfl⟩) rfl rfl rfl ?_ rfl
          | (refine s_idx th rfl rfl rfl rfl rfl rfl rfl rfl rfl k _ rfl hxk ?_; refine run_ th rfl ?_)
          | (refine s_call hcon [] rfl rfl rfl rfl rfl rfl rfl rfl rfl rfl ?_; refine run_ th rfl ?_)
          | (refine s_add rfl rfl rfl rfl rfl rfl (by omega) ?_; refine run_ th rfl ?_)
          | (refine s_append th rfl rfl rfl rfl rfl rfl rfl rfl rfl rfl rfl rfl rfl rfl rfl (by constructor <;> simp <;> omega) ?_; refine run_ th rfl ?_))
        all_goals first
          | (have hne : ¬ x.arms[k].kind = c.kind := by assumption
             have hak : askE x.kind y x.arms[k] = none := by simp [askE, hE, hne]
             rw [hS, asksL_bad hlt hak]
             exact .tup (.cons (.one (.c (.nil 2))) (.cons (.refl _) .nil)))
          | (have hkk : x.arms[k].kind = c.kind := by omega
             have hak : askE x.kind y x.arms[k] = some ((if x.arms[k].kind = 5 ∧ x.kind = 1 then [(c.at_, x.arms[k].at_)] else []) ++ ((if x.arms[k].kind = 5 ∧ x.kind = 2 then [(x.arms[k].at_, c.at_)] else []) ++ [(x.arms[k].next, c.next)])) := by
               simp only [askE, hE, hkk, if_true]
             have hih := ih (k + 1) _ ⟨hlt, asksL_take hlt hu hak⟩ (by omega)
             refine g_sub ?_ ?_ rfl rfl rfl hih
             · exact ⟨⟨_, rfl, .refl _⟩, ⟨_, rfl, .refl _⟩, ⟨_, rfl, .refl _⟩, ⟨_, rfl, .refl _⟩, ⟨_, rfl, le_int rfl⟩, ⟨_, rfl, le_int (by omega)⟩, trivial⟩
             refine ⟨⟨_, rfl, .refl _⟩, ⟨_, rfl, .refl _⟩, ⟨_, rfl, le_arr ?_⟩, trivial⟩
             clear hih ih hak
             (repeat' split) <;> first | (simp; done) | (exfalso; omega))
    · have hke : k = x.arms.length := by omega
      subst hke
      rw [List.take_length] at hu
      rw [hS, hu]
      repeat' (first
        | refine g_seq ?_
        | (refine g_region ?_; refine run_ th rfl ?_)
        | (refine g_drawC mix rfl rfl ?_; refine drun_ th rfl ?_)
        | (refine g_drawEC mix rfl rfl ?_; refine erun_ th rfl ?_)
        | refine SOps.nil ?_
        | refine DOps.nil ?_
        | refine EOps.nil ?_ rfl rfl
        | refine g_block ?_
        | refine g_inBlock ?_
        | refine g_skip ?_
        | refine g_exit rfl ?_
        | refine g_if_true rfl ?_
        | refine g_if_false rfl ?_
        | (refine s_split rfl rfl (fun hb => ?_) (fun hb => ?_) <;> (try simp only [decide_eq_true_eq, decide_eq_false_iff_not, Bool.not_eq_true', Bool.not_eq_false', Bool.not_eq_true, Bool.not_eq_false, Bool.not_true, Bool.not_false, Bool.false_eq_true, Bool.true_eq_false, reduceCtorEq, not_true_eq_false, not_false_eq_true, List.length_map] at hb) <;> first | (exfalso; omega) | refine run_ th rfl ?_)
        | (refine d_split rfl rfl rfl (fun hb => ?_) (fun hb => ?_) <;> (try simp only [decide_eq_true_eq, decide_eq_false_iff_not, Bool.not_eq_true', Bool.not_eq_false', Bool.not_eq_true, Bool.not_eq_false, Bool.not_true, Bool.not_false, Bool.false_eq_true, Bool.true_eq_false, reduceCtorEq, not_true_eq_false, not_false_eq_true, List.length_map] at hb) <;> first | (exfalso; omega) | refine drun_ th rfl ?_)
        | (refine g_if rfl (fun hb => ?_) (fun hb => ?_) <;> (try simp only [decide_eq_true_eq, decide_eq_false_iff_not, Bool.not_eq_true', Bool.not_eq_false', Bool.not_eq_true, Bool.not_eq_false, Bool.not_true, Bool.not_false, Bool.false_eq_true, Bool.true_eq_false, reduceCtorEq, not_true_eq_false, not_false_eq_true, List.length_map] at hb) <;> (try (exfalso; omega)))
        | refine g_endL th Tryd.func51 (.inr ⟨_, rfl⟩) rfl rfl rfl ?_ rfl
        | (refine g_freeze 8 rfl rfl ?_))
      all_goals exact .refl _
end Go.Sy
