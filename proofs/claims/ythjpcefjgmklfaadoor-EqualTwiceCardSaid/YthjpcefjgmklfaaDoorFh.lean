/- Contracts: under.Pairs, under.Is. -/
import Derived.Test.YthjpcefjgmklfaaDoorPb
set_option linter.unusedSimpArgs false
set_option linter.unusedVariables false
set_option linter.unusedSectionVars false
namespace Go.Sy
open Go.Proofs
set_option maxRecDepth 100000
attribute [local irreducible] SOps Goes DOps EOps

theorem le_mo {a b : MO} (h : a = b) : LeM a b := by subst h; exact .refl _

theorem asksAt_c {b : Bk} (hb : bookB b = true) {p : Int × Int} (hp : inR b.nodes.length p) :
    Con Tryd.prog 51 [] [Ag b.cs, Ag [.int .i64 p.1, .int .i64 p.2]] (asksR (asksAt b p)) [] := by
  obtain ⟨h1, h2, h3, h4⟩ := hp
  obtain ⟨hm, i, e1, hi, q1⟩ := ndAt_mem h1 h2
  obtain ⟨_, j, e2, hj, q2⟩ := ndAt_mem h3 h4
  have h6 := (node_arms (book_node hb hm)).1
  rw [q1] at h6
  have := asks_c b i j hi hj h6
  unfold asksAt
  rw [q1, q2, e1, e2]
  exact this

structure PInv (b : Bk) (R : Option (List (Int × Int))) (i : Nat) (out : List (Int × Int)) : Prop where
  le : i ≤ out.length
  nd : out.Nodup
  rg : ∀ p ∈ out, inR b.nodes.length p
  run : runP b (b.nodes.length * b.nodes.length + 1 - i) i out = R

theorem PInv.len {b : Bk} {R : Option (List (Int × Int))} {i : Nat} {out : List (Int × Int)} (hb : bookB b = true) (h : PInv b R i out) : out.length ≤ 160000 ∧ out.length ≤ b.nodes.length * b.nodes.length := by
  have h1 := inR_le h.nd h.rg
  have h2 := book_n hb
  have h3 : b.nodes.length * b.nodes.length ≤ 400 * 400 := Nat.mul_le_mul h2 h2
  omega
theorem PInv.fail {b : Bk} {R : Option (List (Int × Int))} {i : Nat} {out : List (Int × Int)} (hb : bookB b = true) (h : PInv b R i out) (hi : i < out.length) (ha : asksAt b out[i] = none) : R = none := by
  have h1 := h.len hb
  have h2 := h.run
  rw [show b.nodes.length * b.nodes.length + 1 - i = (b.nodes.length * b.nodes.length - i) + 1 by omega] at h2
  simp [runP, hi, ha] at h2
  exact h2.symm
theorem PInv.next {b : Bk} {R : Option (List (Int × Int))} {i : Nat} {out l : List (Int × Int)} (hb : bookB b = true) (h : PInv b R i out) (hi : i < out.length) (ha : asksAt b out[i] = some l) : PInv b R (i + 1) (addAll out l) := by
  have h1 := h.len hb
  have h2 := h.run
  rw [show b.nodes.length * b.nodes.length + 1 - i = (b.nodes.length * b.nodes.length - i) + 1 by omega] at h2
  simp [runP, hi, ha] at h2
  obtain ⟨r, hr⟩ := addAll_pre l out
  refine ⟨by rw [hr, List.length_append]; omega, addAll_nodup h.nd, fun p hp => ?_, ?_⟩
  · rcases addAll_mem.1 hp with hp | hp
    · exact h.rg p hp
    · exact asksAt_range hb (h.rg _ (List.getElem_mem hi)) ha p hp
  · rw [show b.nodes.length * b.nodes.length + 1 - (i + 1) = b.nodes.length * b.nodes.length - i by omega]
    exact h2
theorem PInv.stop {b : Bk} {R : Option (List (Int × Int))} {i : Nat} {out : List (Int × Int)} (hb : bookB b = true) (h : PInv b R i out) (hi : ¬ i < out.length) : R = some out := by
  have h1 := h.len hb
  have h3 := h.le
  have h2 := h.run
  rw [show b.nodes.length * b.nodes.length + 1 - i = (b.nodes.length * b.nodes.length - i) + 1 by omega] at h2
  simp [runP, show out[i]? = none by simp; omega] at h2
  exact h2.symm

theorem asksAt_len {b : Bk} (hb : bookB b = true) {p : Int × Int} (hp : inR b.nodes.length p) {l : List (Int × Int)} (h : asksAt b p = some l) : l.length ≤ 18 := by
  have h6 := (node_arms (book_node hb (ndAt_mem hp.1 hp.2.1).1)).1
  unfold asksAt asksS at h
  split at h
  · have := asksL_len h; omega
  · cases h
theorem addS_len (l : List (Int × Int)) (p : Int × Int) : (addS l p).length ≤ l.length + 1 := by
  unfold addS; split <;> simp
theorem addAll_len : ∀ (m l : List (Int × Int)), (addAll l m).length ≤ l.length + m.length
  | [], l => by simp [addAll]
  | p :: m, l => by
    have h1 := addAll_len m (addS l p)
    have h2 := addS_len l p
    show (addAll (addS l p) m).length ≤ _
    simp only [List.length_cons]; omega
theorem addAll_take {out l : List (Int × Int)} {k : Nat} (hk : k < l.length) : addAll out (l.take (k + 1)) = addS (addAll out (l.take k)) l[k] := by
  rw [List.take_succ_eq_append_getElem hk]
  show List.foldl addS out (l.take k ++ [l[k]]) = _
  rw [List.foldl_append]; rfl

set_option maxHeartbeats 8000000 in
theorem pairs_c (b : Bk) (x y : Int) : Con Tryd.prog 38 [] [Ag b.cs, C1 (.int .i64 x), C1 (.int .i64 y)] (asksR (pairsS b x y)) [] := by
  refine con_of (c := _) Tryd.func38 rfl rfl rfl (by decide) fun w M0 H Z => ?_
  repeat' (first
    | refine g_seq ?_
    | (refine g_region ?_; refine run_ th rfl ?_)
    | (refine g_drawC mix rfl rfl ?_; refine drun_ th rfl ?_)
    | (refine g_drawEC mix rfl rfl ?_; refine erun_ th rfl ?_)
    | refine SOps.nil ?_
    | refine DOps.nil ?_
    | refine EOps.nil ?_ rfl rfl
    | refine g_block ?_
    | refine g_inBlock ?_
    | refine g_skip ?_
    | refine g_exit rfl ?_
    | refine g_if_true rfl ?_
    | refine g_if_false rfl ?_
    | (refine s_split rfl rfl (fun hb => ?_) (fun hb => ?_) <;> (try simp only [decide_eq_true_eq, decide_eq_false_iff_not, Bool.not_eq_true', Bool.not_eq_false', Bool.not_eq_true, Bool.not_eq_false, Bool.not_true, Bool.not_false, Bool.false_eq_true, Bool.true_eq_false, reduceCtorEq, not_true_eq_false, not_false_eq_true, List.length_map] at hb) <;> first | (exfalso; omega) | refine run_ th rfl ?_)
    | (refine d_split rfl rfl rfl (fun hb => ?_) (fun hb => ?_) <;> (try simp only [decide_eq_true_eq, decide_eq_false_iff_not, Bool.not_eq_true', Bool.not_eq_false', Bool.not_eq_true, Bool.not_eq_false, Bool.not_true, Bool.not_false, Bool.false_eq_true, Bool.true_eq_false, reduceCtorEq, not_true_eq_false, not_false_eq_true, List.length_map] at hb) <;> first | (exfalso; omega) | refine drun_ th rfl ?_)
    | (refine g_if rfl (fun hb => ?_) (fun hb => ?_) <;> (try simp only [decide_eq_true_eq, decide_eq_false_iff_not, Bool.not_eq_true', Bool.not_eq_false', Bool.not_eq_true, Bool.not_eq_false, Bool.not_true, Bool.not_false, Bool.false_eq_true, Bool.true_eq_false, reduceCtorEq, not_true_eq_false, not_false_eq_true, List.length_map] at hb) <;> (try (exfalso; omega)))
    | refine g_endL th Tryd.func38 (.inr ⟨_, rfl⟩) rfl rfl rfl ?_ rfl
    | (refine s_call (bookmay_c b) [] rfl rfl rfl rfl rfl rfl rfl rfl rfl rfl ?_; refine run_ th rfl ?_)
    | (refine s_call (places_c b _ _) [] rfl rfl rfl rfl rfl rfl rfl rfl rfl rfl ?_; refine run_ th rfl ?_)
    | (refine s_put (m := []) th (.inr rfl) rfl rfl rfl rfl rfl rfl rfl rfl rfl ?_; refine run_ th rfl ?_))
  · rw [show pairsS b x y = none by simp [pairsS, hb]]
    exact .tup (.cons (.one (.c (.nil 2))) (.cons (.refl _) .nil))
  · rw [show pairsS b x y = none by simp [pairsS, hb]]
    exact .tup (.cons (.one (.c (.nil 2))) (.cons (.refl _) .nil))
  · rename_i hbk
    have hP : PInv b (pairsS b x y) 0 [(x, y)] := by
      refine ⟨Nat.zero_le _, by simp, fun p hp => ?_, by simp [pairsS, hbk, hb]⟩
      simp at hp; subst hp
      simp [placesB] at hb
      simp only [inR]
      omega
    refine g_loop2 (PInv b (pairsS b x y))
      (fun i out => [(3, .v (.one (.ptr 3 0))), (8, .v (.one (.own 29))), (9, .v (.one (.mp 30))), (10, .v (C1 (.int .i64 (i : Int))))])
      (fun i out => [(3, .box [.c (nodesT b.nodes), .c (namesT b.names), .c (intsT b.roots)]), (29, .arr false 65 2 (out.map pairC)), (30, setM out)])
      (fun i _ => b.nodes.length * b.nodes.length - i) 0 [(x, y)] hP
      (fun a w h => h.sub (by exact ⟨⟨_, rfl, .refl _⟩, ⟨_, rfl, .refl _⟩, ⟨_, rfl, .refl _⟩, ⟨_, rfl, le_int rfl⟩, trivial⟩) (by exact ⟨⟨_, rfl, .refl _⟩, ⟨_, rfl, le_arr rfl⟩, ⟨_, rfl, le_mo (by simp [addS])⟩, trivial⟩) rfl rfl rfl) (fun i out hI ih => ?_)
    have hlen := hI.len hbk
    by_cases hlt : i < out.length
    · have hxi : (out.map pairC)[i]? = some [.int .i64 out[i].1, .int .i64 out[i].2] := by simp [hlt]
      have hcon := asksAt_c hbk (hI.rg _ (List.getElem_mem hlt))
      cases hA : asksAt b out[i] with
      | none =>
        rw [hA] at hcon
        simp only [asksR, Option.getD_none, Option.isSome_none] at hcon
        repeat' (first
          | refine g_seq ?_
          | (refine g_region ?_; refine run_ th rfl ?_)
          | (refine g_drawC mix rfl rfl ?_; refine drun_ th rfl ?_)
          | (refine g_drawEC mix rfl rfl ?_; refine erun_ th rfl ?_)
          | refine SOps.nil ?_
          | refine DOps.nil ?_
          | refine EOps.nil ?_ rfl rfl
          | refine g_block ?_
          | refine g_inBlock ?_
          | refine g_skip ?_
          | refine g_exit rfl ?_
          | refine g_if_true rfl ?_
          | refine g_if_false rfl ?_
          | (refine s_split rfl rfl (fun hb => ?_) (fun hb => ?_) <;> (try simp only [decide_eq_true_eq, decide_eq_false_iff_not, Bool.not_eq_true', Bool.not_eq_false', Bool.not_eq_true, Bool.not_eq_false, Bool.not_true, Bool.not_false, Bool.false_eq_true, Bool.true_eq_false, reduceCtorEq, not_true_eq_false, not_false_eq_true, List.length_map] at hb) <;> first | (exfalso; omega) | refine run_ th rfl ?_)
          | (refine d_split rfl rfl rfl (fun hb => ?_) (fun hb => ?_) <;> (try simp only [decide_eq_true_eq, decide_eq_false_iff_not, Bool.not_eq_true', Bool.not_eq_false', Bool.not_eq_true, Bool.not_eq_false, Bool.not_true, Bool.not_false, Bool.false_eq_true, Bool.true_eq_false, reduceCtorEq, not_true_eq_false, not_false_eq_true, List.length_map] at hb) <;> first | (exfalso; omega) | refine drun_ th rfl ?_)
          | (refine g_if rfl (fun hb => ?_) (fun hb => ?_) <;> (try simp only [decide_eq_true_eq, decide_eq_false_iff_not, Bool.not_eq_true', Bool.not_eq_false', Bool.not_eq_true, Bool.not_eq_false, Bool.not_true, Bool.not_false, Bool.false_eq_true, Bool.true_eq_false, reduceCtorEq, not_true_eq_false, not_false_eq_true, List.length_map] at hb) <;> (try (exfalso; omega)))
          | refine g_endL th Tryd.func38 (.inr ⟨_, rfl⟩) rfl rfl rfl ?_ rfl
          | (refine d_idxo th rfl rfl rfl rfl rfl rfl rfl rfl rfl rfl i rfl (by simpa using hlt) ?_; refine drun_ th rfl ?_)
          | (refine d_loada th _ rfl rfl rfl rfl hxi rfl rfl rfl rfl rfl ?_; refine drun_ th rfl ?_)
          | (refine d_call hcon [] rfl rfl rfl rfl rfl rfl rfl rfl rfl rfl rfl ?_; refine drun_ th rfl ?_))
        all_goals
          rw [hI.fail hbk hlt hA]
          exact .tup (.cons (.one (.c (.nil 2))) (.cons (.refl _) .nil))
      | some l =>
        rw [hA] at hcon
        simp only [asksR, Option.getD_some, Option.isSome_some] at hcon
        have hl18 := asksAt_len hbk (hI.rg _ (List.getElem_mem hlt)) hA
        repeat' (first
          | refine g_seq ?_
          | (refine g_region ?_; refine run_ th rfl ?_)
          | (refine g_drawC mix rfl rfl ?_; refine drun_ th rfl ?_)
          | (refine g_drawEC mix rfl rfl ?_; refine erun_ th rfl ?_)
          | refine SOps.nil ?_
          | refine DOps.nil ?_
          | refine EOps.nil ?_ rfl rfl
          | refine g_block ?_
          | refine g_inBlock ?_
          | refine g_skip ?_
          | refine g_exit rfl ?_
          | refine g_if_true rfl ?_
          | refine g_if_false rfl ?_
          | (refine s_split rfl rfl (fun hb => ?_) (fun hb => ?_) <;> (try simp only [decide_eq_true_eq, decide_eq_false_iff_not, Bool.not_eq_true', Bool.not_eq_false', Bool.not_eq_true, Bool.not_eq_false, Bool.not_true, Bool.not_false, Bool.false_eq_true, Bool.true_eq_false, reduceCtorEq, not_true_eq_false, not_false_eq_true, List.length_map] at hb) <;> first | (exfalso; omega) | refine run_ th rfl ?_)
          | (refine d_split rfl rfl rfl (fun hb => ?_) (fun hb => ?_) <;> (try simp only [decide_eq_true_eq, decide_eq_false_iff_not, Bool.not_eq_true', Bool.not_eq_false', Bool.not_eq_true, Bool.not_eq_false, Bool.not_true, Bool.not_false, Bool.false_eq_true, Bool.true_eq_false, reduceCtorEq, not_true_eq_false, not_false_eq_true, List.length_map] at hb) <;> first | (exfalso; omega) | refine drun_ th rfl ?_)
          | (refine g_if rfl (fun hb => ?_) (fun hb => ?_) <;> (try simp only [decide_eq_true_eq, decide_eq_false_iff_not, Bool.not_eq_true', Bool.not_eq_false', Bool.not_eq_true, Bool.not_eq_false, Bool.not_true, Bool.not_false, Bool.false_eq_true, Bool.true_eq_false, reduceCtorEq, not_true_eq_false, not_false_eq_true, List.length_map] at hb) <;> (try (exfalso; omega)))
          | refine g_endL th Tryd.func38 (.inr ⟨_, rfl⟩) rfl rfl rfl ?_ rfl
          | (refine d_idxo th rfl rfl rfl rfl rfl rfl rfl rfl rfl rfl i rfl (by simpa using hlt) ?_; refine drun_ th rfl ?_)
          | (refine d_loada th _ rfl rfl rfl rfl hxi rfl rfl rfl rfl rfl ?_; refine drun_ th rfl ?_)
          | (refine d_call hcon [] rfl rfl rfl rfl rfl rfl rfl rfl rfl rfl rfl ?_; refine drun_ th rfl ?_))
        refine g_loop1 (fun k : Nat => k ≤ l.length)
          (fun k => [(3, .v (.one (.ptr 3 0))), (8, .v (.one (.own 29))), (9, .v (.one (.mp 30))), (10, .v (C1 (.int .i64 (i : Int)))), (52, .v (C1 (pairsT l))), (53, .v (C1 (.int .i64 (l.length : Int)))), (54, .v (C1 (.int .i64 (k : Int))))])
          (fun k => [(3, .box [.c (nodesT b.nodes), .c (namesT b.names), .c (intsT b.roots)]), (29, .arr false 65 2 ((addAll out (l.take k)).map pairC)), (30, setM (addAll out (l.take k)))])
          (fun k => l.length - k) 0 (Nat.zero_le _)
          (fun a w h => h.sub (by exact ⟨⟨_, rfl, .refl _⟩, ⟨_, rfl, .refl _⟩, ⟨_, rfl, .refl _⟩, ⟨_, rfl, .refl _⟩, ⟨_, rfl, .refl _⟩, ⟨_, rfl, le_int (by simp)⟩, ⟨_, rfl, le_int rfl⟩, trivial⟩) (by exact ⟨⟨_, rfl, .refl _⟩, ⟨_, rfl, le_arr rfl⟩, ⟨_, rfl, .refl _⟩, trivial⟩) rfl rfl rfl) (fun k hk ih2 => ?_)
        have hal := addAll_len (l.take k) out
        rw [List.length_take] at hal
        by_cases hlk : k < l.length
        · have hxl : (l.map pairC)[k]? = some [.int .i64 l[k].1, .int .i64 l[k].2] := by simp [hlk]
          have htk := addAll_take (out := out) hlk
          have hih := ih2 (k + 1) hlk (by omega)
          rw [htk] at hih
          repeat' (first
            | refine g_seq ?_
            | (refine g_region ?_; refine run_ th rfl ?_)
            | (refine g_drawC mix rfl rfl ?_; refine drun_ th rfl ?_)
            | (refine g_drawEC mix rfl rfl ?_; refine erun_ th rfl ?_)
            | refine SOps.nil ?_
            | refine DOps.nil ?_
            | refine EOps.nil ?_ rfl rfl
            | refine g_block ?_
            | refine g_inBlock ?_
            | refine g_skip ?_
            | refine g_exit rfl ?_
            | refine g_if_true rfl ?_
            | refine g_if_false rfl ?_
            | (refine s_split rfl rfl (fun hb => ?_) (fun hb => ?_) <;> (try simp only [decide_eq_true_eq, decide_eq_false_iff_not, Bool.not_eq_true', Bool.not_eq_false', Bool.not_eq_true, Bool.not_eq_false, Bool.not_true, Bool.not_false, Bool.false_eq_true, Bool.true_eq_false, reduceCtorEq, not_true_eq_false, not_false_eq_true, List.length_map] at hb) <;> first | (exfalso; omega) | refine run_ th rfl ?_)
            | (refine d_split rfl rfl rfl (fun hb => ?_) (fun hb => ?_) <;> (try simp only [decide_eq_true_eq, decide_eq_false_iff_not, Bool.not_eq_true', Bool.not_eq_false', Bool.not_eq_true, Bool.not_eq_false, Bool.not_true, Bool.not_false, Bool.false_eq_true, Bool.true_eq_false, reduceCtorEq, not_true_eq_false, not_false_eq_true, List.length_map] at hb) <;> first | (exfalso; omega) | refine drun_ th rfl ?_)
            | (refine g_if rfl (fun hb => ?_) (fun hb => ?_) <;> (try simp only [decide_eq_true_eq, decide_eq_false_iff_not, Bool.not_eq_true', Bool.not_eq_false', Bool.not_eq_true, Bool.not_eq_false, Bool.not_true, Bool.not_false, Bool.false_eq_true, Bool.true_eq_false, reduceCtorEq, not_true_eq_false, not_false_eq_true, List.length_map] at hb) <;> (try (exfalso; omega)))
            | refine g_endL th Tryd.func38 (.inr ⟨_, rfl⟩) rfl rfl rfl ?_ rfl
            | (refine s_idx th rfl rfl rfl rfl rfl rfl rfl rfl rfl k _ rfl hxl ?_; refine run_ th rfl ?_)
            | (refine s_has th rfl rfl rfl rfl rfl rfl rfl rfl rfl rfl rfl ?_; refine run_ th rfl ?_)
            | (refine s_put th (.inl rfl) rfl rfl rfl rfl rfl rfl rfl rfl rfl ?_; refine run_ th rfl ?_)
            | (refine s_append th rfl rfl rfl rfl rfl rfl rfl rfl rfl rfl rfl rfl rfl rfl rfl (by constructor <;> simp <;> omega) ?_; refine run_ th rfl ?_)
            | (refine s_add rfl rfl rfl rfl rfl rfl (by omega) ?_; refine run_ th rfl ?_))
          all_goals
            refine g_sub ?_ ?_ rfl rfl rfl hih
            · exact ⟨⟨_, rfl, .refl _⟩, ⟨_, rfl, .refl _⟩, ⟨_, rfl, .refl _⟩, ⟨_, rfl, .refl _⟩, ⟨_, rfl, .refl _⟩, ⟨_, rfl, .refl _⟩, ⟨_, rfl, le_int (by omega)⟩, trivial⟩
            refine ⟨⟨_, rfl, .refl _⟩, ⟨_, rfl, le_arr ?_⟩, ⟨_, rfl, le_mo ?_⟩, trivial⟩
            all_goals simp [addS, hb]
        · have hke : k = l.length := by omega
          subst hke
          rw [List.take_length]
          have hih := ih (i + 1) (addAll out l) (hI.next hbk hlt hA) (by omega)
          repeat' (first
            | refine g_seq ?_
            | (refine g_region ?_; refine run_ th rfl ?_)
            | (refine g_drawC mix rfl rfl ?_; refine drun_ th rfl ?_)
            | (refine g_drawEC mix rfl rfl ?_; refine erun_ th rfl ?_)
            | refine SOps.nil ?_
            | refine DOps.nil ?_
            | refine EOps.nil ?_ rfl rfl
            | refine g_block ?_
            | refine g_inBlock ?_
            | refine g_skip ?_
            | refine g_exit rfl ?_
            | refine g_if_true rfl ?_
            | refine g_if_false rfl ?_
            | (refine s_split rfl rfl (fun hb => ?_) (fun hb => ?_) <;> (try simp only [decide_eq_true_eq, decide_eq_false_iff_not, Bool.not_eq_true', Bool.not_eq_false', Bool.not_eq_true, Bool.not_eq_false, Bool.not_true, Bool.not_false, Bool.false_eq_true, Bool.true_eq_false, reduceCtorEq, not_true_eq_false, not_false_eq_true, List.length_map] at hb) <;> first | (exfalso; omega) | refine run_ th rfl ?_)
            | (refine d_split rfl rfl rfl (fun hb => ?_) (fun hb => ?_) <;> (try simp only [decide_eq_true_eq, decide_eq_false_iff_not, Bool.not_eq_true', Bool.not_eq_false', Bool.not_eq_true, Bool.not_eq_false, Bool.not_true, Bool.not_false, Bool.false_eq_true, Bool.true_eq_false, reduceCtorEq, not_true_eq_false, not_false_eq_true, List.length_map] at hb) <;> first | (exfalso; omega) | refine drun_ th rfl ?_)
            | (refine g_if rfl (fun hb => ?_) (fun hb => ?_) <;> (try simp only [decide_eq_true_eq, decide_eq_false_iff_not, Bool.not_eq_true', Bool.not_eq_false', Bool.not_eq_true, Bool.not_eq_false, Bool.not_true, Bool.not_false, Bool.false_eq_true, Bool.true_eq_false, reduceCtorEq, not_true_eq_false, not_false_eq_true, List.length_map] at hb) <;> (try (exfalso; omega)))
            | refine g_endL th Tryd.func38 (.inr ⟨_, rfl⟩) rfl rfl rfl ?_ rfl
            | (refine s_add rfl rfl rfl rfl rfl rfl (by omega) ?_; refine run_ th rfl ?_))
          all_goals exact g_sub (by exact ⟨⟨_, rfl, .refl _⟩, ⟨_, rfl, .refl _⟩, ⟨_, rfl, .refl _⟩, ⟨_, rfl, le_int (by omega)⟩, trivial⟩) (by exact ⟨⟨_, rfl, .refl _⟩, ⟨_, rfl, .refl _⟩, ⟨_, rfl, .refl _⟩, trivial⟩) rfl rfl rfl hih
    · rw [hI.stop hbk hlt]
      repeat' (first
        | refine g_seq ?_
        | (refine g_region ?_; refine run_ th rfl ?_)
        | (refine g_drawC mix rfl rfl ?_; refine drun_ th rfl ?_)
        | (refine g_drawEC mix rfl rfl ?_; refine erun_ th rfl ?_)
        | refine SOps.nil ?_
        | refine DOps.nil ?_
        | refine EOps.nil ?_ rfl rfl
        | refine g_block ?_
        | refine g_inBlock ?_
        | refine g_skip ?_
        | refine g_exit rfl ?_
        | refine g_if_true rfl ?_
        | refine g_if_false rfl ?_
        | (refine s_split rfl rfl (fun hb => ?_) (fun hb => ?_) <;> (try simp only [decide_eq_true_eq, decide_eq_false_iff_not, Bool.not_eq_true', Bool.not_eq_false', Bool.not_eq_true, Bool.not_eq_false, Bool.not_true, Bool.not_false, Bool.false_eq_true, Bool.true_eq_false, reduceCtorEq, not_true_eq_false, not_false_eq_true, List.length_map] at hb) <;> first | (exfalso; omega) | refine run_ th rfl ?_)
        | (refine d_split rfl rfl rfl (fun hb => ?_) (fun hb => ?_) <;> (try simp only [decide_eq_true_eq, decide_eq_false_iff_not, Bool.not_eq_true', Bool.not_eq_false', Bool.not_eq_true, Bool.not_eq_false, Bool.not_true, Bool.not_false, Bool.false_eq_true, Bool.true_eq_false, reduceCtorEq, not_true_eq_false, not_false_eq_true, List.length_map] at hb) <;> first | (exfalso; omega) | refine drun_ th rfl ?_)
        | (refine g_if rfl (fun hb => ?_) (fun hb => ?_) <;> (try simp only [decide_eq_true_eq, decide_eq_false_iff_not, Bool.not_eq_true', Bool.not_eq_false', Bool.not_eq_true, Bool.not_eq_false, Bool.not_true, Bool.not_false, Bool.false_eq_true, Bool.true_eq_false, reduceCtorEq, not_true_eq_false, not_false_eq_true, List.length_map] at hb) <;> (try (exfalso; omega)))
        | refine g_endL th Tryd.func38 (.inr ⟨_, rfl⟩) rfl rfl rfl ?_ rfl
        | (refine g_freeze 29 rfl rfl ?_))
      all_goals exact .refl _
end Go.Sy
