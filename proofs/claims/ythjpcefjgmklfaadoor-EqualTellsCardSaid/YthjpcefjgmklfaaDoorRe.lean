/- Contracts of the reference: rows of edges and books that are compared. -/
import Derived.Test.YthjpcefjgmklfaaDoorRd
set_option linter.unusedSimpArgs false
set_option linter.unusedVariables false
set_option linter.unusedSectionVars false
namespace Go.Sy
open Go.Proofs Go.RowKit
set_option maxRecDepth 100000
attribute [local irreducible] SOps Goes DOps EOps

def Edge.valE (e : Edge) : Value := .agg #[.string e.label, .int .i64 e.kind, .int .i64 e.at_, .int .i64 e.next]
theorem eqSort (k a : Int) (w : World) (d : Nat) : (Op.equalIn (d + 3) 43 (.agg #[.int .i64 k, .int .i64 a]) (.agg #[.int .i64 k, .int .i64 a])).run Tryd.prog w = .ok true w := by
  have u3 := Tryd.underlying3
  have a3 := Tryd.isAgg3
  have z3 := Tryd.sizeOf3
  have hS : Tryd.prog.underlying 43 = some (.struct (Tryd.prog.fieldsOf 43)) := by kernel_rfl
  have hp : Tryd.prog.stoodInHeld 43 = false := by kernel_rfl
  rw [show d + 3 = (d + 2) + 1 from rfl, run_equalIn_agg w (d + 2) 43 _ _ hS hp]
  simp only [Program.fieldsOf, Tryd.underlying43]
  go_simp
theorem eqEd (x : Edge) (w : World) : (Op.equalIn 10000 45 x.valE x.valE).run Tryd.prog w = .ok true w := by
  have u3 := Tryd.underlying3
  have a3 := Tryd.isAgg3
  have z3 := Tryd.sizeOf3
  have u9 := Tryd.underlying9
  have a9 := Tryd.isAgg9
  have z9 := Tryd.sizeOf9
  have a43 := Tryd.isAgg43
  have z43 := Tryd.sizeOf43
  have hS : Tryd.prog.underlying 45 = some (.struct (Tryd.prog.fieldsOf 45)) := by kernel_rfl
  have hp : Tryd.prog.stoodInHeld 45 = false := by kernel_rfl
  obtain ⟨a, b, c, e⟩ := x
  have hs := fun w => eqSort b c w 9996
  simp only [Edge.valE]
  rw [show (10000 : Nat) = 9999 + 1 from rfl, run_equalIn_agg w 9999 45 _ _ hS hp]
  simp only [Program.fieldsOf, Tryd.underlying45]
  go_simp

section
variable {C : Ctx} {n : Nat} {tm : TM} {mm : MM} {o : Oper} {d : Nat}
theorem ed_rep {I : Nat → Prop} {H : Nat → Value} {Z : Nat → Nat} {w : World} {M : Nat → Prop} {v : Value} {m : Edge} (h : RepSV I H Z w M v (Ag m.cs)) : v = m.valE := by
  obtain ⟨vs, rfl, hs, hr⟩ := h
  obtain ⟨u0, g0, r0⟩ := hr 0 _ rfl
  obtain ⟨u1, g1, r1⟩ := hr 1 _ rfl
  obtain ⟨u2, g2, r2⟩ := hr 2 _ rfl
  obtain ⟨u3, g3, r3⟩ := hr 3 _ rfl
  have r0 := RepC.str_inv r0
  have r1 := RepC.int_inv r1
  have r2 := RepC.int_inv r2
  have r3 := RepC.int_inv r3
  subst r0 r1 r2 r3
  have hs : vs.size = 4 := hs
  unfold Edge.valE
  congr 1
  apply Array.ext
  · simpa using hs
  · intro i hi hi'
    have : i = 0 ∨ i = 1 ∨ i = 2 ∨ i = 3 := by omega
    rcases this with rfl | rfl | rfl | rfl
    · rw [Array.getElem?_eq_getElem hi] at g0; injection g0 with g0
    · rw [Array.getElem?_eq_getElem hi] at g1; injection g1 with g1
    · rw [Array.getElem?_eq_getElem hi] at g2; injection g2 with g2
    · rw [Array.getElem?_eq_getElem hi] at g3; injection g3 with g3
theorem op_neqEd {t' : Nat} {x y : Operand} {a : Edge} (hP : C.P = Tryd.prog) (ho : o.op = .binOp .neq 45 x y t') (hx : evalV tm x = some (Ag a.cs)) (hy : evalV tm y = some (Ag a.cs)) (hd : o.dst = some d) (hn : Nat.blt d n = true) :
    OpV C n o tm mm d (.v (.one (.c (.bool false)))) :=
  OpV.val hd hn _ fun H Z A w hm => by
    have h1 : A.eval x = a.valE := ed_rep (evalV_rep hm hx)
    have h2 : A.eval y = a.valE := ed_rep (evalV_rep hm hy)
    have hq : Tryd.prog.eqGuardType Tryd.prog.depth 45 = false := by kernel_rfl
    have heq := eqEd a w
    simp only [Edge.valE] at h1 h2 heq
    refine ⟨.bool false, ?_, .bool _⟩
    rw [hP]
    simp only [execOp, ho, h1, h2, Sem.run_bind, run_eqGuard_agg w _ _ _ _ _ _ hq, Result.andThen_ok, run_neq_struct, heq, Sem.run_pure, Bool.not_true]
end

set_option maxHeartbeats 4000000 in
theorem sameEdges_c (l : List Edge) : Con Tryd.prog 34 [] [C1 (armsT l), C1 (armsT l)] (Rv (.bool true)) [] := by
  refine con_of (c := _) Tryd.func34 rfl rfl rfl (by decide) fun w M0 H Z => ?_
  refine g_len 0 rfl fun hll => ?_
  simp only [List.length_map] at hll
  repeat' (first
    | refine g_seq ?_
    | (refine g_region ?_; refine run_ th rfl ?_)
    | (refine g_drawC mix rfl rfl ?_; refine drun_ th rfl ?_)
    | (refine g_drawEC mix rfl rfl ?_; refine erun_ th rfl ?_)
    | refine SOps.nil ?_
    | refine DOps.nil ?_
    | refine EOps.nil ?_ rfl rfl
    | refine g_block ?_
    | refine g_inBlock ?_
    | refine g_skip ?_
    | refine g_exit rfl ?_
    | refine g_if_true rfl ?_
    | refine g_if_false rfl ?_
    | (refine s_split rfl rfl (fun hb => ?_) (fun hb => ?_) <;> (try simp only [decide_eq_true_eq, decide_eq_false_iff_not, Bool.not_eq_true', Bool.not_eq_false', Bool.not_eq_true, Bool.not_eq_false, Bool.not_true, Bool.not_false, Bool.false_eq_true, Bool.true_eq_false, reduceCtorEq, not_true_eq_false, not_false_eq_true, List.length_map] at hb) <;> first | (exfalso; omega) | refine run_ th rfl ?_)
    | (refine d_split rfl rfl rfl (fun hb => ?_) (fun hb => ?_) <;> (try simp only [decide_eq_true_eq, decide_eq_false_iff_not, Bool.not_eq_true', Bool.not_eq_false', Bool.not_eq_true, Bool.not_eq_false, Bool.not_true, Bool.not_false, Bool.false_eq_true, Bool.true_eq_false, reduceCtorEq, not_true_eq_false, not_false_eq_true, List.length_map] at hb) <;> first | (exfalso; omega) | refine drun_ th rfl ?_)
    | (refine g_if rfl (fun hb => ?_) (fun hb => ?_) <;> (try simp only [decide_eq_true_eq, decide_eq_false_iff_not, Bool.not_eq_true', Bool.not_eq_false', Bool.not_eq_true, Bool.not_eq_false, Bool.not_true, Bool.not_false, Bool.false_eq_true, Bool.true_eq_false, reduceCtorEq, not_true_eq_false, not_false_eq_true, List.length_map] at hb) <;> (try (exfalso; omega)))
    | (exfalso; revert hb; simp; done))
  refine g_loop1 (fun k : Nat => k ≤ l.length)
    (fun k => [(0, .v (C1 (armsT l))), (0 + 1, .v (C1 (armsT l))), (5, .v (C1 (.int .i64 (k : Int))))])
    (fun _ => []) (fun k => l.length - k) 0 (Nat.zero_le _)
    (fun a w h => h.sub (by exact ⟨⟨_, rfl, .refl _⟩, ⟨_, rfl, .refl _⟩, ⟨_, rfl, le_int rfl⟩, trivial⟩) (by exact trivial) rfl rfl rfl) (fun k hk ih => ?_)
  by_cases hlt : k < l.length
  · have hx : (l.map Edge.cs)[k]? = some (l[k]).cs := by simp [hlt]
    have hih := ih (k + 1) hlt (by omega)
    repeat' (first
      | refine g_seq ?_
      | (refine g_region ?_; refine run_ th rfl ?_)
      | (refine g_drawC mix rfl rfl ?_; refine drun_ th rfl ?_)
      | (refine g_drawEC mix rfl rfl ?_; refine erun_ th rfl ?_)
      | refine SOps.nil ?_
      | refine DOps.nil ?_
      | refine EOps.nil ?_ rfl rfl
      | refine g_block ?_
      | refine g_inBlock ?_
      | refine g_skip ?_
      | refine g_exit rfl ?_
      | refine g_if_true rfl ?_
      | refine g_if_false rfl ?_
      | (refine s_split rfl rfl (fun hb => ?_) (fun hb => ?_) <;> (try simp only [decide_eq_true_eq, decide_eq_false_iff_not, Bool.not_eq_true', Bool.not_eq_false', Bool.not_eq_true, Bool.not_eq_false, Bool.not_true, Bool.not_false, Bool.false_eq_true, Bool.true_eq_false, reduceCtorEq, not_true_eq_false, not_false_eq_true, List.length_map] at hb) <;> first | (exfalso; omega) | refine run_ th rfl ?_)
      | (refine d_split rfl rfl rfl (fun hb => ?_) (fun hb => ?_) <;> (try simp only [decide_eq_true_eq, decide_eq_false_iff_not, Bool.not_eq_true', Bool.not_eq_false', Bool.not_eq_true, Bool.not_eq_false, Bool.not_true, Bool.not_false, Bool.false_eq_true, Bool.true_eq_false, reduceCtorEq, not_true_eq_false, not_false_eq_true, List.length_map] at hb) <;> first | (exfalso; omega) | refine drun_ th rfl ?_)
      | (refine g_if rfl (fun hb => ?_) (fun hb => ?_) <;> (try simp only [decide_eq_true_eq, decide_eq_false_iff_not, Bool.not_eq_true', Bool.not_eq_false', Bool.not_eq_true, Bool.not_eq_false, Bool.not_true, Bool.not_false, Bool.false_eq_true, Bool.true_eq_false, reduceCtorEq, not_true_eq_false, not_false_eq_true, List.length_map] at hb) <;> (try (exfalso; omega)))
      | (refine d_idx th rfl rfl rfl rfl rfl rfl rfl rfl rfl k _ rfl hx ?_; refine drun_ th rfl ?_)
      | (refine d_step (op_neqEd rfl rfl rfl rfl rfl rfl) rfl ?_; refine drun_ th rfl ?_)
      | (refine s_add rfl rfl rfl rfl rfl rfl (by omega) ?_; refine run_ th rfl ?_)
      | (exfalso; revert hb; simp; done))
    all_goals exact g_sub (by exact ⟨⟨_, rfl, .refl _⟩, ⟨_, rfl, .refl _⟩, ⟨_, rfl, le_int (by omega)⟩, trivial⟩) (by exact trivial) rfl rfl rfl hih
  · skip
    repeat' (first
      | refine g_seq ?_
      | (refine g_region ?_; refine run_ th rfl ?_)
      | (refine g_drawC mix rfl rfl ?_; refine drun_ th rfl ?_)
      | (refine g_drawEC mix rfl rfl ?_; refine erun_ th rfl ?_)
      | refine SOps.nil ?_
      | refine DOps.nil ?_
      | refine EOps.nil ?_ rfl rfl
      | refine g_block ?_
      | refine g_inBlock ?_
      | refine g_skip ?_
      | refine g_exit rfl ?_
      | refine g_if_true rfl ?_
      | refine g_if_false rfl ?_
      | (refine s_split rfl rfl (fun hb => ?_) (fun hb => ?_) <;> (try simp only [decide_eq_true_eq, decide_eq_false_iff_not, Bool.not_eq_true', Bool.not_eq_false', Bool.not_eq_true, Bool.not_eq_false, Bool.not_true, Bool.not_false, Bool.false_eq_true, Bool.true_eq_false, reduceCtorEq, not_true_eq_false, not_false_eq_true, List.length_map] at hb) <;> first | (exfalso; omega) | refine run_ th rfl ?_)
      | (refine d_split rfl rfl rfl (fun hb => ?_) (fun hb => ?_) <;> (try simp only [decide_eq_true_eq, decide_eq_false_iff_not, Bool.not_eq_true', Bool.not_eq_false', Bool.not_eq_true, Bool.not_eq_false, Bool.not_true, Bool.not_false, Bool.false_eq_true, Bool.true_eq_false, reduceCtorEq, not_true_eq_false, not_false_eq_true, List.length_map] at hb) <;> first | (exfalso; omega) | refine drun_ th rfl ?_)
      | (refine g_if rfl (fun hb => ?_) (fun hb => ?_) <;> (try simp only [decide_eq_true_eq, decide_eq_false_iff_not, Bool.not_eq_true', Bool.not_eq_false', Bool.not_eq_true, Bool.not_eq_false, Bool.not_true, Bool.not_false, Bool.false_eq_true, Bool.true_eq_false, reduceCtorEq, not_true_eq_false, not_false_eq_true, List.length_map] at hb) <;> (try (exfalso; omega)))
      | refine g_endL th Tryd.func34 (.inr ⟨_, rfl⟩) rfl rfl rfl ?_ rfl)
    all_goals exact .refl _

set_option maxHeartbeats 8000000 in
theorem sameBook_c (b : Bk) : Con Tryd.prog 17 [] [Ag b.cs, Ag b.cs] (Rv (.bool true)) [] := by
  refine con_of (c := _) Tryd.func17 rfl rfl rfl (by decide) fun w M0 H Z => ?_
  repeat' (first
    | refine g_seq ?_
    | (refine g_region ?_; refine run_ th rfl ?_)
    | (refine g_drawC mix rfl rfl ?_; refine drun_ th rfl ?_)
    | (refine g_drawEC mix rfl rfl ?_; refine erun_ th rfl ?_)
    | refine SOps.nil ?_
    | refine DOps.nil ?_
    | refine EOps.nil ?_ rfl rfl
    | refine g_block ?_
    | refine g_inBlock ?_
    | refine g_skip ?_
    | refine g_exit rfl ?_
    | refine g_if_true rfl ?_
    | refine g_if_false rfl ?_
    | (refine s_split rfl rfl (fun hb => ?_) (fun hb => ?_) <;> (try simp only [decide_eq_true_eq, decide_eq_false_iff_not, Bool.not_eq_true', Bool.not_eq_false', Bool.not_eq_true, Bool.not_eq_false, Bool.not_true, Bool.not_false, Bool.false_eq_true, Bool.true_eq_false, reduceCtorEq, not_true_eq_false, not_false_eq_true, List.length_map] at hb) <;> first | (exfalso; omega) | refine run_ th rfl ?_)
    | (refine d_split rfl rfl rfl (fun hb => ?_) (fun hb => ?_) <;> (try simp only [decide_eq_true_eq, decide_eq_false_iff_not, Bool.not_eq_true', Bool.not_eq_false', Bool.not_eq_true, Bool.not_eq_false, Bool.not_true, Bool.not_false, Bool.false_eq_true, Bool.true_eq_false, reduceCtorEq, not_true_eq_false, not_false_eq_true, List.length_map] at hb) <;> first | (exfalso; omega) | refine drun_ th rfl ?_)
    | (refine g_if rfl (fun hb => ?_) (fun hb => ?_) <;> (try simp only [decide_eq_true_eq, decide_eq_false_iff_not, Bool.not_eq_true', Bool.not_eq_false', Bool.not_eq_true, Bool.not_eq_false, Bool.not_true, Bool.not_false, Bool.false_eq_true, Bool.true_eq_false, reduceCtorEq, not_true_eq_false, not_false_eq_true, List.length_map] at hb) <;> (try (exfalso; omega)))
    | (refine s_call (sameNamesQ_c b.names) [] rfl rfl rfl rfl rfl rfl rfl rfl rfl rfl ?_; refine run_ th rfl ?_)
    | (refine s_call (sameIntsZ_c b.roots) [] rfl rfl rfl rfl rfl rfl rfl rfl rfl rfl ?_; refine run_ th rfl ?_)
    | (exfalso; revert hb; simp; done))
  refine g_lenB 2 0 rfl rfl fun hnl => ?_
  simp only [List.length_map] at hnl
  refine g_loop1 (fun k : Nat => k ≤ b.nodes.length)
    (fun k => [(2, .v (.one (.ptr 2 0))), (3, .v (.one (.ptr 3 0))), (5, .v (C1 (.int .i64 (k : Int))))])
    (fun _ => [(2, .box [.c (nodesT b.nodes), .c (namesT b.names), .c (intsT b.roots)]), (3, .box [.c (nodesT b.nodes), .c (namesT b.names), .c (intsT b.roots)])]) (fun k => b.nodes.length - k) 0 (Nat.zero_le _)
    (fun a w h => h.sub (by exact ⟨⟨_, rfl, .refl _⟩, ⟨_, rfl, .refl _⟩, ⟨_, rfl, le_int rfl⟩, trivial⟩) (by exact ⟨⟨_, rfl, .refl _⟩, ⟨_, rfl, .refl _⟩, trivial⟩) rfl rfl rfl) (fun k hk ih => ?_)
  by_cases hlt : k < b.nodes.length
  · have hx : (b.nodes.map Nd.cs)[k]? = some (b.nodes[k]).cs := by simp [hlt]
    have hih := ih (k + 1) hlt (by omega)
    generalize b.nodes[k] = x at *
    repeat' (first
      | refine g_seq ?_
      | (refine g_region ?_; refine run_ th rfl ?_)
      | (refine g_drawC mix rfl rfl ?_; refine drun_ th rfl ?_)
      | (refine g_drawEC mix rfl rfl ?_; refine erun_ th rfl ?_)
      | refine SOps.nil ?_
      | refine DOps.nil ?_
      | refine EOps.nil ?_ rfl rfl
      | refine g_block ?_
      | refine g_inBlock ?_
      | refine g_skip ?_
      | refine g_exit rfl ?_
      | refine g_if_true rfl ?_
      | refine g_if_false rfl ?_
      | (refine s_split rfl rfl (fun hb => ?_) (fun hb => ?_) <;> (try simp only [decide_eq_true_eq, decide_eq_false_iff_not, Bool.not_eq_true', Bool.not_eq_false', Bool.not_eq_true, Bool.not_eq_false, Bool.not_true, Bool.not_false, Bool.false_eq_true, Bool.true_eq_false, reduceCtorEq, not_true_eq_false, not_false_eq_true, List.length_map] at hb) <;> first | (exfalso; omega) | refine run_ th rfl ?_)
      | (refine d_split rfl rfl rfl (fun hb => ?_) (fun hb => ?_) <;> (try simp only [decide_eq_true_eq, decide_eq_false_iff_not, Bool.not_eq_true', Bool.not_eq_false', Bool.not_eq_true, Bool.not_eq_false, Bool.not_true, Bool.not_false, Bool.false_eq_true, Bool.true_eq_false, reduceCtorEq, not_true_eq_false, not_false_eq_true, List.length_map] at hb) <;> first | (exfalso; omega) | refine drun_ th rfl ?_)
      | (refine g_if rfl (fun hb => ?_) (fun hb => ?_) <;> (try simp only [decide_eq_true_eq, decide_eq_false_iff_not, Bool.not_eq_true', Bool.not_eq_false', Bool.not_eq_true, Bool.not_eq_false, Bool.not_true, Bool.not_false, Bool.false_eq_true, Bool.true_eq_false, reduceCtorEq, not_true_eq_false, not_false_eq_true, List.length_map] at hb) <;> (try (exfalso; omega)))
      | (refine e_idx th rfl rfl rfl rfl rfl rfl rfl rfl rfl k _ rfl hx ?_; refine erun_ th rfl ?_)
      | (refine s_call (sameEdges_c x.arms) [] rfl rfl rfl rfl rfl rfl rfl rfl rfl rfl ?_; refine run_ th rfl ?_)
      | (refine s_add rfl rfl rfl rfl rfl rfl (by omega) ?_; refine run_ th rfl ?_)
      | (exfalso; revert hb; simp; done))
    all_goals exact g_sub (by exact ⟨⟨_, rfl, .refl _⟩, ⟨_, rfl, .refl _⟩, ⟨_, rfl, le_int (by omega)⟩, trivial⟩) (by exact ⟨⟨_, rfl, .refl _⟩, ⟨_, rfl, .refl _⟩, trivial⟩) rfl rfl rfl hih
  · skip
    repeat' (first
      | refine g_seq ?_
      | (refine g_region ?_; refine run_ th rfl ?_)
      | (refine g_drawC mix rfl rfl ?_; refine drun_ th rfl ?_)
      | (refine g_drawEC mix rfl rfl ?_; refine erun_ th rfl ?_)
      | refine SOps.nil ?_
      | refine DOps.nil ?_
      | refine EOps.nil ?_ rfl rfl
      | refine g_block ?_
      | refine g_inBlock ?_
      | refine g_skip ?_
      | refine g_exit rfl ?_
      | refine g_if_true rfl ?_
      | refine g_if_false rfl ?_
      | (refine s_split rfl rfl (fun hb => ?_) (fun hb => ?_) <;> (try simp only [decide_eq_true_eq, decide_eq_false_iff_not, Bool.not_eq_true', Bool.not_eq_false', Bool.not_eq_true, Bool.not_eq_false, Bool.not_true, Bool.not_false, Bool.false_eq_true, Bool.true_eq_false, reduceCtorEq, not_true_eq_false, not_false_eq_true, List.length_map] at hb) <;> first | (exfalso; omega) | refine run_ th rfl ?_)
      | (refine d_split rfl rfl rfl (fun hb => ?_) (fun hb => ?_) <;> (try simp only [decide_eq_true_eq, decide_eq_false_iff_not, Bool.not_eq_true', Bool.not_eq_false', Bool.not_eq_true, Bool.not_eq_false, Bool.not_true, Bool.not_false, Bool.false_eq_true, Bool.true_eq_false, reduceCtorEq, not_true_eq_false, not_false_eq_true, List.length_map] at hb) <;> first | (exfalso; omega) | refine drun_ th rfl ?_)
      | (refine g_if rfl (fun hb => ?_) (fun hb => ?_) <;> (try simp only [decide_eq_true_eq, decide_eq_false_iff_not, Bool.not_eq_true', Bool.not_eq_false', Bool.not_eq_true, Bool.not_eq_false, Bool.not_true, Bool.not_false, Bool.false_eq_true, Bool.true_eq_false, reduceCtorEq, not_true_eq_false, not_false_eq_true, List.length_map] at hb) <;> (try (exfalso; omega)))
      | refine g_endL th Tryd.func17 (.inr ⟨_, rfl⟩) rfl rfl rfl ?_ rfl)
    all_goals exact .refl _
end Go.Sy
