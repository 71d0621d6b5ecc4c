/- Contracts: UnderFewer. -/
import Derived.Test.YthjpcefjgmklfaaFp
import Derived.Test.YthjpcefjgmklfaaPf
import Derived.Test.YthjpcefjgmklfaaPe
import Derived.Test.YthjpcefjgmklfaaSy5
set_option linter.unusedSimpArgs false
set_option linter.unusedVariables false
set_option linter.unusedSectionVars false
namespace Go.Sy
open Go.Proofs
set_option maxRecDepth 100000
attribute [local irreducible] SOps Goes DOps EOps

set_option maxHeartbeats 16000000 in
theorem underFewer_c (l : List Int) (x y : Int) (hbig : (l.length + 1) * 8 ≤ 140737488355328) :
    Con Try.prog 6 [] [C1 (intsT l), C1 (.int .i64 x), C1 (.int .i64 y)] (Rv (.bool true)) [] := by
  refine con_of (c := _) Try.func6 rfl rfl rfl (by decide) fun w M0 H Z => ?_
  repeat' (first
    | refine g_seq ?_
    | (refine g_region ?_; refine run_ th rfl ?_)
    | (refine g_drawC mix rfl rfl ?_; refine drun_ th rfl ?_)
    | (refine g_drawEC mix rfl rfl ?_; refine erun_ th rfl ?_)
    | refine SOps.nil ?_
    | refine DOps.nil ?_
    | refine EOps.nil ?_ rfl rfl
    | refine g_block ?_
    | refine g_inBlock ?_
    | refine g_skip ?_
    | refine g_exit rfl ?_
    | refine g_if_true rfl ?_
    | refine g_if_false rfl ?_
    | (refine s_split rfl rfl (fun hb => ?_) (fun hb => ?_) <;> (try simp only [decide_eq_true_eq, decide_eq_false_iff_not, Bool.not_eq_true', Bool.not_eq_false', Bool.not_eq_true, Bool.not_eq_false, Bool.not_true, Bool.not_false, Bool.false_eq_true, Bool.true_eq_false, reduceCtorEq, not_true_eq_false, not_false_eq_true, List.length_map] at hb) <;> first | (exfalso; omega) | refine run_ th rfl ?_)
    | (refine d_split rfl rfl rfl (fun hb => ?_) (fun hb => ?_) <;> (try simp only [decide_eq_true_eq, decide_eq_false_iff_not, Bool.not_eq_true', Bool.not_eq_false', Bool.not_eq_true, Bool.not_eq_false, Bool.not_true, Bool.not_false, Bool.false_eq_true, Bool.true_eq_false, reduceCtorEq, not_true_eq_false, not_false_eq_true, List.length_map] at hb) <;> first | (exfalso; omega) | refine drun_ th rfl ?_)
    | (refine g_if rfl (fun hb => ?_) (fun hb => ?_) <;> (try simp only [decide_eq_true_eq, decide_eq_false_iff_not, Bool.not_eq_true', Bool.not_eq_false', Bool.not_eq_true, Bool.not_eq_false, Bool.not_true, Bool.not_false, Bool.false_eq_true, Bool.true_eq_false, reduceCtorEq, not_true_eq_false, not_false_eq_true, List.length_map] at hb) <;> (try (exfalso; omega)))
    | (refine s_call first_c [] rfl rfl rfl rfl rfl rfl rfl rfl rfl rfl ?_; refine run_ th rfl ?_)
    | (refine s_call given_c [] rfl rfl rfl rfl rfl rfl rfl rfl rfl rfl ?_; refine run_ th rfl ?_)
    | (refine s_appendF th rfl rfl rfl rfl rfl rfl rfl rfl rfl rfl rfl rfl rfl rfl (by constructor <;> simp <;> omega) ?_; refine s_freeze 17 rfl rfl ?_; refine run_ th rfl ?_)
    | (refine s_callQ (made_c givenB (6 :: l) (by simp) (by simpa using hbig)) [] rfl rfl rfl rfl rfl rfl rfl rfl rfl (fun res hr => by obtain ⟨b, _, _, _, rfl⟩ := hr; rfl) (fun res hr => ?_); obtain ⟨b, hbk, hb1, hb8, rfl⟩ := hr; refine run_ th rfl ?_)
    | (refine s_call (picku_c b _ hb1 hb8) [] rfl rfl rfl rfl rfl rfl rfl rfl rfl rfl ?_))
  have hpr := pickI_range hb1 hb8 x
  generalize pickI b.nodes.length x = p at hpr ⊢
  have hatp := ndAt_cs hpr.1 hpr.2
  have hnode := node_at hbk hpr.1 hpr.2
  have h6 := (node_arms hnode).1
  generalize hA : ndAt b p = A at hatp hnode h6
  refine run_ th rfl ?_
  by_cases h2 : 2 ≤ A.arms.length
  · have hF : FewerOk b p A := ⟨hbk, hb8, hpr, hA, h2⟩
    have hpv := pick_v (x := y) (n := (((A.arms.map Edge.cs).length : Nat) : Int)) (by simp; omega) (by simp; omega)
    repeat' (first
      | refine g_seq ?_
      | (refine g_region ?_; refine run_ th rfl ?_)
      | (refine g_drawC mix rfl rfl ?_; refine drun_ th rfl ?_)
      | (refine g_drawEC mix rfl rfl ?_; refine erun_ th rfl ?_)
      | refine SOps.nil ?_
      | refine DOps.nil ?_
      | refine EOps.nil ?_ rfl rfl
      | refine g_block ?_
      | refine g_inBlock ?_
      | refine g_skip ?_
      | refine g_exit rfl ?_
      | refine g_if_true rfl ?_
      | refine g_if_false rfl ?_
      | (refine s_split rfl rfl (fun hb => ?_) (fun hb => ?_) <;> (try simp only [decide_eq_true_eq, decide_eq_false_iff_not, Bool.not_eq_true', Bool.not_eq_false', Bool.not_eq_true, Bool.not_eq_false, Bool.not_true, Bool.not_false, Bool.false_eq_true, Bool.true_eq_false, reduceCtorEq, not_true_eq_false, not_false_eq_true, List.length_map] at hb) <;> first | (exfalso; omega) | refine run_ th rfl ?_)
      | (refine d_split rfl rfl rfl (fun hb => ?_) (fun hb => ?_) <;> (try simp only [decide_eq_true_eq, decide_eq_false_iff_not, Bool.not_eq_true', Bool.not_eq_false', Bool.not_eq_true, Bool.not_eq_false, Bool.not_true, Bool.not_false, Bool.false_eq_true, Bool.true_eq_false, reduceCtorEq, not_true_eq_false, not_false_eq_true, List.length_map] at hb) <;> first | (exfalso; omega) | refine drun_ th rfl ?_)
      | (refine g_if rfl (fun hb => ?_) (fun hb => ?_) <;> (try simp only [decide_eq_true_eq, decide_eq_false_iff_not, Bool.not_eq_true', Bool.not_eq_false', Bool.not_eq_true, Bool.not_eq_false, Bool.not_true, Bool.not_false, Bool.false_eq_true, Bool.true_eq_false, reduceCtorEq, not_true_eq_false, not_false_eq_true, List.length_map] at hb) <;> (try (exfalso; omega)))
      | (refine s_idx th rfl rfl rfl rfl rfl rfl rfl rfl rfl p.toNat _ (by omega) hatp ?_; refine run_ th rfl ?_)
      | (refine s_rem rfl rfl rfl rfl rfl rfl (by simp only [List.length_map]; rw [wrapU_id (by omega) (by omega)]; omega) ?_; refine run_ th rfl ?_))
    generalize IntKind.i64.wrap ((IntKind.u64.wrap y).tmod (IntKind.u64.wrap (((A.arms.map Edge.cs).length : Nat) : Int))) = kk at hpv ⊢
    simp only [List.length_map] at hpv
    have hkl : kk.toNat < A.arms.length := by omega
    have hkn : kk = ((kk.toNat : Nat) : Int) := by omega
    have hkn1 : kk + 1 = ((kk.toNat + 1 : Nat) : Int) := by omega
    have hle1 : kk.toNat ≤ (A.arms.map Edge.cs).length := by simp; omega
    have hle2 : kk.toNat + 1 ≤ (A.arms.map Edge.cs).length := by simp; omega
    have hle : LeT (.v (.agg [.c (.slice false 3 (b.nodes.map Nd.cs ++ [[.int .i64 A.kind, .str A.peer, .slice false 4 ((A.arms.map Edge.cs).take kk.toNat ++ (A.arms.map Edge.cs).drop (kk.toNat + 1))]])), .c .nils, .c .nils])) (.v (Ag (bookC b A kk.toNat).cs)) := by
      refine .v (.agg (.cons ?_ (.cons (.c (.nil 1)) (.cons (.c (.nil 1)) .nil))))
      have : (b.nodes.map Nd.cs ++ [[CT.int .i64 A.kind, .str A.peer, .slice false 4 ((A.arms.map Edge.cs).take kk.toNat ++ (A.arms.map Edge.cs).drop (kk.toNat + 1))]]) = (bookC b A kk.toNat).nodes.map Nd.cs := by
        simp [bookC, lessN, List.map_take, List.map_drop]
      rw [this]
      exact .refl _
    have c1 := is_c (bookC b A kk.toNat) p (((b.nodes.map Nd.cs).length : Nat) : Int)
    have c2 := is_c (bookC b A kk.toNat) (((b.nodes.map Nd.cs).length : Nat) : Int) p
    rcases hF.kind with hk | hk
    · obtain ⟨f1, f2⟩ := hF.send hkl hk
      rw [show isB (bookC b A kk.toNat) p (((b.nodes.map Nd.cs).length : Nat) : Int) = true by rw [List.length_map]; exact f1] at c1
      rw [show isB (bookC b A kk.toNat) (((b.nodes.map Nd.cs).length : Nat) : Int) p = false by rw [List.length_map]; exact f2] at c2
      repeat' (first
        | refine g_seq ?_
        | (refine g_region ?_; refine run_ th rfl ?_)
        | (refine g_drawC mix rfl rfl ?_; refine drun_ th rfl ?_)
        | (refine g_drawEC mix rfl rfl ?_; refine erun_ th rfl ?_)
        | refine SOps.nil ?_
        | refine DOps.nil ?_
        | refine EOps.nil ?_ rfl rfl
        | refine g_block ?_
        | refine g_inBlock ?_
        | refine g_skip ?_
        | refine g_exit rfl ?_
        | refine g_if_true rfl ?_
        | refine g_if_false rfl ?_
        | (refine s_split rfl rfl (fun hb => ?_) (fun hb => ?_) <;> (try simp only [decide_eq_true_eq, decide_eq_false_iff_not, Bool.not_eq_true', Bool.not_eq_false', Bool.not_eq_true, Bool.not_eq_false, Bool.not_true, Bool.not_false, Bool.false_eq_true, Bool.true_eq_false, reduceCtorEq, not_true_eq_false, not_false_eq_true, List.length_map] at hb) <;> first | (exfalso; omega) | refine run_ th rfl ?_)
        | (refine d_split rfl rfl rfl (fun hb => ?_) (fun hb => ?_) <;> (try simp only [decide_eq_true_eq, decide_eq_false_iff_not, Bool.not_eq_true', Bool.not_eq_false', Bool.not_eq_true, Bool.not_eq_false, Bool.not_true, Bool.not_false, Bool.false_eq_true, Bool.true_eq_false, reduceCtorEq, not_true_eq_false, not_false_eq_true, List.length_map] at hb) <;> first | (exfalso; omega) | refine drun_ th rfl ?_)
        | (refine g_if rfl (fun hb => ?_) (fun hb => ?_) <;> (try simp only [decide_eq_true_eq, decide_eq_false_iff_not, Bool.not_eq_true', Bool.not_eq_false', Bool.not_eq_true, Bool.not_eq_false, Bool.not_true, Bool.not_false, Bool.false_eq_true, Bool.true_eq_false, reduceCtorEq, not_true_eq_false, not_false_eq_true, List.length_map] at hb) <;> (try (exfalso; omega)))
        | (refine e_sliceTo th rfl rfl rfl rfl rfl rfl rfl rfl kk.toNat hkn hle1 ?_; refine erun_ th rfl ?_)
        | (refine e_appendN th rfl rfl rfl rfl rfl rfl rfl rfl rfl rfl rfl rfl rfl (by constructor <;> simp <;> omega) ?_; refine erun_ th rfl ?_)
        | (refine e_add rfl rfl rfl rfl rfl rfl (by omega) ?_; refine erun_ th rfl ?_)
        | (refine e_sliceFrom th rfl rfl rfl rfl rfl rfl rfl rfl rfl (kk.toNat + 1) hkn1 hle2 ?_; refine erun_ th rfl ?_)
        | (refine e_appendT th rfl rfl rfl rfl rfl rfl rfl rfl rfl rfl rfl rfl rfl rfl rfl (by constructor <;> simp <;> omega) ?_; refine erun_ th rfl ?_)
        | (refine e_lit th rfl rfl rfl rfl rfl rfl rfl rfl rfl rfl rfl rfl (.refl _) ?_; refine erun_ th rfl ?_)
        | (refine s_leT 74 _ rfl hle ?_; refine s_call c1 [] rfl rfl rfl rfl rfl rfl rfl rfl rfl rfl ?_; refine run_ th rfl ?_)
        | (refine s_leT 79 _ rfl hle ?_; refine s_call c2 [] rfl rfl rfl rfl rfl rfl rfl rfl rfl rfl ?_; refine run_ th rfl ?_)
        | exact g_endL th Try.func6 (.inr ⟨_, rfl⟩) rfl rfl rfl (.v (.one (.lit true))) rfl
        | exact g_endL th Try.func6 (.inr ⟨_, rfl⟩) rfl rfl rfl (.refl _) rfl
        | (exfalso; revert hb; first | decide | (simp; done)))
    · obtain ⟨f1, f2⟩ := hF.recv hkl hk
      rw [show isB (bookC b A kk.toNat) p (((b.nodes.map Nd.cs).length : Nat) : Int) = false by rw [List.length_map]; exact f2] at c1
      rw [show isB (bookC b A kk.toNat) (((b.nodes.map Nd.cs).length : Nat) : Int) p = true by rw [List.length_map]; exact f1] at c2
      repeat' (first
        | refine g_seq ?_
        | (refine g_region ?_; refine run_ th rfl ?_)
        | (refine g_drawC mix rfl rfl ?_; refine drun_ th rfl ?_)
        | (refine g_drawEC mix rfl rfl ?_; refine erun_ th rfl ?_)
        | refine SOps.nil ?_
        | refine DOps.nil ?_
        | refine EOps.nil ?_ rfl rfl
        | refine g_block ?_
        | refine g_inBlock ?_
        | refine g_skip ?_
        | refine g_exit rfl ?_
        | refine g_if_true rfl ?_
        | refine g_if_false rfl ?_
        | (refine s_split rfl rfl (fun hb => ?_) (fun hb => ?_) <;> (try simp only [decide_eq_true_eq, decide_eq_false_iff_not, Bool.not_eq_true', Bool.not_eq_false', Bool.not_eq_true, Bool.not_eq_false, Bool.not_true, Bool.not_false, Bool.false_eq_true, Bool.true_eq_false, reduceCtorEq, not_true_eq_false, not_false_eq_true, List.length_map] at hb) <;> first | (exfalso; omega) | refine run_ th rfl ?_)
        | (refine d_split rfl rfl rfl (fun hb => ?_) (fun hb => ?_) <;> (try simp only [decide_eq_true_eq, decide_eq_false_iff_not, Bool.not_eq_true', Bool.not_eq_false', Bool.not_eq_true, Bool.not_eq_false, Bool.not_true, Bool.not_false, Bool.false_eq_true, Bool.true_eq_false, reduceCtorEq, not_true_eq_false, not_false_eq_true, List.length_map] at hb) <;> first | (exfalso; omega) | refine drun_ th rfl ?_)
        | (refine g_if rfl (fun hb => ?_) (fun hb => ?_) <;> (try simp only [decide_eq_true_eq, decide_eq_false_iff_not, Bool.not_eq_true', Bool.not_eq_false', Bool.not_eq_true, Bool.not_eq_false, Bool.not_true, Bool.not_false, Bool.false_eq_true, Bool.true_eq_false, reduceCtorEq, not_true_eq_false, not_false_eq_true, List.length_map] at hb) <;> (try (exfalso; omega)))
        | (refine e_sliceTo th rfl rfl rfl rfl rfl rfl rfl rfl kk.toNat hkn hle1 ?_; refine erun_ th rfl ?_)
        | (refine e_appendN th rfl rfl rfl rfl rfl rfl rfl rfl rfl rfl rfl rfl rfl (by constructor <;> simp <;> omega) ?_; refine erun_ th rfl ?_)
        | (refine e_add rfl rfl rfl rfl rfl rfl (by omega) ?_; refine erun_ th rfl ?_)
        | (refine e_sliceFrom th rfl rfl rfl rfl rfl rfl rfl rfl rfl (kk.toNat + 1) hkn1 hle2 ?_; refine erun_ th rfl ?_)
        | (refine e_appendT th rfl rfl rfl rfl rfl rfl rfl rfl rfl rfl rfl rfl rfl rfl rfl (by constructor <;> simp <;> omega) ?_; refine erun_ th rfl ?_)
        | (refine e_lit th rfl rfl rfl rfl rfl rfl rfl rfl rfl rfl rfl rfl (.refl _) ?_; refine erun_ th rfl ?_)
        | (refine s_leT 90 _ rfl hle ?_; refine s_call c1 [] rfl rfl rfl rfl rfl rfl rfl rfl rfl rfl ?_; refine run_ th rfl ?_)
        | (refine s_leT 85 _ rfl hle ?_; refine s_call c2 [] rfl rfl rfl rfl rfl rfl rfl rfl rfl rfl ?_; refine run_ th rfl ?_)
        | exact g_endL th Try.func6 (.inr ⟨_, rfl⟩) rfl rfl rfl (.v (.one (.lit true))) rfl
        | exact g_endL th Try.func6 (.inr ⟨_, rfl⟩) rfl rfl rfl (.refl _) rfl
        | (exfalso; revert hb; first | decide | (simp; done)))
  · have hic := is_c b p p
    rw [isB_refl hbk hpr.1 hpr.2] at hic
    repeat' (first
      | refine g_seq ?_
      | (refine g_region ?_; refine run_ th rfl ?_)
      | (refine g_drawC mix rfl rfl ?_; refine drun_ th rfl ?_)
      | (refine g_drawEC mix rfl rfl ?_; refine erun_ th rfl ?_)
      | refine SOps.nil ?_
      | refine DOps.nil ?_
      | refine EOps.nil ?_ rfl rfl
      | refine g_block ?_
      | refine g_inBlock ?_
      | refine g_skip ?_
      | refine g_exit rfl ?_
      | refine g_if_true rfl ?_
      | refine g_if_false rfl ?_
      | (refine s_split rfl rfl (fun hb => ?_) (fun hb => ?_) <;> (try simp only [decide_eq_true_eq, decide_eq_false_iff_not, Bool.not_eq_true', Bool.not_eq_false', Bool.not_eq_true, Bool.not_eq_false, Bool.not_true, Bool.not_false, Bool.false_eq_true, Bool.true_eq_false, reduceCtorEq, not_true_eq_false, not_false_eq_true, List.length_map] at hb) <;> first | (exfalso; omega) | refine run_ th rfl ?_)
      | (refine d_split rfl rfl rfl (fun hb => ?_) (fun hb => ?_) <;> (try simp only [decide_eq_true_eq, decide_eq_false_iff_not, Bool.not_eq_true', Bool.not_eq_false', Bool.not_eq_true, Bool.not_eq_false, Bool.not_true, Bool.not_false, Bool.false_eq_true, Bool.true_eq_false, reduceCtorEq, not_true_eq_false, not_false_eq_true, List.length_map] at hb) <;> first | (exfalso; omega) | refine drun_ th rfl ?_)
      | (refine g_if rfl (fun hb => ?_) (fun hb => ?_) <;> (try simp only [decide_eq_true_eq, decide_eq_false_iff_not, Bool.not_eq_true', Bool.not_eq_false', Bool.not_eq_true, Bool.not_eq_false, Bool.not_true, Bool.not_false, Bool.false_eq_true, Bool.true_eq_false, reduceCtorEq, not_true_eq_false, not_false_eq_true, List.length_map] at hb) <;> (try (exfalso; omega)))
      | (refine s_idx th rfl rfl rfl rfl rfl rfl rfl rfl rfl p.toNat _ (by omega) hatp ?_; refine run_ th rfl ?_)
      | (refine s_call hic [] rfl rfl rfl rfl rfl rfl rfl rfl rfl rfl ?_; refine run_ th rfl ?_)
      | exact g_endL th Try.func6 (.inr ⟨_, rfl⟩) rfl rfl rfl (.v (.one (.lit true))) rfl
      | exact g_endL th Try.func6 (.inr ⟨_, rfl⟩) rfl rfl rfl (.refl _) rfl)
end Go.Sy
