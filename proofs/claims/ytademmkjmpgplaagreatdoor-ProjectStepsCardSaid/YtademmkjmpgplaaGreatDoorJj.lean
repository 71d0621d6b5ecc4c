/- Contracts: project.All. -/
import Derived.Test.YtademmkjmpgplaaGreatDoorJi
set_option linter.unusedSimpArgs false
set_option linter.unusedVariables false
set_option linter.unusedSectionVars false
namespace Go.Sy
open Go.Proofs
set_option maxRecDepth 100000
attribute [local irreducible] SOps Goes DOps EOps FOps GOps

abbrev locsC (l : List Loc) : CT := .slice false 2 (l.map Loc.cs)
abbrev allT (r : (List Loc × Int) × Int) : ST := .tup [C1 (locsC r.1.1), C1 (.int .i64 r.1.2), C1 (.int .i64 r.2)]
theorem le_noAll (i e : Int) : LeT (.tup [C1 .nils, C1 (.int .i64 i), C1 (.int .i64 e)]) (allT (([], i), e)) := .tup (.cons (.one (.c (.nil 2))) (.cons (.refl _) (.cons (.refl _) .nil)))
set_option maxHeartbeats 8000000 in
theorem all_c (p : Prt) (hB : PrtBig p) : Con Tryz.prog 15 [] [Ag p.cs] (allT (allE p)) [] := by
  have hmay := gmay_c p hB
  unfold allE
  cases hv : prtB p with
  | false =>
    rw [hv] at hmay
    rw [if_neg (by decide)]
    refine con_of (c := _) Tryz.func15 rfl rfl rfl (by decide) fun w M0 H Z => ?_
    repeat' (first
     | refine gc_ rfl ?_
     | (refine g_region ?_; refine run_ th rfl ?_)
     | (refine g_drawC mix rfl rfl ?_; refine drun_ th rfl ?_)
     | (refine g_drawEC mix rfl rfl ?_; refine erun_ th rfl ?_)
     | refine SOps.nil ?_
     | refine DOps.nil ?_
     | refine EOps.nil ?_ rfl rfl
     | (refine s_split rfl rfl (fun hb => ?_) (fun hb => ?_) <;> (try simp only [hbL] at hb) <;> first | (exfalso; omega) | refine run_ th rfl ?_)
     | (refine d_split rfl rfl rfl (fun hb => ?_) (fun hb => ?_) <;> (try simp only [hbL] at hb) <;> first | (exfalso; omega) | refine drun_ th rfl ?_)
     | (refine g_if rfl (fun hb => ?_) (fun hb => ?_) <;> (try simp only [hbL] at hb) <;> (try (exfalso; omega)))
     | refine g_endL th Tryz.func15 (.inr ⟨_, rfl⟩) rfl rfl rfl ?_ rfl
     | (refine s_call hmay [] rfl rfl rfl rfl rfl rfl rfl rfl rfl rfl ?_; refine run_ th rfl ?_))
    all_goals first
      | exact le_noAll 0 800
      | (exfalso; revert hb; simp; done)
  | true =>
    rw [hv] at hmay
    rw [if_pos rfl]
    have hpl := prt_len hv
    obtain ⟨RS, hRS⟩ : ∃ RS, RS = allS p 0 p.roles [] := ⟨_, rfl⟩
    rw [← hRS]
    refine con_of (c := _) Tryz.func15 rfl rfl rfl (by decide) fun w M0 H Z => ?_
    repeat' (first
     | refine gc_ rfl ?_
     | (refine g_region ?_; refine run_ th rfl ?_)
     | (refine g_drawC mix rfl rfl ?_; refine drun_ th rfl ?_)
     | (refine g_drawEC mix rfl rfl ?_; refine erun_ th rfl ?_)
     | refine SOps.nil ?_
     | refine DOps.nil ?_
     | refine EOps.nil ?_ rfl rfl
     | (refine s_split rfl rfl (fun hb => ?_) (fun hb => ?_) <;> (try simp only [hbL] at hb) <;> first | (exfalso; omega) | refine run_ th rfl ?_)
     | (refine d_split rfl rfl rfl (fun hb => ?_) (fun hb => ?_) <;> (try simp only [hbL] at hb) <;> first | (exfalso; omega) | refine drun_ th rfl ?_)
     | (refine g_if rfl (fun hb => ?_) (fun hb => ?_) <;> (try simp only [hbL] at hb) <;> (try (exfalso; omega)))
     | (refine s_call hmay [] rfl rfl rfl rfl rfl rfl rfl rfl rfl rfl ?_; refine run_ th rfl ?_))
    all_goals try (exfalso; revert hb; simp; done)
    refine g_adopt 5 290 32 2 rfl rfl rfl ?_
    refine g_loop2 (fun (i : Nat) (out : List Loc) => i ≤ p.roles.length ∧ out.length = i ∧ RS = allS p i (p.roles.drop i) out)
      (fun i _ => [(1, .v (.one (.ptr 1 0))), (5, .v (.one (.own 290))), (14, .v (C1 (namesT p.roles))), (15, .v (C1 (.int .i64 (p.roles.length : Int)))), (16, .v (C1 (.int .i64 (i : Int))))])
      (fun _ out => [(290, .arr false 32 2 (out.map Loc.cs)), (1, .box (p.cs.map SC.c))])
      (fun i _ => p.roles.length - i) 0 [] ⟨Nat.zero_le _, rfl, hRS⟩
      (fun a w h => h.sub (by exact ⟨⟨_, rfl, .refl _⟩, ⟨_, rfl, .refl _⟩, ⟨_, rfl, .refl _⟩, ⟨_, rfl, le_int (by simp)⟩, ⟨_, rfl, le_int rfl⟩, trivial⟩)
        (by exact ⟨⟨_, rfl, le_arr rfl⟩, ⟨_, rfl, .refl _⟩, trivial⟩) rfl rfl rfl) (fun i out hi ih => ?_)
    obtain ⟨hi, hol, hst⟩ := hi
    by_cases hlt : i < p.roles.length
    · have hx : (p.roles.map fun s => [CT.str s])[i]? = some [.str p.roles[i]] := by simp [hlt]
      have hrole := role_c p hB p.roles[i]
      rw [List.drop_eq_getElem_cons hlt, allS] at hst
      obtain ⟨⟨l1, e1⟩, hR⟩ : ∃ R, R = roleE p p.roles[i] := ⟨_, rfl⟩
      rw [← hR] at hrole hst
      simp only at hrole hst
      have hih := fun (h0 : e1 = 0) => ih (i + 1) (out ++ [l1]) ⟨hlt, by simp [hol], by rw [hst, if_pos h0]⟩ (by omega)
      have herr := fun (h0 : ¬ e1 = 0) => (show RS = (([], (i : Int)), e1) by rw [hst, if_neg h0])
      clear ih hst
      repeat' (first
       | refine gc_ rfl ?_
       | (refine g_region ?_; refine run_ th rfl ?_)
       | (refine g_drawC mix rfl rfl ?_; refine drun_ th rfl ?_)
       | (refine g_drawEC mix rfl rfl ?_; refine erun_ th rfl ?_)
       | refine SOps.nil ?_
       | refine DOps.nil ?_
       | refine EOps.nil ?_ rfl rfl
       | (refine s_split rfl rfl (fun hb => ?_) (fun hb => ?_) <;> (try simp only [hbL] at hb) <;> first | (exfalso; omega) | refine run_ th rfl ?_)
       | (refine d_split rfl rfl rfl (fun hb => ?_) (fun hb => ?_) <;> (try simp only [hbL] at hb) <;> first | (exfalso; omega) | refine drun_ th rfl ?_)
       | (refine g_if rfl (fun hb => ?_) (fun hb => ?_) <;> (try simp only [hbL] at hb) <;> (try (exfalso; omega)))
       | (refine s_idx th rfl rfl rfl rfl rfl rfl rfl rfl rfl i _ rfl hx ?_; refine run_ th rfl ?_)
       | (refine s_call hrole [] rfl rfl rfl rfl rfl rfl rfl rfl rfl rfl ?_; refine run_ th rfl ?_)
       | (refine s_append th rfl rfl rfl rfl rfl rfl rfl rfl rfl rfl rfl rfl rfl rfl rfl (by constructor <;> simp <;> omega) ?_; refine run_ th rfl ?_)
       | (refine s_add rfl rfl rfl rfl rfl rfl (by omega) ?_; refine run_ th rfl ?_))
      · rw [herr (by assumption)]
        refine g_endL th Tryz.func15 (.inr ⟨_, rfl⟩) rfl rfl rfl ?_ rfl
        exact le_noAll _ _
      · exact g_sub (by exact ⟨⟨_, rfl, .refl _⟩, ⟨_, rfl, .refl _⟩, ⟨_, rfl, .refl _⟩, ⟨_, rfl, .refl _⟩, ⟨_, rfl, le_int (by omega)⟩, trivial⟩)
          (by exact ⟨⟨_, rfl, le_arr (by simp)⟩, ⟨_, rfl, .refl _⟩, trivial⟩) rfl rfl rfl (hih (by assumption))
    · rw [List.drop_eq_nil_of_le (by omega), allS] at hst
      clear ih
      rw [hst]
      repeat' (first
       | (refine g_freeze 290 rfl rfl ?_)
       | refine gc_ rfl ?_
       | (refine g_region ?_; refine run_ th rfl ?_)
       | (refine g_drawC mix rfl rfl ?_; refine drun_ th rfl ?_)
       | (refine g_drawEC mix rfl rfl ?_; refine erun_ th rfl ?_)
       | refine SOps.nil ?_
       | refine DOps.nil ?_
       | refine EOps.nil ?_ rfl rfl
       | (refine s_split rfl rfl (fun hb => ?_) (fun hb => ?_) <;> (try simp only [hbL] at hb) <;> first | (exfalso; omega) | refine run_ th rfl ?_)
       | (refine d_split rfl rfl rfl (fun hb => ?_) (fun hb => ?_) <;> (try simp only [hbL] at hb) <;> first | (exfalso; omega) | refine drun_ th rfl ?_)
       | (refine g_if rfl (fun hb => ?_) (fun hb => ?_) <;> (try simp only [hbL] at hb) <;> (try (exfalso; omega))))
      refine g_endL th Tryz.func15 (.inr ⟨_, rfl⟩) rfl rfl rfl ?_ rfl
      exact .refl _
end Go.Sy
