/- Contracts: EqualRow. -/
import Derived.Test.YthjpcefjgmklfaaDoorQl
set_option linter.unusedSimpArgs false
set_option linter.unusedVariables false
set_option linter.unusedSectionVars false
namespace Go.Sy
open Go.Proofs
set_option maxRecDepth 100000
attribute [local irreducible] SOps Goes DOps EOps

theorem least_fix {α : Type} [DecidableEq α] {l : List α} {i k : Nat} (h : (leastOf l)[i]? = some k) : (leastOf l)[k]? = some k := by
  have hi := (List.getElem?_eq_some_iff.1 h).1
  rw [leastOf_length] at hi
  rw [leastOf_get hi] at h
  have h1 := Option.some.inj h
  have h2 : l.idxOf l[i] ≤ i := idxOf_first hi
  have hk : k < l.length := by omega
  have h3 : l[l.idxOf l[i]]'(by omega) = l[i] := List.getElem_idxOf (by omega)
  rw [leastOf_get hk]
  simp only [← h1, h3]
section
variable {b : Bk} (hb : bookB b = true) {x : Int} (h0 : 0 ≤ x) (h1 : x < b.nodes.length)
include hb h0 h1
theorem cls_at : (classesS b)[x.toNat]? = some (cl (classesS b) x) := by
  have hl := cls_length hb
  have : x.toNat < (classesS b).length := by omega
  simp [cl, this]
theorem cls_lt : cl (classesS b) x < b.nodes.length := by
  have := cls_le hb (cls_at hb h0 h1)
  omega
theorem cls_leI : ((cl (classesS b) x : Nat) : Int) ≤ x := by
  have := cls_le hb (cls_at hb h0 h1)
  omega
theorem cls_fix : cl (classesS b) ((cl (classesS b) x : Nat) : Int) = cl (classesS b) x := by
  have h2 := cls_at hb h0 h1
  rw [← cls_least hb] at h2
  have h3 := least_fix h2
  rw [cls_least hb] at h3
  simp [cl] at h3 ⊢
  rw [h3]; rfl
end
theorem eqB_eq {b : Bk} (hb : bookB b = true) {x y : Int} (h0 : 0 ≤ x) (h1 : x < b.nodes.length) (h2 : 0 ≤ y) (h3 : y < b.nodes.length) : eqB b x y = decide (cl (classesS b) x = cl (classesS b) y) := by
  simp [eqB, hb, h0, h1, h2, h3]
abbrev rawP (b : Bk) (x : Int) : Int := IntKind.i64.wrap ((IntKind.u64.wrap x).tmod (IntKind.u64.wrap ((b.nodes.map Nd.cs).length : Int)))
theorem rawP_range {b : Bk} (h1 : 1 ≤ b.nodes.length) (h8 : b.nodes.length ≤ 60) (x : Int) : 0 ≤ rawP b x ∧ rawP b x < b.nodes.length := by
  rw [rawP, List.length_map]
  exact pick_v (by omega) (by omega)

set_option maxHeartbeats 16000000 in
theorem equalRow_c (l : List Int) (x y z : Int) (hbig : (l.length + 1) * 8 ≤ 140737488355328) :
    Con Tryd.prog 4 [] [C1 (intsT l), C1 (.int .i64 x), C1 (.int .i64 y), C1 (.int .i64 z)] (Rv (.bool true)) [] := by
  refine con_of (c := _) Tryd.func4 rfl rfl rfl (by decide) fun w M0 H Z => ?_
  repeat' (first
    | (refine g_drawA mix rfl rfl rfl rfl rfl rfl ?_; refine drun_ th rfl ?_)
    | (refine DOps.nil ?_; refine run_ th rfl ?_)
    | refine g_seq ?_
    | (refine g_region ?_; refine run_ th rfl ?_)
    | (refine g_drawC mix rfl rfl ?_; refine drun_ th rfl ?_)
    | (refine g_drawEC mix rfl rfl ?_; refine erun_ th rfl ?_)
    | refine SOps.nil ?_
    | refine DOps.nil ?_
    | refine EOps.nil ?_ rfl rfl
    | refine g_block ?_
    | refine g_inBlock ?_
    | refine g_skip ?_
    | refine g_exit rfl ?_
    | refine g_if_true rfl ?_
    | refine g_if_false rfl ?_
    | (refine s_split rfl rfl (fun hb => ?_) (fun hb => ?_) <;> (try simp only [decide_eq_true_eq, decide_eq_false_iff_not, Bool.not_eq_true', Bool.not_eq_false', Bool.not_eq_true, Bool.not_eq_false, Bool.not_true, Bool.not_false, Bool.false_eq_true, Bool.true_eq_false, reduceCtorEq, not_true_eq_false, not_false_eq_true, List.length_map] at hb) <;> first | (exfalso; omega) | refine run_ th rfl ?_)
    | (refine d_split rfl rfl rfl (fun hb => ?_) (fun hb => ?_) <;> (try simp only [decide_eq_true_eq, decide_eq_false_iff_not, Bool.not_eq_true', Bool.not_eq_false', Bool.not_eq_true, Bool.not_eq_false, Bool.not_true, Bool.not_false, Bool.false_eq_true, Bool.true_eq_false, reduceCtorEq, not_true_eq_false, not_false_eq_true, List.length_map] at hb) <;> first | (exfalso; omega) | refine drun_ th rfl ?_)
    | (refine g_if rfl (fun hb => ?_) (fun hb => ?_) <;> (try simp only [decide_eq_true_eq, decide_eq_false_iff_not, Bool.not_eq_true', Bool.not_eq_false', Bool.not_eq_true, Bool.not_eq_false, Bool.not_true, Bool.not_false, Bool.false_eq_true, Bool.true_eq_false, reduceCtorEq, not_true_eq_false, not_false_eq_true, List.length_map] at hb) <;> (try (exfalso; omega)))
    | (refine s_call first10_c [] rfl rfl rfl rfl rfl rfl rfl rfl rfl rfl ?_; refine run_ th rfl ?_)
    | (refine s_call loop_c [] rfl rfl rfl rfl rfl rfl rfl rfl rfl rfl ?_; refine run_ th rfl ?_)
    | (refine s_appendF th rfl rfl rfl rfl rfl rfl rfl rfl rfl rfl rfl rfl rfl rfl (by constructor <;> simp <;> omega) ?_; refine s_freeze 18 rfl rfl ?_; refine run_ th rfl ?_)
    | (refine s_callQ (made10_c loopB (5 :: l) (by simp) (by simpa using hbig)) [] rfl rfl rfl rfl rfl rfl rfl rfl rfl (fun res hr => by obtain ⟨b, _, _, _, rfl⟩ := hr; rfl) (fun res hr => ?_); obtain ⟨b, ⟨hbk, hr2⟩, hb1, hb8, rfl⟩ := hr; refine run_ th rfl ?_)
    | (refine d_rem rfl rfl rfl rfl rfl rfl (by simp only [List.length_map]; rw [wrapU_id (by omega) (by omega)]; omega) ?_; refine drun_ th rfl ?_)
    | (exfalso; revert hb; simp; done))
  obtain ⟨p0, p1⟩ := rawP_range hb1 (by omega) x
  obtain ⟨q0, q1⟩ := rawP_range hb1 (by omega) y
  obtain ⟨r0, r1⟩ := rawP_range hb1 (by omega) z
  obtain ⟨p, hp⟩ : ∃ p, rawP b x = p := ⟨_, rfl⟩
  obtain ⟨q, hq⟩ : ∃ q, rawP b y = q := ⟨_, rfl⟩
  obtain ⟨r, hr⟩ : ∃ r, rawP b z = r := ⟨_, rfl⟩
  refine s_leT 11 (.v (C1 (.int .i64 p))) rfl (le_int hp) ?_
  refine s_leT 12 (.v (C1 (.int .i64 q))) rfl (le_int hq) ?_
  refine s_leT 13 (.v (C1 (.int .i64 r))) rfl (le_int hr) ?_
  rw [hp] at p0 p1
  rw [hq] at q0 q1
  rw [hr] at r0 r1
  have hnb : b.nodes.length ≤ 60 := by omega
  have hcls := classes_c b hnb
  have hcl := cls_length hbk
  have hxp := cl_at (l := classesS b) p0 (by omega)
  have hxq := cl_at (l := classesS b) q0 (by omega)
  have hPl := cls_lt hbk p0 p1
  have hPi := cls_leI hbk p0 p1
  have hPf := cls_fix hbk p0 p1
  have hxP := cl_at (l := classesS b) (x := ((cl (classesS b) p : Nat) : Int)) (by omega) (by omega)
  rw [hPf] at hxP
  obtain ⟨e1, he1⟩ : ∃ e, decide (cl (classesS b) p = cl (classesS b) q) = e := ⟨_, rfl⟩
  obtain ⟨e2, he2⟩ : ∃ e, decide (cl (classesS b) q = cl (classesS b) r) = e := ⟨_, rfl⟩
  obtain ⟨e3, he3⟩ : ∃ e, decide (cl (classesS b) p = cl (classesS b) r) = e := ⟨_, rfl⟩
  have hI1 : decide (((cl (classesS b) p : Nat) : Int) = ((cl (classesS b) q : Nat) : Int)) = e1 := by rw [← he1]; congr 1; simp; omega
  have htr : e1 = true → e2 = true → e3 = true := by
    intro h1 h2
    rw [h1] at he1; rw [h2] at he2
    rw [← he3]
    simp only [decide_eq_true_eq] at he1 he2 ⊢
    omega
  have spp := same_c b hnb p p; rw [eqB_eq hbk p0 p1 p0 p1, decide_eq_true rfl] at spp
  have spq := same_c b hnb p q; rw [eqB_eq hbk p0 p1 q0 q1, he1] at spq
  have sqp := same_c b hnb q p; rw [eqB_eq hbk q0 q1 p0 p1, show decide (cl (classesS b) q = cl (classesS b) p) = e1 by rw [← he1]; congr 1; simp; omega] at sqp
  have sqr := same_c b hnb q r; rw [eqB_eq hbk q0 q1 r0 r1, he2] at sqr
  have spr := same_c b hnb p r; rw [eqB_eq hbk p0 p1 r0 r1, he3] at spr
  have spc := same_c b hnb p ((cl (classesS b) p : Nat) : Int); rw [eqB_eq hbk p0 p1 (by omega) (by omega), hPf, decide_eq_true rfl] at spc
  generalize classesS b = C at *
  clear he1 he2 he3
  cases e1 <;> cases e2 <;> cases e3
  all_goals first
    | (exfalso; revert htr; simp; done)
    | skip
  all_goals
    repeat' (first
      | (refine g_drawA mix rfl rfl rfl rfl rfl rfl ?_; refine drun_ th rfl ?_)
      | (refine DOps.nil ?_; refine run_ th rfl ?_)
      | refine g_seq ?_
      | (refine g_region ?_; refine run_ th rfl ?_)
      | (refine g_drawC mix rfl rfl ?_; refine drun_ th rfl ?_)
      | (refine g_drawEC mix rfl rfl ?_; refine erun_ th rfl ?_)
      | refine SOps.nil ?_
      | refine DOps.nil ?_
      | refine EOps.nil ?_ rfl rfl
      | refine g_block ?_
      | refine g_inBlock ?_
      | refine g_skip ?_
      | refine g_exit rfl ?_
      | refine g_if_true rfl ?_
      | refine g_if_false rfl ?_
      | (refine s_split rfl rfl (fun hb => ?_) (fun hb => ?_) <;> (try simp only [decide_eq_true_eq, decide_eq_false_iff_not, Bool.not_eq_true', Bool.not_eq_false', Bool.not_eq_true, Bool.not_eq_false, Bool.not_true, Bool.not_false, Bool.false_eq_true, Bool.true_eq_false, reduceCtorEq, not_true_eq_false, not_false_eq_true, List.length_map] at hb) <;> first | (exfalso; omega) | refine run_ th rfl ?_)
      | (refine d_split rfl rfl rfl (fun hb => ?_) (fun hb => ?_) <;> (try simp only [decide_eq_true_eq, decide_eq_false_iff_not, Bool.not_eq_true', Bool.not_eq_false', Bool.not_eq_true, Bool.not_eq_false, Bool.not_true, Bool.not_false, Bool.false_eq_true, Bool.true_eq_false, reduceCtorEq, not_true_eq_false, not_false_eq_true, List.length_map] at hb) <;> first | (exfalso; omega) | refine drun_ th rfl ?_)
      | (refine g_if rfl (fun hb => ?_) (fun hb => ?_) <;> (try simp only [decide_eq_true_eq, decide_eq_false_iff_not, Bool.not_eq_true', Bool.not_eq_false', Bool.not_eq_true, Bool.not_eq_false, Bool.not_true, Bool.not_false, Bool.false_eq_true, Bool.true_eq_false, reduceCtorEq, not_true_eq_false, not_false_eq_true, List.length_map] at hb) <;> (try (exfalso; omega)))
      | refine g_endL th Tryd.func4 (.inr ⟨_, rfl⟩) rfl rfl rfl ?_ rfl
      | (refine s_call hcls [] rfl rfl rfl rfl rfl rfl rfl rfl rfl rfl ?_; refine run_ th rfl ?_)
      | (refine d_call spp [] rfl rfl rfl rfl rfl rfl rfl rfl rfl rfl rfl ?_; refine drun_ th rfl ?_)
      | (refine d_call spq [] rfl rfl rfl rfl rfl rfl rfl rfl rfl rfl rfl ?_; refine drun_ th rfl ?_)
      | (refine d_call sqp [] rfl rfl rfl rfl rfl rfl rfl rfl rfl rfl rfl ?_; refine drun_ th rfl ?_)
      | (refine d_call sqr [] rfl rfl rfl rfl rfl rfl rfl rfl rfl rfl rfl ?_; refine drun_ th rfl ?_)
      | (refine d_call spr [] rfl rfl rfl rfl rfl rfl rfl rfl rfl rfl rfl ?_; refine drun_ th rfl ?_)
      | (refine d_call spc [] rfl rfl rfl rfl rfl rfl rfl rfl rfl rfl rfl ?_; refine drun_ th rfl ?_)
      | (refine d_idx th rfl rfl rfl rfl rfl rfl rfl rfl rfl (p.toNat) _ (by omega) hxp ?_; refine drun_ th rfl ?_)
      | (refine d_idx th rfl rfl rfl rfl rfl rfl rfl rfl rfl (q.toNat) _ (by omega) hxq ?_; refine drun_ th rfl ?_)
      | (refine d_idx th rfl rfl rfl rfl rfl rfl rfl rfl rfl (Int.toNat ((cl C p : Nat) : Int)) _ (by omega) hxP ?_; refine drun_ th rfl ?_)
      | (exfalso; revert hb; simp; done))
  all_goals first
    | exact .refl _
    | (exfalso; revert hb; rw [hI1]; decide)
end Go.Sy
