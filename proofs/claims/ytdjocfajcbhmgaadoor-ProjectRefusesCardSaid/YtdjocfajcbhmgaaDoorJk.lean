/- Contracts: the first example of layer 8, its protocol of numbers whose first is 2, two local types. -/
import Derived.Test.YtdjocfajcbhmgaaDoorZ24
import Derived.Test.YtdjocfajcbhmgaaDoorZ13
import Derived.Test.YtdjocfajcbhmgaaDoorBd1
set_option linter.unusedSimpArgs false
set_option linter.unusedVariables false
set_option linter.unusedSectionVars false
namespace Go.Sy
open Go.Proofs
set_option maxRecDepth 100000
attribute [local irreducible] SOps Goes DOps EOps GOps
abbrev nmA : ByteArray := ⟨#[97]⟩
abbrev nmB : ByteArray := ⟨#[98]⟩
abbrev nmC : ByteArray := ⟨#[99]⟩
def giv8 : Prt := ⟨⟨#[112]⟩, [nmA, nmB, nmC], [⟨nmA, nmB, [⟨⟨#[120]⟩, 0, ⟨#[]⟩, 2⟩, ⟨⟨#[121]⟩, 0, ⟨#[]⟩, 1⟩]⟩, ⟨nmB, nmC, [⟨⟨#[122]⟩, 0, ⟨#[]⟩, 2⟩]⟩, noPnt]⟩
def lA8 : Loc := ⟨⟨#[112, 46, 97]⟩, [⟨1, nmB, [⟨⟨#[120]⟩, 0, ⟨#[]⟩, 1⟩, ⟨⟨#[121]⟩, 0, ⟨#[]⟩, 1⟩]⟩, noTrn]⟩
theorem giv8_big : PrtBig giv8 := by
  intro x hx a ha
  simp only [giv8, List.mem_cons, List.not_mem_nil, or_false] at hx
  rcases hx with rfl | rfl | rfl
  · simp only [List.mem_cons, List.not_mem_nil, or_false] at ha; rcases ha with rfl | rfl <;> exact Nat.zero_le _
  · simp only [List.mem_cons, List.not_mem_nil, or_false] at ha; subst ha; exact Nat.zero_le _
  · cases ha
theorem giv8_ok : prtB giv8 = true := by decide
theorem giv8_a : hasB giv8.roles nmA = true := by decide
theorem giv8_c : hasB giv8.roles nmC = true := by decide
theorem put8 : putN [⟨#[120]⟩] ⟨#[121]⟩ = [⟨#[120]⟩, ⟨#[121]⟩] := asc_ext (putN_asc _ _) (by unfold Asc; simp [lt_xy]) fun z => by rw [putN_mem]; simp [or_comm]
theorem put8x : putN [] ⟨#[120]⟩ = [⟨#[120]⟩] := asc_ext (putN_asc _ _) (by unfold Asc; simp) fun z => by rw [putN_mem]; simp
theorem labs8 : labsL (pntAt giv8 0) = [⟨#[120]⟩, ⟨#[121]⟩] := by
  show putN (putN [] ⟨#[120]⟩) ⟨#[121]⟩ = _
  rw [put8x, put8]
theorem all8 : allL giv8 [0] = [⟨#[120]⟩, ⟨#[121]⟩] := by
  show (labsL (pntAt giv8 0)).foldl putN [] = _
  rw [labs8]
  show putN (putN [] ⟨#[120]⟩) ⟨#[121]⟩ = _
  rw [put8x, put8]
theorem look8_0 : lookS giv8 nmA [] [0] = ((0, 0), [[0]]) := by decide
theorem look8_1 : lookS giv8 nmA [[0]] [2] = ((1, 0), [[0], []]) := by decide
theorem look8_2 : lookS giv8 nmA [[0], []] [1] = ((1, 0), [[0], []]) := by decide
theorem turn8_0 : turnS giv8 nmA [[0]] [0] = ((⟨1, nmB, [⟨⟨#[120]⟩, 0, ⟨#[]⟩, 1⟩, ⟨⟨#[121]⟩, 0, ⟨#[]⟩, 1⟩]⟩, 0), [[0], []]) := by
  have ha : armsS giv8 nmA (armsN giv8 [0]) [⟨#[120]⟩, ⟨#[121]⟩] [] [[0]] = (([⟨⟨#[120]⟩, 0, ⟨#[]⟩, 1⟩, ⟨⟨#[121]⟩, 0, ⟨#[]⟩, 1⟩], 0), [[0], []]) := by
    have n1 : nextN (armsN giv8 [0]) ⟨#[120]⟩ = [2] := by decide
    have n2 : nextN (armsN giv8 [0]) ⟨#[121]⟩ = [1] := by decide
    have c1 : carA (armsN giv8 [0]) ⟨#[120]⟩ = (0, ⟨#[]⟩) := by decide
    have c2 : carA (armsN giv8 [0]) ⟨#[121]⟩ = (0, ⟨#[]⟩) := by decide
    rw [armsS, n1, look8_1, if_pos rfl, armsS, n2, look8_2, if_pos rfl, armsS, c1, c2]; rfl
  have h1 : ([0].any fun x => decide (sideAt giv8 nmA x ≠ sideAt giv8 nmA 0)) = false := by decide
  have h2 : ((sideAt giv8 nmA 0).1 && [0].any fun x => decide (labsL (pntAt giv8 x) ≠ allL giv8 [0])) = false := by
    rw [all8]; simp [labs8]
  have h3 : clashB (armsN giv8 [0]) = false := by decide
  unfold turnS
  simp only
  rw [h1, h2, all8, h3, ha]
  rfl
theorem role8_a : roleE giv8 nmA = (lA8, 0) := by
  have hr : roleS giv8 nmA 41 0 [] [[0]] = (lA8.turns, 0) := by
    rw [roleS]
    simp only [List.getElem?_cons_zero]
    rw [turn8_0, if_pos rfl, roleS]
    simp only [List.getElem?_cons_zero, List.getElem?_cons_succ, Nat.zero_add]
    rw [show turnS giv8 nmA [[0], []] [] = ((noTrn, 0), [[0], []]) from rfl, if_pos rfl, roleS]
    rfl
  unfold roleE
  rw [giv8_ok, giv8_a, look8_0]
  simp only [Bool.and_self, if_true]
  rw [hr]
  show ((⟨dotN giv8.name nmA, lA8.turns⟩ : Loc), (0 : Int)) = _
  rw [show dotN giv8.name nmA = ⟨#[112, 46, 97]⟩ by decide]; rfl
theorem role8_c : roleE giv8 nmC = (noLoc, 801) := by
  have h : lookS giv8 nmC [] [0] = ((0, 801), []) := by decide
  unfold roleE
  rw [giv8_ok, giv8_c, h]
  rfl
theorem givR_c0 : Con Tryd.prog 15 [] [] (.v (Ag [.str ⟨#[112]⟩, .slice true 1 [[.str nmA], [.str nmB], [.str nmC]], .slice true 3 [[.str nmA, .str nmB, .slice true 4 [[.str ⟨#[120]⟩, .int .i64 0, .str ⟨#[]⟩, .int .i64 2], [.str ⟨#[121]⟩, .int .i64 0, .str ⟨#[]⟩, .int .i64 1]]], [.str nmB, .str nmC, .slice true 4 [[.str ⟨#[122]⟩, .int .i64 0, .str ⟨#[]⟩, .int .i64 2]]], [.str ⟨#[]⟩, .str ⟨#[]⟩, .nils]]])) [] := by
  refine con_of (c := _) Tryd.func15 rfl rfl rfl (by decide) fun w M0 H Z => ?_
  repeat' (first
   | refine gc_ rfl ?_
   | (refine g_region ?_; refine run_ th rfl ?_)
   | (refine g_drawC mix rfl rfl ?_; refine drun_ th rfl ?_)
   | (refine g_drawEC mix rfl rfl ?_; refine erun_ th rfl ?_)
   | refine SOps.nil ?_
   | refine DOps.nil ?_
   | refine EOps.nil ?_ rfl rfl
   | (refine s_split rfl rfl (fun hb => ?_) (fun hb => ?_) <;> (try simp only [hbL] at hb) <;> first | (exfalso; omega) | refine run_ th rfl ?_)
   | (refine d_split rfl rfl rfl (fun hb => ?_) (fun hb => ?_) <;> (try simp only [hbL] at hb) <;> first | (exfalso; omega) | refine drun_ th rfl ?_)
   | (refine g_if rfl (fun hb => ?_) (fun hb => ?_) <;> (try simp only [hbL] at hb) <;> (try (exfalso; omega)))
   | refine g_endL th Tryd.func15 (.inr ⟨_, rfl⟩) rfl rfl rfl ?_ rfl
   | (refine s_freeze 1 rfl rfl ?_; refine run_ th rfl ?_)
   | (refine s_freeze 4 rfl rfl ?_; refine run_ th rfl ?_)
   | (refine s_freeze 7 rfl rfl ?_; refine run_ th rfl ?_)
   | (refine s_freeze 10 rfl rfl ?_; refine run_ th rfl ?_)
   | (refine g_freeze 1 rfl rfl ?_)
   | (refine g_freeze 10 rfl rfl ?_))
  all_goals exact .refl _
theorem givR_c : Con Tryd.prog 15 [] [] (.v (Ag giv8.cs)) [] := by
  refine (givR_c0.le (res' := .v (Ag [.str ⟨#[112]⟩, namesT giv8.roles, .slice true 3 (giv8.points.map Pnt.cs)])) ?_).le ?_
  · refine .v (.agg (.cons (.refl _) (.cons (.c (.nn true 1 _)) (.cons (.c (le_deep ?_)) .nil))))
    exact .cons (.cons (.refl _) (.cons (.refl _) (.cons (.nn true 4 _) .nil))) (.cons (.cons (.refl _) (.cons (.refl _) (.cons (.nn true 4 _) .nil))) (.cons (.cons (.refl _) (.cons (.refl _) (.cons (.nil 4) .nil))) .nil))
  · exact .v (.agg (.cons (.refl _) (.cons (.refl _) (.cons (.c (.nn true 3 _)) .nil))))
set_option maxHeartbeats 8000000 in
theorem first8_c : Con Tryd.prog 5 [] [] (Rv (.bool true)) [] := by
  have ha := role_c giv8 giv8_big nmA
  have hc := role_c giv8 giv8_big nmC
  rw [role8_a] at ha
  rw [role8_c] at hc
  have h0 : (lA8.turns.map Trn.cs)[0]? = some (Trn.cs ⟨1, nmB, [⟨⟨#[120]⟩, 0, ⟨#[]⟩, 1⟩, ⟨⟨#[121]⟩, 0, ⟨#[]⟩, 1⟩]⟩) := rfl
  have h1 : (lA8.turns.map Trn.cs)[1]? = some (Trn.cs noTrn) := rfl
  refine con_of (c := _) Tryd.func5 rfl rfl rfl (by decide) fun w M0 H Z => ?_
  repeat' (first
   | refine gc_ rfl ?_
   | (refine g_region ?_; refine run_ th rfl ?_)
   | (refine g_drawC mix rfl rfl ?_; refine drun_ th rfl ?_)
   | (refine g_drawEC mix rfl rfl ?_; refine erun_ th rfl ?_)
   | refine SOps.nil ?_
   | refine DOps.nil ?_
   | refine EOps.nil ?_ rfl rfl
   | (refine s_split rfl rfl (fun hb => ?_) (fun hb => ?_) <;> (try simp only [hbL] at hb) <;> first | (exfalso; omega) | refine run_ th rfl ?_)
   | (refine d_split rfl rfl rfl (fun hb => ?_) (fun hb => ?_) <;> (try simp only [hbL] at hb) <;> first | (exfalso; omega) | refine drun_ th rfl ?_)
   | (refine g_if rfl (fun hb => ?_) (fun hb => ?_) <;> (try simp only [hbL] at hb) <;> (try (exfalso; omega)))
   | refine g_endL th Tryd.func5 (.inr ⟨_, rfl⟩) rfl rfl rfl ?_ rfl
   | (refine s_call givR_c [] rfl rfl rfl rfl rfl rfl rfl rfl rfl rfl ?_; refine run_ th rfl ?_)
   | (refine s_call ha [] rfl rfl rfl rfl rfl rfl rfl rfl rfl rfl ?_; refine run_ th rfl ?_)
   | (refine s_call hc [] rfl rfl rfl rfl rfl rfl rfl rfl rfl rfl ?_; refine run_ th rfl ?_)
   | (refine s_idx th rfl rfl rfl rfl rfl rfl rfl rfl rfl 0 _ rfl h0 ?_; refine run_ th rfl ?_)
   | (refine s_idx th rfl rfl rfl rfl rfl rfl rfl rfl rfl 1 _ rfl h1 ?_; refine run_ th rfl ?_)
   | (refine d_idx th rfl rfl rfl rfl rfl rfl rfl rfl rfl 0 _ rfl h0 ?_; refine drun_ th rfl ?_)
   | (refine d_idx th rfl rfl rfl rfl rfl rfl rfl rfl rfl 1 _ rfl h1 ?_; refine drun_ th rfl ?_))
  all_goals first
    | exact .refl _
    | (exfalso; revert hb; simp; done)
    | (exfalso; revert hb; decide)
end Go.Sy
