/- The plain law of ProjectRefuses: what the role c sees of the six protocols. -/
import Derived.Test.YtdjocfajcbhmgaaDoorJk
import Derived.Test.YtdjocfajcbhmgaaDoorJm
set_option linter.unusedSimpArgs false
set_option linter.unusedVariables false
set_option linter.unusedSectionVars false
namespace Go.Sy
abbrev nmX : ByteArray := ⟨#[120]⟩
abbrev nmY : ByteArray := ⟨#[121]⟩
abbrev arm6 (s : ByteArray) (k : Int) : Arm := ⟨s, k, ⟨#[]⟩, 3⟩
def pnt6 : Pnt := ⟨nmA, nmB, [⟨nmX, 0, ⟨#[]⟩, 1⟩, ⟨nmY, 0, ⟨#[]⟩, 2⟩]⟩
def pr6 (one two : Pnt) : Prt := ⟨⟨#[112]⟩, [nmA, nmB, nmC], [pnt6, one, two, noPnt]⟩
theorem arm6_ok {s : ByteArray} (hs : nameB s = true) {k : Int} (hk : 0 ≤ k ∧ k < 5) : armsOK 4 [arm6 s k] = true := by
  unfold armsOK
  simp only [List.all_cons, List.all_nil, armB, carB, hs]
  rw [if_neg (by omega), decide_eq_true hk.1, decide_eq_true hk.2]
  simp
theorem pnt6_ok {f t : ByteArray} {l : List Arm} (hf : decide (0 ≤ placeI [nmA, nmB, nmC] f) = true) (ht : decide (0 ≤ placeI [nmA, nmB, nmC] t) = true) (hne : f ≠ t) (hl : armsOK 4 l = true) : pntB [nmA, nmB, nmC] 4 ⟨f, t, l⟩ = true := by
  unfold pntB
  simp only
  rw [hf, ht, hl, decide_eq_true hne]; simp
theorem pr6_ok {one two : Pnt} (h1 : pntB [nmA, nmB, nmC] 4 one = true) (h2 : pntB [nmA, nmB, nmC] 4 two = true) : prtB (pr6 one two) = true := by
  simp only [prtB, pr6, Bool.and_eq_true, List.all_eq_true, decide_eq_true_eq]
  refine ⟨by decide, rfl, rfl, by decide, fun x hx => ?_, by simp, by simp, fun x hx => ?_⟩
  · simp only [List.mem_cons, List.not_mem_nil, or_false] at hx
    rcases hx with rfl | rfl | rfl <;> decide
  · simp only [List.mem_cons, List.not_mem_nil, or_false] at hx
    rcases hx with rfl | rfl | rfl | rfl
    · exact (by decide : pntB [nmA, nmB, nmC] 4 pnt6 = true)
    · exact h1
    · exact h2
    · exact (by decide : pntB [nmA, nmB, nmC] 4 noPnt = true)
theorem pr6_big {one two : Pnt} (h1 : ∀ a ∈ one.arms, a.name = ⟨#[]⟩) (h2 : ∀ a ∈ two.arms, a.name = ⟨#[]⟩) : PrtBig (pr6 one two) := fun x hx a ha => by
  simp only [pr6, List.mem_cons, List.not_mem_nil, or_false] at hx
  have h0 : ∀ {a : Arm}, a.name = ⟨#[]⟩ → a.name.size ≤ bigS := fun h => by rw [h]; exact Nat.zero_le _
  rcases hx with rfl | rfl | rfl | rfl
  · simp only [pnt6, List.mem_cons, List.not_mem_nil, or_false] at ha
    rcases ha with rfl | rfl <;> exact h0 rfl
  · exact h0 (h1 a ha)
  · exact h0 (h2 a ha)
  · cases ha
theorem nob6 (one two : Pnt) : roleE (pr6 one two) ⟨#[110, 111, 98, 111, 100, 121]⟩ = (noLoc, 800) :=
  roleE_form (by rw [show hasB (pr6 one two).roles ⟨#[110, 111, 98, 111, 100, 121]⟩ = false from (by decide : hasB [nmA, nmB, nmC] ⟨#[110, 111, 98, 111, 100, 121]⟩ = false), Bool.and_false]; simp)
section
variable {s : ByteArray}
theorem role6_turn {one two : Pnt} (hv : prtB (pr6 one two) = true) (h1 : lookS (pr6 one two) nmC [] [0] = ((0, 0), [[1, 2]])) {e : Int} (he : e ≠ 0) {t : Trn} {S : List (List Int)} (h2 : turnS (pr6 one two) nmC [[1, 2]] [1, 2] = ((t, e), S)) : roleE (pr6 one two) nmC = (noLoc, e) := by
  have hr : roleS (pr6 one two) nmC 41 0 [] [[1, 2]] = ([], e) := by
    rw [roleS]
    simp only [List.getElem?_cons_zero]
    rw [h2, if_neg he]
  unfold roleE
  rw [hv, show hasB (pr6 one two).roles nmC = true from (by decide : hasB [nmA, nmB, nmC] nmC = true), h1]
  simp only [Bool.and_self, if_true]
  rw [hr, if_neg he]
theorem role6_0 (hs : nameB s = true) : roleE (pr6 ⟨nmB, nmC, [arm6 s 0]⟩ noPnt) nmC = (noLoc, 801) := by
  have hv := pr6_ok (two := noPnt) (pnt6_ok (f := nmB) (t := nmC) (by decide) (by decide) (by decide) (arm6_ok hs (k := 0) (by decide))) (by decide)
  have hl : lookS (pr6 ⟨nmB, nmC, [arm6 s 0]⟩ noPnt) nmC [] [0] = ((0, 801), []) := rfl
  unfold roleE
  rw [hv, show hasB (pr6 ⟨nmB, nmC, [arm6 s 0]⟩ noPnt).roles nmC = true from (by decide : hasB [nmA, nmB, nmC] nmC = true), hl]
  rfl
theorem role6_1 (hs : nameB s = true) : roleE (pr6 ⟨nmB, nmC, [arm6 s 0]⟩ ⟨nmC, nmB, [arm6 s 0]⟩) nmC = (noLoc, 802) := by
  have ha := arm6_ok hs (k := 0) (by decide)
  have hv := pr6_ok (pnt6_ok (f := nmB) (t := nmC) (by decide) (by decide) (by decide) ha) (pnt6_ok (f := nmC) (t := nmB) (by decide) (by decide) (by decide) ha)
  exact role6_turn hv rfl (by decide) (t := noTrn) (S := [[1, 2]]) rfl
theorem role6_2 (hs : nameB s = true) : roleE (pr6 ⟨nmB, nmC, [arm6 s 0]⟩ ⟨nmA, nmC, [arm6 s 0]⟩) nmC = (noLoc, 802) := by
  have ha := arm6_ok hs (k := 0) (by decide)
  have hv := pr6_ok (pnt6_ok (f := nmB) (t := nmC) (by decide) (by decide) (by decide) ha) (pnt6_ok (f := nmA) (t := nmC) (by decide) (by decide) (by decide) ha)
  exact role6_turn hv rfl (by decide) (t := noTrn) (S := [[1, 2]]) rfl
theorem put1 (x : ByteArray) : putN [] x = [x] := asc_ext (putN_asc _ _) (by unfold Asc; simp) fun z => by rw [putN_mem]; simp
theorem role6_3 (hs : nameB s = true) (hy : s ≠ nmY) : roleE (pr6 ⟨nmC, nmB, [arm6 s 0]⟩ ⟨nmC, nmB, [arm6 nmY 0]⟩) nmC = (noLoc, 803) := by
  have ha := arm6_ok hs (k := 0) (by decide)
  have hv := pr6_ok (pnt6_ok (f := nmC) (t := nmB) (by decide) (by decide) (by decide) ha) (pnt6_ok (f := nmC) (t := nmB) (by decide) (by decide) (by decide) (arm6_ok (s := nmY) (by decide) (k := 0) (by decide)))
  refine role6_turn hv rfl (by decide) (t := noTrn) (S := [[1, 2]]) ?_
  have h1 : labsL (pntAt (pr6 ⟨nmC, nmB, [arm6 s 0]⟩ ⟨nmC, nmB, [arm6 nmY 0]⟩) 1) = [s] := put1 s
  have h2 : nmY ∈ allL (pr6 ⟨nmC, nmB, [arm6 s 0]⟩ ⟨nmC, nmB, [arm6 nmY 0]⟩) [1, 2] := allL_mem.2 ⟨arm6 nmY 0, armsN_mem.2 ⟨2, by simp, by show _ ∈ [arm6 nmY 0]; simp⟩, rfl⟩
  have hs1 : ([1, 2].any fun x => decide (sideAt (pr6 ⟨nmC, nmB, [arm6 s 0]⟩ ⟨nmC, nmB, [arm6 nmY 0]⟩) nmC x ≠ sideAt (pr6 ⟨nmC, nmB, [arm6 s 0]⟩ ⟨nmC, nmB, [arm6 nmY 0]⟩) nmC 1)) = false := rfl
  have hs2 : (sideAt (pr6 ⟨nmC, nmB, [arm6 s 0]⟩ ⟨nmC, nmB, [arm6 nmY 0]⟩) nmC 1).1 = true := rfl
  have hne : labsL (pntAt (pr6 ⟨nmC, nmB, [arm6 s 0]⟩ ⟨nmC, nmB, [arm6 nmY 0]⟩) 1) ≠ allL (pr6 ⟨nmC, nmB, [arm6 s 0]⟩ ⟨nmC, nmB, [arm6 nmY 0]⟩) [1, 2] := fun e => by
    rw [← e, h1] at h2
    exact hy (List.mem_singleton.1 h2).symm
  unfold turnS
  simp only
  rw [hs1, hs2, if_neg (by simp), List.any_cons, decide_eq_true hne]
  rfl
theorem role6_4 (hs : nameB s = true) : roleE (pr6 ⟨nmB, nmC, [arm6 s 0]⟩ ⟨nmB, nmC, [arm6 s 2]⟩) nmC = (noLoc, 804) := by
  have ha := arm6_ok hs (k := 0) (by decide)
  have hv := pr6_ok (pnt6_ok (f := nmB) (t := nmC) (by decide) (by decide) (by decide) ha) (pnt6_ok (f := nmB) (t := nmC) (by decide) (by decide) (by decide) (arm6_ok hs (k := 2) (by decide)))
  refine role6_turn hv rfl (by decide) (t := noTrn) (S := [[1, 2]]) ?_
  generalize hp : pr6 ⟨nmB, nmC, [arm6 s 0]⟩ ⟨nmB, nmC, [arm6 s 2]⟩ = p at *
  have hall : allL p [1, 2] = [s] := by
    refine asc_ext (allL_asc _ _) (by unfold Asc; simp) fun z => ?_
    rw [allL_mem, ← hp]
    constructor
    · rintro ⟨a, h, rfl⟩
      obtain ⟨x, hx, h⟩ := armsN_mem.1 h
      simp only [List.mem_cons, List.not_mem_nil, or_false] at hx
      rcases hx with rfl | rfl
      · rw [List.mem_singleton.1 (show a ∈ [arm6 s 0] from h)]; simp
      · rw [List.mem_singleton.1 (show a ∈ [arm6 s 2] from h)]; simp
    · intro h
      rw [List.mem_singleton.1 h]
      exact ⟨arm6 s 0, armsN_mem.2 ⟨1, by simp, by show _ ∈ [arm6 s 0]; simp⟩, rfl⟩
  have hs1 : ([1, 2].any fun x => decide (sideAt p nmC x ≠ sideAt p nmC 1)) = false := by rw [← hp]; rfl
  have hs2 : (sideAt p nmC 1).1 = false := by rw [← hp]; rfl
  have hcl : clashB (armsN p [1, 2]) = true := by
    rw [clash_iff]
    exact ⟨arm6 s 0, by rw [← hp]; exact armsN_mem.2 ⟨1, by simp, by show _ ∈ [arm6 s 0]; simp⟩, arm6 s 2, by rw [← hp]; exact armsN_mem.2 ⟨2, by simp, by show _ ∈ [arm6 s 2]; simp⟩, rfl, (by decide : ((0 : Int), (⟨#[]⟩ : ByteArray)) ≠ (2, ⟨#[]⟩))⟩
  unfold turnS
  simp only
  rw [hs1, hs2, hall, hcl]
  simp
theorem role6_5 (hs : nameB s = true) (hy : s ≠ nmY) : ∃ l, roleE (pr6 ⟨nmB, nmC, [arm6 s 0]⟩ ⟨nmB, nmC, [arm6 nmY 0]⟩) nmC = (l, 0) ∧ l.turns.length = 2 := by
  have ha := arm6_ok hs (k := 0) (by decide)
  have hv := pr6_ok (pnt6_ok (f := nmB) (t := nmC) (by decide) (by decide) (by decide) ha) (pnt6_ok (f := nmB) (t := nmC) (by decide) (by decide) (by decide) (arm6_ok (s := nmY) (by decide) (k := 0) (by decide)))
  obtain ⟨p, hp⟩ : ∃ p, p = pr6 ⟨nmB, nmC, [arm6 s 0]⟩ ⟨nmB, nmC, [arm6 nmY 0]⟩ := ⟨_, rfl⟩
  have h0 : lookS p nmC [] [0] = ((0, 0), [[1, 2]]) := by rw [hp]; rfl
  have hl1 : lookS p nmC [[1, 2]] [3] = ((1, 0), [[1, 2], []]) := by rw [hp]; rfl
  have hl2 : lookS p nmC [[1, 2], []] [3] = ((1, 0), [[1, 2], []]) := by rw [hp]; rfl
  have hm : ∀ z, z ∈ allL p [1, 2] ↔ z = s ∨ z = nmY := fun z => by
    rw [allL_mem, hp]
    constructor
    · rintro ⟨a, h, rfl⟩
      obtain ⟨x, hx, h⟩ := armsN_mem.1 h
      simp only [List.mem_cons, List.not_mem_nil, or_false] at hx
      rcases hx with rfl | rfl
      · rw [List.mem_singleton.1 (show a ∈ [arm6 s 0] from h)]; exact .inl rfl
      · rw [List.mem_singleton.1 (show a ∈ [arm6 nmY 0] from h)]; exact .inr rfl
    · rintro (rfl | rfl)
      · exact ⟨arm6 z 0, armsN_mem.2 ⟨1, by simp, by show _ ∈ [arm6 z 0]; simp⟩, rfl⟩
      · exact ⟨arm6 nmY 0, armsN_mem.2 ⟨2, by simp, by show _ ∈ [arm6 nmY 0]; simp⟩, rfl⟩
  have hlen : (allL p [1, 2]).length ≤ 6 := by
    have := nodup_sub (asc_nodup (allL_asc p [1, 2])) (m := [s, nmY]) fun z hz => by rcases (hm z).1 hz with rfl | rfl <;> simp
    exact Nat.le_trans this (show 2 ≤ 6 by decide)
  have hne : allL p [1, 2] ≠ [] := fun e => by have := (hm s).2 (.inl rfl); rw [e] at this; cases this
  have hnext : ∀ z ∈ allL p [1, 2], nextN (armsN p [1, 2]) z = [3] := fun z hz => by
    have harr : armsN p [1, 2] = [arm6 s 0, arm6 nmY 0] := by rw [hp]; rfl
    unfold nextN
    rw [harr]
    rcases (hm z).1 hz with rfl | rfl
    · simp [Ne.symm hy]
    · simp [hy]
  have key : ∀ (ls : List ByteArray) (out : List Arm) (S : List (List Int)), (∀ z ∈ ls, z ∈ allL p [1, 2]) → (S = [[1, 2]] ∨ S = [[1, 2], []]) → (armsS p nmC (armsN p [1, 2]) ls out S).1.2 = 0 ∧ ((armsS p nmC (armsN p [1, 2]) ls out S).2 = [[1, 2], []] ∨ (ls = [] ∧ (armsS p nmC (armsN p [1, 2]) ls out S).2 = S)) := by
    intro ls
    induction ls with
    | nil => intro out S _ _; exact ⟨rfl, .inr ⟨rfl, rfl⟩⟩
    | cons z ls ih =>
      intro out S hz hS
      rw [armsS, hnext z (hz z List.mem_cons_self)]
      have hlk : lookS p nmC S [3] = ((1, 0), [[1, 2], []]) := by rcases hS with rfl | rfl <;> assumption
      rw [hlk, if_pos rfl]
      obtain ⟨i1, i2⟩ := ih (out ++ [⟨z, (carA (armsN p [1, 2]) z).1, (carA (armsN p [1, 2]) z).2, 1⟩]) [[1, 2], []] (fun y hy => hz y (List.mem_cons_of_mem _ hy)) (.inr rfl)
      exact ⟨i1, .inl (i2.elim id fun h => h.2)⟩
  obtain ⟨k1, k2⟩ := key (allL p [1, 2]) [] [[1, 2]] (fun _ h => h) (.inl rfl)
  have k2 := k2.resolve_right fun h => hne h.1
  have hs1 : ([1, 2].any fun x => decide (sideAt p nmC x ≠ sideAt p nmC 1)) = false := by rw [hp]; rfl
  have hs2 : (sideAt p nmC 1).1 = false := by rw [hp]; rfl
  have hcl : clashB (armsN p [1, 2]) = false := by
    cases hc : clashB (armsN p [1, 2]) with
    | false => rfl
    | true =>
      obtain ⟨a, ha, b, hb, e, hn⟩ := (clash_iff _).1 hc
      have harr : armsN p [1, 2] = [arm6 s 0, arm6 nmY 0] := by rw [hp]; rfl
      rw [harr] at ha hb
      simp only [List.mem_cons, List.not_mem_nil, or_false] at ha hb
      rcases ha with rfl | rfl <;> rcases hb with rfl | rfl <;> exact absurd rfl hn
  have ht : ∃ t, turnS p nmC [[1, 2]] [1, 2] = ((t, 0), [[1, 2], []]) := by
    unfold turnS
    simp only
    rw [hs1, hs2, hcl, if_neg (by simp), if_neg (by simp), if_neg (by omega), if_neg (by simp), if_pos k1, k2]
    exact ⟨_, rfl⟩
  obtain ⟨t, ht⟩ := ht
  have hr : roleS p nmC 41 0 [] [[1, 2]] = ([t, noTrn], 0) := by
    rw [roleS]
    simp only [List.getElem?_cons_zero]
    rw [ht, if_pos rfl, roleS]
    simp only [List.getElem?_cons_zero, List.getElem?_cons_succ, Nat.zero_add]
    rw [show turnS p nmC [[1, 2], []] [] = ((noTrn, 0), [[1, 2], []]) from rfl, if_pos rfl, roleS]
    rfl
  rw [← hp] at hv ⊢
  refine ⟨⟨dotN p.name nmC, [t, noTrn]⟩, ?_, rfl⟩
  unfold roleE
  rw [hv, show hasB p.roles nmC = true by rw [hp]; exact (by decide : hasB [nmA, nmB, nmC] nmC = true), h0]
  simp only [Bool.and_self, if_true]
  rw [hr]; rfl
end
end Go.Sy
