/- The law ProjectIdle. -/
import Derived.Test.YtdjocfajcbhmgaaDoorJk
import Derived.Test.YtdjocfajcbhmgaaDoorJm
import Derived.Test.YtdjocfajcbhmgaaDoorZ13
import Derived.Test.YtdjocfajcbhmgaaDoorZ24
set_option linter.unusedSimpArgs false
set_option linter.unusedVariables false
set_option linter.unusedSectionVars false
namespace Go.Sy
open Go.Proofs
set_option maxRecDepth 100000
attribute [local irreducible] SOps Goes DOps EOps GOps
end Go.Sy

/- The plain law of ProjectTwo: where a role takes part in all points but the ends, near sets are single points; no error; both roles' turns are dual. -/
set_option linter.unusedSimpArgs false
set_option linter.unusedVariables false
set_option linter.unusedSectionVars false
namespace Go.Sy
structure TwoP (p : Prt) (role : ByteArray) : Prop where
  may : prtB p = true
  has : hasB p.roles role = true
  two : ∀ x, inP (pntAt p x) role = decide (0 < (pntAt p x).arms.length)
def oneS (p : Prt) (y : Int) : List Int := if (pntAt p y).arms.length = 0 then [] else [y]
def InR (p : Prt) (y : Int) : Prop := 0 ≤ y ∧ y < (p.points.length : Int)
variable {p : Prt} {role r r' : ByteArray}
theorem TwoP.pass (h : TwoP p role) (y : Int) : passA p role y = [] := by
  unfold passA
  rw [h.two y]
  by_cases ha : 0 < (pntAt p y).arms.length
  · rw [decide_eq_true ha]; rfl
  · rw [decide_eq_false ha, if_neg (by simp)]
    exact List.eq_nil_of_length_eq_zero (by omega)
theorem TwoP.near (h : TwoP p role) {y : Int} (hy : InR p y) : nearL p role [y] = oneS p y := by
  unfold oneS
  by_cases ha : (pntAt p y).arms.length = 0
  · rw [if_pos ha, near_step (prt_in h.may) hy (by rw [h.two y]; exact decide_eq_false (by omega)), List.eq_nil_of_length_eq_zero ha]
    exact near_nil (prt_in h.may)
  · rw [if_neg ha]
    exact near_in (prt_in h.may) hy (by rw [h.two y]; exact decide_eq_true (by omega)) fun x => List.mem_singleton
theorem TwoP.mix (h : TwoP p role) {y : Int} (hy : InR p y) : mixE p role [y] = false := by
  have hw : ∀ x ∈ waitL p role [y], x = y := fun x hx => by
    have := (wait_mem (prt_in h.may) [y]).1 hx
    rw [rch_ext (start_one hy)] at this
    exact rch_stop (h.pass y) this
  unfold mixE
  cases hl : lostL p role y with
  | true =>
    rw [show (waitL p role [y]).any (fun x => !lostL p role x) = false from List.any_eq_false.2 fun x hx => by rw [hw x hx, hl]; simp, Bool.and_false]
  | false =>
    rw [show (waitL p role [y]).any (fun x => lostL p role x) = false from List.any_eq_false.2 fun x hx => by rw [hw x hx, hl]; simp, Bool.false_and]
structure OneK (p : Prt) (S : List (List Int)) : Prop where
  nodup : S.Nodup
  one : ∀ N ∈ S, ∃ y, InR p y ∧ N = oneS p y
theorem OneK.len {S : List (List Int)} (h : OneK p S) (hv : prtB p = true) : S.length ≤ 25 := by
  have hl := prt_len hv
  have := nodup_sub h.nodup (m := [] :: (rng p.points.length).map fun x => [x]) fun N hN => by
    obtain ⟨y, hy, rfl⟩ := h.one N hN
    unfold oneS
    split
    · exact List.mem_cons_self
    · exact List.mem_cons_of_mem _ (List.mem_map_of_mem (f := fun x : Int => [x]) (rng_mem.2 hy))
  rw [List.length_cons, List.length_map, rng_len] at this
  omega
def lookO (p : Prt) (S : List (List Int)) (y : Int) : Int × List (List Int) :=
  if oneS p y ∈ S then (((S.idxOf (oneS p y) : Nat) : Int), S) else ((S.length : Int), S ++ [oneS p y])
theorem lookO_ok {S : List (List Int)} (h : OneK p S) {y : Int} (hy : InR p y) : OneK p (lookO p S y).2 := by
  unfold lookO
  split
  · exact h
  · rename_i hn
    refine ⟨?_, fun N hN => ?_⟩
    · rw [List.nodup_append]
      exact ⟨h.nodup, by simp, fun x hx z hz e => by rw [List.mem_singleton] at hz; subst hz; exact hn (e ▸ hx)⟩
    · rcases List.mem_append.1 hN with h1 | h1
      · exact h.one N h1
      · rw [List.mem_singleton] at h1; exact ⟨y, hy, h1⟩
theorem TwoP.look (h : TwoP p role) {S : List (List Int)} (hS : OneK p S) {y : Int} (hy : InR p y) : lookS p role S [y] = (((lookO p S y).1, 0), (lookO p S y).2) := by
  have hl := hS.len h.may
  unfold lookS lookO
  rw [h.mix hy, h.near hy]
  simp only [Bool.false_eq_true, if_false]
  split
  · rfl
  · rw [if_neg (by omega)]
def nxtA (arr : List Arm) (s : ByteArray) : Int := (nextN arr s).headD 0
def armsO (p : Prt) (arr : List Arm) : List ByteArray → List Arm → List (List Int) → List Arm × List (List Int)
  | [], out, S => (out, S)
  | s :: ls, out, S => armsO p arr ls (out ++ [⟨s, (carA arr s).1, (carA arr s).2, (lookO p S (nxtA arr s)).1⟩]) (lookO p S (nxtA arr s)).2
theorem TwoP.arms (h : TwoP p role) {arr : List Arm} : ∀ (ls : List ByteArray) (out : List Arm) (S : List (List Int)), OneK p S → (∀ s ∈ ls, ∃ y, InR p y ∧ nextN arr s = [y]) →
    armsS p role arr ls out S = (((armsO p arr ls out S).1, 0), (armsO p arr ls out S).2) ∧ OneK p (armsO p arr ls out S).2
  | [], out, S, hS, _ => ⟨rfl, hS⟩
  | s :: ls, out, S, hS, hn => by
    obtain ⟨y, hy, e⟩ := hn s List.mem_cons_self
    have hx : nxtA arr s = y := by unfold nxtA; rw [e]; rfl
    rw [armsS, armsO, e, h.look hS hy, if_pos rfl, hx]
    exact h.arms ls _ _ (lookO_ok hS hy) fun z hz => hn z (List.mem_cons_of_mem _ hz)
theorem next_one : ∀ {l : List Arm}, (l.map Arm.label).Nodup → ∀ {a : Arm}, a ∈ l → nextN l a.label = [a.next]
  | [], _, _, h => by cases h
  | b :: l, hd, a, h => by
    rw [List.map_cons, List.nodup_cons] at hd
    unfold nextN
    rw [List.filter_cons]
    rcases List.mem_cons.1 h with rfl | h
    · rw [decide_eq_true rfl, if_pos rfl, List.map_cons]
      have : l.filter (fun c => decide (c.label = a.label)) = [] := List.filter_eq_nil_iff.2 fun c hc e => hd.1 (by rw [← of_decide_eq_true e]; exact List.mem_map_of_mem hc)
      rw [this]; rfl
    · have hne : ¬ b.label = a.label := fun e => hd.1 (by rw [e]; exact List.mem_map_of_mem h)
      rw [decide_eq_false hne, if_neg (by simp)]
      exact next_one hd.2 h
theorem armsN_one (p : Prt) (y : Int) : armsN p [y] = (pntAt p y).arms := by simp [armsN]
theorem allL_one (p : Prt) (y : Int) : allL p [y] = labsL (pntAt p y) := asc_ext (allL_asc p [y]) (labsL_asc _) fun z => by
  rw [allL_mem, armsN_one, labsL_mem]
theorem two_pnt (hv : prtB p = true) (y : Int) : (pntAt p y).arms.length ≤ 6 ∧ ((pntAt p y).arms.map Arm.label).Nodup := by
  rcases pntAt_arms hv y with e | h
  · rw [e]; exact ⟨by simp, List.nodup_nil⟩
  · exact ⟨(arms_all h).1.2, (arms_all h).2.2⟩
theorem one_clash {l : List Arm} (hd : (l.map Arm.label).Nodup) : clashB l = false := by
  cases hc : clashB l with
  | false => rfl
  | true =>
    obtain ⟨a, ha, b, hb, e, hn⟩ := (clash_iff l).1 hc
    exact absurd (by rw [nodup_arm hd ha hb e]) hn
theorem next_lab (hv : prtB p = true) (y : Int) : ∀ s ∈ labsL (pntAt p y), ∃ z, InR p z ∧ nextN (pntAt p y).arms s = [z] := fun s hs => by
  obtain ⟨a, ha, rfl⟩ := (labsL_mem _ _).1 hs
  exact ⟨a.next, prt_in hv y a ha, next_one (two_pnt hv y).2 ha⟩
def turnO (p : Prt) (role : ByteArray) (S : List (List Int)) (y : Int) : Trn × List (List Int) :=
  if (pntAt p y).arms.length = 0 then (noTrn, S)
  else (⟨kindOf (sideAt p role y).1, (sideAt p role y).2, (armsO p (pntAt p y).arms (labsL (pntAt p y)) [] S).1⟩, (armsO p (pntAt p y).arms (labsL (pntAt p y)) [] S).2)
theorem TwoP.turn (h : TwoP p role) {S : List (List Int)} (hS : OneK p S) {y : Int} (hy : InR p y) : turnS p role S (oneS p y) = (((turnO p role S y).1, 0), (turnO p role S y).2) ∧ OneK p (turnO p role S y).2 := by
  obtain ⟨h6, hd⟩ := two_pnt h.may y
  unfold turnO oneS
  by_cases ha : (pntAt p y).arms.length = 0
  · rw [if_pos ha, if_pos ha]; exact ⟨rfl, hS⟩
  · rw [if_neg ha, if_neg ha]
    obtain ⟨k1, k2⟩ := h.arms (labsL (pntAt p y)) [] S hS (next_lab h.may y)
    refine ⟨?_, k2⟩
    unfold turnS
    simp only
    rw [allL_one, armsN_one, k1, one_clash hd]
    rw [show ([y].any fun x => decide (sideAt p role x ≠ sideAt p role y)) = false by simp, show ([y].any fun x => decide (labsL (pntAt p x) ≠ labsL (pntAt p y))) = false by simp, Bool.and_false]
    have hc := labsL_count hd
    rw [if_neg (by simp), if_neg (by simp), if_neg (by omega), if_neg (by simp), if_pos rfl]
end Go.Sy
