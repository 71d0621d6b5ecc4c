/- The plain law of ProjectTwo: where a role takes part in all points but the ends, near sets are single points; no error; both roles' turns are dual. -/
import Derived.Test.YtademmkjmpgplaaGreatDoorMj5
import Derived.Test.YtademmkjmpgplaaGreatDoorMj1
set_option linter.unusedSimpArgs false
set_option linter.unusedVariables false
set_option linter.unusedSectionVars false
namespace Go.Sy
structure TwoP (p : Prt) (role : ByteArray) : Prop where
  may : prtB p = true
  has : hasB p.roles role = true
  two : ∀ x, inP (pntAt p x) role = decide (0 < (pntAt p x).arms.length)
def oneS (p : Prt) (y : Int) : List Int := if (pntAt p y).arms.length = 0 then [] else [y]
def InR (p : Prt) (y : Int) : Prop := 0 ≤ y ∧ y < (p.points.length : Int)
variable {p : Prt} {role r r' : ByteArray}
theorem TwoP.pass (h : TwoP p role) (y : Int) : passA p role y = [] := by
  unfold passA
  rw [h.two y]
  by_cases ha : 0 < (pntAt p y).arms.length
  · rw [decide_eq_true ha]; rfl
  · rw [decide_eq_false ha, if_neg (by simp)]
    exact List.eq_nil_of_length_eq_zero (by omega)
theorem TwoP.near (h : TwoP p role) {y : Int} (hy : InR p y) : nearL p role [y] = oneS p y := by
  unfold oneS
  by_cases ha : (pntAt p y).arms.length = 0
  · rw [if_pos ha, near_step (prt_in h.may) hy (by rw [h.two y]; exact decide_eq_false (by omega)), List.eq_nil_of_length_eq_zero ha]
    exact near_nil (prt_in h.may)
  · rw [if_neg ha]
    exact near_in (prt_in h.may) hy (by rw [h.two y]; exact decide_eq_true (by omega)) fun x => List.mem_singleton
theorem TwoP.mix (h : TwoP p role) {y : Int} (hy : InR p y) : mixE p role [y] = false := by
  have hw : ∀ x ∈ waitL p role [y], x = y := fun x hx => by
    have := (wait_mem (prt_in h.may) [y]).1 hx
    rw [rch_ext (start_one hy)] at this
    exact rch_stop (h.pass y) this
  unfold mixE
  cases hl : lostL p role y with
  | true =>
    rw [show (waitL p role [y]).any (fun x => !lostL p role x) = false from List.any_eq_false.2 fun x hx => by rw [hw x hx, hl]; simp, Bool.and_false]
  | false =>
    rw [show (waitL p role [y]).any (fun x => lostL p role x) = false from List.any_eq_false.2 fun x hx => by rw [hw x hx, hl]; simp, Bool.false_and]
structure OneK (p : Prt) (S : List (List Int)) : Prop where
  nodup : S.Nodup
  one : ∀ N ∈ S, ∃ y, InR p y ∧ N = oneS p y
theorem OneK.len {S : List (List Int)} (h : OneK p S) (hv : prtB p = true) : S.length ≤ 25 := by
  have hl := prt_len hv
  have := nodup_sub h.nodup (m := [] :: (rng p.points.length).map fun x => [x]) fun N hN => by
    obtain ⟨y, hy, rfl⟩ := h.one N hN
    unfold oneS
    split
    · exact List.mem_cons_self
    · exact List.mem_cons_of_mem _ (List.mem_map_of_mem (f := fun x : Int => [x]) (rng_mem.2 hy))
  rw [List.length_cons, List.length_map, rng_len] at this
  omega
def lookO (p : Prt) (S : List (List Int)) (y : Int) : Int × List (List Int) :=
  if oneS p y ∈ S then (((S.idxOf (oneS p y) : Nat) : Int), S) else ((S.length : Int), S ++ [oneS p y])
theorem lookO_ok {S : List (List Int)} (h : OneK p S) {y : Int} (hy : InR p y) : OneK p (lookO p S y).2 := by
  unfold lookO
  split
  · exact h
  · rename_i hn
    refine ⟨?_, fun N hN => ?_⟩
    · rw [List.nodup_append]
      exact ⟨h.nodup, by simp, fun x hx z hz e => by rw [List.mem_singleton] at hz; subst hz; exact hn (e ▸ hx)⟩
    · rcases List.mem_append.1 hN with h1 | h1
      · exact h.one N h1
      · rw [List.mem_singleton] at h1; exact ⟨y, hy, h1⟩
theorem TwoP.look (h : TwoP p role) {S : List (List Int)} (hS : OneK p S) {y : Int} (hy : InR p y) : lookS p role S [y] = (((lookO p S y).1, 0), (lookO p S y).2) := by
  have hl := hS.len h.may
  unfold lookS lookO
  rw [h.mix hy, h.near hy]
  simp only [Bool.false_eq_true, if_false]
  split
  · rfl
  · rw [if_neg (by omega)]
def nxtA (arr : List Arm) (s : ByteArray) : Int := (nextN arr s).headD 0
def armsO (p : Prt) (arr : List Arm) : List ByteArray → List Arm → List (List Int) → List Arm × List (List Int)
  | [], out, S => (out, S)
  | s :: ls, out, S => armsO p arr ls (out ++ [⟨s, (carA arr s).1, (carA arr s).2, (lookO p S (nxtA arr s)).1⟩]) (lookO p S (nxtA arr s)).2
theorem TwoP.arms (h : TwoP p role) {arr : List Arm} : ∀ (ls : List ByteArray) (out : List Arm) (S : List (List Int)), OneK p S → (∀ s ∈ ls, ∃ y, InR p y ∧ nextN arr s = [y]) →
    armsS p role arr ls out S = (((armsO p arr ls out S).1, 0), (armsO p arr ls out S).2) ∧ OneK p (armsO p arr ls out S).2
  | [], out, S, hS, _ => ⟨rfl, hS⟩
  | s :: ls, out, S, hS, hn => by
    obtain ⟨y, hy, e⟩ := hn s List.mem_cons_self
    have hx : nxtA arr s = y := by unfold nxtA; rw [e]; rfl
    rw [armsS, armsO, e, h.look hS hy, if_pos rfl, hx]
    exact h.arms ls _ _ (lookO_ok hS hy) fun z hz => hn z (List.mem_cons_of_mem _ hz)
theorem next_one : ∀ {l : List Arm}, (l.map Arm.label).Nodup → ∀ {a : Arm}, a ∈ l → nextN l a.label = [a.next]
  | [], _, _, h => by cases h
  | b :: l, hd, a, h => by
    rw [List.map_cons, List.nodup_cons] at hd
    unfold nextN
    rw [List.filter_cons]
    rcases List.mem_cons.1 h with rfl | h
    · rw [decide_eq_true rfl, if_pos rfl, List.map_cons]
      have : l.filter (fun c => decide (c.label = a.label)) = [] := List.filter_eq_nil_iff.2 fun c hc e => hd.1 (by rw [← of_decide_eq_true e]; exact List.mem_map_of_mem hc)
      rw [this]; rfl
    · have hne : ¬ b.label = a.label := fun e => hd.1 (by rw [e]; exact List.mem_map_of_mem h)
      rw [decide_eq_false hne, if_neg (by simp)]
      exact next_one hd.2 h
theorem armsN_one (p : Prt) (y : Int) : armsN p [y] = (pntAt p y).arms := by simp [armsN]
theorem allL_one (p : Prt) (y : Int) : allL p [y] = labsL (pntAt p y) := asc_ext (allL_asc p [y]) (labsL_asc _) fun z => by
  rw [allL_mem, armsN_one, labsL_mem]
theorem two_pnt (hv : prtB p = true) (y : Int) : (pntAt p y).arms.length ≤ 6 ∧ ((pntAt p y).arms.map Arm.label).Nodup := by
  rcases pntAt_arms hv y with e | h
  · rw [e]; exact ⟨by simp, List.nodup_nil⟩
  · exact ⟨(arms_all h).1.2, (arms_all h).2.2⟩
theorem one_clash {l : List Arm} (hd : (l.map Arm.label).Nodup) : clashB l = false := by
  cases hc : clashB l with
  | false => rfl
  | true =>
    obtain ⟨a, ha, b, hb, e, hn⟩ := (clash_iff l).1 hc
    exact absurd (by rw [nodup_arm hd ha hb e]) hn
theorem next_lab (hv : prtB p = true) (y : Int) : ∀ s ∈ labsL (pntAt p y), ∃ z, InR p z ∧ nextN (pntAt p y).arms s = [z] := fun s hs => by
  obtain ⟨a, ha, rfl⟩ := (labsL_mem _ _).1 hs
  exact ⟨a.next, prt_in hv y a ha, next_one (two_pnt hv y).2 ha⟩
def turnO (p : Prt) (role : ByteArray) (S : List (List Int)) (y : Int) : Trn × List (List Int) :=
  if (pntAt p y).arms.length = 0 then (noTrn, S)
  else (⟨kindOf (sideAt p role y).1, (sideAt p role y).2, (armsO p (pntAt p y).arms (labsL (pntAt p y)) [] S).1⟩, (armsO p (pntAt p y).arms (labsL (pntAt p y)) [] S).2)
theorem TwoP.turn (h : TwoP p role) {S : List (List Int)} (hS : OneK p S) {y : Int} (hy : InR p y) : turnS p role S (oneS p y) = (((turnO p role S y).1, 0), (turnO p role S y).2) ∧ OneK p (turnO p role S y).2 := by
  obtain ⟨h6, hd⟩ := two_pnt h.may y
  unfold turnO oneS
  by_cases ha : (pntAt p y).arms.length = 0
  · rw [if_pos ha, if_pos ha]; exact ⟨rfl, hS⟩
  · rw [if_neg ha, if_neg ha]
    obtain ⟨k1, k2⟩ := h.arms (labsL (pntAt p y)) [] S hS (next_lab h.may y)
    refine ⟨?_, k2⟩
    unfold turnS
    simp only
    rw [allL_one, armsN_one, k1, one_clash hd]
    rw [show ([y].any fun x => decide (sideAt p role x ≠ sideAt p role y)) = false by simp, show ([y].any fun x => decide (labsL (pntAt p x) ≠ labsL (pntAt p y))) = false by simp, Bool.and_false]
    have hc := labsL_count hd
    rw [if_neg (by simp), if_neg (by simp), if_neg (by omega), if_neg (by simp), if_pos rfl]
def DualT (r r' : ByteArray) (t u : Trn) : Prop := t.arms = u.arms ∧ ((t = noTrn ∧ u = noTrn) ∨ ((t.kind = 1 ∧ u.kind = 2) ∧ t.peer = r' ∧ u.peer = r) ∨ ((t.kind = 2 ∧ u.kind = 1) ∧ t.peer = r' ∧ u.peer = r))
def DualL (r r' : ByteArray) (l m : List Trn) : Prop := l.length = m.length ∧ ∀ (i : Nat) (t u : Trn), l[i]? = some t → m[i]? = some u → DualT r r' t u
theorem dualL_snoc {l m : List Trn} {t u : Trn} (h : DualL r r' l m) (d : DualT r r' t u) : DualL r r' (l ++ [t]) (m ++ [u]) := by
  refine ⟨by simp [h.1], fun i a b ha hb => ?_⟩
  by_cases hi : i < l.length
  · rw [List.getElem?_append_left hi] at ha
    rw [List.getElem?_append_left (by rw [← h.1]; exact hi)] at hb
    exact h.2 i a b ha hb
  · rw [List.getElem?_append_right (by omega)] at ha
    rw [List.getElem?_append_right (by rw [← h.1]; omega), ← h.1] at hb
    cases hk : i - l.length with
    | zero =>
      rw [hk] at ha hb
      simp only [List.getElem?_cons_zero, Option.some.injEq] at ha hb
      rw [← ha, ← hb]; exact d
    | succ k => rw [hk] at ha; simp at ha
theorem turnO_dual (hs : ∀ y, (pntAt p y).arms.length ≠ 0 → ∃ b, sideAt p r y = (b, r') ∧ sideAt p r' y = (!b, r)) (S : List (List Int)) (y : Int) : DualT r r' (turnO p r S y).1 (turnO p r' S y).1 ∧ (turnO p r S y).2 = (turnO p r' S y).2 := by
  unfold turnO
  by_cases ha : (pntAt p y).arms.length = 0
  · rw [if_pos ha, if_pos ha]; exact ⟨⟨rfl, .inl ⟨rfl, rfl⟩⟩, rfl⟩
  · rw [if_neg ha, if_neg ha]
    refine ⟨⟨rfl, .inr ?_⟩, rfl⟩
    obtain ⟨b, e1, e2⟩ := hs y ha
    rw [e1, e2]
    cases b with
    | true => exact .inl ⟨⟨rfl, rfl⟩, rfl, rfl⟩
    | false => exact .inr ⟨⟨rfl, rfl⟩, rfl, rfl⟩
theorem two_roleS (h : TwoP p r) (h' : TwoP p r') (hs : ∀ y, (pntAt p y).arms.length ≠ 0 → ∃ b, sideAt p r y = (b, r') ∧ sideAt p r' y = (!b, r)) : ∀ (f i : Nat) (out out' : List Trn) (S : List (List Int)), OneK p S → DualL r r' out out' →
    (roleS p r f i out S).2 = 0 ∧ (roleS p r' f i out' S).2 = 0 ∧ DualL r r' (roleS p r f i out S).1 (roleS p r' f i out' S).1
  | 0, i, out, out', S, hS, hd => ⟨rfl, rfl, hd⟩
  | f + 1, i, out, out', S, hS, hd => by
    rw [roleS, roleS]
    cases hi : S[i]? with
    | none => exact ⟨rfl, rfl, hd⟩
    | some N =>
      obtain ⟨y, hy, rfl⟩ := hS.one N (List.mem_of_getElem? hi)
      obtain ⟨e1, k1⟩ := h.turn hS hy
      obtain ⟨e2, _⟩ := h'.turn hS hy
      obtain ⟨d1, d2⟩ := turnO_dual hs S y
      simp only
      rw [e1, e2, if_pos rfl, if_pos rfl, ← d2]
      exact two_roleS h h' hs f (i + 1) _ _ _ k1 (dualL_snoc hd d1)
theorem two_roleE (h : TwoP p r) (h' : TwoP p r') (hs : ∀ y, (pntAt p y).arms.length ≠ 0 → ∃ b, sideAt p r y = (b, r') ∧ sideAt p r' y = (!b, r)) :
    (roleE p r).2 = 0 ∧ (roleE p r').2 = 0 ∧ DualL r r' (roleE p r).1.turns (roleE p r').1.turns := by
  have hl := prt_len h.may
  have h0 : InR p 0 := ⟨Int.le_refl _, by omega⟩
  have hK : OneK p [] := ⟨List.nodup_nil, fun N hN => by cases hN⟩
  have hk := lookO_ok hK h0
  obtain ⟨q1, q2, q3⟩ := two_roleS h h' hs 41 0 [] [] _ hk ⟨rfl, fun i t u h => by simp at h⟩
  unfold roleE
  rw [h.may, h.has, h'.has, h.look hK h0, h'.look hK h0]
  simp only [Bool.and_self, if_true]
  rw [if_pos q1, if_pos q2]
  exact ⟨rfl, rfl, q3⟩
def At2 (p : Prt) (S : List (List Int)) (y t : Int) : Prop := 0 ≤ t ∧ S[t.toNat]? = some (oneS p y) ∧ InR p y
theorem at2_zero (h : TwoP p role) {S : List (List Int)} {l : Loc} (hP : Proj p role S l) : At2 p S 0 0 := by
  have hl := prt_len h.may
  have h0 : InR p 0 := ⟨Int.le_refl _, by omega⟩
  exact ⟨Int.le_refl _, by rw [← h.near h0]; exact hP.zero, h0⟩
theorem at2_turn (h : TwoP p role) {S : List (List Int)} {l : Loc} (hP : Proj p role S l) {y t : Int} (ha : At2 p S y t) : ((trnAt l t).kind = 0 ↔ (pntAt p y).arms.length = 0) ∧ t < (l.turns.length : Int) := by
  obtain ⟨h0, h1, h2⟩ := ha
  obtain ⟨ht, hlt⟩ := hP.at h0 h1
  refine ⟨?_, hlt⟩
  unfold oneS at ht
  rcases ht with ⟨e, et⟩ | ⟨hne, hact⟩
  · by_cases hz : (pntAt p y).arms.length = 0
    · rw [et]; exact ⟨fun _ => hz, fun _ => rfl⟩
    · rw [if_neg hz] at e; cases e
  · by_cases hz : (pntAt p y).arms.length = 0
    · rw [if_pos hz] at hne; exact absurd rfl hne
    · constructor
      · intro hk; rcases hact.kind with q | q <;> omega
      · intro h; exact absurd h hz
theorem two_walk (h : TwoP p role) {S : List (List Int)} {l : Loc} (hP : Proj p role S l) : ∀ (w : List ByteArray) {y t : Int}, At2 p S y t →
    (walkG p.g y w = none ∧ walkG l.g t w = none) ∨ ∃ y' t', walkG p.g y w = some y' ∧ walkG l.g t w = some t' ∧ At2 p S y' t'
  | [], y, t, ha => .inr ⟨y, t, rfl, rfl, ha⟩
  | s :: w, y, t, ha => by
    obtain ⟨h0, h1, h2⟩ := ha
    obtain ⟨h6, hd⟩ := two_pnt h.may y
    obtain ⟨ht, _⟩ := hP.at h0 h1
    rw [walkG, walkG, armsAt_prt, armsAt_loc]
    by_cases hz : (pntAt p y).arms.length = 0
    · have e : oneS p y = [] := by unfold oneS; rw [if_pos hz]
      have et : trnAt l t = noTrn := by
        rcases ht with ⟨_, et⟩ | ⟨hne, _⟩
        · exact et
        · exact absurd e hne
      rw [et, List.eq_nil_of_length_eq_zero hz]
      exact .inl ⟨rfl, rfl⟩
    · have e : oneS p y = [y] := by unfold oneS; rw [if_neg hz]
      rw [e] at ht
      rcases ht with ⟨e2, _⟩ | ⟨_, hact⟩
      · cases e2
      · cases hf : (pntAt p y).arms.find? fun a => decide (a.label = s) with
        | none =>
          have : (trnAt l t).arms.find? (fun a => decide (a.label = s)) = none := List.find?_eq_none.2 fun b hb hbs => by
            have hs : b.label ∈ allL p [y] := by rw [← hact.labs]; exact List.mem_map_of_mem hb
            obtain ⟨a, ha, ea⟩ := allL_mem.1 hs
            rw [armsN_one] at ha
            exact List.find?_eq_none.1 hf a ha (by rw [ea]; exact hbs)
          rw [this]
          exact .inl ⟨rfl, rfl⟩
        | some a =>
          have ham := List.mem_of_find?_eq_some hf
          have hal : a.label = s := by simpa using List.find?_some hf
          have hs : a.label ∈ allL p [y] := allL_mem.2 ⟨a, by rw [armsN_one]; exact ham, rfl⟩
          rw [← hact.labs] at hs
          obtain ⟨b, hb, eb⟩ := List.mem_map.1 hs
          obtain ⟨_, _, q3, q4⟩ := hact.arm b hb
          rw [eb, armsN_one, next_one hd ham] at q4
          have hin : InR p a.next := prt_in h.may y a ham
          rw [h.near hin] at q4
          have hfb : (trnAt l t).arms.find? (fun c => decide (c.label = s)) = some b := by
            rw [← hal, ← eb]
            exact find_label (by rw [hact.labs]; exact asc_nodup (allL_asc p _)) hb
          rw [hfb]
          exact two_walk h hP w ⟨q3, q4, hin⟩
end Go.Sy
