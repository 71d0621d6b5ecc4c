/- The plain law: sets that a projection looks at; where points stand for points (several for one), projections fail together and behave alike along labels. -/
import Derived.Test.YtademmkjmpgplaaGreatDoorMj5
import Derived.Test.YtademmkjmpgplaaGreatDoorMj1
set_option linter.unusedSimpArgs false
set_option linter.unusedVariables false
set_option linter.unusedSectionVars false
namespace Go.Sy
variable {p u q : Prt} {r r' : ByteArray} {f : Int → Int} {D : Int → Prop}
inductive RchS (p : Prt) (r : ByteArray) : List Int → Prop
  | base : RchS p r [0]
  | step {X : List Int} {s : ByteArray} : RchS p r X → s ∈ allL p (nearL p r X) → RchS p r (nextN (armsN p (nearL p r X)) s)
def BadS (p : Prt) (r : ByteArray) (X : List Int) : Prop :=
  mixE p r X = true ∨ (∃ x ∈ nearL p r X, ∃ y ∈ nearL p r X, sideAt p r x ≠ sideAt p r y) ∨ (∃ x ∈ nearL p r X, (sideAt p r x).1 = true ∧ ∃ y ∈ nearL p r X, labsL (pntAt p y) ≠ allL p (nearL p r X)) ∨
  clashB (armsN p (nearL p r X)) = true
theorem turn_good {S : List (List Int)} {X : List Int} {t : Trn} (hm : mixE p r X = false) (h : TurnOf p r S (nearL p r X) t) : ¬ BadS p r X := by
  rintro (h1 | ⟨x, hx, y, hy, h1⟩ | ⟨x, hx, h1, y, hy, h2⟩ | h1)
  · rw [hm] at h1; cases h1
  · rcases h with ⟨e, _⟩ | ⟨_, ha⟩
    · rw [e] at hx; cases hx
    · exact h1 ((ha.side x hx).trans (ha.side y hy).symm)
  · rcases h with ⟨e, _⟩ | ⟨_, ha⟩
    · rw [e] at hx; cases hx
    · rw [ha.side x hx] at h1
      exact h2 (ha.says (of_decide_eq_true h1) y hy)
  · rcases h with ⟨e, _⟩ | ⟨_, ha⟩
    · rw [e] at h1; cases h1
    · rw [ha.once] at h1; cases h1
theorem proj_good {S : List (List Int)} {l : Loc} (h : Proj p r S l) {X : List Int} (hX : RchS p r X) : (∃ t : Int, 0 ≤ t ∧ S[t.toNat]? = some (nearL p r X)) ∧ mixE p r X = false := by
  induction hX with
  | base => exact ⟨⟨0, Int.le_refl _, h.zero⟩, h.one⟩
  | step hX hs ih =>
    obtain ⟨⟨t, h0, ht⟩, hm⟩ := ih
    rcases (h.at h0 ht).1 with ⟨e, _⟩ | ⟨_, ha⟩
    · rw [e] at hs; cases hs
    · rw [← ha.labs] at hs
      obtain ⟨b, hb, e⟩ := List.mem_map.1 hs
      obtain ⟨_, q2, q3, q4⟩ := ha.arm b hb
      rw [e] at q2 q4
      exact ⟨⟨b.next, q3, q4⟩, q2⟩
theorem proj_fine {S : List (List Int)} {l : Loc} (h : Proj p r S l) {X : List Int} (hX : RchS p r X) : ¬ BadS p r X := by
  obtain ⟨⟨t, h0, ht⟩, hm⟩ := proj_good h hX
  exact turn_good hm (h.at h0 ht).1
def KeptS (p : Prt) (r : ByteArray) (S : List (List Int)) : Prop := ∀ N ∈ S, ∃ X, RchS p r X ∧ N = nearL p r X
theorem look_bad {S : List (List Int)} (hS : KeptS p r S) {X : List Int} (hX : RchS p r X) :
    KeptS p r (lookS p r S X).2 ∧ ((lookS p r S X).1.2 = 0 ∨ (lookS p r S X).1.2 = 805 ∨ mixE p r X = true) := by
  rcases look_cases (p := p) (role := r) S X with ⟨h, e⟩ | ⟨_, _, e⟩ | ⟨_, _, _, e⟩ | ⟨_, _, _, e⟩
  · rw [e]; exact ⟨hS, .inr (.inr h)⟩
  · rw [e]; exact ⟨hS, .inl rfl⟩
  · rw [e]; exact ⟨hS, .inr (.inl rfl)⟩
  · rw [e]
    refine ⟨fun N hN => ?_, .inl rfl⟩
    rcases List.mem_append.1 hN with h | h
    · exact hS N h
    · rw [List.mem_singleton] at h; exact ⟨X, hX, h⟩
theorem arms_bad {X : List Int} (hX : RchS p r X) : ∀ (ls : List ByteArray) (out : List Arm) (S : List (List Int)), KeptS p r S → (∀ s ∈ ls, s ∈ allL p (nearL p r X)) →
    KeptS p r (armsS p r (armsN p (nearL p r X)) ls out S).2 ∧ ((armsS p r (armsN p (nearL p r X)) ls out S).1.2 = 0 ∨ (armsS p r (armsN p (nearL p r X)) ls out S).1.2 = 805 ∨ ∃ Y, RchS p r Y ∧ BadS p r Y)
  | [], out, S, hS, _ => ⟨hS, .inl rfl⟩
  | s :: ls, out, S, hS, hl => by
    have hY := RchS.step hX (hl s List.mem_cons_self)
    obtain ⟨k1, k2⟩ := look_bad hS hY
    rw [armsS]
    by_cases h : (lookS p r S (nextN (armsN p (nearL p r X)) s)).1.2 = 0
    · rw [if_pos h]
      exact arms_bad hX ls _ _ k1 fun z hz => hl z (List.mem_cons_of_mem _ hz)
    · rw [if_neg h]
      refine ⟨k1, ?_⟩
      rcases k2 with k2 | k2 | k2
      · exact absurd k2 h
      · exact .inr (.inl k2)
      · exact .inr (.inr ⟨_, hY, .inl k2⟩)
theorem turn_bad {X : List Int} (hX : RchS p r X) {S : List (List Int)} (hS : KeptS p r S) :
    KeptS p r (turnS p r S (nearL p r X)).2 ∧ ((turnS p r S (nearL p r X)).1.2 = 0 ∨ (turnS p r S (nearL p r X)).1.2 = 805 ∨ ∃ Y, RchS p r Y ∧ BadS p r Y) := by
  obtain ⟨k1, k2⟩ := arms_bad hX (allL p (nearL p r X)) [] S hS fun s hs => hs
  cases hc : nearL p r X with
  | nil => exact ⟨hS, .inl rfl⟩
  | cons x0 rest =>
    have hx0 : x0 ∈ nearL p r X := by rw [hc]; exact List.mem_cons_self
    unfold turnS
    simp only
    rw [← hc]
    by_cases h1 : ((nearL p r X).any fun x => decide (sideAt p r x ≠ sideAt p r x0)) = true
    · rw [if_pos h1]
      exact ⟨hS, .inr (.inr ⟨X, hX, .inr (.inl ((any_ne hx0 _).1 h1))⟩)⟩
    rw [if_neg h1]
    by_cases h2 : ((sideAt p r x0).1 && (nearL p r X).any fun x => decide (labsL (pntAt p x) ≠ allL p (nearL p r X))) = true
    · rw [if_pos h2]
      rw [Bool.and_eq_true, List.any_eq_true] at h2
      obtain ⟨h3, y, hy, h4⟩ := h2
      exact ⟨hS, .inr (.inr ⟨X, hX, .inr (.inr (.inl ⟨x0, hx0, h3, y, hy, of_decide_eq_true h4⟩))⟩)⟩
    rw [if_neg h2]
    by_cases h3 : 6 < (allL p (nearL p r X)).length
    · rw [if_pos h3]; exact ⟨hS, .inr (.inl rfl)⟩
    rw [if_neg h3]
    by_cases h4 : clashB (armsN p (nearL p r X)) = true
    · rw [if_pos h4]; exact ⟨hS, .inr (.inr ⟨X, hX, .inr (.inr (.inr h4))⟩)⟩
    rw [if_neg h4]
    by_cases h5 : (armsS p r (armsN p (nearL p r X)) (allL p (nearL p r X)) [] S).1.2 = 0
    · rw [if_pos h5]; exact ⟨k1, .inl rfl⟩
    · rw [if_neg h5]; exact ⟨k1, k2⟩
theorem roleS_bad : ∀ (n i : Nat) (out : List Trn) (S : List (List Int)), KeptS p r S → (roleS p r n i out S).2 = 0 ∨ (roleS p r n i out S).2 = 805 ∨ ∃ Y, RchS p r Y ∧ BadS p r Y
  | 0, i, out, S, _ => .inl rfl
  | n + 1, i, out, S, hS => by
    rw [roleS]
    cases hi : S[i]? with
    | none => exact .inl rfl
    | some N =>
      obtain ⟨X, hX, rfl⟩ := hS N (List.mem_of_getElem? hi)
      obtain ⟨k1, k2⟩ := turn_bad hX hS
      simp only
      by_cases h : (turnS p r S (nearL p r X)).1.2 = 0
      · rw [if_pos h]; exact roleS_bad n (i + 1) _ _ k1
      · rw [if_neg h]
        exact k2
theorem roleE_bad (hv : prtB p = true) (hr : hasB p.roles r = true) : (roleE p r).2 = 0 ∨ (roleE p r).2 = 805 ∨ ∃ Y, RchS p r Y ∧ BadS p r Y := by
  obtain ⟨k1, k2⟩ := look_bad (p := p) (r := r) (S := []) (fun N h => by cases h) .base
  unfold roleE
  rw [hv, hr]
  simp only [Bool.and_self, if_true]
  by_cases h : (lookS p r [] [0]).1.2 = 0
  · rw [if_pos h]
    have k3 := roleS_bad 41 0 [] _ k1
    by_cases h2 : (roleS p r 41 0 [] (lookS p r [] [0]).2).2 = 0
    · rw [if_pos h2]; exact .inl rfl
    · rw [if_neg h2]; exact k3
  · rw [if_neg h]
    rcases k2 with k2 | k2 | k2
    · exact absurd k2 h
    · exact .inr (.inl k2)
    · exact .inr (.inr ⟨_, .base, .inl k2⟩)
theorem nextN_in {X : List Int} (s : Sim0 u p r r' f id D) (hD : InD D X) (z : ByteArray) : InD D (nextN (armsN u X) z) := fun y hy => by
  unfold nextN at hy
  obtain ⟨a, ha, rfl⟩ := List.mem_map.1 hy
  obtain ⟨x, hx, ha2⟩ := armsN_mem.1 (List.mem_filter.1 ha).1
  exact s.step x (hD x hx) a ha2
theorem sim0_next (s : Sim0 u p r r' f id D) {X X' : List Int} (hD : InD D X) (hi : Img f X X') (z : ByteArray) :
    allL p (nearL p r' X') = allL u (nearL u r X) ∧ InD D (nextN (armsN u (nearL u r X)) z) ∧ Img f (nextN (armsN u (nearL u r X)) z) (nextN (armsN p (nearL p r' X')) z) := by
  obtain ⟨h1, h2⟩ := s.near hD hi
  exact ⟨s.allL h1 h2, nextN_in s h1 z, imgA_next (s.armsN h1 h2) z⟩
theorem sim0_there (s : Sim0 u p r r' f id D) {X : List Int} (hX : RchS u r X) : InD D X ∧ ∃ X', RchS p r' X' ∧ Img f X X' := by
  induction hX with
  | base => exact ⟨fun x hx => by rw [List.mem_singleton] at hx; subst hx; exact s.zero.1, [0], .base, by have := img_map f [0]; rwa [show [0].map f = [0] by rw [List.map_cons, s.zero.2]; rfl] at this⟩
  | step _ hs ih =>
    obtain ⟨hD, X', hX', hi⟩ := ih
    obtain ⟨e, h1, h2⟩ := sim0_next s hD hi _
    exact ⟨h1, _, .step hX' (by rw [e]; exact hs), h2⟩
theorem sim0_back (s : Sim0 u p r r' f id D) {X' : List Int} (hX : RchS p r' X') : ∃ X, RchS u r X ∧ InD D X ∧ Img f X X' := by
  induction hX with
  | base => exact ⟨[0], .base, fun x hx => by rw [List.mem_singleton] at hx; subst hx; exact s.zero.1, by have := img_map f [0]; rwa [show [0].map f = [0] by rw [List.map_cons, s.zero.2]; rfl] at this⟩
  | step _ hs ih =>
    obtain ⟨X, hX, hD, hi⟩ := ih
    obtain ⟨e, h1, h2⟩ := sim0_next s hD hi _
    exact ⟨_, .step hX (by rw [← e]; exact hs), h1, h2⟩
theorem sim0_bad (s : Sim0 u p r r' f id D) {X X' : List Int} (hD : InD D X) (hi : Img f X X') : BadS u r X ↔ BadS p r' X' := by
  obtain ⟨h1, h2⟩ := s.near hD hi
  have hin : ∀ x ∈ nearL u r X, inP (pntAt u x) r = true := fun x hx => near_isin s.pin hx
  have hsd : ∀ x ∈ nearL u r X, sideAt p r' (f x) = sideAt u r x := fun x hx => s.side x (h1 x hx) (hin x hx)
  have hlb : ∀ x ∈ nearL u r X, labsL (pntAt p (f x)) = labsL (pntAt u x) := fun x hx => s.labs (h1 x hx)
  unfold BadS
  rw [s.mix hD hi, s.allL h1 h2, imgA_clash (s.armsN h1 h2)]
  refine or_congr_right (or_congr ?_ (or_congr_left ?_))
  · constructor
    · rintro ⟨x, hx, y, hy, h⟩
      exact ⟨f x, (h2 _).2 ⟨x, hx, rfl⟩, f y, (h2 _).2 ⟨y, hy, rfl⟩, by rw [hsd x hx, hsd y hy]; exact h⟩
    · rintro ⟨a, ha, b, hb, h⟩
      obtain ⟨x, hx, rfl⟩ := (h2 a).1 ha
      obtain ⟨y, hy, rfl⟩ := (h2 b).1 hb
      exact ⟨x, hx, y, hy, by rw [hsd x hx, hsd y hy] at h; exact h⟩
  · constructor
    · rintro ⟨x, hx, h, y, hy, h'⟩
      exact ⟨f x, (h2 _).2 ⟨x, hx, rfl⟩, by rw [hsd x hx]; exact h, f y, (h2 _).2 ⟨y, hy, rfl⟩, by rw [hlb y hy]; exact h'⟩
    · rintro ⟨a, ha, h, b, hb, h'⟩
      obtain ⟨x, hx, rfl⟩ := (h2 a).1 ha
      obtain ⟨y, hy, rfl⟩ := (h2 b).1 hb
      exact ⟨x, hx, by rw [hsd x hx] at h; exact h, y, hy, by rw [hlb y hy] at h'; exact h'⟩
theorem sim0_ok (s : Sim0 u p r r' f id D) (hu : prtB u = true) (hru : hasB u.roles r = true) (hv : prtB p = true) (hr : hasB p.roles r' = true) (n1 : (roleE u r).2 ≠ 805) (n2 : (roleE p r').2 ≠ 805) : (roleE p r').2 = 0 ↔ (roleE u r).2 = 0 := by
  constructor
  · intro h
    obtain ⟨S, hS⟩ := roleE_ok h
    rcases roleE_bad hu hru with k | k | ⟨Y, hY, hb⟩
    · exact k
    · exact absurd k n1
    · obtain ⟨hD, Y', hY', hi⟩ := sim0_there s hY
      exact absurd ((sim0_bad s hD hi).1 hb) (proj_fine hS hY')
  · intro h
    obtain ⟨S, hS⟩ := roleE_ok h
    rcases roleE_bad hv hr with k | k | ⟨Y, hY, hb⟩
    · exact k
    · exact absurd k n2
    · obtain ⟨X, hX, hD, hi⟩ := sim0_back s hY
      exact absurd ((sim0_bad s hD hi).2 hb) (proj_fine hS hX)
def RelT (u p : Prt) (r r' : ByteArray) (f : Int → Int) (D : Int → Prop) (Su Sp : List (List Int)) (a b : Int) : Prop :=
  ∃ X X', InD D X ∧ Img f X X' ∧ 0 ≤ a ∧ 0 ≤ b ∧ Su[a.toNat]? = some (nearL u r X) ∧ Sp[b.toNat]? = some (nearL p r' X')
theorem rel_turn (s : Sim0 u p r r' f id D) {Su Sp : List (List Int)} {lu lp : Loc} (hu : Proj u r Su lu) (hp : Proj p r' Sp lp) {a b : Int} (h : RelT u p r r' f D Su Sp a b) :
    ((trnAt lu a).kind = (trnAt lp b).kind ∧ (trnAt lu a).peer = (trnAt lp b).peer ∧ (trnAt lu a).arms.map Arm.label = (trnAt lp b).arms.map Arm.label) ∧ (0 ≤ a ∧ a < (lu.turns.length : Int)) ∧ 0 ≤ b ∧ b < (lp.turns.length : Int) := by
  obtain ⟨X, X', hD, hi, h0, h1, ha, hb⟩ := h
  obtain ⟨ta, la⟩ := hu.at h0 ha
  obtain ⟨tb, lb⟩ := hp.at h1 hb
  refine ⟨?_, ⟨h0, la⟩, h1, lb⟩
  obtain ⟨n1, n2⟩ := s.near hD hi
  have hl := img_len n2
  rcases ta with ⟨e1, e2⟩ | ⟨e1, e2⟩
  · rcases tb with ⟨f1, f2⟩ | ⟨f1, _⟩
    · rw [e2, f2]; exact ⟨rfl, rfl, rfl⟩
    · exact absurd (List.eq_nil_of_length_eq_zero (hl.2 (by rw [e1]; rfl))) f1
  · rcases tb with ⟨f1, _⟩ | ⟨_, f2⟩
    · exact absurd (List.eq_nil_of_length_eq_zero (hl.1 (by rw [f1]; rfl))) e1
    · obtain ⟨x, hx⟩ := List.exists_mem_of_ne_nil _ e1
      have g1 := e2.side x hx
      have g2 := f2.side (f x) ((n2 _).2 ⟨x, hx, rfl⟩)
      rw [s.side x (n1 x hx) (near_isin s.pin hx)] at g2
      have g3 : sideAt u r x = (decide ((trnAt lp b).kind = 1), (trnAt lp b).peer) := g2
      rw [g1] at g3
      injection g3 with g4 g5
      have g4 := decide_eq_decide.1 g4
      refine ⟨?_, g5, by rw [e2.labs, f2.labs, s.allL n1 n2]⟩
      rcases e2.kind with k1 | k1 <;> rcases f2.kind with k2 | k2
      · rw [k1, k2]
      · exact absurd (g4.1 k1) (by omega)
      · exact absurd (g4.2 k2) (by omega)
      · rw [k1, k2]
theorem rel_walk (s : Sim0 u p r r' f id D) {Su Sp : List (List Int)} {lu lp : Loc} (hu : Proj u r Su lu) (hp : Proj p r' Sp lp) : ∀ (w : List ByteArray) {a b : Int}, RelT u p r r' f D Su Sp a b →
    (walkG lu.g a w = none ∧ walkG lp.g b w = none) ∨ ∃ a' b', walkG lu.g a w = some a' ∧ walkG lp.g b w = some b' ∧ RelT u p r r' f D Su Sp a' b'
  | [], a, b, h => .inr ⟨a, b, rfl, rfl, h⟩
  | z :: w, a, b, h => by
    obtain ⟨⟨_, _, hlab⟩, _, _⟩ := rel_turn s hu hp h
    obtain ⟨X, X', hD, hi, h0, h1, ha, hb⟩ := h
    have ta := (hu.at h0 ha).1
    have tb := (hp.at h1 hb).1
    rw [walkG, walkG, armsAt_loc, armsAt_loc]
    by_cases hz : z ∈ (trnAt lu a).arms.map Arm.label
    · have hz2 := hz
      rw [hlab] at hz2
      obtain ⟨c, hc, ec⟩ := List.mem_map.1 hz
      obtain ⟨d, hd, ed⟩ := List.mem_map.1 hz2
      rcases ta with ⟨_, e⟩ | ⟨_, ea⟩
      · rw [e] at hc; cases hc
      rcases tb with ⟨_, e⟩ | ⟨_, eb⟩
      · rw [e] at hd; cases hd
      have fa := find_label (by rw [ea.labs]; exact asc_nodup (allL_asc u _)) hc
      have fb := find_label (by rw [eb.labs]; exact asc_nodup (allL_asc p _)) hd
      rw [ec] at fa
      rw [ed] at fb
      rw [fa, fb]
      obtain ⟨_, _, q3, q4⟩ := ea.arm c hc
      obtain ⟨_, _, v3, v4⟩ := eb.arm d hd
      rw [ec] at q4
      rw [ed] at v4
      obtain ⟨_, g1, g2⟩ := sim0_next s hD hi z
      exact rel_walk s hu hp w ⟨_, _, g1, g2, q3, v3, q4, v4⟩
    · have e1 : (trnAt lu a).arms.find? (fun c => decide (c.label = z)) = none := List.find?_eq_none.2 fun c hc h => hz (by rw [← of_decide_eq_true h]; exact List.mem_map_of_mem hc)
      have e2 : (trnAt lp b).arms.find? (fun c => decide (c.label = z)) = none := List.find?_eq_none.2 fun c hc h => hz (by rw [hlab, ← of_decide_eq_true h]; exact List.mem_map_of_mem hc)
      rw [e1, e2]
      exact .inl ⟨rfl, rfl⟩
theorem rel_zero (s : Sim0 u p r r' f id D) {Su Sp : List (List Int)} {lu lp : Loc} (hu : Proj u r Su lu) (hp : Proj p r' Sp lp) : RelT u p r r' f D Su Sp 0 0 :=
  ⟨[0], [0], fun x hx => by rw [List.mem_singleton] at hx; subst hx; exact s.zero.1, by have := img_map f [0]; rwa [show [0].map f = [0] by rw [List.map_cons, s.zero.2]; rfl] at this, Int.le_refl _, Int.le_refl _, hu.zero, hp.zero⟩
end Go.Sy
