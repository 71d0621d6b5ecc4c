/- The plain law of projection: what a projection that does not fail is: its near sets, turn by turn. -/
import Derived.Test.YtademmkjmpgplaaGreatDoorJa
set_option linter.unusedSimpArgs false
set_option linter.unusedVariables false
set_option linter.unusedSectionVars false
namespace Go.Sy
variable {p : Prt} {role : ByteArray}

/-- A turn of a near set, among the near sets of all turns. -/
structure ActOf (p : Prt) (role : ByteArray) (S : List (List Int)) (near : List Int) (t : Trn) : Prop where
  kind : t.kind = 1 ∨ t.kind = 2
  side : ∀ x ∈ near, sideAt p role x = (decide (t.kind = 1), t.peer)
  says : t.kind = 1 → ∀ x ∈ near, labsL (pntAt p x) = allL p near
  len : (allL p near).length ≤ 6
  labs : t.arms.map Arm.label = allL p near
  once : clashB (armsN p near) = false
  arm : ∀ a ∈ t.arms, (a.kind, a.name) = carA (armsN p near) a.label ∧ mixE p role (nextN (armsN p near) a.label) = false ∧
    0 ≤ a.next ∧ S[a.next.toNat]? = some (nearL p role (nextN (armsN p near) a.label))
def TurnOf (p : Prt) (role : ByteArray) (S : List (List Int)) (near : List Int) (t : Trn) : Prop := (near = [] ∧ t = noTrn) ∨ (near ≠ [] ∧ ActOf p role S near t)
theorem get_app {α : Type} {l r : List α} {k : Nat} {x : α} (h : l[k]? = some x) : (l ++ r)[k]? = some x := by
  rw [List.getElem?_append_left (List.getElem?_eq_some_iff.1 h).1]; exact h
theorem ActOf.grow {S : List (List Int)} {near : List Int} {t : Trn} (h : ActOf p role S near t) (r : List (List Int)) : ActOf p role (S ++ r) near t :=
  ⟨h.kind, h.side, h.says, h.len, h.labs, h.once, fun a ha => let ⟨h1, h2, h3, h4⟩ := h.arm a ha; ⟨h1, h2, h3, get_app h4⟩⟩
theorem TurnOf.grow {S : List (List Int)} {near : List Int} {t : Trn} (h : TurnOf p role S near t) (r : List (List Int)) : TurnOf p role (S ++ r) near t := by
  rcases h with h | ⟨h1, h2⟩
  · exact .inl h
  · exact .inr ⟨h1, h2.grow r⟩

/-- The numbers below n. -/
def rng (n : Nat) : List Int := (List.range n).map Int.ofNat
theorem rng_mem {n : Nat} {x : Int} : x ∈ rng n ↔ 0 ≤ x ∧ x < (n : Int) := by
  unfold rng
  simp only [List.mem_map, List.mem_range]
  constructor
  · rintro ⟨k, hk, rfl⟩; exact ⟨Int.natCast_nonneg _, by show (k : Int) < n; omega⟩
  · intro h; exact ⟨x.toNat, by omega, by show ((x.toNat : Nat) : Int) = x; omega⟩
theorem rng_succ (n : Nat) : rng (n + 1) = rng n ++ [(n : Int)] := by
  unfold rng; rw [List.range_succ, List.map_append]; rfl
theorem rng_len (n : Nat) : (rng n).length = n := by simp [rng]
theorem bfs_snoc (out : List Int) (l : List Arm) (a : Arm) : bfsIn out (l ++ [a]) = if a.next ∈ bfsIn out l then bfsIn out l else bfsIn out l ++ [a.next] := by
  have h : ∀ (l m : List Arm) (out : List Int), bfsIn out (l ++ m) = bfsIn (bfsIn out l) m := by
    intro l
    induction l with
    | nil => intro m out; rfl
    | cons x l ih => intro m out; rw [List.cons_append, bfsIn, bfsIn, ih]
  rw [h, bfsIn, bfsIn]

/-- The loop over the labels. -/
theorem arms_spec {arr : List Arm} (r0 : List Int) : ∀ (ls : List ByteArray) {out : List Arm} {S : List (List Int)}, SetsOK S → (armsS p role arr ls out S).1.2 = 0 →
    bfsIn r0 out = rng S.length → ∃ r L, (armsS p role arr ls out S).2 = S ++ r ∧ (armsS p role arr ls out S).1.1 = out ++ L ∧ L.map Arm.label = ls ∧
      bfsIn r0 (out ++ L) = rng (S ++ r).length ∧
      ∀ a ∈ L, (a.kind, a.name) = carA arr a.label ∧ mixE p role (nextN arr a.label) = false ∧ 0 ≤ a.next ∧ (S ++ r)[a.next.toNat]? = some (nearL p role (nextN arr a.label))
  | [], out, S, _, _, hb => ⟨[], [], by simp [armsS], by simp [armsS], rfl, by simpa using hb, fun a ha => by cases ha⟩
  | s :: ls, out, S, hS, h, hb => by
    rw [armsS] at h ⊢
    by_cases h1 : (lookS p role S (nextN arr s)).1.2 = 0
    · rw [if_pos h1] at h ⊢
      obtain ⟨hm, k, hk, hg, hc⟩ := look_at h1
      obtain ⟨r1, hr1⟩ := look_grows (p := p) (role := role) S (nextN arr s)
      have hb1 : bfsIn r0 (out ++ [⟨s, (carA arr s).1, (carA arr s).2, (lookS p role S (nextN arr s)).1.1⟩]) = rng (lookS p role S (nextN arr s)).2.length := by
        rw [bfs_snoc, hb, hk]
        show (if (k : Int) ∈ rng S.length then rng S.length else rng S.length ++ [(k : Int)]) = _
        rcases hc with ⟨hlt, e⟩ | ⟨he, e⟩
        · rw [e, if_pos (rng_mem.2 ⟨by omega, by omega⟩)]
        · rw [e, if_neg (fun hm => by have := rng_mem.1 hm; omega), List.length_append, List.length_singleton, rng_succ, he]
      obtain ⟨r, L, e1, e2, e3, e4, e5⟩ := arms_spec r0 ls (look_ok hS _) h hb1
      refine ⟨r1 ++ r, ⟨s, (carA arr s).1, (carA arr s).2, (lookS p role S (nextN arr s)).1.1⟩ :: L, by rw [e1, hr1, List.append_assoc], by rw [e2, List.append_assoc]; rfl, by rw [List.map_cons, e3], ?_, fun a ha => ?_⟩
      · rw [hr1, List.append_assoc S] at e4
        rw [← e4, List.append_assoc out]; rfl
      · rw [hr1] at hg e5
        rcases List.mem_cons.1 ha with rfl | ha
        · refine ⟨rfl, hm, by show 0 ≤ (lookS p role S (nextN arr s)).1.1; omega, ?_⟩
          show (S ++ (r1 ++ r))[(lookS p role S (nextN arr s)).1.1.toNat]? = _
          rw [hk, Int.toNat_natCast, ← List.append_assoc]
          exact get_app hg
        · obtain ⟨q1, q2, q3, q4⟩ := e5 a ha
          exact ⟨q1, q2, q3, by rw [← List.append_assoc]; exact q4⟩
    · rw [if_neg h1] at h
      exact absurd h h1

theorem kindOf_iff (b : Bool) : (kindOf b = 1 ∨ kindOf b = 2) ∧ decide (kindOf b = 1) = b := by cases b <;> simp [kindOf]
/-- One turn. -/
theorem turn_spec (r0 : List Int) {S : List (List Int)} (hS : SetsOK S) {near : List Int} (h : (turnS p role S near).1.2 = 0) (hb : r0 = rng S.length) :
    ∃ r, (turnS p role S near).2 = S ++ r ∧ TurnOf p role (S ++ r) near (turnS p role S near).1.1 ∧ bfsIn r0 (turnS p role S near).1.1.arms = rng (S ++ r).length := by
  unfold turnS at h ⊢
  cases near with
  | nil => exact ⟨[], by simp, .inl ⟨rfl, rfl⟩, by simpa [bfsIn, noTrn] using hb⟩
  | cons x0 rr =>
    simp only at h ⊢
    generalize hnr : x0 :: rr = near at h ⊢
    by_cases h1 : (near.any fun x => decide (sideAt p role x ≠ sideAt p role x0)) = true
    · rw [if_pos h1] at h; simp at h
    rw [if_neg h1] at h ⊢
    by_cases h2 : ((sideAt p role x0).1 && near.any fun x => decide (labsL (pntAt p x) ≠ allL p near)) = true
    · rw [if_pos h2] at h; simp at h
    rw [if_neg h2] at h ⊢
    by_cases h3 : 6 < (allL p near).length
    · rw [if_pos h3] at h; simp at h
    rw [if_neg h3] at h ⊢
    by_cases h4 : clashB (armsN p near) = true
    · rw [if_pos h4] at h; simp at h
    rw [if_neg h4] at h ⊢
    by_cases h5 : (armsS p role (armsN p near) (allL p near) [] S).1.2 = 0
    · rw [if_pos h5] at h ⊢
      obtain ⟨r, L, e1, e2, e3, e4, e5⟩ := arms_spec r0 (allL p near) (out := []) hS h5 (by rw [bfsIn]; exact hb)
      rw [List.nil_append] at e2 e4
      refine ⟨r, e1, .inr ⟨by rw [← hnr]; simp, ⟨(kindOf_iff _).1, fun x hx => ?_, fun hk x hx => ?_, by omega, ?_, by simpa using h4, fun a ha => ?_⟩⟩, ?_⟩
      · simp only [List.any_eq_true, not_exists, not_and, decide_eq_true_eq, ne_eq, Decidable.not_not] at h1
        rw [h1 x hx]
        show _ = (decide (kindOf _ = 1), _)
        rw [(kindOf_iff _).2]
      · have hk1 : (sideAt p role x0).1 = true := by rw [← (kindOf_iff (sideAt p role x0).1).2]; exact decide_eq_true hk
        rw [hk1, Bool.true_and] at h2
        simp only [List.any_eq_true, not_exists, not_and, decide_eq_true_eq, ne_eq, Decidable.not_not] at h2
        exact h2 x hx
      · show List.map Arm.label (armsS p role (armsN p near) (allL p near) [] S).1.1 = _
        rw [e2, e3]
      · exact e5 a (by rw [← e2]; exact ha)
      · show bfsIn r0 (armsS p role (armsN p near) (allL p near) [] S).1.1 = _
        rw [e2]; exact e4
    · rw [if_neg h5] at h
      exact absurd h h5

/-- The turns so far: one for each near set, places as they are first met. -/
structure Half (p : Prt) (role : ByteArray) (S : List (List Int)) (out : List Trn) : Prop where
  sets : SetsOK S
  le : out.length ≤ S.length
  turn : ∀ (i : Nat) (near : List Int) (t : Trn), S[i]? = some near → out[i]? = some t → TurnOf p role S near t
  met : out.foldl (fun row t => bfsIn row t.arms) [0] = rng S.length
theorem role_spec : ∀ (f i : Nat) {out : List Trn} {S : List (List Int)}, Half p role S out → out.length = i → 41 ≤ f + i → (roleS p role f i out S).2 = 0 →
    ∃ r, Half p role (S ++ r) (roleS p role f i out S).1 ∧ (roleS p role f i out S).1.length = (S ++ r).length
  | 0, i, out, S, h, hi, hf, _ => by have := h.le; have := h.sets.len; omega
  | f + 1, i, out, S, h, hi, hf, he => by
    rw [roleS] at he ⊢
    cases hx : S[i]? with
    | none =>
      have := List.getElem?_eq_none_iff.1 hx
      have := h.le
      exact ⟨[], by simpa using h, by simp; omega⟩
    | some near =>
      rw [hx] at he
      simp only at he ⊢
      by_cases h1 : (turnS p role S near).1.2 = 0
      · rw [if_pos h1] at he ⊢
        obtain ⟨r, e1, e2, e3⟩ := turn_spec (out.foldl (fun row t => bfsIn row t.arms) [0]) h.sets h1 h.met
        have hs := turn_ok (p := p) (role := role) h.sets near
        rw [e1] at hs he ⊢
        have hlt := (List.getElem?_eq_some_iff.1 hx).1
        have hh : Half p role (S ++ r) (out ++ [(turnS p role S near).1.1]) := by
          refine ⟨hs, by simp; omega, fun j nr t hj ht => ?_, ?_⟩
          · by_cases hji : j < i
            · rw [List.getElem?_append_left (by omega)] at hj ht
              exact (h.turn j nr t hj ht).grow r
            · have : j = i := by
                have := (List.getElem?_eq_some_iff.1 ht).1
                simp at this; omega
              subst this
              rw [List.getElem?_append_left hlt, hx] at hj
              injection hj with hj; subst hj
              rw [← hi, List.getElem?_concat_length] at ht
              injection ht with ht; subst ht
              exact e2
          · rw [List.foldl_append, List.foldl_cons, List.foldl_nil]
            exact e3
        obtain ⟨r2, q1, q2⟩ := role_spec f (i + 1) hh (by simp; omega) (by omega) he
        exact ⟨r ++ r2, by rw [← List.append_assoc]; exact q1, by rw [← List.append_assoc]; exact q2⟩
      · rw [if_neg h1] at he
        exact absurd he h1

/-- A projection that does not fail, with its near sets. -/
structure Proj (p : Prt) (role : ByteArray) (S : List (List Int)) (l : Loc) : Prop where
  may : prtB p = true
  has : hasB p.roles role = true
  name : l.name = dotN p.name role
  nodup : S.Nodup
  len : S.length ≤ 40
  turns : l.turns.length = S.length
  zero : S[0]? = some (nearL p role [0])
  one : mixE p role [0] = false
  turn : ∀ (i : Nat) (near : List Int) (t : Trn), S[i]? = some near → l.turns[i]? = some t → TurnOf p role S near t
  met : l.turns.foldl (fun row t => bfsIn row t.arms) [0] = rng S.length
theorem roleE_form (h : ¬ (prtB p && hasB p.roles role) = true) : roleE p role = (noLoc, 800) := by unfold roleE; rw [if_neg h]
theorem roleE_ok (h : (roleE p role).2 = 0) : ∃ S, Proj p role S (roleE p role).1 := by
  unfold roleE at h ⊢
  by_cases h1 : (prtB p && hasB p.roles role) = true
  · rw [if_pos h1] at h ⊢
    simp only [Bool.and_eq_true] at h1
    by_cases h2 : (lookS p role [] [0]).1.2 = 0
    · rw [if_pos h2] at h ⊢
      by_cases h3 : (roleS p role 41 0 [] (lookS p role [] [0]).2).2 = 0
      · rw [if_pos h3] at h ⊢
        obtain ⟨hm, k, hk, hg, hc⟩ := look_at h2
        have he : (lookS p role [] [0]).2 = [nearL p role [0]] := by
          rcases hc with ⟨hlt, _⟩ | ⟨_, e⟩
          · simp at hlt
          · simpa using e
        rw [he] at h3 ⊢
        have hh : Half p role [nearL p role [0]] [] := ⟨⟨by simp, by simp⟩, by simp, fun i nr t _ ht => by simp at ht, by simp [rng]⟩
        obtain ⟨r, q1, q2⟩ := role_spec 41 0 hh rfl (by omega) h3
        exact ⟨_, ⟨h1.1, h1.2, rfl, q1.sets.nodup, q1.sets.len, q2, rfl, hm, q1.turn, q1.met⟩⟩
      · rw [if_neg h3] at h; exact absurd h h3
    · rw [if_neg h2] at h; exact absurd h h2
  · rw [if_neg h1] at h; simp at h
end Go.Sy
