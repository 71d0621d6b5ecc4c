/- The plain law of ProjectTrim: a projection is its own Trim, and that of the protocol's Trim; its peers. -/
import Derived.Test.YtademmkjmpgplaaGreatDoorMj5
import Derived.Test.YtademmkjmpgplaaGreatDoorMj1
import Derived.Test.YtademmkjmpgplaaGreatDoorBl1
set_option linter.unusedSimpArgs false
set_option linter.unusedVariables false
set_option linter.unusedSectionVars false
namespace Go.Sy
variable {p q : Prt} {role r : ByteArray} {S : List (List Int)} {l : Loc}
theorem role_pre (p : Prt) (role : ByteArray) : ∀ (f i : Nat) (out : List Trn) (S : List (List Int)), (roleS p role f i out S).2 = 0 → ∃ r, (roleS p role f i out S).1 = out ++ r
  | 0, i, out, S, _ => ⟨[], by simp [roleS]⟩
  | f + 1, i, out, S, he => by
    rw [roleS] at he ⊢
    cases hx : S[i]? with
    | none => exact ⟨[], by simp⟩
    | some near =>
      rw [hx] at he
      simp only at he ⊢
      by_cases h1 : (turnS p role S near).1.2 = 0
      · rw [if_pos h1] at he ⊢
        obtain ⟨r, hr⟩ := role_pre p role f (i + 1) _ _ he
        exact ⟨_, by rw [hr, List.append_assoc]⟩
      · rw [if_neg h1] at he; exact absurd he h1
def metF (row : List Int) (t : Trn) : List Int := bfsIn row t.arms
theorem role_way : ∀ (f i : Nat) {out : List Trn} {S : List (List Int)}, Half p role S out → out.length = i → (roleS p role f i out S).2 = 0 →
    ∀ j, i ≤ j → j < (roleS p role f i out S).1.length → ∃ m, j < m ∧ ((roleS p role f i out S).1.take j).foldl metF [0] = rng m
  | 0, i, out, S, h, hi, _, j, h1, h2 => by rw [roleS] at h2; simp only at h2; omega
  | f + 1, i, out, S, h, hi, he, j, hj1, hj2 => by
    rw [roleS] at he hj2 ⊢
    cases hx : S[i]? with
    | none => rw [hx] at hj2; simp only at hj2; omega
    | some near =>
      rw [hx] at he hj2
      simp only at he hj2 ⊢
      by_cases h1 : (turnS p role S near).1.2 = 0
      · rw [if_pos h1] at he hj2 ⊢
        have hlt := (List.getElem?_eq_some_iff.1 hx).1
        by_cases hji : j = i
        · obtain ⟨r, hr⟩ := role_pre p role f (i + 1) _ _ he
          refine ⟨S.length, by omega, ?_⟩
          rw [hr, hji, List.append_assoc, List.take_left' hi]
          exact h.met
        · obtain ⟨r, e1, e2, e3⟩ := turn_spec (out.foldl (fun row t => bfsIn row t.arms) [0]) h.sets h1 h.met
          have hs := turn_ok (p := p) (role := role) h.sets near
          rw [e1] at hs he hj2 ⊢
          have hh : Half p role (S ++ r) (out ++ [(turnS p role S near).1.1]) := by
            refine ⟨hs, by simp; omega, fun j nr t hj ht => ?_, ?_⟩
            · by_cases hji : j < i
              · rw [List.getElem?_append_left (by omega)] at hj ht
                exact (h.turn j nr t hj ht).grow r
              · have : j = i := by
                  have := (List.getElem?_eq_some_iff.1 ht).1
                  simp at this; omega
                subst this
                rw [List.getElem?_append_left hlt, hx] at hj
                injection hj with hj; subst hj
                rw [← hi, List.getElem?_concat_length] at ht
                injection ht with ht; subst ht
                exact e2
            · rw [List.foldl_append, List.foldl_cons, List.foldl_nil]
              exact e3
          exact role_way f (i + 1) hh (by simp; omega) he j (by omega) hj2
      · rw [if_neg h1] at he; exact absurd he h1
theorem roleE_way (h : (roleE p role).2 = 0) : ∀ j, j < (roleE p role).1.turns.length → ∃ m, j < m ∧ ((roleE p role).1.turns.take j).foldl metF [0] = rng m := by
  unfold roleE at h ⊢
  by_cases h1 : (prtB p && hasB p.roles role) = true
  · rw [if_pos h1] at h ⊢
    by_cases h2 : (lookS p role [] [0]).1.2 = 0
    · rw [if_pos h2] at h ⊢
      by_cases h3 : (roleS p role 41 0 [] (lookS p role [] [0]).2).2 = 0
      · rw [if_pos h3]
        obtain ⟨hm, k, hk, hg, hc⟩ := look_at h2
        have he : (lookS p role [] [0]).2 = [nearL p role [0]] := by
          rcases hc with ⟨hlt, _⟩ | ⟨_, e⟩
          · simp at hlt
          · simpa using e
        rw [he] at h3 ⊢
        have hh : Half p role [nearL p role [0]] [] := ⟨⟨by simp, by simp⟩, by simp, fun i nr t _ ht => by simp at ht, by simp [rng]⟩
        exact fun j hj => role_way 41 0 hh rfl h3 j (Nat.zero_le _) hj
      · rw [if_neg h3] at h; exact absurd h h3
    · rw [if_neg h2] at h; exact absurd h h2
  · rw [if_neg h1] at h; simp at h
theorem risA_asc {l : List Arm} (h : Asc (l.map Arm.label)) : risA l = l := by
  refine risA_of ?_
  unfold Asc at h
  rw [List.pairwise_map] at h
  exact h.imp fun {a b} hab => by
    cases hc : sLt b.label a.label with
    | false => rfl
    | true => have := sLt_trans hab hc; rw [sLt_irr] at this; cases this
theorem proj_asc (h : Proj p role S l) : ∀ t ∈ l.turns, Asc (t.arms.map Arm.label) := fun t ht => by
  obtain ⟨j, hj, rfl⟩ := List.mem_iff_getElem.1 ht
  have hjS : j < S.length := by rw [← h.turns]; exact hj
  rcases h.turn j S[j] l.turns[j] (List.getElem?_eq_getElem hjS) (List.getElem?_eq_getElem hj) with ⟨_, h2⟩ | ⟨_, h2⟩
  · rw [h2]; exact List.Pairwise.nil
  · rw [h2.labs]; exact allL_asc p _
theorem rng_get {n i : Nat} (h : i < n) : (rng n)[i]? = some (i : Int) := by
  unfold rng
  rw [List.getElem?_map, List.getElem?_range h]; rfl
theorem rng_idx {n : Nat} {x : Int} (h : 0 ≤ x ∧ x < (n : Int)) : (((rng n).idxOf x : Nat) : Int) = x := by
  have hx : x ∈ rng n := rng_mem.2 h
  have hlt := List.idxOf_lt_length_of_mem hx
  have h2 := List.getElem_idxOf hlt
  rw [rng_len] at hlt
  have h3 := rng_get hlt
  rw [List.getElem?_eq_getElem (by rw [rng_len]; exact hlt)] at h3
  injection h3 with h3
  rw [← h3]
  exact h2
theorem proj_reach (h : Proj p role S l) (hw : ∀ j, j < l.turns.length → ∃ m, j < m ∧ (l.turns.take j).foldl metF [0] = rng m) : reachG l.g = rng l.turns.length := by
  have hgl : l.g.length = l.turns.length := by simp [Loc.g]
  have hk : ∀ (k i : Nat), i + k = l.turns.length → bfs l.g (k + 1) i ((l.turns.take i).foldl metF [0]) = rng l.turns.length := by
    intro k
    induction k with
    | zero =>
      intro i hi
      have hm : (l.turns.take i).foldl metF [0] = rng l.turns.length := by
        rw [List.take_of_length_le (by omega), h.turns]; exact h.met
      rw [bfs, hm, List.getElem?_eq_none (by rw [rng_len]; omega)]
    | succ k ih =>
      intro i hi
      obtain ⟨m, hm1, hm2⟩ := hw i (by omega)
      rw [bfs, hm2, rng_get hm1]
      simp only
      have ha : armsAt l.g (i : Int) = (l.turns[i]'(by omega)).arms := by
        rw [armsAt_loc]
        unfold trnAt
        rw [List.getD_eq_getElem?_getD, Int.toNat_natCast, List.getElem?_eq_getElem (by omega)]; rfl
      rw [ha, risA_asc (proj_asc h _ (List.getElem_mem _))]
      have hs : (l.turns.take (i + 1)).foldl metF [0] = bfsIn (rng m) (l.turns[i]'(by omega)).arms := by
        rw [List.take_succ_eq_append_getElem (by omega), List.foldl_append, hm2]; rfl
      rw [← hs]
      exact ih (i + 1) (by omega)
  have := hk l.turns.length 0 (by omega)
  unfold reachG
  rw [hgl]
  exact this
theorem proj_trim (h : Proj p role S l) (hw : ∀ j, j < l.turns.length → ∃ m, j < m ∧ (l.turns.take j).foldl metF [0] = rng m) : trimT l = l := by
  have hr := proj_reach h hw
  have hlv := proj_may h
  unfold trimT
  rw [hr]
  have ht : (rng l.turns.length).map (fun x => (⟨(trnAt l x).kind, (trnAt l x).peer, movA (rng l.turns.length) (trnAt l x).arms⟩ : Trn)) = l.turns := by
    refine List.ext_getElem (by rw [List.length_map, rng_len]) fun i h1 h2 => ?_
    have hx : (rng l.turns.length)[i]'(by rw [rng_len]; exact h2) = (i : Int) := by
      have := rng_get h2
      rw [List.getElem?_eq_getElem (by rw [rng_len]; exact h2)] at this
      injection this
    have hta : trnAt l (i : Int) = l.turns[i] := by
      unfold trnAt
      rw [List.getD_eq_getElem?_getD, Int.toNat_natCast, List.getElem?_eq_getElem h2]; rfl
    rw [List.getElem_map, hx, hta]
    have hmem := List.getElem_mem h2
    have hmov : movA (rng l.turns.length) l.turns[i].arms = l.turns[i].arms := by
      unfold movA
      rw [risA_asc (proj_asc h _ hmem)]
      have : ∀ a ∈ l.turns[i].arms, ({ a with next := (((rng l.turns.length).idxOf a.next : Nat) : Int) } : Arm) = a := fun a ha => by
        have hb := trn_ok hlv _ hmem
        have hn : 0 ≤ a.next ∧ a.next < (l.turns.length : Int) := by
          rcases trn_arms hb with e | e
          · rw [e] at ha; cases ha
          · exact arm_next ((arms_all e).2.1 a ha)
        rw [rng_idx hn]
      rw [List.map_congr_left this, List.map_id']
    rw [hmov]
  rw [ht]
end Go.Sy
