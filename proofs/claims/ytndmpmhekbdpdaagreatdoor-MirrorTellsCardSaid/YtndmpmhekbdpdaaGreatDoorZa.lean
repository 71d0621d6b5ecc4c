/- The plain law of the reference's rows: Put, Sorted, the nearest points. -/
import Derived.Test.YtndmpmhekbdpdaaGreatDoorMj1
set_option linter.unusedSimpArgs false
set_option linter.unusedVariables false
set_option linter.unusedSectionVars false
namespace Go.Sy
def insN (s : ByteArray) : List ByteArray → List ByteArray
  | [] => [s]
  | x :: l => if sLt x s then x :: insN s l else if x = s then x :: l else s :: x :: l
def PutR (l : List ByteArray) (s : ByteArray) : List ByteArray := l.foldl (fun o x => insN x o) [s]
theorem insN_mem {s x : ByteArray} : ∀ {l : List ByteArray}, x ∈ insN s l ↔ x = s ∨ x ∈ l
  | [] => by simp [insN]
  | y :: l => by
    rw [insN]
    split
    · rw [List.mem_cons, insN_mem, List.mem_cons]
      constructor
      · rintro (h | h | h)
        · exact .inr (.inl h)
        · exact .inl h
        · exact .inr (.inr h)
      · rintro (h | h | h)
        · exact .inr (.inl h)
        · exact .inl h
        · exact .inr (.inr h)
    · split
      · rename_i h
        subst h
        constructor
        · exact fun h => .inr h
        · rintro (h | h)
          · rw [h]; exact List.mem_cons_self
          · exact h
      · rw [List.mem_cons]
theorem insN_asc {s : ByteArray} : ∀ {l : List ByteArray}, Asc l → Asc (insN s l)
  | [], _ => by simp [insN, Asc]
  | x :: l, h => by
    obtain ⟨h1, h2⟩ := List.pairwise_cons.1 h
    rw [insN]
    split
    · rename_i hx
      refine List.pairwise_cons.2 ⟨fun y hy => ?_, insN_asc h2⟩
      rcases insN_mem.1 hy with e | e
      · rw [e]; exact hx
      · exact h1 y e
    · rename_i hx
      split
      · exact h
      · rename_i hne
        have hsx : sLt s x = true := by
          cases hc : sLt s x with
          | true => rfl
          | false => exact absurd (sLt_tri (by simpa using hx) hc) hne
        refine List.pairwise_cons.2 ⟨fun y hy => ?_, h⟩
        rcases List.mem_cons.1 hy with e | e
        · rw [e]; exact hsx
        · exact sLt_trans hsx (h1 y e)
theorem putR_fold : ∀ (l out : List ByteArray), Asc out → Asc (l.foldl (fun o x => insN x o) out) ∧ ∀ x, x ∈ l.foldl (fun o x => insN x o) out ↔ x ∈ out ∨ x ∈ l
  | [], out, h => ⟨h, fun x => by simp⟩
  | y :: l, out, h => by
    rw [List.foldl_cons]
    obtain ⟨h1, h2⟩ := putR_fold l _ (insN_asc (s := y) h)
    refine ⟨h1, fun x => ?_⟩
    rw [h2, insN_mem, List.mem_cons]
    constructor
    · rintro ((h | h) | h)
      · exact .inr (.inl h)
      · exact .inl h
      · exact .inr (.inr h)
    · rintro (h | h | h)
      · exact .inl (.inr h)
      · exact .inl (.inl h)
      · exact .inr h
theorem putR_eq (l : List ByteArray) (s : ByteArray) : PutR l s = putN l s := by
  obtain ⟨h1, h2⟩ := putR_fold l [s] (List.pairwise_singleton _ _)
  refine asc_ext h1 (putN_asc l s) fun x => ?_
  show x ∈ l.foldl (fun o x => insN x o) [s] ↔ _
  rw [h2, putN_mem, List.mem_singleton]
  exact or_comm
theorem insN_at {s : ByteArray} : ∀ {l : List ByteArray} {k : Nat}, k ≤ l.length → (∀ j (h : j < l.length), j < k → sLt l[j] s = true) → (∀ h : k < l.length, sLt l[k] s = false) →
    insN s l = if h : k < l.length then (if l[k] = s then l else l.take k ++ s :: l.drop k) else l ++ [s]
  | [], k, hk, _, _ => by simp [insN]
  | x :: l, 0, _, _, h2 => by
    have h := h2 (by simp)
    rw [List.getElem_cons_zero] at h
    rw [insN, h, dif_pos (by simp)]
    simp
  | x :: l, k + 1, hk, h1, h2 => by
    have h := h1 0 (by simp) (by omega)
    rw [List.getElem_cons_zero] at h
    rw [insN, h, if_pos rfl, insN_at (l := l) (k := k) (by simpa using hk) (fun j hj hk => by
      have := h1 (j + 1) (by simpa using hj) (by omega)
      rwa [List.getElem_cons_succ] at this) (fun hl => by
      have := h2 (by simpa using hl)
      rwa [List.getElem_cons_succ] at this)]
    by_cases hl : k < l.length
    · rw [dif_pos hl, dif_pos (by simpa using hl)]
      simp only [List.getElem_cons_succ, List.take_succ_cons, List.drop_succ_cons, List.cons_append]
      split <;> rfl
    · rw [dif_neg hl, dif_neg (by simpa using hl)]; rfl
theorem insA_at {a : Arm} : ∀ {l : List Arm} {k : Nat}, RisW l → ∀ (_hk : k ≤ l.length), (∀ h : 0 < k, sLt a.label (l[k - 1]'(by omega)).label = false) → (∀ h : k < l.length, sLt a.label l[k].label = true) →
    insA a l = l.take k ++ a :: l.drop k
  | [], k, _, _, _, _ => by simp [insA]
  | b :: l, 0, _, _, _, h2 => by
    have h := h2 (by simp)
    rw [List.getElem_cons_zero] at h
    rw [insA, h]; simp
  | b :: l, k + 1, hr, hk, h1, h2 => by
    obtain ⟨r1, r2⟩ := List.pairwise_cons.1 hr
    have hk' : k ≤ l.length := by simpa using hk
    have hb : sLt a.label b.label = false := by
      have h := h1 (by omega)
      by_cases h0 : k = 0
      · subst h0; simpa using h
      · have hi : (b :: l)[k + 1 - 1]'(by omega) = l[k - 1]'(by omega) := by
          obtain ⟨m, rfl⟩ : ∃ m, k = m + 1 := ⟨k - 1, by omega⟩
          simp
        rw [hi] at h
        have hm := r1 _ (List.getElem_mem (l := l) (n := k - 1) (by omega))
        cases hc : sLt a.label b.label with
        | false => rfl
        | true =>
          cases hd : sLt b.label (l[k - 1]'(by omega)).label with
          | true => rw [sLt_trans hc hd] at h; cases h
          | false =>
            have e := sLt_tri hd hm
            rw [e] at hc; rw [hc] at h; cases h
    rw [insA, hb, if_neg (by simp), insA_at r2 hk' (fun h0 => by
      have h := h1 (by omega)
      have hi : (b :: l)[k + 1 - 1]'(by omega) = l[k - 1]'(by omega) := by
        obtain ⟨m, rfl⟩ : ∃ m, k = m + 1 := ⟨k - 1, by omega⟩
        simp
      rwa [hi] at h) (fun hl => by
      have := h2 (by simpa using hl)
      rwa [List.getElem_cons_succ] at this)]
    simp
theorem risA_snoc {l : List Arm} {i : Nat} (h : i < l.length) : risA (l.take (i + 1)) = insA l[i] (risA (l.take i)) := by
  unfold risA
  rw [List.take_succ_eq_append_getElem h, List.foldl_append]; rfl
variable {p : Prt} {role : ByteArray}
end Go.Sy
