/- The plain law of local types: sorted arms; what is reached is closed, without repetition, in range. -/
import Derived.Test.YtadimhaolhpglaaLa
set_option linter.unusedSimpArgs false
set_option linter.unusedVariables false
set_option linter.unusedSectionVars false
namespace Go.Sy

/-! ### Sorted arms -/
theorem insA_perm (a : Arm) : ∀ l : List Arm, (insA a l).Perm (a :: l)
  | [] => .refl _
  | b :: l => by
    rw [insA]
    split
    · exact .refl _
    · exact ((insA_perm a l).cons b).trans (.swap a b l)
theorem risA_perm (l : List Arm) : (risA l).Perm l := by
  have h : ∀ (l out : List Arm), (l.foldl (fun out a => insA a out) out).Perm (out ++ l) := by
    intro l
    induction l with
    | nil => intro out; simp
    | cons a l ih =>
      intro out
      rw [List.foldl_cons]
      refine (ih _).trans (((insA_perm a out).append_right l).trans ?_)
      exact (List.perm_middle (a := a) (l₁ := out) (l₂ := l)).symm
  have := h l []
  rw [List.nil_append] at this
  exact this
theorem risA_mem {l : List Arm} {a : Arm} : a ∈ risA l ↔ a ∈ l := (risA_perm l).mem_iff
theorem risA_len (l : List Arm) : (risA l).length = l.length := (risA_perm l).length_eq
/-- No label stands ahead of a smaller one. -/
def RisW (l : List Arm) : Prop := l.Pairwise fun a b => sLt b.label a.label = false
theorem insA_end {a : Arm} : ∀ {l : List Arm}, (∀ b ∈ l, sLt a.label b.label = false) → insA a l = l ++ [a]
  | [], _ => rfl
  | b :: l, h => by
    rw [insA, if_neg (by rw [h b List.mem_cons_self]; decide), insA_end fun c hc => h c (List.mem_cons_of_mem _ hc)]; rfl
/-- What is sorted stays as it is. -/
theorem risA_of {l : List Arm} (h : RisW l) : risA l = l := by
  have key : ∀ (l out : List Arm), RisW (out ++ l) → l.foldl (fun out a => insA a out) out = out ++ l := by
    intro l
    induction l with
    | nil => intro out _; simp
    | cons a l ih =>
      intro out ho
      have h1 : ∀ b ∈ out, sLt a.label b.label = false := fun b hb => (List.pairwise_append.1 ho).2.2 b hb a List.mem_cons_self
      rw [List.foldl_cons, insA_end h1, ih _ (by simpa using ho)]
      simp
  have := key l [] (by simpa using h)
  rw [List.nil_append] at this
  exact this
theorem insA_ris (hir : ∀ s, sLt s s = false) (htr : ∀ {s t u}, sLt s t = true → sLt t u = true → sLt s u = true) {a : Arm} : ∀ {l : List Arm}, RisW l → RisW (insA a l)
  | [], _ => by simp [insA, RisW]
  | b :: l, h => by
    have has : ∀ {s t}, sLt s t = true → sLt t s = false := fun {s t} h1 => by
      cases h2 : sLt t s with
      | false => rfl
      | true => have := htr h1 h2; rw [hir] at this; cases this
    rw [insA]
    obtain ⟨h1, h2⟩ := List.pairwise_cons.1 h
    split
    · rename_i hab
      refine List.pairwise_cons.2 ⟨fun c hc => ?_, h⟩
      rcases List.mem_cons.1 hc with rfl | hc
      · exact has hab
      · cases h3 : sLt c.label a.label with
        | false => rfl
        | true => have := htr h3 hab; rw [h1 c hc] at this; cases this
    · rename_i hab
      refine List.pairwise_cons.2 ⟨fun c hc => ?_, insA_ris hir htr h2⟩
      rcases (insA_perm a l).mem_iff.1 hc |> List.mem_cons.1 with rfl | hc
      · simpa using hab
      · exact h1 c hc
theorem risA_ris (hir : ∀ s, sLt s s = false) (htr : ∀ {s t u}, sLt s t = true → sLt t u = true → sLt s u = true) (l : List Arm) : RisW (risA l) := by
  have h : ∀ (l out : List Arm), RisW out → RisW (l.foldl (fun out a => insA a out) out) := by
    intro l
    induction l with
    | nil => intro out ho; exact ho
    | cons a l ih => intro out ho; exact ih _ (insA_ris hir htr ho)
  exact h l [] (by simp [RisW])

/-! ### What is reached -/
/-- All arms lead to places of the graph. -/
def InG (g : Grp) : Prop := ∀ x a, a ∈ armsAt g x → 0 ≤ a.next ∧ a.next < (g.length : Int)
structure Reached (g : Grp) (out : List Int) : Prop where
  nodup : out.Nodup
  range : ∀ x ∈ out, 0 ≤ x ∧ x < (g.length : Int)
theorem bfsIn_ok {g : Grp} : ∀ (l : List Arm) {out : List Int}, Reached g out → (∀ a ∈ l, 0 ≤ a.next ∧ a.next < (g.length : Int)) → Reached g (bfsIn out l)
  | [], _, h, _ => h
  | a :: l, out, h, hl => by
    rw [bfsIn]
    refine bfsIn_ok l ?_ fun b hb => hl b (List.mem_cons_of_mem _ hb)
    split
    · exact h
    · rename_i hn
      refine ⟨List.nodup_append.2 ⟨h.nodup, by simp, fun x hx y hy e => ?_⟩, fun x hx => ?_⟩
      · rw [List.mem_singleton] at hy; rw [e, hy] at hx; exact hn hx
      · rcases List.mem_append.1 hx with hx | hx
        · exact h.range x hx
        · rw [List.mem_singleton] at hx; rw [hx]; exact hl a List.mem_cons_self
theorem nodup_lt : ∀ (n : Nat) (l : List Nat), l.Nodup → (∀ k ∈ l, k < n) → l.length ≤ n
  | 0, l, _, h => by
    cases l with
    | nil => simp
    | cons a l => exact absurd (h a List.mem_cons_self) (by omega)
  | n + 1, l, hd, h => by
    by_cases hm : n ∈ l
    · have h1 := nodup_lt n (l.erase n) (hd.erase n) fun k hk => by
        have h2 := h k (List.mem_of_mem_erase hk)
        have h3 : k ≠ n := fun e => by subst e; exact (hd.not_mem_erase) hk
        omega
      rw [List.length_erase_of_mem hm] at h1
      omega
    · have := nodup_lt n l hd fun k hk => by
        have h2 := h k hk
        have h3 : k ≠ n := fun e => hm (e ▸ hk)
        omega
      omega
theorem Reached.len {g : Grp} {out : List Int} (h : Reached g out) : out.length ≤ g.length := by
  have h1 : (out.map Int.toNat).Nodup := by
    rw [List.nodup_iff_pairwise_ne, List.pairwise_map]
    refine List.Pairwise.imp_of_mem (fun {a b} ha hb hab => ?_) (List.nodup_iff_pairwise_ne.1 h.nodup)
    have := h.range a ha; have := h.range b hb
    omega
  have h2 : ∀ k ∈ out.map Int.toNat, k < g.length := fun k hk => by
    obtain ⟨x, hx, rfl⟩ := List.mem_map.1 hk
    have := h.range x hx; omega
  simpa using nodup_lt g.length _ h1 h2
/-- The arms of the first k places lead to places that were met. -/
def ClosedTo (g : Grp) (k : Nat) (out : List Int) : Prop := ∀ j x, j < k → out[j]? = some x → ∀ a ∈ armsAt g x, a.next ∈ out
theorem bfs_ok {g : Grp} (hg : InG g) : ∀ (f i : Nat) (out : List Int), Reached g out → ClosedTo g i out → i ≤ out.length → g.length < f + i → Reached g (bfs g f i out) ∧ ClosedTo g (bfs g f i out).length (bfs g f i out)
  | 0, i, out, h, _, hi, hf => by have := h.len; omega
  | f + 1, i, out, h, hc, hi, hf => by
    rw [bfs]
    cases hx : out[i]? with
    | none =>
      have : out.length ≤ i := List.getElem?_eq_none_iff.1 hx
      show Reached g out ∧ ClosedTo g out.length out
      exact ⟨h, fun j x hj => hc j x (by omega)⟩
    | some x =>
      simp only
      have hlt := (List.getElem?_eq_some_iff.1 hx).1
      have h1 := bfsIn_ok (risA (armsAt g x)) h fun a ha => hg x a (risA_mem.1 ha)
      obtain ⟨r, hr⟩ := bfsIn_app (risA (armsAt g x)) out
      refine bfs_ok hg f (i + 1) _ h1 (fun j y hj hy a ha => ?_) (by rw [hr, List.length_append]; omega) (by omega)
      rw [hr, List.getElem?_append_left (by omega)] at hy
      rw [bfsIn_mem]
      by_cases hji : j = i
      · subst hji
        rw [hx] at hy; injection hy with hy; subst hy
        exact .inr ⟨a, risA_mem.2 ha, rfl⟩
      · exact .inl (hc j y (by omega) hy a ha)
theorem reach_ok {g : Grp} (hg : InG g) (h0 : 0 < g.length) : Reached g (reachG g) ∧ ClosedTo g (reachG g).length (reachG g) :=
  bfs_ok hg _ 0 [0] ⟨by simp, fun x hx => by rw [List.mem_singleton] at hx; subst hx; omega⟩ (fun j x hj => by omega) (by simp) (by omega)
/-- More rounds change nothing. -/
theorem bfs_more {g : Grp} : ∀ (f i : Nat) (out : List Int), (bfs g f i out).length < f + i → ∀ d, bfs g (f + d) i out = bfs g f i out
  | 0, i, out, h, d => by
    rw [bfs] at h
    have : out[i]? = none := List.getElem?_eq_none (by omega)
    cases d with
    | zero => rfl
    | succ d => simp only [Nat.zero_add, bfs, this]
  | f + 1, i, out, h, d => by
    rw [show f + 1 + d = (f + d) + 1 by omega, bfs, bfs]
    rw [bfs] at h
    cases hx : out[i]? with
    | none => rfl
    | some x =>
      rw [hx] at h
      simp only at h ⊢
      exact bfs_more f (i + 1) _ (by omega) d
theorem reach_first (g : Grp) : ∃ r, reachG g = 0 :: r := by
  obtain ⟨r, hr⟩ := bfs_app g (g.length + 1) 0 [0]
  exact ⟨r, by rw [reachG, hr]; rfl⟩
end Go.Sy
