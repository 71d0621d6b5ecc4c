/- The plain law of local types: what Trim makes: valid, its own Trim, labels lead to the corresponding turns. -/
import Derived.Test.YtadimhaolhpglaaLb
set_option linter.unusedSimpArgs false
set_option linter.unusedVariables false
set_option linter.unusedSectionVars false
namespace Go.Sy

section
variable {g : Grp}
/-- The graph that is trimmed. -/
def trimG (g : Grp) : Grp := (reachG g).map fun x => movA (reachG g) (armsAt g x)
def plc (row : List Int) (x : Int) : Int := ((row.idxOf x : Nat) : Int)
theorem plc_inj {row : List Int} {x y : Int} (hx : x ∈ row) (hy : y ∈ row) (h : plc row x = plc row y) : x = y := by
  have h : row.idxOf x = row.idxOf y := by unfold plc at h; omega
  have h1 := List.getElem_idxOf (List.idxOf_lt_length_iff.2 hx)
  have h2 := List.getElem_idxOf (List.idxOf_lt_length_iff.2 hy)
  rw [← h1, ← h2]
  simp only [h]
theorem movA_ren (row : List Int) (l : List Arm) : movA row l = (risA l).map (renA (plc row)) := rfl
theorem trimG_at {x : Int} (hx : x ∈ reachG g) : armsAt (trimG g) (plc (reachG g) x) = movA (reachG g) (armsAt g x) := by
  have hlt := List.idxOf_lt_length_iff.2 hx
  unfold armsAt plc trimG
  rw [Int.toNat_natCast, List.getD_eq_getElem?_getD, List.getElem?_map, List.getElem?_eq_getElem hlt, List.getElem_idxOf hlt]
  rfl
theorem risW_ren {φ : Int → Int} {l : List Arm} (h : RisW l) : RisW (l.map (renA φ)) := by
  unfold RisW at h ⊢
  rw [List.pairwise_map]
  exact h
theorem bfs_enough {g : Grp} {f1 f2 i : Nat} {out : List Int} (h1 : (bfs g f1 i out).length < f1 + i) (h2 : (bfs g f2 i out).length < f2 + i) : bfs g f1 i out = bfs g f2 i out := by
  rcases Nat.le_total f1 f2 with h | h
  · have := bfs_more f1 i out h1 (f2 - f1)
    rw [show f1 + (f2 - f1) = f2 by omega] at this
    exact this.symm
  · have := bfs_more f2 i out h2 (f1 - f2)
    rw [show f2 + (f1 - f2) = f1 by omega] at this
    exact this
variable (hir : ∀ s, sLt s s = false) (htr : ∀ {s t u}, sLt s t = true → sLt t u = true → sLt s u = true)
include hir htr
theorem risA_idem (l : List Arm) : risA (risA l) = risA l := risA_of (risA_ris hir htr l)
theorem risA_mov (row : List Int) (l : List Arm) : risA (movA row l) = movA row l := by
  rw [movA_ren, risA_of (risW_ren (risA_ris hir htr l))]
/-- A graph of which the places reached are those of another one under other numbers. -/
theorem reach_ren {k : Grp} {φ : Int → Int} (hg : InG g) (h0 : 0 < g.length) (hφ0 : φ 0 = 0) (hi : ∀ x ∈ reachG g, ∀ y ∈ reachG g, φ x = φ y → x = y)
    (hk : ∀ x ∈ reachG g, risA (armsAt k (φ x)) = (risA (armsAt g x)).map (renA φ)) (hl : (reachG g).length ≤ k.length) : reachG k = (reachG g).map φ := by
  have h1 := bfs_ren (k := k) (g.length + 1) 0 [0] hi hk
  have h2 := (reach_ok hg h0).1.len
  rw [List.map_cons, List.map_nil, hφ0] at h1
  have h3 : (bfs k (g.length + 1) 0 [0]).length = (reachG g).length := by rw [h1, List.length_map]; rfl
  show bfs k (k.length + 1) 0 [0] = _
  -- rounds enough in either
  have h4 : (bfs k ((reachG g).length + 1) 0 [0]) = (bfs g ((reachG g).length + 1) 0 [0]).map φ := by
    have hs : bfs g ((reachG g).length + 1) 0 [0] = reachG g := by
      have key : ∀ d, bfs g ((reachG g).length + 1 + d) 0 [0] = reachG g → bfs g ((reachG g).length + 1) 0 [0] = reachG g := by
        intro d
        induction d with
        | zero => exact id
        | succ d ih =>
          intro h
          refine ih ?_
          have hle : (bfs g ((reachG g).length + 1 + d) 0 [0]).length ≤ (reachG g).length := by
            have happ : ∀ (f i : Nat) (out : List Int), (bfs g f i out).length ≤ (bfs g (f + 1) i out).length := by
              intro f
              induction f with
              | zero => intro i out; obtain ⟨r, hr⟩ := bfs_app g 1 i out; rw [hr]; simp [bfs]
              | succ f ih2 =>
                intro i out
                rw [bfs, bfs]
                cases out[i]? with
                | none => exact Nat.le_refl _
                | some x => exact ih2 _ _
            have := happ ((reachG g).length + 1 + d) 0 [0]
            rw [show (reachG g).length + 1 + d + 1 = (reachG g).length + 1 + (d + 1) by omega, h] at this
            exact this
          have := bfs_more (g := g) ((reachG g).length + 1 + d) 0 [0] (by omega) 1
          rw [← this, show (reachG g).length + 1 + d + 1 = (reachG g).length + 1 + (d + 1) by omega, h]
      exact key (g.length - (reachG g).length) (by rw [show (reachG g).length + 1 + (g.length - (reachG g).length) = g.length + 1 by omega]; rfl)
    have := bfs_ren (k := k) ((reachG g).length + 1) 0 [0] (by rw [hs]; exact hi) (by rw [hs]; exact hk)
    rwa [List.map_cons, List.map_nil, hφ0] at this
  have hs2 : (bfs k ((reachG g).length + 1) 0 [0]).length = (reachG g).length := by
    rw [bfs_enough (f2 := g.length + 1) ?_ ?_]
    · exact h3
    · have := bfs_app k ((reachG g).length + 1) 0 [0]
      have h5 := congrArg List.length h4
      rw [List.length_map] at h5
      have h6 : (bfs g ((reachG g).length + 1) 0 [0]).length ≤ (reachG g).length := by
        have hmono : ∀ (f d i : Nat) (out : List Int), (bfs g f i out).length ≤ (bfs g (f + d) i out).length := by
          intro f
          induction f with
          | zero => intro d i out; obtain ⟨r, hr⟩ := bfs_app g d i out; rw [Nat.zero_add, hr]; simp [bfs]
          | succ f ih =>
            intro d i out
            rw [show f + 1 + d = (f + d) + 1 by omega, bfs, bfs]
            cases out[i]? with
            | none => exact Nat.le_refl _
            | some x => exact ih d _ _
        have := hmono ((reachG g).length + 1) (g.length - (reachG g).length) 0 [0]
        rw [show (reachG g).length + 1 + (g.length - (reachG g).length) = g.length + 1 by omega] at this
        exact this
      omega
    · rw [h3]; omega
  have h7 := bfs_more ((reachG g).length + 1) 0 [0] (g := k) (by omega) (k.length - (reachG g).length)
  rw [show (reachG g).length + 1 + (k.length - (reachG g).length) = k.length + 1 by omega] at h7
  rw [h7, bfs_enough (f2 := g.length + 1) (by omega) (by rw [h3]; omega), h1]
  rfl
end
end Go.Sy
