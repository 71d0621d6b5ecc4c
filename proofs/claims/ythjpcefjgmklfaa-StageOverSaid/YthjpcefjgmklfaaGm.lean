/- Plain law of StageOver. -/
import Derived.Test.YthjpcefjgmklfaaGl
import Derived.Test.YthjpcefjgmklfaaFo
set_option linter.unusedSimpArgs false
set_option linter.unusedVariables false
set_option linter.unusedSectionVars false
namespace Go.Sy
open Go.Proofs
set_option maxRecDepth 100000
attribute [local irreducible] SOps Goes DOps EOps

def endN : Nd := ⟨0, ⟨#[]⟩, []⟩
def cB (b : Bk) : Bk := ⟨b.nodes ++ [endN], [], []⟩
theorem sortB_up {k a n : Int} (h : sortB k a n = true) : sortB k a (n + 1) = true := by
  unfold sortB at h ⊢
  split
  · rename_i hk
    rw [if_pos hk] at h
    simp only [Bool.and_eq_true, decide_eq_true_eq] at h ⊢
    omega
  · rename_i hk
    rw [if_neg hk] at h
    exact h
theorem nodeB_up {n : Int} {x : Nd} (h : nodeB n x = true) : nodeB (n + 1) x = true := by
  unfold nodeB at h ⊢
  split
  · rename_i hk; rw [if_pos hk] at h; exact h
  · rename_i hk; rw [if_neg hk] at h
    simp only [Bool.and_eq_true] at h ⊢
    obtain ⟨h1, h2, h3, h4, h5⟩ := h
    refine ⟨h1, h2, h3, h4, ?_⟩
    unfold armsB at h5 ⊢
    rw [List.all_eq_true] at h5 ⊢
    intro i hi
    have := h5 i hi
    unfold okAt at this ⊢
    split
    · rfl
    · rename_i e he
      rw [he] at this
      simp only [Bool.and_eq_true, decide_eq_true_eq] at this ⊢
      obtain ⟨g1, g2, g3, g4, g5⟩ := this
      exact ⟨g1, g2, g3, by omega, sortB_up g5⟩
theorem cB_len (b : Bk) : (cB b).nodes.length = b.nodes.length + 1 := by simp [cB]
theorem cB_book {b : Bk} (h : bookB b = true) (h8 : b.nodes.length ≤ 8) : bookB (cB b) = true := by
  have hn : ∀ x ∈ b.nodes, nodeB b.nodes.length x = true := by
    simp only [bookB, Bool.and_eq_true, decide_eq_true_eq, List.all_eq_true] at h
    exact h.2.2.2
  have h1 : (cB b).nodes.all (nodeB (cB b).nodes.length) = true := by
    rw [cB_len, List.all_eq_true]
    intro x hx
    have hx : x ∈ b.nodes ++ [endN] := hx
    rw [List.mem_append] at hx
    have e : ((b.nodes.length + 1 : Nat) : Int) = (b.nodes.length : Int) + 1 := by omega
    rw [e]
    rcases hx with hx | hx
    · exact nodeB_up (hn x hx)
    · rw [List.mem_singleton] at hx; subst hx; rfl
  have h2 : decide ((cB b).nodes.length ≤ 400) = true := by rw [cB_len]; simp; omega
  unfold bookB
  rw [h1, h2]
  rfl
def st2 (x y : Nat) (m : List ByteArray) : Stg := ⟨[(x : Int), (y : Int)], [[], m, [], []]⟩
theorem may2 {b : Bk} (h : bookB b = true) (h8 : b.nodes.length ≤ 8) {x y : Nat} (hx : x ≤ b.nodes.length) (hy : y ≤ b.nodes.length) {m : List ByteArray} (hm : m.length ≤ 64) : mayS (cB b) abL (st2 x y m) = true := by
  have ho : onceB abL = true := by decide
  have hl : (cB b).nodes.length = b.nodes.length + 1 := cB_len b
  simp only [mayS, cB_book h h8, ho, Bool.and_eq_true, decide_eq_true_eq, true_and]
  refine ⟨by decide, by decide, rfl, rfl, ?_, ?_⟩
  · simp [st2, atB, hl]; omega
  · simp [st2, longB]; omega
theorem nd2_0 {b : Bk} {x y : Nat} {m : List ByteArray} : stNd (cB b) (st2 x y m) 0 = ((cB b).nodes[x]?).getD endN := by simp [stNd, atN, st2, endN]
theorem nd2_1 {b : Bk} {x y : Nat} {m : List ByteArray} : stNd (cB b) (st2 x y m) 1 = ((cB b).nodes[y]?).getD endN := by simp [stNd, atN, st2, endN]
theorem cB_end (b : Bk) : (cB b).nodes[b.nodes.length]? = some endN := by simp [cB]
theorem cB_idx {b : Bk} {k : Nat} (hk : k ≤ b.nodes.length) : ((cB b).nodes.map Nd.cs)[k]? = some ((((cB b).nodes[k]?).getD endN).cs) := by
  have h : k < (cB b).nodes.length := by rw [cB_len]; omega
  simp [h]
theorem place_end : placeI abL ⟨#[]⟩ = -1 := by decide
/-- Where both are at the end there are no moves. -/
theorem moves_end {b : Bk} {m : List ByteArray} : movesS (cB b) abL (st2 b.nodes.length b.nodes.length m) = [] := by
  unfold movesS
  split
  · have h0 : movesAt (cB b) abL (st2 b.nodes.length b.nodes.length m) 0 = [] := by
      simp [movesAt, peerI, nd2_0, cB_end, endN, place_end]
    have h1 : movesAt (cB b) abL (st2 b.nodes.length b.nodes.length m) 1 = [] := by
      simp [movesAt, peerI, nd2_1, cB_end, endN, place_end]
    show (List.range 2).flatMap _ = []
    simp [List.range, List.range.loop, h0, h1]
  · rfl
theorem over2 {b : Bk} (h : bookB b = true) (h8 : b.nodes.length ≤ 8) {y : Nat} (hy : y ≤ b.nodes.length) : overS (cB b) abL (st2 b.nodes.length y []) = decide ((((cB b).nodes[y]?).getD endN).kind = 0) := by
  have hM := may2 h h8 (Nat.le_refl _) hy (m := []) (by simp)
  unfold overS
  rw [hM]
  have e0 : (stNd (cB b) (st2 b.nodes.length y []) 0).kind = 0 := by rw [nd2_0, cB_end]; rfl
  have e1 := nd2_1 (b := b) (x := b.nodes.length) (y := y) (m := [])
  have hr : List.range (st2 b.nodes.length y []).at_.length = [0, 1] := rfl
  have hm : ((st2 b.nodes.length y []).mail.any fun m => decide (0 < m.length)) = false := by simp [st2]
  rw [hr, hm]
  simp only [List.all_cons, List.all_nil, e0, e1]
  simp
theorem over_letter {b : Bk} {x y : Nat} {s : ByteArray} : overS (cB b) abL (st2 x y [s]) = false := by
  simp [overS, st2]
theorem begin2 {b : Bk} (h : bookB b = true) (h8 : b.nodes.length ≤ 8) {x y : Nat} (hx : x ≤ b.nodes.length) (hy : y ≤ b.nodes.length) : beginO (cB b) abL [(x : Int), (y : Int)] = (st2 x y [], 0) := by
  have hs : stg0 abL.length [(x : Int), (y : Int)] = st2 x y [] := rfl
  unfold beginO
  rw [if_neg (by decide), hs, if_pos (may2 h h8 hx hy (by simp))]
theorem same_letter {x y : Nat} {s : ByteArray} : sameS (st2 x y []) (st2 x y [s]) = false := by simp [sameS, st2]

section
variable {b : Bk} (h : bookB b = true) (h8 : b.nodes.length ≤ 8)
include h h8
theorem c_begin {x y : Nat} (hx : x ≤ b.nodes.length) (hy : y ≤ b.nodes.length) : Con Try.prog 23 [] [Ag (cB b).cs, C1 (namesT abL), C1 (intsT [(x : Int), (y : Int)])] (.tup [Ag (st2 x y []).cs, C1 (.int .i64 0)]) [] := by
  have hc := begin_c (cB b) abL [(x : Int), (y : Int)] (by simp)
  rw [begin2 h h8 hx hy] at hc
  exact hc
theorem c_over {y : Nat} (hy : y ≤ b.nodes.length) : Con Try.prog 33 [] [Ag (cB b).cs, C1 (namesT abL), Ag (st2 b.nodes.length y []).cs] (Rv (.bool (decide ((((cB b).nodes[y]?).getD endN).kind = 0)))) [] := by
  have hc := over_c (cB b) abL (st2 b.nodes.length y [])
  rw [over2 h h8 hy] at hc
  exact hc
theorem c_overE : Con Try.prog 33 [] [Ag (cB b).cs, C1 (namesT abL), Ag (st2 b.nodes.length b.nodes.length []).cs] (Rv (.bool true)) [] := by
  have hc := c_over h h8 (Nat.le_refl _)
  rw [cB_end] at hc
  exact hc
theorem c_moves (m : List ByteArray) : Con Try.prog 31 [] [Ag (cB b).cs, C1 (namesT abL), Ag (st2 b.nodes.length b.nodes.length m).cs] (Rv (movesT [])) [] := by
  have hc := moves_c (cB b) abL (st2 b.nodes.length b.nodes.length m) (book_few (cB_book h h8))
  rw [moves_end] at hc
  exact hc
theorem c_may : Con Try.prog 38 [] [Ag (cB b).cs] (Rv (.bool true)) [] := by
  have hc := bookmay_c (cB b)
  rw [cB_book h h8] at hc
  exact hc
end
theorem c_overL (b : Bk) (x y : Nat) (s : ByteArray) : Con Try.prog 33 [] [Ag (cB b).cs, C1 (namesT abL), Ag (st2 x y [s]).cs] (Rv (.bool false)) [] := by
  have hc := over_c (cB b) abL (st2 x y [s])
  rw [over_letter] at hc
  exact hc
theorem c_same (x y : Nat) (s : ByteArray) : Con Try.prog 35 [] [Ag (st2 x y []).cs, Ag (st2 x y [s]).cs] (Rv (.bool false)) [] := by
  have hc := same_c (st2 x y []) (st2 x y [s])
  rw [same_letter] at hc
  exact hc
theorem cB_le (b : Bk) : LeC (.slice false 3 (b.nodes.map Nd.cs ++ [[.int .i64 0, .str ⟨#[]⟩, .nils]])) (nodesT (cB b).nodes) := by
  show LeC _ (CT.slice false 3 (List.map _ (_ ++ _)))
  rw [List.map_append]
  exact le_deep (.append (.refl _) (.cons (.cons (.refl _) (.cons (.refl _) (.cons (.nil 4) .nil))) .nil))
theorem mail_le (s : ByteArray) : LeC (.slice true 1 [[.nils], [.slice true 1 [[.str s]]], [.nils], [.nils]]) (.slice true 1 [[namesT []], [namesT [s]], [namesT []], [namesT []]]) :=
  le_deep (.cons (.cons (.nil 1) .nil) (.cons (.cons (.nn true 1 _) .nil) (.cons (.cons (.nil 1) .nil) (.cons (.cons (.nil 1) .nil) .nil))))
end Go.Sy
