/- The plain law of Trim: valid, its own Trim, labels lead to the corresponding turns. -/
import Derived.Test.YtadimhaolhpglaaLc
import Derived.Test.YtadimhaolhpglaaOr
set_option linter.unusedSimpArgs false
set_option linter.unusedVariables false
set_option linter.unusedSectionVars false
namespace Go.Sy

theorem idem_ (l : List Arm) : risA (risA l) = risA l := risA_idem sLt_irr sLt_trans l
theorem ris_ (l : List Arm) : RisW (risA l) := risA_ris sLt_irr sLt_trans l
theorem ris_mov (row : List Int) (l : List Arm) : risA (movA row l) = movA row l := risA_mov sLt_irr sLt_trans row l
section
variable {g : Grp}
theorem reach_pos (hg : InG g) (h0 : 0 < g.length) {x : Int} (hx : x ∈ reachG g) : 0 ≤ x ∧ x < (g.length : Int) := (reach_ok hg h0).1.range x hx
theorem reach_next (hg : InG g) (h0 : 0 < g.length) {x : Int} (hx : x ∈ reachG g) {a : Arm} (ha : a ∈ armsAt g x) : a.next ∈ reachG g := by
  obtain ⟨j, hj, rfl⟩ := List.mem_iff_getElem.1 hx
  exact (reach_ok hg h0).2 j _ hj (List.getElem?_eq_getElem hj) a ha
theorem plc_zero (g : Grp) : plc (reachG g) 0 = 0 := by
  obtain ⟨r, hr⟩ := reach_first g
  simp [plc, hr]
theorem zero_mem (g : Grp) : (0 : Int) ∈ reachG g := by
  obtain ⟨r, hr⟩ := reach_first g
  rw [hr]; exact List.mem_cons_self
theorem reach_trim (hg : InG g) (h0 : 0 < g.length) : reachG (trimG g) = (reachG g).map (plc (reachG g)) :=
  reach_ren sLt_irr sLt_trans hg h0 (plc_zero g) (fun _ hx _ hy h => plc_inj hx hy h)
    (fun x hx => by rw [trimG_at hx, ris_mov]; rfl) (by simp [trimG])
theorem plc_range (hd : (reachG g).Nodup) : (reachG g).map (plc (reachG g)) = (List.range (reachG g).length).map Int.ofNat := by
  apply List.ext_getElem (by simp)
  intro i h1 h2
  simp only [List.length_map] at h1
  simp only [List.getElem_map, List.getElem_range, plc]
  rw [hd.idxOf_getElem i h1]; rfl
theorem plc_plc (hg : InG g) (h0 : 0 < g.length) {x : Int} (hx : x ∈ reachG g) : plc (reachG (trimG g)) (plc (reachG g) x) = plc (reachG g) x := by
  rw [reach_trim hg h0, plc_range (reach_ok hg h0).1.nodup]
  have hlt := List.idxOf_lt_length_iff.2 hx
  unfold plc
  congr 1
  have hd : ((List.range (reachG g).length).map Int.ofNat).Nodup := by
    rw [← plc_range (reach_ok hg h0).1.nodup, List.nodup_iff_pairwise_ne, List.pairwise_map]
    exact List.Pairwise.imp_of_mem (fun {a b} ha hb hab e => hab (plc_inj ha hb e)) (List.nodup_iff_pairwise_ne.1 (reach_ok hg h0).1.nodup)
  have h2 : (List.range (reachG g).length).length = (reachG g).length := List.length_range
  have h3 : ((List.range (reachG g).length).map Int.ofNat)[(reachG g).idxOf x]'(by simpa using hlt) = (((reachG g).idxOf x : Nat) : Int) := by simp
  rw [← h3]
  exact hd.idxOf_getElem _ _
theorem trim_trim (hg : InG g) (h0 : 0 < g.length) : trimG (trimG g) = trimG g := by
  have hr := reach_trim hg h0
  show List.map (fun x => movA (reachG (trimG g)) (armsAt (trimG g) x)) (reachG (trimG g)) = List.map (fun x => movA (reachG g) (armsAt g x)) (reachG g)
  refine (congrArg (List.map fun x => movA (reachG (trimG g)) (armsAt (trimG g) x)) hr).trans ?_
  rw [List.map_map]
  refine List.map_congr_left fun x hx => ?_
  show movA _ (armsAt (trimG g) (plc (reachG g) x)) = movA (reachG g) (armsAt g x)
  rw [trimG_at hx, movA_ren (reachG (trimG g)), ris_mov]
  rw [movA_ren, List.map_map]
  refine List.map_congr_left fun a ha => ?_
  have hn := reach_next hg h0 hx (risA_mem.1 ha)
  show ({ (renA (plc (reachG g)) a) with next := plc (reachG (trimG g)) (plc (reachG g) a.next) } : Arm) = renA (plc (reachG g)) a
  rw [plc_plc hg h0 hn]; rfl
/-- Along labels. -/
theorem find_mov {x : Int} (hu : ((armsAt g x).map Arm.label).Nodup) (row : List Int) (s : ByteArray) :
    (movA row (armsAt g x)).find? (fun a => decide (a.label = s)) = ((armsAt g x).find? fun a => decide (a.label = s)).map (renA (plc row)) := by
  rw [movA_ren, List.find?_map]
  congr 1
  have hp := risA_perm (armsAt g x)
  show (risA (armsAt g x)).find? (fun a => decide (a.label = s)) = _
  generalize armsAt g x = l at *
  cases h : l.find? fun a => decide (a.label = s) with
  | none =>
    rw [List.find?_eq_none] at h ⊢
    exact fun a ha => h a (hp.mem_iff.1 ha)
  | some a =>
    have ha := List.mem_of_find?_eq_some h
    have has := List.find?_some h
    cases h2 : (risA l).find? fun a => decide (a.label = s) with
    | none =>
      rw [List.find?_eq_none] at h2
      exact absurd has (h2 a (hp.mem_iff.2 ha))
    | some b =>
      have hb := hp.mem_iff.1 (List.mem_of_find?_eq_some h2)
      have hbs := List.find?_some h2
      simp only [decide_eq_true_eq] at has hbs
      obtain ⟨i, hi, rfl⟩ := List.mem_iff_getElem.1 ha
      obtain ⟨j, hj, rfl⟩ := List.mem_iff_getElem.1 hb
      have : i = j := by
        have hne := List.nodup_iff_pairwise_ne.1 hu
        rw [List.pairwise_map, List.pairwise_iff_getElem] at hne
        rcases Nat.lt_trichotomy i j with h3 | h3 | h3
        · exact absurd (has.trans hbs.symm) (hne i j hi hj h3)
        · exact h3
        · exact absurd (hbs.trans has.symm) (hne j i hj hi h3)
      subst this; rfl
theorem walk_trim (hg : InG g) (h0 : 0 < g.length) (hu : ∀ x, ((armsAt g x).map Arm.label).Nodup) : ∀ (w : List ByteArray) {x : Int}, x ∈ reachG g → walkG (trimG g) (plc (reachG g) x) w = (walkG g x w).map (plc (reachG g)) ∧ ∀ y, walkG g x w = some y → y ∈ reachG g
  | [], x, hx => ⟨rfl, fun y hy => by simp only [walkG, Option.some.injEq] at hy; exact hy ▸ hx⟩
  | s :: w, x, hx => by
    rw [walkG, walkG, trimG_at hx, find_mov (hu x)]
    cases h : (armsAt g x).find? fun a => decide (a.label = s) with
    | none => exact ⟨rfl, fun y hy => by simp at hy⟩
    | some a =>
      simp only [Option.map_some]
      exact walk_trim hg h0 hu w (reach_next hg h0 hx (List.mem_of_find?_eq_some h))
end
end Go.Sy
