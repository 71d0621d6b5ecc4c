/- The plain law of local types: a type under other numbers has the same Trim. -/
import Derived.Test.YtadimhaolhpglaaLe
import Derived.Laws.Strings
set_option linter.unusedSimpArgs false
set_option linter.unusedVariables false
set_option linter.unusedSectionVars false
namespace Go.Sy

theorem bl_tri : ∀ {x y : List UInt8}, Op.bytesLess x y = false → Op.bytesLess y x = false → x = y
  | [], [], _, _ => rfl
  | [], _ :: _, h, _ => by simp [Op.bytesLess] at h
  | _ :: _, [], _, h => by simp [Op.bytesLess] at h
  | a :: x, b :: y, h1, h2 => by
    simp only [Op.bytesLess, Bool.or_eq_false_iff, decide_eq_false_iff_not, Bool.and_eq_false_iff, beq_eq_false_iff_ne, ne_eq] at h1 h2
    have hab : a = b := by
      have h3 := h1.1; have h4 := h2.1
      rw [UInt8.lt_iff_toNat_lt] at h3 h4
      exact UInt8.toNat_inj.1 (by omega)
    subst hab
    have h5 : Op.bytesLess x y = false := by
      rcases h1.2 with h | h
      · exact absurd rfl h
      · exact h
    have h6 : Op.bytesLess y x = false := by
      rcases h2.2 with h | h
      · exact absurd rfl h
      · exact h
    rw [bl_tri h5 h6]
theorem ba_toList_inj {x y : ByteArray} (h : x.toList = y.toList) : x = y := by
  rw [ByteArray.toList_eq, ByteArray.toList_eq] at h
  exact ByteArray.ext (Array.ext' h)
theorem sLt_tri {s t : ByteArray} (h1 : sLt s t = false) (h2 : sLt t s = false) : s = t := ba_toList_inj (bl_tri h1 h2)
theorem nodup_arm {l : List Arm} (h : (l.map Arm.label).Nodup) {a b : Arm} (ha : a ∈ l) (hb : b ∈ l) (e : a.label = b.label) : a = b := by
  obtain ⟨i, hi, rfl⟩ := List.mem_iff_getElem.1 ha
  obtain ⟨j, hj, rfl⟩ := List.mem_iff_getElem.1 hb
  have hne := List.nodup_iff_pairwise_ne.1 h
  rw [List.pairwise_map, List.pairwise_iff_getElem] at hne
  rcases Nat.lt_trichotomy i j with h3 | h3 | h3
  · exact absurd e (hne i j hi hj h3)
  · subst h3; rfl
  · exact absurd e.symm (hne j i hj hi h3)
/-- The same arms in another order, sorted. -/
theorem risA_eq {l m : List Arm} (hp : l.Perm m) (h : (l.map Arm.label).Nodup) : risA l = risA m := by
  have h1 : (risA l).Perm (risA m) := (risA_perm l).trans (hp.trans (risA_perm m).symm)
  refine h1.eq_of_pairwise (le := fun (a b : Arm) => sLt b.label a.label = false) (fun a b ha hb h2 h3 => ?_) (ris_ l) (ris_ m)
  exact nodup_arm h ((risA_perm l).mem_iff.1 ha) (hp.mem_iff.2 ((risA_perm m).mem_iff.1 hb)) (sLt_tri h3 h2)
theorem idxOf_ren {φ : Int → Int} : ∀ {row : List Int} {y : Int}, y ∈ row → (∀ x ∈ row, ∀ y ∈ row, φ x = φ y → x = y) → (row.map φ).idxOf (φ y) = row.idxOf y
  | [], _, h, _ => by cases h
  | a :: row, y, h, hi => by
    rw [List.map_cons, List.idxOf_cons, List.idxOf_cons]
    by_cases e : a = y
    · subst e; simp
    · have e2 : φ a ≠ φ y := fun h2 => e (hi a List.mem_cons_self y h h2)
      have b1 : (a == y) = false := by simpa using e
      have b2 : (φ a == φ y) = false := by simpa using e2
      rw [b1, b2]
      simp only [cond_false]
      rcases List.mem_cons.1 h with h | h
      · exact absurd h.symm e
      · rw [idxOf_ren h fun x hx y hy => hi x (List.mem_cons_of_mem _ hx) y (List.mem_cons_of_mem _ hy)]
theorem trim_ren {l m : Loc} {φ : Int → Int} (hl : locB l = true) (h0 : φ 0 = 0) (hi : ∀ x ∈ reachG l.g, ∀ y ∈ reachG l.g, φ x = φ y → x = y)
    (hk : ∀ x ∈ reachG l.g, (trnAt m (φ x)).kind = (trnAt l x).kind ∧ (trnAt m (φ x)).peer = (trnAt l x).peer ∧ risA (trnAt m (φ x)).arms = (risA (trnAt l x).arms).map (renA φ))
    (hlen : (reachG l.g).length ≤ m.turns.length) : (trimT m).turns = (trimT l).turns := by
  obtain ⟨hg, hp, _⟩ := loc_g hl
  have hr : reachG m.g = (reachG l.g).map φ := reach_ren sLt_irr sLt_trans hg hp h0 hi (fun x hx => by rw [armsAt_loc, armsAt_loc]; exact (hk x hx).2.2) (by simpa [Loc.g] using hlen)
  show List.map _ (reachG m.g) = List.map _ (reachG l.g)
  rw [hr, List.map_map]
  refine List.map_congr_left fun x hx => ?_
  obtain ⟨h1, h2, h3⟩ := hk x hx
  show (⟨(trnAt m (φ x)).kind, (trnAt m (φ x)).peer, movA ((reachG l.g).map φ) (trnAt m (φ x)).arms⟩ : Trn) = _
  rw [h1, h2]
  congr 1
  rw [movA_ren, h3, movA_ren, List.map_map]
  refine List.map_congr_left fun a ha => ?_
  have hn := reach_next hg hp hx (a := a) (by rw [armsAt_loc]; exact risA_mem.1 ha)
  show ({ (renA φ a) with next := plc ((reachG l.g).map φ) (φ a.next) } : Arm) = renA (plc (reachG l.g)) a
  rw [plc, idxOf_ren hn hi]; rfl
end Go.Sy
