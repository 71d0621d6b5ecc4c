/- The plain law of local types: a trimmed type is valid, is its own Trim, is the same type. -/
import Derived.Test.YtadimhaolhpglaaLd
set_option linter.unusedSimpArgs false
set_option linter.unusedVariables false
set_option linter.unusedSectionVars false
namespace Go.Sy

section
variable {l : Loc}
theorem armsAt_loc (l : Loc) (x : Int) : armsAt l.g x = (trnAt l x).arms := by
  unfold armsAt trnAt Loc.g
  rw [List.getD_eq_getElem?_getD, List.getD_eq_getElem?_getD, List.getElem?_map]
  cases l.turns[x.toNat]? <;> rfl
theorem trn_ok (h : locB l = true) : ∀ t ∈ l.turns, trnB l.turns.length t = true := by
  simp only [locB, Bool.and_eq_true, List.all_eq_true] at h
  exact h.2.2
theorem loc_len (h : locB l = true) : 1 ≤ l.turns.length ∧ l.turns.length ≤ 40 := by
  simp only [locB, Bool.and_eq_true, decide_eq_true_eq] at h
  exact ⟨h.1, h.2.1⟩
theorem trnAt_mem {x : Int} (h : 0 ≤ x ∧ x < (l.turns.length : Int)) : trnAt l x ∈ l.turns := by
  unfold trnAt
  have hlt : x.toNat < l.turns.length := by omega
  rw [List.getD_eq_getElem?_getD, List.getElem?_eq_getElem hlt]
  exact List.getElem_mem hlt
/-- The arms of a turn of a valid type: none, or valid ones. -/
theorem trn_arms {n : Int} {t : Trn} (h : trnB n t = true) : t.arms = [] ∨ armsOK n t.arms = true := by
  unfold trnB at h
  split at h
  · simp only [Bool.and_eq_true, List.isEmpty_iff] at h
    exact .inl h.2
  · split at h
    · simp only [Bool.and_eq_true] at h
      exact .inr h.2
    · cases h
theorem arms_all {n : Int} {l : List Arm} (h : armsOK n l = true) : (1 ≤ l.length ∧ l.length ≤ 6) ∧ (∀ a ∈ l, armB n a = true) ∧ (l.map Arm.label).Nodup := by
  simp only [armsOK, Bool.and_eq_true, decide_eq_true_eq, List.all_eq_true] at h
  exact ⟨⟨h.1, h.2.1⟩, h.2.2.1, h.2.2.2⟩
theorem arm_next {n : Int} {a : Arm} (h : armB n a = true) : 0 ≤ a.next ∧ a.next < n := by
  simp only [armB, Bool.and_eq_true, decide_eq_true_eq] at h
  exact h.2.2
theorem trnAt_arms (h : locB l = true) (x : Int) : armsAt l.g x = [] ∨ armsOK l.turns.length (armsAt l.g x) = true := by
  rw [armsAt_loc]
  unfold trnAt
  rw [List.getD_eq_getElem?_getD]
  cases hx : l.turns[x.toNat]? with
  | none => exact .inl rfl
  | some t => exact trn_arms (trn_ok h t (List.mem_of_getElem? hx))
theorem loc_g (h : locB l = true) : InG l.g ∧ 0 < l.g.length ∧ ∀ x, ((armsAt l.g x).map Arm.label).Nodup := by
  refine ⟨fun x a ha => ?_, ?_, fun x => ?_⟩
  · rcases trnAt_arms h x with h1 | h1
    · rw [h1] at ha; cases ha
    · have := arm_next ((arms_all h1).2.1 a ha)
      simpa [Loc.g] using this
  · have := loc_len h; simp [Loc.g]; omega
  · rcases trnAt_arms h x with h1 | h1
    · rw [h1]; simp
    · exact (arms_all h1).2.2
theorem trimT_g (l : Loc) : (trimT l).g = trimG l.g := by
  unfold Loc.g trimT trimG
  simp only [List.map_map]
  refine List.map_congr_left fun x _ => ?_
  show movA _ (trnAt l x).arms = movA _ (armsAt l.g x)
  rw [armsAt_loc]; rfl
theorem trnAt_trim {x : Int} (hx : x ∈ reachG l.g) : trnAt (trimT l) (plc (reachG l.g) x) = ⟨(trnAt l x).kind, (trnAt l x).peer, movA (reachG l.g) (trnAt l x).arms⟩ := by
  have hlt := List.idxOf_lt_length_iff.2 hx
  unfold trnAt plc
  show (List.map _ (reachG l.g)).getD _ _ = _
  rw [Int.toNat_natCast, List.getD_eq_getElem?_getD, List.getElem?_map, List.getElem?_eq_getElem hlt, List.getElem_idxOf hlt]
  rfl
theorem trim_is (h : locB l = true) : trimT (trimT l) = trimT l := by
  obtain ⟨hg, h0, _⟩ := loc_g h
  have hr := reach_trim hg h0
  show Loc.mk l.name _ = Loc.mk l.name _
  congr 1
  rw [trimT_g]
  refine (congrArg (List.map fun x => (⟨(trnAt (trimT l) x).kind, (trnAt (trimT l) x).peer, movA (reachG (trimG l.g)) (trnAt (trimT l) x).arms⟩ : Trn)) hr).trans ?_
  rw [List.map_map]
  refine List.map_congr_left fun x hx => ?_
  have ht := trnAt_trim hx
  show (⟨(trnAt (trimT l) (plc (reachG l.g) x)).kind, (trnAt (trimT l) (plc (reachG l.g) x)).peer, movA (reachG (trimG l.g)) (trnAt (trimT l) (plc (reachG l.g) x)).arms⟩ : Trn) = _
  rw [ht]
  simp only
  congr 1
  rw [movA_ren (reachG (trimG l.g)), ris_mov, movA_ren, List.map_map]
  refine List.map_congr_left fun a ha => ?_
  have hn := reach_next hg h0 hx (a := a) (by rw [armsAt_loc]; exact risA_mem.1 ha)
  show ({ (renA (plc (reachG l.g)) a) with next := plc (reachG (trimG l.g)) (plc (reachG l.g) a.next) } : Arm) = renA (plc (reachG l.g)) a
  rw [plc_plc hg h0 hn]; rfl
theorem armsOK_mov {n m : Int} {row : List Int} {l : List Arm} (h : armsOK n l = true) (hr : ∀ a ∈ l, a.next ∈ row) (hm : (row.length : Int) = m) : armsOK m (movA row l) = true := by
  obtain ⟨⟨h1, h2⟩, h3, h4⟩ := arms_all h
  have hp := risA_perm l
  have hl : (movA row l).length = l.length := by rw [movA_ren, List.length_map, risA_len]
  simp only [armsOK, Bool.and_eq_true, decide_eq_true_eq, List.all_eq_true, hl]
  refine ⟨h1, h2, fun a ha => ?_, ?_⟩
  · rw [movA_ren] at ha
    obtain ⟨b, hb, rfl⟩ := List.mem_map.1 ha
    have hb := hp.mem_iff.1 hb
    have h5 := h3 b hb
    have hlt := List.idxOf_lt_length_iff.2 (hr b hb)
    simp only [armB, Bool.and_eq_true, decide_eq_true_eq] at h5 ⊢
    refine ⟨h5.1, h5.2.1, ?_, ?_⟩
    · show (0 : Int) ≤ ((row.idxOf b.next : Nat) : Int); omega
    · show ((row.idxOf b.next : Nat) : Int) < m; omega
  · rw [movA_ren, List.map_map]
    show ((risA l).map Arm.label).Nodup
    exact (hp.map Arm.label).nodup_iff.2 h4
theorem loc_trim (h : locB l = true) : locB (trimT l) = true := by
  obtain ⟨hg, h0, _⟩ := loc_g h
  have hro := (reach_ok hg h0).1
  have hlen := hro.len
  have hgl : l.g.length = l.turns.length := by simp [Loc.g]
  have hl := loc_len h
  have htl : (trimT l).turns.length = (reachG l.g).length := by simp [trimT]
  obtain ⟨r, hrr⟩ := reach_first l.g
  simp only [locB, Bool.and_eq_true, decide_eq_true_eq, List.all_eq_true, htl]
  refine ⟨by rw [hrr]; simp, by omega, fun t ht => ?_⟩
  obtain ⟨x, hx, rfl⟩ := List.mem_map.1 (show t ∈ List.map _ (reachG l.g) from ht)
  have hmem := trnAt_mem (l := l) (x := x) (by have := hro.range x hx; omega)
  have hok := trn_ok h _ hmem
  have hnx : ∀ a ∈ (trnAt l x).arms, a.next ∈ reachG l.g := fun a ha => reach_next hg h0 hx (by rw [armsAt_loc]; exact ha)
  unfold trnB at hok ⊢
  simp only
  split at hok
  · rename_i hk
    rw [if_pos hk]
    simp only [Bool.and_eq_true, List.isEmpty_iff] at hok ⊢
    refine ⟨hok.1, ?_⟩
    rw [hok.2]; rfl
  · rename_i hk
    rw [if_neg hk]
    split at hok
    · rename_i hk2
      rw [if_pos hk2]
      simp only [Bool.and_eq_true] at hok ⊢
      exact ⟨hok.1, armsOK_mov hok.2 hnx rfl⟩
    · cases hok
def sameL (a b : Loc) : Bool := locB a && (locB b && decide ((trimT a).turns = (trimT b).turns))
theorem same_trim (h : locB l = true) : sameL l (trimT l) = true := by
  simp [sameL, h, loc_trim h, trim_is h]
theorem reach_count (h : locB l = true) : (reachG (trimT l).g).length = (trimT l).turns.length ∧ (reachG l.g).length = (trimT l).turns.length := by
  obtain ⟨hg, h0, _⟩ := loc_g h
  rw [trimT_g, reach_trim hg h0]
  simp [trimT]
end
end Go.Sy
