/- Contracts of the reference: Sorted. -/
import Derived.Test.YtndmpmhekbdpdaaGreatDoorZa
import Derived.Test.YtndmpmhekbdpdaaGreatDoorMu
import Derived.Test.YtndmpmhekbdpdaaGreatDoorHn
import Derived.Test.YtndmpmhekbdpdaaGreatDoorBu4
import Derived.Test.YtndmpmhekbdpdaaGreatDoorZc
import Derived.Test.YtndmpmhekbdpdaaGreatDoorBu3
import Derived.Test.YtndmpmhekbdpdaaGreatDoorZd
import Derived.Test.YtndmpmhekbdpdaaGreatDoorBv1
set_option linter.unusedSimpArgs false
set_option linter.unusedVariables false
set_option linter.unusedSectionVars false
namespace Go.Sy
open Go.Proofs
set_option maxRecDepth 100000
attribute [local irreducible] SOps Goes DOps EOps FOps
theorem gtr_lt (x y : ByteArray) : (!(sLt x y || decide (x = y))) = sLt y x := by
  cases h : sLt x y with
  | true =>
    cases h2 : sLt y x with
    | true => have := sLt_trans h h2; rw [sLt_irr] at this; cases this
    | false => rfl
  | false =>
    cases h2 : sLt y x with
    | true =>
      have hne : x ≠ y := fun e => by subst e; rw [h] at h2; cases h2
      simp [hne]
    | false => have := sLt_tri h h2; simp [this]
theorem risA_w (l : List Arm) : RisW (risA l) := risA_ris sLt_irr sLt_trans l
set_option maxHeartbeats 8000000 in
theorem sortedR_cO (l : List Arm) (hl : l.length ≤ 1000) :
    ConO Tryz.prog 216 [C1 (armsC l)] (fun _ : Value => True) (fun v => .v (C1 (.val v))) (fun v => [(63, 4, [(v, (risA l).map Arm.cs)])]) := by
  refine conO_of (c := _) Tryz.func216 rfl rfl rfl (by decide) fun w M0 H => ?_
  repeat' (first
   | refine gc_ rfl ?_
   | (refine g_region ?_; refine run_ th rfl ?_)
   | (refine g_drawC mix rfl rfl ?_; refine drun_ th rfl ?_)
   | (refine g_drawEC mix rfl rfl ?_; refine erun_ th rfl ?_)
   | refine SOps.nil ?_
   | refine DOps.nil ?_
   | refine EOps.nil ?_ rfl rfl
   | (refine s_split rfl rfl (fun hb => ?_) (fun hb => ?_) <;> (try simp only [hbL] at hb) <;> first | (exfalso; omega) | refine run_ th rfl ?_)
   | (refine d_split rfl rfl rfl (fun hb => ?_) (fun hb => ?_) <;> (try simp only [hbL] at hb) <;> first | (exfalso; omega) | refine drun_ th rfl ?_)
   | (refine g_if rfl (fun hb => ?_) (fun hb => ?_) <;> (try simp only [hbL] at hb) <;> (try (exfalso; omega))))
  refine g_adopt 3 290 63 4 rfl rfl rfl ?_
  refine g_loop1 (fun i : Nat => i ≤ l.length)
    (fun i => [(0, .v (C1 (armsC l))), (3, .v (.one (.own 290))), (4, .v (C1 (.int .i64 (i : Int))))])
    (fun i => [(290, .arr false 63 4 ((risA (l.take i)).map Arm.cs))]) (fun i => l.length - i) 0 (Nat.zero_le _)
    (fun a w h => h.sub (by exact ⟨⟨_, rfl, .refl _⟩, ⟨_, rfl, .refl _⟩, ⟨_, rfl, le_int rfl⟩, trivial⟩) (by exact ⟨⟨_, rfl, le_arr rfl⟩, trivial⟩) rfl rfl rfl) (fun i hi ih => ?_)
  by_cases hlt : i < l.length
  · have hx : (l.map Arm.cs)[i]? = some (l[i]).cs := by simp [hlt]
    have hih := ih (i + 1) hlt (by omega)
    rw [risA_snoc hlt] at hih
    have hw := risA_w (l.take i)
    have hol : (risA (l.take i)).length ≤ i := by rw [risA_len, List.length_take]; omega
    clear ih
    obtain ⟨out, ho⟩ : ∃ o, o = risA (l.take i) := ⟨_, rfl⟩
    obtain ⟨z, hz⟩ : ∃ z, z = l[i] := ⟨_, rfl⟩
    rw [← ho, ← hz] at hih
    rw [← ho] at hw hol ⊢
    rw [← hz] at hx
    clear ho hz
    refine g_freeze 290 rfl rfl ?_
    repeat' (first
     | refine gc_ rfl ?_
     | (refine g_region ?_; refine run_ th rfl ?_)
     | (refine g_drawC mix rfl rfl ?_; refine drun_ th rfl ?_)
     | (refine g_drawEC mix rfl rfl ?_; refine erun_ th rfl ?_)
     | refine SOps.nil ?_
     | refine DOps.nil ?_
     | refine EOps.nil ?_ rfl rfl
     | (refine s_split rfl rfl (fun hb => ?_) (fun hb => ?_) <;> (try simp only [hbL] at hb) <;> first | (exfalso; omega) | refine run_ th rfl ?_)
     | (refine d_split rfl rfl rfl (fun hb => ?_) (fun hb => ?_) <;> (try simp only [hbL] at hb) <;> first | (exfalso; omega) | refine drun_ th rfl ?_)
     | (refine g_if rfl (fun hb => ?_) (fun hb => ?_) <;> (try simp only [hbL] at hb) <;> (try (exfalso; omega))))
    all_goals first
      | (exfalso; simp only [List.length_map] at hb; omega)
      | skip
    refine g_loop1 (fun k : Nat => k ≤ out.length ∧ ∀ h : k < out.length, sLt z.label out[k].label = true)
      (fun k => [(0, .v (C1 (armsC l))), (3, .v (C1 (armsC out))), (4, .v (C1 (.int .i64 (i : Int)))), (5, .v (C1 (.int .i64 (k : Int))))])
      (fun _ => []) (fun k => k) out.length ⟨Nat.le_refl _, fun h => absurd h (Nat.lt_irrefl _)⟩
      (fun a w h => h.sub (by exact ⟨⟨_, rfl, .refl _⟩, ⟨_, rfl, .refl _⟩, ⟨_, rfl, .refl _⟩, ⟨_, rfl, le_int (by simp)⟩, trivial⟩) (by exact trivial) rfl rfl rfl) (fun k hk ihk => ?_)
    obtain ⟨hk, hgt⟩ := hk
    by_cases hk0 : k = 0
    · subst hk0
      have hat := insA_at (a := z) hw hk (fun h => absurd h (by omega)) hgt
      rw [hat] at hih
      clear ihk
      repeat' (first
       | refine gc_ rfl ?_
       | (refine g_region ?_; refine run_ th rfl ?_)
       | (refine g_drawC mix rfl rfl ?_; refine drun_ th rfl ?_)
       | (refine g_drawEC mix rfl rfl ?_; refine erun_ th rfl ?_)
       | refine SOps.nil ?_
       | refine DOps.nil ?_
       | refine EOps.nil ?_ rfl rfl
       | (refine s_split rfl rfl (fun hb => ?_) (fun hb => ?_) <;> (try simp only [hbL] at hb) <;> first | (exfalso; omega) | refine run_ th rfl ?_)
       | (refine d_split rfl rfl rfl (fun hb => ?_) (fun hb => ?_) <;> (try simp only [hbL] at hb) <;> first | (exfalso; omega) | refine drun_ th rfl ?_)
       | (refine g_if rfl (fun hb => ?_) (fun hb => ?_) <;> (try simp only [hbL] at hb) <;> (try (exfalso; omega)))
       | (refine s_idx th rfl rfl rfl rfl rfl rfl rfl rfl rfl i _ rfl hx ?_; refine run_ th rfl ?_)
       | (refine s_sliceTo th rfl rfl rfl rfl rfl rfl rfl rfl 0 rfl (by simp) ?_; refine run_ th rfl ?_)
       | (refine s_sliceFrom th rfl rfl rfl rfl rfl rfl rfl rfl rfl 0 rfl (by simp) ?_; refine run_ th rfl ?_)
       | (refine s_appendN th 290 rfl rfl rfl rfl rfl rfl rfl rfl rfl rfl rfl rfl rfl rfl (by constructor <;> simp <;> omega) ?_; refine run_ th rfl ?_)
       | (refine s_append th rfl rfl rfl rfl rfl rfl rfl rfl rfl rfl rfl rfl rfl rfl rfl (by constructor <;> simp <;> omega) ?_; refine run_ th rfl ?_)
       | (refine s_appendF th rfl rfl rfl rfl rfl rfl rfl rfl rfl rfl rfl rfl rfl rfl (by constructor <;> simp <;> omega) ?_; refine run_ th rfl ?_)
       | (refine s_add rfl rfl rfl rfl rfl rfl (by omega) ?_; refine run_ th rfl ?_))
      all_goals first
        | (exfalso; revert hb; simp; done)
        | exact g_sub (by exact ⟨⟨_, rfl, .refl _⟩, ⟨_, rfl, .refl _⟩, ⟨_, rfl, le_int (by omega)⟩, trivial⟩) (by exact ⟨⟨_, rfl, le_arr (by simp)⟩, trivial⟩) rfl rfl rfl hih
    · have hy : (out.map Arm.cs)[k - 1]? = some (out[k - 1]'(by omega)).cs := by simp [show k - 1 < out.length by omega]
      cases hc : sLt z.label (out[k - 1]'(by omega)).label with
      | true =>
        have hihk := ihk (k - 1) ⟨by omega, fun _ => hc⟩ (by omega)
        clear ihk hih
        have hgt2 := gtr_lt (out[k - 1]'(by omega)).label z.label
        rw [hc] at hgt2
        have hg2 : (sLt (out[k - 1]'(by omega)).label z.label || decide ((out[k - 1]'(by omega)).label = z.label)) = false := by
          revert hgt2; cases (sLt (out[k - 1]'(by omega)).label z.label || decide ((out[k - 1]'(by omega)).label = z.label)) <;> simp
        clear hgt2
        generalize out[k - 1]'(by omega) = y at hy hc hg2
        repeat' (first
         | (exfalso; rw [hg2] at hb; cases hb; done)
         | refine gc_ rfl ?_
         | (refine g_region ?_; refine run_ th rfl ?_)
         | (refine g_drawC mix rfl rfl ?_; refine drun_ th rfl ?_)
         | (refine g_drawEC mix rfl rfl ?_; refine erun_ th rfl ?_)
         | refine SOps.nil ?_
         | refine DOps.nil ?_
         | refine EOps.nil ?_ rfl rfl
         | (refine s_split rfl rfl (fun hb => ?_) (fun hb => ?_) <;> (try simp only [hbL] at hb) <;> first | (exfalso; omega) | refine run_ th rfl ?_)
         | (refine d_split rfl rfl rfl (fun hb => ?_) (fun hb => ?_) <;> (try simp only [hbL] at hb) <;> first | (exfalso; omega) | refine drun_ th rfl ?_)
         | (refine g_if rfl (fun hb => ?_) (fun hb => ?_) <;> (try simp only [hbL] at hb) <;> (try (exfalso; omega)))
         | (refine d_idx th rfl rfl rfl rfl rfl rfl rfl rfl rfl (k - 1) _ (by omega) hy ?_; refine drun_ th rfl ?_)
         | (refine d_idx th rfl rfl rfl rfl rfl rfl rfl rfl rfl i _ rfl hx ?_; refine drun_ th rfl ?_)
         | (refine d_subI rfl rfl rfl rfl rfl rfl (by omega) ?_; refine drun_ th rfl ?_)
         | (refine s_subI rfl rfl rfl rfl rfl rfl (by omega) ?_; refine run_ th rfl ?_))
        all_goals first
          | (exfalso; rw [gtr_lt, hc] at hb; cases hb; done)
          | (exfalso; simp at hb; omega)
          | exact g_sub (by exact ⟨⟨_, rfl, .refl _⟩, ⟨_, rfl, .refl _⟩, ⟨_, rfl, .refl _⟩, ⟨_, rfl, le_int (by omega)⟩, trivial⟩) (by exact trivial) rfl rfl rfl hihk
      | false =>
        have hat := insA_at (a := z) hw hk (fun _ => hc) hgt
        rw [hat] at hih
        clear ihk
        have hgt2 := gtr_lt (out[k - 1]'(by omega)).label z.label
        rw [hc] at hgt2
        have hg2 : (sLt (out[k - 1]'(by omega)).label z.label || decide ((out[k - 1]'(by omega)).label = z.label)) = true := by
          revert hgt2; cases (sLt (out[k - 1]'(by omega)).label z.label || decide ((out[k - 1]'(by omega)).label = z.label)) <;> simp
        clear hgt2
        generalize out[k - 1]'(by omega) = y at hy hc hg2
        repeat' (first
         | (exfalso; rw [hg2] at hb; cases hb; done)
         | refine gc_ rfl ?_
         | (refine g_region ?_; refine run_ th rfl ?_)
         | (refine g_drawC mix rfl rfl ?_; refine drun_ th rfl ?_)
         | (refine g_drawEC mix rfl rfl ?_; refine erun_ th rfl ?_)
         | refine SOps.nil ?_
         | refine DOps.nil ?_
         | refine EOps.nil ?_ rfl rfl
         | (refine s_split rfl rfl (fun hb => ?_) (fun hb => ?_) <;> (try simp only [hbL] at hb) <;> first | (exfalso; omega) | refine run_ th rfl ?_)
         | (refine d_split rfl rfl rfl (fun hb => ?_) (fun hb => ?_) <;> (try simp only [hbL] at hb) <;> first | (exfalso; omega) | refine drun_ th rfl ?_)
         | (refine g_if rfl (fun hb => ?_) (fun hb => ?_) <;> (try simp only [hbL] at hb) <;> (try (exfalso; omega)))
         | (refine d_idx th rfl rfl rfl rfl rfl rfl rfl rfl rfl (k - 1) _ (by omega) hy ?_; refine drun_ th rfl ?_)
         | (refine d_idx th rfl rfl rfl rfl rfl rfl rfl rfl rfl i _ rfl hx ?_; refine drun_ th rfl ?_)
         | (refine d_subI rfl rfl rfl rfl rfl rfl (by omega) ?_; refine drun_ th rfl ?_)
         | (refine s_idx th rfl rfl rfl rfl rfl rfl rfl rfl rfl i _ rfl hx ?_; refine run_ th rfl ?_)
         | (refine s_sliceTo th rfl rfl rfl rfl rfl rfl rfl rfl k rfl (by simp; omega) ?_; refine run_ th rfl ?_)
         | (refine s_sliceFrom th rfl rfl rfl rfl rfl rfl rfl rfl rfl k rfl (by simp; omega) ?_; refine run_ th rfl ?_)
         | (refine s_appendN th 290 rfl rfl rfl rfl rfl rfl rfl rfl rfl rfl rfl rfl rfl rfl (by constructor <;> simp <;> omega) ?_; refine run_ th rfl ?_)
         | (refine s_append th rfl rfl rfl rfl rfl rfl rfl rfl rfl rfl rfl rfl rfl rfl rfl (by constructor <;> simp <;> omega) ?_; refine run_ th rfl ?_)
         | (refine s_appendF th rfl rfl rfl rfl rfl rfl rfl rfl rfl rfl rfl rfl rfl rfl (by constructor <;> simp <;> omega) ?_; refine run_ th rfl ?_)
         | (refine s_add rfl rfl rfl rfl rfl rfl (by omega) ?_; refine run_ th rfl ?_))
        all_goals first
          | (exfalso; rw [gtr_lt, hc] at hb; cases hb; done)
          | (exfalso; simp at hb; omega)
          | exact g_sub (by exact ⟨⟨_, rfl, .refl _⟩, ⟨_, rfl, .refl _⟩, ⟨_, rfl, le_int (by omega)⟩, trivial⟩) (by exact ⟨⟨_, rfl, le_arr (by simp [List.map_take, List.map_drop])⟩, trivial⟩) rfl rfl rfl hih
  · have hie : i = l.length := by omega
    subst hie
    rw [List.take_length]
    clear ih
    repeat' (first
     | refine gc_ rfl ?_
     | (refine g_region ?_; refine run_ th rfl ?_)
     | (refine g_drawC mix rfl rfl ?_; refine drun_ th rfl ?_)
     | (refine g_drawEC mix rfl rfl ?_; refine erun_ th rfl ?_)
     | refine SOps.nil ?_
     | refine DOps.nil ?_
     | refine EOps.nil ?_ rfl rfl
     | (refine s_split rfl rfl (fun hb => ?_) (fun hb => ?_) <;> (try simp only [hbL] at hb) <;> first | (exfalso; omega) | refine run_ th rfl ?_)
     | (refine d_split rfl rfl rfl (fun hb => ?_) (fun hb => ?_) <;> (try simp only [hbL] at hb) <;> first | (exfalso; omega) | refine drun_ th rfl ?_)
     | (refine g_if rfl (fun hb => ?_) (fun hb => ?_) <;> (try simp only [hbL] at hb) <;> (try (exfalso; omega))))
    all_goals first
      | (exfalso; simp only [List.length_map] at hb; omega)
      | skip
    refine g_toPool 290 rfl rfl fun vA => ?_
    exact g_endO th Tryz.func216 [290] vA (.inr ⟨_, rfl⟩) rfl rfl rfl rfl rfl rfl trivial
def placeZ (l : List Int) (x : Int) : Int := idxG (fun y => decide (y = x)) l
theorem placeZ_mem {l : List Int} {x : Int} (h : x ∈ l) : placeZ l x = ((l.idxOf x : Nat) : Int) := by
  have hi : l.idxOf x < l.length := List.idxOf_lt_length_of_mem h
  refine idxG_hit hi (fun i hlt => ?_) (by simp)
  simp only [decide_eq_false_iff_not]
  intro e
  have := List.not_of_lt_findIdx (p := fun y => y == x) (xs := l) (i := i) (by simpa [List.idxOf] using hlt)
  simp [e] at this
theorem placeZ_has (l : List Int) (x : Int) : decide (placeZ l x ≥ 0) = decide (x ∈ l) := by
  by_cases h : x ∈ l
  · rw [placeZ_mem h]; simp [h]
  · have : placeZ l x = -1 := idxG_none (fun i hi => by
      simp only [decide_eq_false_iff_not]
      intro e
      exact h (e ▸ List.getElem_mem hi))
    rw [this]; simp [h]
set_option maxHeartbeats 4000000 in
theorem placeZ_c (l : List Int) (x : Int) : Con Tryz.prog 217 [] [C1 (intsT l), C1 (.int .i64 x)] (Rv (.int .i64 (placeZ l x))) [] := by
  refine con_of (c := _) Tryz.func217 rfl rfl rfl (by decide) fun w M0 H Z => ?_
  refine g_len 0 rfl fun hll => ?_
  simp only [List.length_map] at hll
  repeat' (first
   | refine gc_ rfl ?_
   | (refine g_region ?_; refine run_ th rfl ?_)
   | (refine g_drawC mix rfl rfl ?_; refine drun_ th rfl ?_)
   | (refine g_drawEC mix rfl rfl ?_; refine erun_ th rfl ?_)
   | refine SOps.nil ?_
   | refine DOps.nil ?_
   | refine EOps.nil ?_ rfl rfl
   | (refine s_split rfl rfl (fun hb => ?_) (fun hb => ?_) <;> (try simp only [hbL] at hb) <;> first | (exfalso; omega) | refine run_ th rfl ?_)
   | (refine d_split rfl rfl rfl (fun hb => ?_) (fun hb => ?_) <;> (try simp only [hbL] at hb) <;> first | (exfalso; omega) | refine drun_ th rfl ?_)
   | (refine g_if rfl (fun hb => ?_) (fun hb => ?_) <;> (try simp only [hbL] at hb) <;> (try (exfalso; omega))))
  refine g_loop1 (fun k : Nat => k ≤ l.length ∧ ∀ i (h : i < k) (h' : i < l.length), decide (l[i] = x) = false)
    (fun k => [(0, .v (C1 (intsT l))), (0 + 1, .v (C1 (.int .i64 x))), (5, .v (C1 (.int .i64 (k : Int))))])
    (fun _ => []) (fun k => l.length - k) 0 ⟨Nat.zero_le _, fun i h => by omega⟩
    (fun a w h => h.sub (by exact ⟨⟨_, rfl, .refl _⟩, ⟨_, rfl, .refl _⟩, ⟨_, rfl, le_int rfl⟩, trivial⟩) (by exact trivial) rfl rfl rfl) (fun k hk ih => ?_)
  obtain ⟨hk, ha⟩ := hk
  by_cases hlt : k < l.length
  · have hx : (l.map fun r => [CT.int .i64 r])[k]? = some [.int .i64 l[k]] := by simp [hlt]
    repeat' (first
     | refine gc_ rfl ?_
     | (refine g_region ?_; refine run_ th rfl ?_)
     | (refine g_drawC mix rfl rfl ?_; refine drun_ th rfl ?_)
     | (refine g_drawEC mix rfl rfl ?_; refine erun_ th rfl ?_)
     | refine SOps.nil ?_
     | refine DOps.nil ?_
     | refine EOps.nil ?_ rfl rfl
     | (refine s_split rfl rfl (fun hb => ?_) (fun hb => ?_) <;> (try simp only [hbL] at hb) <;> first | (exfalso; omega) | refine run_ th rfl ?_)
     | (refine d_split rfl rfl rfl (fun hb => ?_) (fun hb => ?_) <;> (try simp only [hbL] at hb) <;> first | (exfalso; omega) | refine drun_ th rfl ?_)
     | (refine g_if rfl (fun hb => ?_) (fun hb => ?_) <;> (try simp only [hbL] at hb) <;> (try (exfalso; omega)))
     | refine g_endL th Tryz.func217 (.inr ⟨_, rfl⟩) rfl rfl rfl ?_ rfl
     | (refine s_idx th rfl rfl rfl rfl rfl rfl rfl rfl rfl k _ rfl hx ?_; refine run_ th rfl ?_)
     | (refine s_add rfl rfl rfl rfl rfl rfl (by omega) ?_; refine run_ th rfl ?_))
    · rw [show placeZ l x = (k : Int) from idxG_hit hlt (fun i h => ha i h (by omega)) (by simpa using hb)]
      exact .refl _
    · exact g_sub (by exact ⟨⟨_, rfl, .refl _⟩, ⟨_, rfl, .refl _⟩, ⟨_, rfl, le_int (by omega)⟩, trivial⟩) (by exact trivial) rfl rfl rfl (ih (k + 1) ⟨hlt, fun i h h' => by
        by_cases hik : i = k
        · subst hik; simpa using hb
        · exact ha i (by omega) h'⟩ (by omega))
  · have hke : k = l.length := by omega
    subst hke
    repeat' (first
     | refine gc_ rfl ?_
     | (refine g_region ?_; refine run_ th rfl ?_)
     | (refine g_drawC mix rfl rfl ?_; refine drun_ th rfl ?_)
     | (refine g_drawEC mix rfl rfl ?_; refine erun_ th rfl ?_)
     | refine SOps.nil ?_
     | refine DOps.nil ?_
     | refine EOps.nil ?_ rfl rfl
     | (refine s_split rfl rfl (fun hb => ?_) (fun hb => ?_) <;> (try simp only [hbL] at hb) <;> first | (exfalso; omega) | refine run_ th rfl ?_)
     | (refine d_split rfl rfl rfl (fun hb => ?_) (fun hb => ?_) <;> (try simp only [hbL] at hb) <;> first | (exfalso; omega) | refine drun_ th rfl ?_)
     | (refine g_if rfl (fun hb => ?_) (fun hb => ?_) <;> (try simp only [hbL] at hb) <;> (try (exfalso; omega)))
     | refine g_endL th Tryz.func217 (.inr ⟨_, rfl⟩) rfl rfl rfl ?_ rfl)
    rw [show placeZ l x = -1 from idxG_none (fun i h => ha i h h)]
    exact .refl _
theorem hasZ_c (l : List Int) (x : Int) : Con Tryz.prog 241 [] [C1 (intsT l), C1 (.int .i64 x)] (Rv (.bool (decide (x ∈ l)))) [] := by
  rw [← placeZ_has]
  refine con_of (c := _) Tryz.func241 rfl rfl rfl (by decide) fun w M0 H Z => ?_
  repeat' (first
   | refine gc_ rfl ?_
   | (refine g_region ?_; refine run_ th rfl ?_)
   | (refine g_drawC mix rfl rfl ?_; refine drun_ th rfl ?_)
   | (refine g_drawEC mix rfl rfl ?_; refine erun_ th rfl ?_)
   | refine SOps.nil ?_
   | refine DOps.nil ?_
   | refine EOps.nil ?_ rfl rfl
   | (refine s_split rfl rfl (fun hb => ?_) (fun hb => ?_) <;> (try simp only [hbL] at hb) <;> first | (exfalso; omega) | refine run_ th rfl ?_)
   | (refine d_split rfl rfl rfl (fun hb => ?_) (fun hb => ?_) <;> (try simp only [hbL] at hb) <;> first | (exfalso; omega) | refine drun_ th rfl ?_)
   | (refine g_if rfl (fun hb => ?_) (fun hb => ?_) <;> (try simp only [hbL] at hb) <;> (try (exfalso; omega)))
   | refine g_endL th Tryz.func241 (.inr ⟨_, rfl⟩) rfl rfl rfl ?_ rfl
   | (refine s_call (placeZ_c l x) [] rfl rfl rfl rfl rfl rfl rfl rfl rfl rfl ?_; refine run_ th rfl ?_))
  all_goals exact .refl _
set_option maxHeartbeats 4000000 in
theorem movedR_c (l : List Arm) (hl : l.length ≤ 1000) (row : List Int) :
    Con Tryz.prog 162 [] [C1 (armsC l), C1 (intsT row)] (Rv (armsC ((risA l).map (renA (placeZ row))))) [] := by
  have hrl := risA_len l
  refine con_of (c := _) Tryz.func162 rfl rfl rfl (by decide) fun w M0 H Z => ?_
  repeat' (first
   | refine gc_ rfl ?_
   | (refine g_region ?_; refine run_ th rfl ?_)
   | (refine g_drawC mix rfl rfl ?_; refine drun_ th rfl ?_)
   | (refine g_drawEC mix rfl rfl ?_; refine erun_ th rfl ?_)
   | refine SOps.nil ?_
   | refine DOps.nil ?_
   | refine EOps.nil ?_ rfl rfl
   | (refine s_split rfl rfl (fun hb => ?_) (fun hb => ?_) <;> (try simp only [hbL] at hb) <;> first | (exfalso; omega) | refine run_ th rfl ?_)
   | (refine d_split rfl rfl rfl (fun hb => ?_) (fun hb => ?_) <;> (try simp only [hbL] at hb) <;> first | (exfalso; omega) | refine drun_ th rfl ?_)
   | (refine g_if rfl (fun hb => ?_) (fun hb => ?_) <;> (try simp only [hbL] at hb) <;> (try (exfalso; omega)))
   | (refine s_callO (sortedR_cO l hl) [91] rfl rfl rfl rfl rfl rfl rfl rfl rfl (fun _ => rfl) (fun vA _ => ?_); refine s_ownP 91 210 8 rfl rfl rfl rfl rfl rfl rfl ?_; refine run_ th rfl ?_))
  generalize risA l = rs at *
  refine g_loop1 (fun m : Nat => m ≤ rs.length)
    (fun m => [(1, .v (C1 (intsT row))), (5, .v (.one (.own 210))), (6, .v (C1 (.int .i64 (m : Int))))])
    (fun m => [(210, .arr false 63 4 (((rs.take m).map (renA (placeZ row)) ++ rs.drop m).map Arm.cs))])
    (fun m => rs.length - m) 0 (Nat.zero_le _)
    (fun a w h => h.sub (by exact ⟨⟨_, rfl, .refl _⟩, ⟨_, rfl, .refl _⟩, ⟨_, rfl, le_int rfl⟩, trivial⟩) (by exact ⟨⟨_, rfl, le_arr rfl⟩, trivial⟩) rfl rfl rfl) (fun m hm ih => ?_)
  have hlen : (((rs.take m).map (renA (placeZ row)) ++ rs.drop m).map Arm.cs).length = rs.length := by simp; omega
  by_cases hmt : m < rs.length
  · have hxm := mid_get (renA (placeZ row)) Arm.cs rs m hmt
    have hset := set_mid (renA (placeZ row)) Arm.cs rs m hmt
    have hih := ih (m + 1) hmt (by omega)
    clear ih
    repeat' (first
     | refine gc_ rfl ?_
     | (refine g_region ?_; refine run_ th rfl ?_)
     | (refine g_drawC mix rfl rfl ?_; refine drun_ th rfl ?_)
     | (refine g_drawEC mix rfl rfl ?_; refine erun_ th rfl ?_)
     | refine SOps.nil ?_
     | refine DOps.nil ?_
     | refine EOps.nil ?_ rfl rfl
     | (refine s_split rfl rfl (fun hb => ?_) (fun hb => ?_) <;> (try simp only [hbL] at hb) <;> first | (exfalso; omega) | refine run_ th rfl ?_)
     | (refine d_split rfl rfl rfl (fun hb => ?_) (fun hb => ?_) <;> (try simp only [hbL] at hb) <;> first | (exfalso; omega) | refine drun_ th rfl ?_)
     | (refine g_if rfl (fun hb => ?_) (fun hb => ?_) <;> (try simp only [hbL] at hb) <;> (try (exfalso; omega)))
     | (refine s_idxo th rfl rfl rfl rfl rfl rfl rfl rfl rfl rfl m rfl (by rw [hlen]; exact hmt) ?_; refine run_ th rfl ?_)
     | (refine s_loada th _ rfl rfl rfl rfl hxm rfl rfl rfl rfl rfl ?_; refine run_ th rfl ?_)
     | (refine s_call (placeZ_c row rs[m].next) [] rfl rfl rfl rfl rfl rfl rfl rfl rfl rfl ?_; refine run_ th rfl ?_)
     | (refine s_storef th _ rfl rfl rfl rfl hxm rfl rfl rfl rfl rfl rfl rfl ?_; refine run_ th rfl ?_)
     | (refine s_add rfl rfl rfl rfl rfl rfl (by omega) ?_; refine run_ th rfl ?_))
    all_goals first
      | (exfalso; simp only [List.length_append, List.length_map, List.length_take, List.length_drop] at hb; omega)
      | exact g_sub (by exact ⟨⟨_, rfl, .refl _⟩, ⟨_, rfl, .refl _⟩, ⟨_, rfl, le_int (by omega)⟩, trivial⟩) (by exact ⟨⟨_, rfl, le_arr hset⟩, trivial⟩) rfl rfl rfl hih
  · have hme : m = rs.length := by omega
    subst hme
    rw [List.take_length, List.drop_length, List.append_nil] at *
    clear ih
    repeat' (first
     | refine gc_ rfl ?_
     | (refine g_region ?_; refine run_ th rfl ?_)
     | (refine g_drawC mix rfl rfl ?_; refine drun_ th rfl ?_)
     | (refine g_drawEC mix rfl rfl ?_; refine erun_ th rfl ?_)
     | refine SOps.nil ?_
     | refine DOps.nil ?_
     | refine EOps.nil ?_ rfl rfl
     | (refine s_split rfl rfl (fun hb => ?_) (fun hb => ?_) <;> (try simp only [hbL] at hb) <;> first | (exfalso; omega) | refine run_ th rfl ?_)
     | (refine d_split rfl rfl rfl (fun hb => ?_) (fun hb => ?_) <;> (try simp only [hbL] at hb) <;> first | (exfalso; omega) | refine drun_ th rfl ?_)
     | (refine g_if rfl (fun hb => ?_) (fun hb => ?_) <;> (try simp only [hbL] at hb) <;> (try (exfalso; omega))))
    all_goals first
      | (exfalso; simp only [List.length_append, List.length_map, List.length_take, List.length_drop] at hb; omega)
      | skip
    refine g_freeze 210 rfl rfl ?_
    refine g_endL th Tryz.func162 (.inr ⟨_, rfl⟩) rfl rfl rfl ?_ rfl
    exact .refl _
abbrev grpT (g : Grp) : CT := .slice false 1 (g.map fun a => [armsC a])
set_option maxHeartbeats 4000000 in
theorem turnArms_c (l : Loc) (hl : l.turns.length ≤ 1000) : Con Tryz.prog 184 [] [Ag l.cs] (Rv (grpT l.g)) [] := by
  refine con_of (c := _) Tryz.func184 rfl rfl rfl (by decide) fun w M0 H Z => ?_
  repeat' (first
   | refine gc_ rfl ?_
   | (refine g_region ?_; refine run_ th rfl ?_)
   | (refine g_drawC mix rfl rfl ?_; refine drun_ th rfl ?_)
   | (refine g_drawEC mix rfl rfl ?_; refine erun_ th rfl ?_)
   | refine SOps.nil ?_
   | refine DOps.nil ?_
   | refine EOps.nil ?_ rfl rfl
   | (refine s_split rfl rfl (fun hb => ?_) (fun hb => ?_) <;> (try simp only [hbL] at hb) <;> first | (exfalso; omega) | refine run_ th rfl ?_)
   | (refine d_split rfl rfl rfl (fun hb => ?_) (fun hb => ?_) <;> (try simp only [hbL] at hb) <;> first | (exfalso; omega) | refine drun_ th rfl ?_)
   | (refine g_if rfl (fun hb => ?_) (fun hb => ?_) <;> (try simp only [hbL] at hb) <;> (try (exfalso; omega))))
  refine g_adopt 3 290 64 1 rfl rfl rfl ?_
  refine g_loop1 (fun i : Nat => i ≤ l.turns.length)
    (fun i => [(1, .v (.one (.ptr 1 0))), (3, .v (.one (.own 290))), (4, .v (C1 (.int .i64 (i : Int))))])
    (fun i => [(290, .arr false 64 1 ((l.g.take i).map fun a => [armsC a])), (1, .box (l.cs.map SC.c))]) (fun i => l.turns.length - i) 0 (Nat.zero_le _)
    (fun a w h => h.sub (by exact ⟨⟨_, rfl, .refl _⟩, ⟨_, rfl, .refl _⟩, ⟨_, rfl, le_int rfl⟩, trivial⟩) (by exact ⟨⟨_, rfl, le_arr rfl⟩, ⟨_, rfl, .refl _⟩, trivial⟩) rfl rfl rfl) (fun i hi ih => ?_)
  by_cases hlt : i < l.turns.length
  · have hx : (l.turns.map Trn.cs)[i]? = some (l.turns[i]).cs := by simp [hlt]
    have hih := ih (i + 1) hlt (by omega)
    have hg1 : ((l.g.take (i + 1)).map fun a => [armsC a]) = (l.g.take i).map (fun a => [armsC a]) ++ [[armsC l.turns[i].arms]] := by
      rw [List.take_succ_eq_append_getElem (by simp [Loc.g]; omega), List.map_append]; simp [Loc.g]
    have hgl : (l.g.take i).length = i := by simp [Loc.g]; omega
    rw [hg1] at hih
    clear ih hg1
    generalize l.turns[i] = z at hx hih
    repeat' (first
     | refine gc_ rfl ?_
     | (refine g_region ?_; refine run_ th rfl ?_)
     | (refine g_drawC mix rfl rfl ?_; refine drun_ th rfl ?_)
     | (refine g_drawEC mix rfl rfl ?_; refine erun_ th rfl ?_)
     | refine SOps.nil ?_
     | refine DOps.nil ?_
     | refine EOps.nil ?_ rfl rfl
     | (refine s_split rfl rfl (fun hb => ?_) (fun hb => ?_) <;> (try simp only [hbL] at hb) <;> first | (exfalso; omega) | refine run_ th rfl ?_)
     | (refine d_split rfl rfl rfl (fun hb => ?_) (fun hb => ?_) <;> (try simp only [hbL] at hb) <;> first | (exfalso; omega) | refine drun_ th rfl ?_)
     | (refine g_if rfl (fun hb => ?_) (fun hb => ?_) <;> (try simp only [hbL] at hb) <;> (try (exfalso; omega)))
     | (refine s_idx th rfl rfl rfl rfl rfl rfl rfl rfl rfl i _ rfl hx ?_; refine run_ th rfl ?_)
     | (refine s_append th rfl rfl rfl rfl rfl rfl rfl rfl rfl rfl rfl rfl rfl rfl rfl (by constructor <;> simp <;> omega) ?_; refine run_ th rfl ?_)
     | (refine s_add rfl rfl rfl rfl rfl rfl (by omega) ?_; refine run_ th rfl ?_))
    all_goals first
      | (exfalso; simp only [List.length_map] at hb; omega)
      | exact g_sub (by exact ⟨⟨_, rfl, .refl _⟩, ⟨_, rfl, .refl _⟩, ⟨_, rfl, le_int (by omega)⟩, trivial⟩) (by exact ⟨⟨_, rfl, le_arr (by simp)⟩, ⟨_, rfl, .refl _⟩, trivial⟩) rfl rfl rfl hih
  · have hie : i = l.turns.length := by omega
    subst hie
    rw [show l.g.take l.turns.length = l.g from List.take_of_length_le (by simp [Loc.g])]
    clear ih
    repeat' (first
     | refine gc_ rfl ?_
     | (refine g_region ?_; refine run_ th rfl ?_)
     | (refine g_drawC mix rfl rfl ?_; refine drun_ th rfl ?_)
     | (refine g_drawEC mix rfl rfl ?_; refine erun_ th rfl ?_)
     | refine SOps.nil ?_
     | refine DOps.nil ?_
     | refine EOps.nil ?_ rfl rfl
     | (refine s_split rfl rfl (fun hb => ?_) (fun hb => ?_) <;> (try simp only [hbL] at hb) <;> first | (exfalso; omega) | refine run_ th rfl ?_)
     | (refine d_split rfl rfl rfl (fun hb => ?_) (fun hb => ?_) <;> (try simp only [hbL] at hb) <;> first | (exfalso; omega) | refine drun_ th rfl ?_)
     | (refine g_if rfl (fun hb => ?_) (fun hb => ?_) <;> (try simp only [hbL] at hb) <;> (try (exfalso; omega))))
    all_goals first
      | (exfalso; simp only [List.length_map] at hb; omega)
      | skip
    refine g_freeze 290 rfl rfl ?_
    refine g_endL th Tryz.func184 (.inr ⟨_, rfl⟩) rfl rfl rfl ?_ rfl
    exact .refl _
set_option maxHeartbeats 8000000 in
theorem reachZ_c (g : Grp) (hg : InG g) (h0 : 0 < g.length) (hn : g.length ≤ 1000) (hal : ∀ a ∈ g, a.length ≤ 1000) :
    Con Tryz.prog 214 [] [C1 (grpT g)] (Rv (intsT (reachG g))) [] := by
  refine con_of (c := _) Tryz.func214 rfl rfl rfl (by decide) fun w M0 H Z => ?_
  repeat' (first
   | refine gc_ rfl ?_
   | (refine g_region ?_; refine run_ th rfl ?_)
   | (refine g_drawC mix rfl rfl ?_; refine drun_ th rfl ?_)
   | (refine g_drawEC mix rfl rfl ?_; refine erun_ th rfl ?_)
   | refine SOps.nil ?_
   | refine DOps.nil ?_
   | refine EOps.nil ?_ rfl rfl
   | (refine s_split rfl rfl (fun hb => ?_) (fun hb => ?_) <;> (try simp only [hbL] at hb) <;> first | (exfalso; omega) | refine run_ th rfl ?_)
   | (refine d_split rfl rfl rfl (fun hb => ?_) (fun hb => ?_) <;> (try simp only [hbL] at hb) <;> first | (exfalso; omega) | refine drun_ th rfl ?_)
   | (refine g_if rfl (fun hb => ?_) (fun hb => ?_) <;> (try simp only [hbL] at hb) <;> (try (exfalso; omega))))
  refine g_loop2 (fun (i : Nat) (out : List Int) => ReachI g i out)
    (fun i _ => [(0, .v (C1 (grpT g))), (3, .v (.one (.own 7))), (4, .v (C1 (.int .i64 (i : Int))))])
    (fun _ out => [(7, .arr false 3 1 (out.map fun r => [CT.int .i64 r]))])
    (fun i _ => g.length + 1 - i) 0 [0] ⟨Nat.zero_le _, ⟨by simp, fun x hx => by simp at hx; subst hx; omega⟩, rfl⟩
    (fun a w h => h.sub (by exact ⟨⟨_, rfl, .refl _⟩, ⟨_, rfl, .refl _⟩, ⟨_, rfl, le_int rfl⟩, trivial⟩) (by exact ⟨⟨_, rfl, le_arr rfl⟩, trivial⟩) rfl rfl rfl) (fun i out hI ih => ?_)
  have hlen := hI.ok.len
  have hle := hI.le
  by_cases hlt : i < out.length
  · have hxi : (out.map fun r => [CT.int .i64 r])[i]? = some [.int .i64 out[i]] := by simp [hlt]
    have hxr := hI.ok.range out[i] (List.getElem_mem hlt)
    have hti : (g.map fun a => [armsC a])[(out[i]).toNat]? = some [armsC (armsAt g out[i])] := by
      have : (out[i]).toNat < g.length := by omega
      rw [List.getElem?_map, List.getElem?_eq_getElem this]
      simp [armsAt, this]
    have hst := hI.step hg hlt
    have hih := ih (i + 1) _ hst (by omega)
    clear ih
    have hrm : ∀ a ∈ risA (armsAt g out[i]), 0 ≤ a.next ∧ a.next < (g.length : Int) := fun a ha => hg out[i] a (risA_mem.1 ha)
    have hal1 : (armsAt g out[i]).length ≤ 1000 := by
      unfold armsAt
      rw [List.getD_eq_getElem?_getD]
      cases hq : g[(out[i]).toNat]? with
      | none => simp
      | some a => exact hal a (List.mem_of_getElem? hq)
    have hrl := risA_len (armsAt g out[i])
    have hso := sortedR_cO (armsAt g out[i]) hal1
    generalize armsAt g out[i] = arms at *
    generalize risA arms = rs at *
    repeat' (first
     | refine gc_ rfl ?_
     | (refine g_region ?_; refine run_ th rfl ?_)
     | (refine g_drawC mix rfl rfl ?_; refine drun_ th rfl ?_)
     | (refine g_drawEC mix rfl rfl ?_; refine erun_ th rfl ?_)
     | refine SOps.nil ?_
     | refine DOps.nil ?_
     | refine EOps.nil ?_ rfl rfl
     | (refine s_split rfl rfl (fun hb => ?_) (fun hb => ?_) <;> (try simp only [hbL] at hb) <;> first | (exfalso; omega) | refine run_ th rfl ?_)
     | (refine d_split rfl rfl rfl (fun hb => ?_) (fun hb => ?_) <;> (try simp only [hbL] at hb) <;> first | (exfalso; omega) | refine drun_ th rfl ?_)
     | (refine g_if rfl (fun hb => ?_) (fun hb => ?_) <;> (try simp only [hbL] at hb) <;> (try (exfalso; omega)))
     | (refine s_idxo th rfl rfl rfl rfl rfl rfl rfl rfl rfl rfl i rfl (by rw [List.length_map]; omega) ?_; refine run_ th rfl ?_)
     | (refine s_loada th _ rfl rfl rfl rfl hxi rfl rfl rfl rfl rfl ?_; refine run_ th rfl ?_)
     | (refine s_idx th rfl rfl rfl rfl rfl rfl rfl rfl rfl (out[i]).toNat _ (by omega) hti ?_; refine run_ th rfl ?_)
     | (refine s_callO hso [91] rfl rfl rfl rfl rfl rfl rfl rfl rfl (fun _ => rfl) (fun vA _ => ?_); refine run_ th rfl ?_))
    all_goals first
      | (exfalso; simp only [List.length_map] at hb; omega)
      | skip
    refine g_freezeT 91 5 rfl rfl rfl rfl rfl ?_
    repeat' (first
     | refine gc_ rfl ?_
     | (refine g_region ?_; refine run_ th rfl ?_)
     | (refine g_drawC mix rfl rfl ?_; refine drun_ th rfl ?_)
     | (refine g_drawEC mix rfl rfl ?_; refine erun_ th rfl ?_)
     | refine SOps.nil ?_
     | refine DOps.nil ?_
     | refine EOps.nil ?_ rfl rfl
     | (refine s_split rfl rfl (fun hb => ?_) (fun hb => ?_) <;> (try simp only [hbL] at hb) <;> first | (exfalso; omega) | refine run_ th rfl ?_)
     | (refine d_split rfl rfl rfl (fun hb => ?_) (fun hb => ?_) <;> (try simp only [hbL] at hb) <;> first | (exfalso; omega) | refine drun_ th rfl ?_)
     | (refine g_if rfl (fun hb => ?_) (fun hb => ?_) <;> (try simp only [hbL] at hb) <;> (try (exfalso; omega))))
    refine g_loop1 (fun j : Nat => j ≤ rs.length)
      (fun j => [(0, .v (C1 (grpT g))), (3, .v (.one (.own 7))), (4, .v (C1 (.int .i64 (i : Int)))), (5, .v (C1 (armsC rs))), (6, .v (C1 (.int .i64 (j : Int))))])
      (fun j => [(7, .arr false 3 1 ((bfsIn out (rs.take j)).map fun r => [CT.int .i64 r]))])
      (fun j => rs.length - j) 0 (Nat.zero_le _)
      (fun a w h => h.sub (by exact ⟨⟨_, rfl, .refl _⟩, ⟨_, rfl, .refl _⟩, ⟨_, rfl, .refl _⟩, ⟨_, rfl, .refl _⟩, ⟨_, rfl, le_int rfl⟩, trivial⟩) (by exact ⟨⟨_, rfl, .refl _⟩, trivial⟩) rfl rfl rfl) (fun j hj ih2 => ?_)
    by_cases hjt : j < rs.length
    · have hxj : (rs.map Arm.cs)[j]? = some (rs[j]).cs := by simp [hjt]
      have hok : Reached g (bfsIn out (rs.take j)) := bfsIn_ok _ hI.ok fun a ha => hrm a (List.mem_of_mem_take ha)
      have hokl := hok.len
      have hsucc := bfsIn_succ hjt out
      have hih2 := ih2 (j + 1) hjt (by omega)
      rw [hsucc] at hih2
      unfold memB at hih2
      have chz := hasZ_c (bfsIn out (rs.take j)) rs[j].next
      clear ih2 hsucc
      generalize bfsIn out (rs.take j) = out2 at *
      generalize rs[j] = z at hxj hih2 chz
      repeat' (first
       | refine gc_ rfl ?_
       | (refine g_region ?_; refine run_ th rfl ?_)
       | (refine g_drawC mix rfl rfl ?_; refine drun_ th rfl ?_)
       | (refine g_drawEC mix rfl rfl ?_; refine erun_ th rfl ?_)
       | refine SOps.nil ?_
       | refine DOps.nil ?_
       | refine EOps.nil ?_ rfl rfl
       | (refine s_split rfl rfl (fun hb => ?_) (fun hb => ?_) <;> (try simp only [hbL] at hb) <;> first | (exfalso; omega) | refine run_ th rfl ?_)
       | (refine d_split rfl rfl rfl (fun hb => ?_) (fun hb => ?_) <;> (try simp only [hbL] at hb) <;> first | (exfalso; omega) | refine drun_ th rfl ?_)
       | (refine g_if rfl (fun hb => ?_) (fun hb => ?_) <;> (try simp only [hbL] at hb) <;> (try (exfalso; omega)))
       | (refine s_idx th rfl rfl rfl rfl rfl rfl rfl rfl rfl j _ rfl hxj ?_; refine run_ th rfl ?_)
       | (refine s_callL chz rfl rfl rfl rfl rfl rfl rfl rfl rfl ?_; refine run_ th rfl ?_)
       | (refine s_append th rfl rfl rfl rfl rfl rfl rfl rfl rfl rfl rfl rfl rfl rfl rfl (by constructor <;> simp <;> omega) ?_; refine run_ th rfl ?_)
       | (refine s_add rfl rfl rfl rfl rfl rfl (by omega) ?_; refine run_ th rfl ?_))
      all_goals first
        | (exfalso; simp only [List.length_map] at hb; omega)
        | (by_cases hm : z.next ∈ out2
           · exfalso; simp [hm] at hb
           · rw [if_neg (by simpa using hm)] at hih2
             exact g_sub (by exact ⟨⟨_, rfl, .refl _⟩, ⟨_, rfl, .refl _⟩, ⟨_, rfl, .refl _⟩, ⟨_, rfl, .refl _⟩, ⟨_, rfl, le_int (by omega)⟩, trivial⟩) (by exact ⟨⟨_, rfl, le_arr (by simp)⟩, trivial⟩) rfl rfl rfl hih2)
        | (by_cases hm : z.next ∈ out2
           · rw [if_pos (by simpa using hm)] at hih2
             exact g_sub (by exact ⟨⟨_, rfl, .refl _⟩, ⟨_, rfl, .refl _⟩, ⟨_, rfl, .refl _⟩, ⟨_, rfl, .refl _⟩, ⟨_, rfl, le_int (by omega)⟩, trivial⟩) (by exact ⟨⟨_, rfl, .refl _⟩, trivial⟩) rfl rfl rfl hih2
           · exfalso; simp [hm] at hb)
    · have hje : j = rs.length := by omega
      subst hje
      rw [List.take_length]
      clear ih2
      repeat' (first
       | refine gc_ rfl ?_
       | (refine g_region ?_; refine run_ th rfl ?_)
       | (refine g_drawC mix rfl rfl ?_; refine drun_ th rfl ?_)
       | (refine g_drawEC mix rfl rfl ?_; refine erun_ th rfl ?_)
       | refine SOps.nil ?_
       | refine DOps.nil ?_
       | refine EOps.nil ?_ rfl rfl
       | (refine s_split rfl rfl (fun hb => ?_) (fun hb => ?_) <;> (try simp only [hbL] at hb) <;> first | (exfalso; omega) | refine run_ th rfl ?_)
       | (refine d_split rfl rfl rfl (fun hb => ?_) (fun hb => ?_) <;> (try simp only [hbL] at hb) <;> first | (exfalso; omega) | refine drun_ th rfl ?_)
       | (refine g_if rfl (fun hb => ?_) (fun hb => ?_) <;> (try simp only [hbL] at hb) <;> (try (exfalso; omega)))
       | (refine s_add rfl rfl rfl rfl rfl rfl (by omega) ?_; refine run_ th rfl ?_))
      all_goals first
        | (exfalso; simp only [List.length_map] at hb; omega)
        | exact g_sub (by exact ⟨⟨_, rfl, .refl _⟩, ⟨_, rfl, .refl _⟩, ⟨_, rfl, le_int (by omega)⟩, trivial⟩) (by exact ⟨⟨_, rfl, .refl _⟩, trivial⟩) rfl rfl rfl hih
  · have hie : i = out.length := by omega
    subst hie
    have hdn := hI.done
    rw [hdn]
    clear ih
    repeat' (first
     | refine gc_ rfl ?_
     | (refine g_region ?_; refine run_ th rfl ?_)
     | (refine g_drawC mix rfl rfl ?_; refine drun_ th rfl ?_)
     | (refine g_drawEC mix rfl rfl ?_; refine erun_ th rfl ?_)
     | refine SOps.nil ?_
     | refine DOps.nil ?_
     | refine EOps.nil ?_ rfl rfl
     | (refine s_split rfl rfl (fun hb => ?_) (fun hb => ?_) <;> (try simp only [hbL] at hb) <;> first | (exfalso; omega) | refine run_ th rfl ?_)
     | (refine d_split rfl rfl rfl (fun hb => ?_) (fun hb => ?_) <;> (try simp only [hbL] at hb) <;> first | (exfalso; omega) | refine drun_ th rfl ?_)
     | (refine g_if rfl (fun hb => ?_) (fun hb => ?_) <;> (try simp only [hbL] at hb) <;> (try (exfalso; omega))))
    all_goals first
      | (exfalso; simp only [List.length_map] at hb; omega)
      | skip
    refine g_freeze 7 rfl rfl ?_
    refine g_endL th Tryz.func214 (.inr ⟨_, rfl⟩) rfl rfl rfl ?_ rfl
    exact .refl _
set_option maxHeartbeats 4000000 in
theorem lreachR_c (l : Loc) (hs : LocBig l) : Con Tryz.prog 160 [] [Ag l.cs] (Rv (intsT (reachL l))) [] := by
  have cm := lmayR_c l hs
  unfold reachL
  cases hv : locB l with
  | false =>
    rw [hv] at cm
    refine con_of (c := _) Tryz.func160 rfl rfl rfl (by decide) fun w M0 H Z => ?_
    repeat' (first
     | (exfalso; revert hb; simp; done)
     | refine gc_ rfl ?_
     | (refine g_region ?_; refine run_ th rfl ?_)
     | (refine g_drawC mix rfl rfl ?_; refine drun_ th rfl ?_)
     | (refine g_drawEC mix rfl rfl ?_; refine erun_ th rfl ?_)
     | refine SOps.nil ?_
     | refine DOps.nil ?_
     | refine EOps.nil ?_ rfl rfl
     | (refine s_split rfl rfl (fun hb => ?_) (fun hb => ?_) <;> (try simp only [hbL] at hb) <;> first | (exfalso; omega) | refine run_ th rfl ?_)
     | (refine d_split rfl rfl rfl (fun hb => ?_) (fun hb => ?_) <;> (try simp only [hbL] at hb) <;> first | (exfalso; omega) | refine drun_ th rfl ?_)
     | (refine g_if rfl (fun hb => ?_) (fun hb => ?_) <;> (try simp only [hbL] at hb) <;> (try (exfalso; omega)))
     | refine g_endL th Tryz.func160 (.inr ⟨_, rfl⟩) rfl rfl rfl ?_ rfl
     | (refine s_call cm [] rfl rfl rfl rfl rfl rfl rfl rfl rfl rfl ?_; refine run_ th rfl ?_))
    exact .v (.one (.c (.nil 1)))
  | true =>
    rw [hv] at cm
    obtain ⟨hg, h0, hu⟩ := loc_g hv
    have hn40 := (loc_len hv).2
    have hgl : l.g.length = l.turns.length := by simp [Loc.g]
    have ct := turnArms_c l (by omega)
    have cr := reachZ_c l.g hg h0 (by omega) (fun a ha => by
      obtain ⟨t, ht, rfl⟩ := List.mem_map.1 ha
      obtain ⟨i, hi, rfl⟩ := List.getElem_of_mem ht
      have h6 := (trnAt_nodup hv (i : Int)).2
      have he : trnAt l (i : Int) = l.turns[i] := by simp [trnAt, hi]
      rw [he] at h6
      omega)
    rw [if_pos rfl]
    refine con_of (c := _) Tryz.func160 rfl rfl rfl (by decide) fun w M0 H Z => ?_
    repeat' (first
     | (exfalso; revert hb; simp; done)
     | refine gc_ rfl ?_
     | (refine g_region ?_; refine run_ th rfl ?_)
     | (refine g_drawC mix rfl rfl ?_; refine drun_ th rfl ?_)
     | (refine g_drawEC mix rfl rfl ?_; refine erun_ th rfl ?_)
     | refine SOps.nil ?_
     | refine DOps.nil ?_
     | refine EOps.nil ?_ rfl rfl
     | (refine s_split rfl rfl (fun hb => ?_) (fun hb => ?_) <;> (try simp only [hbL] at hb) <;> first | (exfalso; omega) | refine run_ th rfl ?_)
     | (refine d_split rfl rfl rfl (fun hb => ?_) (fun hb => ?_) <;> (try simp only [hbL] at hb) <;> first | (exfalso; omega) | refine drun_ th rfl ?_)
     | (refine g_if rfl (fun hb => ?_) (fun hb => ?_) <;> (try simp only [hbL] at hb) <;> (try (exfalso; omega)))
     | refine g_endL th Tryz.func160 (.inr ⟨_, rfl⟩) rfl rfl rfl ?_ rfl
     | (refine s_call cm [] rfl rfl rfl rfl rfl rfl rfl rfl rfl rfl ?_; refine run_ th rfl ?_)
     | (refine s_call ct [] rfl rfl rfl rfl rfl rfl rfl rfl rfl rfl ?_; refine run_ th rfl ?_)
     | (refine s_call cr [] rfl rfl rfl rfl rfl rfl rfl rfl rfl rfl ?_; refine run_ th rfl ?_))
    exact .refl _
end Go.Sy
