/- Contracts of the reference: what arms, local types and protocols may be. -/
import Derived.Test.YtndmpmhekbdpdaaGreatDoorHn
import Derived.Test.YtndmpmhekbdpdaaGreatDoorBu2
import Derived.Test.YtndmpmhekbdpdaaGreatDoorBl2
import Derived.Test.YtndmpmhekbdpdaaGreatDoorBw1
import Derived.Test.YtndmpmhekbdpdaaGreatDoorMu
set_option linter.unusedSimpArgs false
set_option linter.unusedVariables false
set_option linter.unusedSectionVars false
namespace Go.Sy
open Go.Proofs
set_option maxRecDepth 100000
attribute [local irreducible] SOps Goes DOps EOps
theorem cutB_none : ∀ {l : List UInt8}, (∀ i (h : i < l.length), l[i] ≠ 46) → cutB l = none
  | [], _ => rfl
  | c :: l, h => by
    have h0 := h 0 (by simp)
    rw [List.getElem_cons_zero] at h0
    rw [cutB, if_neg h0, cutB_none (l := l) fun i hi => by
      have := h (i + 1) (by simpa using hi)
      rwa [List.getElem_cons_succ] at this]
    rfl
theorem cutB_at : ∀ {l : List UInt8} {k : Nat} (hk : k < l.length), (∀ i (h : i < l.length), i < k → l[i] ≠ 46) → l[k] = 46 → cutB l = some (l.take k, l.drop (k + 1))
  | [], _, hk, _, _ => by simp at hk
  | c :: l, 0, _, _, h => by
    rw [List.getElem_cons_zero] at h
    rw [cutB, if_pos h]; simp
  | c :: l, k + 1, hk, h1, h2 => by
    have h0 := h1 0 (by simp) (by omega)
    rw [List.getElem_cons_zero] at h0
    rw [List.getElem_cons_succ] at h2
    rw [cutB, if_neg h0, cutB_at (l := l) (k := k) (by simpa using hk) (fun i hi hk => by
      have := h1 (i + 1) (by simpa using hi) (by omega)
      rwa [List.getElem_cons_succ] at this) h2]
    simp
theorem ext_to (s : ByteArray) (k : Nat) : s.extract 0 k = ⟨(s.data.toList.take k).toArray⟩ := by
  have := ByteArray.extract_mk s.data.toList 0 k
  simpa using this
theorem ext_from (s : ByteArray) (k : Nat) : s.extract k s.size = ⟨(s.data.toList.drop k).toArray⟩ := by
  have h := ByteArray.extract_mk s.data.toList k s.size
  have hl : s.data.toList.length = s.size := by simp
  rw [List.take_of_length_le (by rw [List.length_drop]; omega)] at h
  simpa using h
set_option maxHeartbeats 4000000 in
theorem typeR_c (s : ByteArray) (hs : s.size ≤ bigS) : Con Tryz.prog 238 [] [C1 (.str s)] (Rv (.bool (typeB s))) [] := by
  have hsz : s.data.toList.length = s.size := by simp
  unfold bigS at hs
  refine con_of (c := _) Tryz.func238 rfl rfl rfl (by decide) fun w M0 H Z => ?_
  repeat' (first
   | refine gc_ rfl ?_
   | (refine g_region ?_; refine run_ th rfl ?_)
   | (refine g_drawC mix rfl rfl ?_; refine drun_ th rfl ?_)
   | (refine g_drawEC mix rfl rfl ?_; refine erun_ th rfl ?_)
   | refine SOps.nil ?_
   | refine DOps.nil ?_
   | refine EOps.nil ?_ rfl rfl
   | (refine s_split rfl rfl (fun hb => ?_) (fun hb => ?_) <;> (try simp only [hbL] at hb) <;> first | (exfalso; omega) | refine run_ th rfl ?_)
   | (refine d_split rfl rfl rfl (fun hb => ?_) (fun hb => ?_) <;> (try simp only [hbL] at hb) <;> first | (exfalso; omega) | refine drun_ th rfl ?_)
   | (refine g_if rfl (fun hb => ?_) (fun hb => ?_) <;> (try simp only [hbL] at hb) <;> (try (exfalso; omega))))
  refine g_loop1 (fun k : Nat => k ≤ s.size ∧ ∀ i (h : i < s.data.toList.length), i < k → s.data.toList[i] ≠ 46)
    (fun k => [(0, .v (C1 (.str s))), (3, .v (C1 (.int .i64 (k : Int))))]) (fun _ => []) (fun k => s.size - k) 0 ⟨Nat.zero_le _, fun i _ h => by omega⟩
    (fun a w h => h.sub (by exact ⟨⟨_, rfl, .refl _⟩, ⟨_, rfl, le_int rfl⟩, trivial⟩) (by exact trivial) rfl rfl rfl) (fun k hk ih => ?_)
  obtain ⟨hk, ha⟩ := hk
  by_cases hlt : k < s.size
  · have hlt' : k < s.data.toList.length := by omega
    have hx : s.data.toList[k]? = some s.data.toList[k] := List.getElem?_eq_getElem hlt'
    by_cases hd : s.data.toList[k] = 46
    · have ht : typeB s = (nameB (s.extract 0 k) && nameB (s.extract (k + 1) s.size)) := by
        unfold typeB
        rw [cutB_at hlt' ha hd, ext_to, ext_from]
      have c1 := mayR_c (s.extract 0 k)
      have c2 := mayR_c (s.extract (k + 1) s.size)
      rw [ht]
      clear ih
      generalize hz : s.data.toList[k] = z at hx hd
      subst hd
      generalize nameB (s.extract 0 k) = b1 at c1 ⊢
      generalize nameB (s.extract (k + 1) s.size) = b2 at c2 ⊢
      repeat' (first
       | refine gc_ rfl ?_
       | (refine g_region ?_; refine run_ th rfl ?_)
       | (refine g_drawC mix rfl rfl ?_; refine drun_ th rfl ?_)
       | (refine g_drawEC mix rfl rfl ?_; refine erun_ th rfl ?_)
       | refine SOps.nil ?_
       | refine DOps.nil ?_
       | refine EOps.nil ?_ rfl rfl
       | (refine s_split rfl rfl (fun hb => ?_) (fun hb => ?_) <;> (try simp only [hbL] at hb) <;> first | (exfalso; omega) | refine run_ th rfl ?_)
       | (refine d_split rfl rfl rfl (fun hb => ?_) (fun hb => ?_) <;> (try simp only [hbL] at hb) <;> first | (exfalso; omega) | refine drun_ th rfl ?_)
       | (refine g_if rfl (fun hb => ?_) (fun hb => ?_) <;> (try simp only [hbL] at hb) <;> (try (exfalso; omega)))
       | refine g_endL th Tryz.func238 (.inr ⟨_, rfl⟩) rfl rfl rfl ?_ rfl
       | (refine s_str th rfl rfl rfl rfl rfl rfl rfl k _ rfl hx ?_; refine run_ th rfl ?_)
       | (refine s_strTo th rfl rfl rfl rfl rfl rfl rfl (k) (by omega) (by omega) ?_; refine run_ th rfl ?_)
       | (refine s_strFrom th rfl rfl rfl rfl rfl rfl rfl (k + 1) (by omega) (by omega) ?_; refine run_ th rfl ?_)
       | (refine s_call c1 [] rfl rfl rfl rfl rfl rfl rfl rfl rfl rfl ?_; refine run_ th rfl ?_)
       | (refine s_call c2 [] rfl rfl rfl rfl rfl rfl rfl rfl rfl rfl ?_; refine run_ th rfl ?_)
       | (refine s_add rfl rfl rfl rfl rfl rfl (by omega) ?_; refine run_ th rfl ?_))
      all_goals first
        | (exfalso; revert hb; simp; done)
        | exact le_ct (by simp [*])
    · have hih := ih (k + 1) ⟨hlt, fun i h hi => by
        by_cases hik : i = k
        · subst hik; exact hd
        · exact ha i h (by omega)⟩ (by omega)
      have hdI : ¬ ((s.data.toList[k].toNat : Int) = 46) := fun h => hd (by
        have : s.data.toList[k].toNat = 46 := by omega
        exact UInt8.toNat_inj.1 this)
      generalize s.data.toList[k] = z at hx hdI
      repeat' (first
       | refine gc_ rfl ?_
       | (refine g_region ?_; refine run_ th rfl ?_)
       | (refine g_drawC mix rfl rfl ?_; refine drun_ th rfl ?_)
       | (refine g_drawEC mix rfl rfl ?_; refine erun_ th rfl ?_)
       | refine SOps.nil ?_
       | refine DOps.nil ?_
       | refine EOps.nil ?_ rfl rfl
       | (refine s_split rfl rfl (fun hb => ?_) (fun hb => ?_) <;> (try simp only [hbL] at hb) <;> first | (exfalso; omega) | refine run_ th rfl ?_)
       | (refine d_split rfl rfl rfl (fun hb => ?_) (fun hb => ?_) <;> (try simp only [hbL] at hb) <;> first | (exfalso; omega) | refine drun_ th rfl ?_)
       | (refine g_if rfl (fun hb => ?_) (fun hb => ?_) <;> (try simp only [hbL] at hb) <;> (try (exfalso; omega)))
       | (refine s_str th rfl rfl rfl rfl rfl rfl rfl k _ rfl hx ?_; refine run_ th rfl ?_)
       | (refine s_add rfl rfl rfl rfl rfl rfl (by omega) ?_; refine run_ th rfl ?_))
      all_goals first
        | (exfalso; exact hdI hb)
        | exact g_sub (by exact ⟨⟨_, rfl, .refl _⟩, ⟨_, rfl, le_int (by omega)⟩, trivial⟩) (by exact trivial) rfl rfl rfl hih
  · have ht : typeB s = nameB s := by
      unfold typeB
      rw [cutB_none fun i h => ha i h (by omega)]
    have c1 := mayR_c s
    rw [ht]
    repeat' (first
     | refine gc_ rfl ?_
     | (refine g_region ?_; refine run_ th rfl ?_)
     | (refine g_drawC mix rfl rfl ?_; refine drun_ th rfl ?_)
     | (refine g_drawEC mix rfl rfl ?_; refine erun_ th rfl ?_)
     | refine SOps.nil ?_
     | refine DOps.nil ?_
     | refine EOps.nil ?_ rfl rfl
     | (refine s_split rfl rfl (fun hb => ?_) (fun hb => ?_) <;> (try simp only [hbL] at hb) <;> first | (exfalso; omega) | refine run_ th rfl ?_)
     | (refine d_split rfl rfl rfl (fun hb => ?_) (fun hb => ?_) <;> (try simp only [hbL] at hb) <;> first | (exfalso; omega) | refine drun_ th rfl ?_)
     | (refine g_if rfl (fun hb => ?_) (fun hb => ?_) <;> (try simp only [hbL] at hb) <;> (try (exfalso; omega)))
     | refine g_endL th Tryz.func238 (.inr ⟨_, rfl⟩) rfl rfl rfl ?_ rfl
     | (refine s_call c1 [] rfl rfl rfl rfl rfl rfl rfl rfl rfl rfl ?_; refine run_ th rfl ?_))
    all_goals exact .refl _
set_option maxHeartbeats 4000000 in
theorem carR_c (k : Int) (name : ByteArray) (hs : name.size ≤ bigS) : Con Tryz.prog 202 [] [Ag [.int .i64 k, .str name]] (Rv (.bool (carB k name))) [] := by
  have c1 := typeR_c name hs
  by_cases hk : k = 5
  · subst hk
    rw [carB_chan]
    refine con_of (c := _) Tryz.func202 rfl rfl rfl (by decide) fun w M0 H Z => ?_
    repeat' (first
     | refine gc_ rfl ?_
     | (refine g_region ?_; refine run_ th rfl ?_)
     | (refine g_drawC mix rfl rfl ?_; refine drun_ th rfl ?_)
     | (refine g_drawEC mix rfl rfl ?_; refine erun_ th rfl ?_)
     | refine SOps.nil ?_
     | refine DOps.nil ?_
     | refine EOps.nil ?_ rfl rfl
     | (refine s_split rfl rfl (fun hb => ?_) (fun hb => ?_) <;> (try simp only [hbL] at hb) <;> first | (exfalso; omega) | refine run_ th rfl ?_)
     | (refine d_split rfl rfl rfl (fun hb => ?_) (fun hb => ?_) <;> (try simp only [hbL] at hb) <;> first | (exfalso; omega) | refine drun_ th rfl ?_)
     | (refine g_if rfl (fun hb => ?_) (fun hb => ?_) <;> (try simp only [hbL] at hb) <;> (try (exfalso; omega)))
     | refine g_endL th Tryz.func202 (.inr ⟨_, rfl⟩) rfl rfl rfl ?_ rfl
     | (refine s_call c1 [] rfl rfl rfl rfl rfl rfl rfl rfl rfl rfl ?_; refine run_ th rfl ?_))
    all_goals first
      | exact .refl _
      | (exfalso; revert hb; simp; done)
  · clear c1
    refine con_of (c := _) Tryz.func202 rfl rfl rfl (by decide) fun w M0 H Z => ?_
    repeat' (first
     | refine gc_ rfl ?_
     | (refine g_region ?_; refine run_ th rfl ?_)
     | (refine g_drawC mix rfl rfl ?_; refine drun_ th rfl ?_)
     | (refine g_drawEC mix rfl rfl ?_; refine erun_ th rfl ?_)
     | refine SOps.nil ?_
     | refine DOps.nil ?_
     | refine EOps.nil ?_ rfl rfl
     | (refine s_split rfl rfl (fun hb => ?_) (fun hb => ?_) <;> (try simp only [hbL] at hb) <;> first | (exfalso; omega) | refine run_ th rfl ?_)
     | (refine d_split rfl rfl rfl (fun hb => ?_) (fun hb => ?_) <;> (try simp only [hbL] at hb) <;> first | (exfalso; omega) | refine drun_ th rfl ?_)
     | (refine g_if rfl (fun hb => ?_) (fun hb => ?_) <;> (try simp only [hbL] at hb) <;> (try (exfalso; omega)))
     | refine g_endL th Tryz.func202 (.inr ⟨_, rfl⟩) rfl rfl rfl ?_ rfl)
    all_goals first
      | (exfalso; exact hk hb)
      | exact le_ct (by rw [carB_no name (by omega)])
      | exact le_ct (by rw [carB_data name (by omega) (by omega)])
set_option maxHeartbeats 8000000 in
theorem armsR_c (l : List Arm) (n : Int) (hs : ArmsBig l) : Con Tryz.prog 134 [] [C1 (armsC l), C1 (.int .i64 n)] (Rv (.bool (armsOK n l))) [] := by
  refine con_of (c := _) Tryz.func134 rfl rfl rfl (by decide) fun w M0 H Z => ?_
  refine g_len 0 rfl fun hll => ?_
  simp only [List.length_map] at hll
  repeat' (first
   | refine gc_ rfl ?_
   | (refine g_region ?_; refine run_ th rfl ?_)
   | (refine g_drawC mix rfl rfl ?_; refine drun_ th rfl ?_)
   | (refine g_drawEC mix rfl rfl ?_; refine erun_ th rfl ?_)
   | refine SOps.nil ?_
   | refine DOps.nil ?_
   | refine EOps.nil ?_ rfl rfl
   | (refine s_split rfl rfl (fun hb => ?_) (fun hb => ?_) <;> (try simp only [hbL] at hb) <;> first | (exfalso; omega) | refine run_ th rfl ?_)
   | (refine d_split rfl rfl rfl (fun hb => ?_) (fun hb => ?_) <;> (try simp only [hbL] at hb) <;> first | (exfalso; omega) | refine drun_ th rfl ?_)
   | (refine g_if rfl (fun hb => ?_) (fun hb => ?_) <;> (try simp only [hbL] at hb) <;> (try (exfalso; omega))))
  refine g_loop1 (fun i : Nat => i ≤ l.length ∧ armsM n (l.take i) = true)
    (fun i => [(0, .v (C1 (armsC l))), (0 + 1, .v (C1 (.int .i64 n))), (5, .v (C1 (.int .i64 (i : Int))))])
    (fun _ => []) (fun i => l.length - i) 0 ⟨Nat.zero_le _, rfl⟩
    (fun a w h => h.sub (by exact ⟨⟨_, rfl, .refl _⟩, ⟨_, rfl, .refl _⟩, ⟨_, rfl, le_int rfl⟩, trivial⟩) (by exact trivial) rfl rfl rfl) (fun i hi ih => ?_)
  obtain ⟨hi, hok⟩ := hi
  by_cases hlt : i < l.length
  · have hx : (l.map Arm.cs)[i]? = some (l[i]).cs := by simp [hlt]
    have hst : armsM n (l.take (i + 1)) = (armB n l[i] && !memB ((l.take i).map Arm.label) l[i].label) := by
      rw [List.take_succ_eq_append_getElem hlt, armsM_snoc, hok, Bool.true_and]
    have hno : armsM n (l.take (i + 1)) = false → armsOK n l = false := fun h => by rw [armsOK_M, armsM_false hlt h]; simp
    have hih := fun h => ih (i + 1) ⟨hlt, h⟩ (by omega)
    have hlk : ∀ k (h : k < i), (l[k]'(by omega)).label = l[i].label → memB ((l.take i).map Arm.label) l[i].label = true := fun k h e => by
      have hm : l[i].label ∈ (l.take i).map Arm.label := by
        rw [← e]; exact List.mem_map_of_mem (List.mem_take_iff_getElem.2 ⟨k, by omega, rfl⟩)
      simpa [memB] using hm
    have hln : (∀ k (h : k < i), (l[k]'(by omega)).label ≠ l[i].label) → memB ((l.take i).map Arm.label) l[i].label = false := fun h => by
      cases hmb : memB ((l.take i).map Arm.label) l[i].label with
      | false => rfl
      | true =>
      exfalso
      have hm : l[i].label ∈ (l.take i).map Arm.label := by simpa [memB] using hmb
      obtain ⟨a, ha, e⟩ := List.mem_map.1 hm
      obtain ⟨k, hk, rfl⟩ := List.mem_take_iff_getElem.1 ha
      exact h k (by omega) e
    have hxk : ∀ k (h : k < l.length), (l.map Arm.cs)[k]? = some (l[k]).cs := fun k h => by simp [h]
    have c1 := mayR_c l[i].label
    have c2 := carR_c l[i].kind l[i].name (hs l[i] (List.getElem_mem hlt))
    clear ih
    obtain ⟨a, hA⟩ : ∃ a, a = l[i] := ⟨_, rfl⟩
    rw [← hA] at hx hst hlk hln c1 c2
    clear hA
    have hab : armB n a = (nameB a.label && (carB a.kind a.name && (decide (0 ≤ a.next) && decide (a.next < n)))) := rfl
    repeat' (first
     | refine gc_ rfl ?_
     | (refine g_region ?_; refine run_ th rfl ?_)
     | (refine g_drawC mix rfl rfl ?_; refine drun_ th rfl ?_)
     | (refine g_drawEC mix rfl rfl ?_; refine erun_ th rfl ?_)
     | refine SOps.nil ?_
     | refine DOps.nil ?_
     | refine EOps.nil ?_ rfl rfl
     | (refine s_split rfl rfl (fun hb => ?_) (fun hb => ?_) <;> (try simp only [hbL] at hb) <;> first | (exfalso; omega) | refine run_ th rfl ?_)
     | (refine d_split rfl rfl rfl (fun hb => ?_) (fun hb => ?_) <;> (try simp only [hbL] at hb) <;> first | (exfalso; omega) | refine drun_ th rfl ?_)
     | (refine g_if rfl (fun hb => ?_) (fun hb => ?_) <;> (try simp only [hbL] at hb) <;> (try (exfalso; omega)))
     | (refine s_idx th rfl rfl rfl rfl rfl rfl rfl rfl rfl i _ rfl hx ?_; refine run_ th rfl ?_)
     | (refine s_call c1 [] rfl rfl rfl rfl rfl rfl rfl rfl rfl rfl ?_; refine run_ th rfl ?_)
     | (refine s_call c2 [] rfl rfl rfl rfl rfl rfl rfl rfl rfl rfl ?_; refine run_ th rfl ?_))
    all_goals first
      | (refine g_endL th Tryz.func134 (.inr ⟨_, rfl⟩) rfl rfl rfl ?_ rfl
         exact le_ct (by rw [hno (by rw [hst, hab]; simp [*] <;> omega)]))
      | skip
    have habt : armB n a = true := by rw [hab]; simp [*] <;> omega
    rw [habt, Bool.true_and] at hst
    clear hab
    refine g_loop1 (fun k : Nat => k ≤ i ∧ ∀ j (h : j < l.length), j < k → l[j].label ≠ a.label)
      (fun k => [(0, .v (C1 (armsC l))), (0 + 1, .v (C1 (.int .i64 n))), (5, .v (C1 (.int .i64 (i : Int)))), (6, .v (C1 (.int .i64 (k : Int))))])
      (fun _ => []) (fun k => i - k) 0 ⟨Nat.zero_le _, fun j _ h => by omega⟩
      (fun a w h => h.sub (by exact ⟨⟨_, rfl, .refl _⟩, ⟨_, rfl, .refl _⟩, ⟨_, rfl, .refl _⟩, ⟨_, rfl, le_int rfl⟩, trivial⟩) (by exact trivial) rfl rfl rfl) (fun k hk ih2 => ?_)
    obtain ⟨hk, hka⟩ := hk
    by_cases hkl : k < i
    · have hx2 := hxk k (by omega)
      by_cases he : (l[k]'(by omega)).label = a.label
      · have hr := hno (by rw [hst, hlk k hkl he]; rfl)
        rw [hr]
        clear ih2 hih
        generalize l[k]'(by omega) = b at hx2 he
        repeat' (first
         | refine gc_ rfl ?_
         | (refine g_region ?_; refine run_ th rfl ?_)
         | (refine g_drawC mix rfl rfl ?_; refine drun_ th rfl ?_)
         | (refine g_drawEC mix rfl rfl ?_; refine erun_ th rfl ?_)
         | refine SOps.nil ?_
         | refine DOps.nil ?_
         | refine EOps.nil ?_ rfl rfl
         | (refine s_split rfl rfl (fun hb => ?_) (fun hb => ?_) <;> (try simp only [hbL] at hb) <;> first | (exfalso; omega) | refine run_ th rfl ?_)
         | (refine d_split rfl rfl rfl (fun hb => ?_) (fun hb => ?_) <;> (try simp only [hbL] at hb) <;> first | (exfalso; omega) | refine drun_ th rfl ?_)
         | (refine g_if rfl (fun hb => ?_) (fun hb => ?_) <;> (try simp only [hbL] at hb) <;> (try (exfalso; omega)))
         | refine g_endL th Tryz.func134 (.inr ⟨_, rfl⟩) rfl rfl rfl ?_ rfl
         | (refine d_idx th rfl rfl rfl rfl rfl rfl rfl rfl rfl k _ rfl hx2 ?_; refine drun_ th rfl ?_)
         | (refine d_idx th rfl rfl rfl rfl rfl rfl rfl rfl rfl i _ rfl hx ?_; refine drun_ th rfl ?_)
         | (refine s_add rfl rfl rfl rfl rfl rfl (by omega) ?_; refine run_ th rfl ?_))
        all_goals first
          | exact .refl _
          | (exfalso; exact hb he)
          | (exfalso; omega)
      · have hih2 := ih2 (k + 1) ⟨hkl, fun j h hj => by
          by_cases hjk : j = k
          · subst hjk; exact he
          · exact hka j h (by omega)⟩ (by omega)
        clear ih2 hih
        generalize l[k]'(by omega) = b at hx2 he
        repeat' (first
         | refine gc_ rfl ?_
         | (refine g_region ?_; refine run_ th rfl ?_)
         | (refine g_drawC mix rfl rfl ?_; refine drun_ th rfl ?_)
         | (refine g_drawEC mix rfl rfl ?_; refine erun_ th rfl ?_)
         | refine SOps.nil ?_
         | refine DOps.nil ?_
         | refine EOps.nil ?_ rfl rfl
         | (refine s_split rfl rfl (fun hb => ?_) (fun hb => ?_) <;> (try simp only [hbL] at hb) <;> first | (exfalso; omega) | refine run_ th rfl ?_)
         | (refine d_split rfl rfl rfl (fun hb => ?_) (fun hb => ?_) <;> (try simp only [hbL] at hb) <;> first | (exfalso; omega) | refine drun_ th rfl ?_)
         | (refine g_if rfl (fun hb => ?_) (fun hb => ?_) <;> (try simp only [hbL] at hb) <;> (try (exfalso; omega)))
         | (refine d_idx th rfl rfl rfl rfl rfl rfl rfl rfl rfl k _ rfl hx2 ?_; refine drun_ th rfl ?_)
         | (refine d_idx th rfl rfl rfl rfl rfl rfl rfl rfl rfl i _ rfl hx ?_; refine drun_ th rfl ?_)
         | (refine s_add rfl rfl rfl rfl rfl rfl (by omega) ?_; refine run_ th rfl ?_))
        all_goals first
          | (exfalso; exact he hb)
          | (exfalso; omega)
          | exact g_sub (by exact ⟨⟨_, rfl, .refl _⟩, ⟨_, rfl, .refl _⟩, ⟨_, rfl, .refl _⟩, ⟨_, rfl, le_int (by omega)⟩, trivial⟩) (by exact trivial) rfl rfl rfl hih2
    · have hih2 := hih (by rw [hst, hln fun j h => hka j (by omega) (by omega)]; rfl)
      clear ih2 hih
      repeat' (first
       | refine gc_ rfl ?_
       | (refine g_region ?_; refine run_ th rfl ?_)
       | (refine g_drawC mix rfl rfl ?_; refine drun_ th rfl ?_)
       | (refine g_drawEC mix rfl rfl ?_; refine erun_ th rfl ?_)
       | refine SOps.nil ?_
       | refine DOps.nil ?_
       | refine EOps.nil ?_ rfl rfl
       | (refine s_split rfl rfl (fun hb => ?_) (fun hb => ?_) <;> (try simp only [hbL] at hb) <;> first | (exfalso; omega) | refine run_ th rfl ?_)
       | (refine d_split rfl rfl rfl (fun hb => ?_) (fun hb => ?_) <;> (try simp only [hbL] at hb) <;> first | (exfalso; omega) | refine drun_ th rfl ?_)
       | (refine g_if rfl (fun hb => ?_) (fun hb => ?_) <;> (try simp only [hbL] at hb) <;> (try (exfalso; omega)))
       | (refine s_add rfl rfl rfl rfl rfl rfl (by omega) ?_; refine run_ th rfl ?_))
      all_goals first
        | (exfalso; omega)
        | exact g_sub (by exact ⟨⟨_, rfl, .refl _⟩, ⟨_, rfl, .refl _⟩, ⟨_, rfl, le_int (by omega)⟩, trivial⟩) (by exact trivial) rfl rfl rfl hih2
  · have hke : i = l.length := by omega
    subst hke
    rw [List.take_length] at hok
    repeat' (first
     | refine gc_ rfl ?_
     | (refine g_region ?_; refine run_ th rfl ?_)
     | (refine g_drawC mix rfl rfl ?_; refine drun_ th rfl ?_)
     | (refine g_drawEC mix rfl rfl ?_; refine erun_ th rfl ?_)
     | refine SOps.nil ?_
     | refine DOps.nil ?_
     | refine EOps.nil ?_ rfl rfl
     | (refine s_split rfl rfl (fun hb => ?_) (fun hb => ?_) <;> (try simp only [hbL] at hb) <;> first | (exfalso; omega) | refine run_ th rfl ?_)
     | (refine d_split rfl rfl rfl (fun hb => ?_) (fun hb => ?_) <;> (try simp only [hbL] at hb) <;> first | (exfalso; omega) | refine drun_ th rfl ?_)
     | (refine g_if rfl (fun hb => ?_) (fun hb => ?_) <;> (try simp only [hbL] at hb) <;> (try (exfalso; omega)))
     | refine g_endL th Tryz.func134 (.inr ⟨_, rfl⟩) rfl rfl rfl ?_ rfl)
    all_goals
      refine le_ct ?_
      rw [armsOK_M]
      by_cases h1 : 1 ≤ l.length
      · rw [hok, decide_eq_true h1]; simp <;> omega
      · rw [decide_eq_false h1]; simp <;> omega
set_option maxHeartbeats 8000000 in
theorem lmayR_c (l : Loc) (hB : LocBig l) : Con Tryz.prog 80 [] [Ag l.cs] (Rv (.bool (locB l))) [] := by
  refine con_of (c := _) Tryz.func80 rfl rfl rfl (by decide) fun w M0 H Z => ?_
  repeat' (first
   | (refine g_lenB 1 1 rfl rfl fun hll => ?_; simp only [List.length_map] at hll; refine g_region ?_; refine run_ th rfl ?_)
   | refine gc_ rfl ?_
   | (refine g_region ?_; refine run_ th rfl ?_)
   | (refine g_drawC mix rfl rfl ?_; refine drun_ th rfl ?_)
   | (refine g_drawEC mix rfl rfl ?_; refine erun_ th rfl ?_)
   | refine SOps.nil ?_
   | refine DOps.nil ?_
   | refine EOps.nil ?_ rfl rfl
   | (refine s_split rfl rfl (fun hb => ?_) (fun hb => ?_) <;> (try simp only [hbL] at hb) <;> first | (exfalso; omega) | refine run_ th rfl ?_)
   | (refine d_split rfl rfl rfl (fun hb => ?_) (fun hb => ?_) <;> (try simp only [hbL] at hb) <;> first | (exfalso; omega) | refine drun_ th rfl ?_)
   | (refine g_if rfl (fun hb => ?_) (fun hb => ?_) <;> (try simp only [hbL] at hb) <;> (try (exfalso; omega)))
   | refine g_endL th Tryz.func80 (.inr ⟨_, rfl⟩) rfl rfl rfl ?_ rfl)
  · exact le_ct (by rw [locB_M]; simp; omega)
  · exact le_ct (by rw [locB_M]; simp; omega)
  refine g_loop1 (fun i : Nat => i ≤ l.turns.length ∧ turnsM l.turns.length (l.turns.take i) = true)
    (fun i => [(1, .v (.one (.ptr 1 0))), (3, .v (C1 (.int .i64 (i : Int))))])
    (fun i => [(1, .box (l.cs.map SC.c))])
    (fun i => l.turns.length - i) 0 ⟨Nat.zero_le _, rfl⟩
    (fun a w h => h.sub (by exact ⟨⟨_, rfl, .refl _⟩, ⟨_, rfl, le_int rfl⟩, trivial⟩) (by exact ⟨⟨_, rfl, .refl _⟩, trivial⟩) rfl rfl rfl) (fun i hi ih => ?_)
  obtain ⟨hi, hok⟩ := hi
  by_cases hlt : i < l.turns.length
  · have hx : (l.turns.map Trn.cs)[i]? = some (l.turns[i]).cs := by simp [hlt]
    have hst := turnsM_snoc hlt hok
    have hno : trnB l.turns.length l.turns[i] = false → locB l = false := fun h => by rw [locB_M, turnsM_false hlt h]; simp
    repeat' (first
     | refine gc_ rfl ?_
     | (refine g_region ?_; refine run_ th rfl ?_)
     | (refine g_drawC mix rfl rfl ?_; refine drun_ th rfl ?_)
     | (refine g_drawEC mix rfl rfl ?_; refine erun_ th rfl ?_)
     | refine SOps.nil ?_
     | refine DOps.nil ?_
     | refine EOps.nil ?_ rfl rfl
     | (refine s_split rfl rfl (fun hb => ?_) (fun hb => ?_) <;> (try simp only [hbL] at hb) <;> first | (exfalso; omega) | refine run_ th rfl ?_)
     | (refine d_split rfl rfl rfl (fun hb => ?_) (fun hb => ?_) <;> (try simp only [hbL] at hb) <;> first | (exfalso; omega) | refine drun_ th rfl ?_)
     | (refine g_if rfl (fun hb => ?_) (fun hb => ?_) <;> (try simp only [hbL] at hb) <;> (try (exfalso; omega)))
     | refine g_endL th Tryz.func80 (.inr ⟨_, rfl⟩) rfl rfl rfl ?_ rfl
     | (refine s_idx th rfl rfl rfl rfl rfl rfl rfl rfl rfl i _ rfl hx ?_; refine run_ th rfl ?_)
     | (refine s_call (mayR_c l.turns[i].peer) [] rfl rfl rfl rfl rfl rfl rfl rfl rfl rfl ?_; refine run_ th rfl ?_)
     | (refine s_call (armsR_c l.turns[i].arms ((l.turns.map Trn.cs).length : Int) (hB l.turns[i] (List.getElem_mem hlt))) [] rfl rfl rfl rfl rfl rfl rfl rfl rfl rfl ?_; refine run_ th rfl ?_)
     | (refine s_add rfl rfl rfl rfl rfl rfl (by omega) ?_; refine run_ th rfl ?_))
    all_goals first
      | exact le_ct (by rw [hno (by rw [trn_end (by assumption), decide_eq_false (by assumption)]; rfl)])
      | exact le_ct (by rw [hno (by rw [trn_end (by assumption), isEmpty_len, decide_eq_true (p := (0 : Int) < _) (by assumption)]; simp)])
      | exact le_ct (by rw [hno (by rw [trn_act (by omega) (by omega)]; simp [*])])
      | exact le_ct (by rw [hno (trn_bad (by omega) (by omega))])
      | (have hih := ih (i + 1) ⟨hlt, by rw [hst]; first
          | (rw [trn_end (by assumption), isEmpty_len, decide_eq_false (p := (0 : Int) < _) (by assumption), decide_eq_true (by assumption)]; rfl)
          | (rw [trn_act (by omega) (by omega)]; simp [*]; done)⟩ (by omega)
         exact g_sub (by exact ⟨⟨_, rfl, .refl _⟩, ⟨_, rfl, le_int (by omega)⟩, trivial⟩) (by exact ⟨⟨_, rfl, .refl _⟩, trivial⟩) rfl rfl rfl hih)
  · have hke : i = l.turns.length := by omega
    subst hke
    rw [List.take_length] at hok
    repeat' (first
     | refine gc_ rfl ?_
     | (refine g_region ?_; refine run_ th rfl ?_)
     | (refine g_drawC mix rfl rfl ?_; refine drun_ th rfl ?_)
     | (refine g_drawEC mix rfl rfl ?_; refine erun_ th rfl ?_)
     | refine SOps.nil ?_
     | refine DOps.nil ?_
     | refine EOps.nil ?_ rfl rfl
     | (refine s_split rfl rfl (fun hb => ?_) (fun hb => ?_) <;> (try simp only [hbL] at hb) <;> first | (exfalso; omega) | refine run_ th rfl ?_)
     | (refine d_split rfl rfl rfl (fun hb => ?_) (fun hb => ?_) <;> (try simp only [hbL] at hb) <;> first | (exfalso; omega) | refine drun_ th rfl ?_)
     | (refine g_if rfl (fun hb => ?_) (fun hb => ?_) <;> (try simp only [hbL] at hb) <;> (try (exfalso; omega)))
     | refine g_endL th Tryz.func80 (.inr ⟨_, rfl⟩) rfl rfl rfl ?_ rfl)
    exact le_ct (by rw [locB_M, hok]; simp; omega)
section
variable {roles : List ByteArray} {n : Int} {x : Pnt}
end
end Go.Sy
