/- Contracts: own, what a role says and hears along a walk. -/
import Derived.Test.YtadimhaolhpglaaGreatDoorJk
import Derived.Test.YtadimhaolhpglaaGreatDoorJo
set_option linter.unusedSimpArgs false
set_option linter.unusedVariables false
set_option linter.unusedSectionVars false
namespace Go.Sy
open Go.Proofs
set_option maxRecDepth 100000
attribute [local irreducible] SOps Goes DOps EOps GOps

def lastN (l : List Arm) (s : ByteArray) (t : Int) : Int := l.foldl (fun t a => if a.label = s then a.next else t) t
theorem lastN_snoc {l : List Arm} {k : Nat} (h : k < l.length) (s : ByteArray) (t : Int) : lastN (l.take (k + 1)) s t = if l[k].label = s then l[k].next else lastN (l.take k) s t := by
  unfold lastN
  rw [List.take_succ_eq_append_getElem h, List.foldl_append]; rfl
theorem last_find (s : ByteArray) : ∀ (l : List Arm) (t : Int), (l.map Arm.label).Nodup → lastN l s t = match l.find? (fun a => decide (a.label = s)) with | none => t | some a => a.next
  | [], t, _ => rfl
  | b :: l, t, hd => by
    rw [List.map_cons, List.nodup_cons] at hd
    show lastN l s (if b.label = s then b.next else t) = _
    rw [last_find s l _ hd.2, List.find?_cons]
    by_cases e : b.label = s
    · rw [if_pos e, decide_eq_true e]
      have : l.find? (fun a => decide (a.label = s)) = none := List.find?_eq_none.2 fun a ha h => hd.1 (by rw [e, ← of_decide_eq_true h]; exact List.mem_map_of_mem ha)
      rw [this]
    · rw [if_neg e, decide_eq_false e]
theorem pnt_arms6 {p : Prt} (hv : prtB p = true) (x : Int) : (pntAt p x).arms.length ≤ 6 ∧ ((pntAt p x).arms.map Arm.label).Nodup := by
  rcases pntAt_or p x with hm | hm
  · rcases pnt_kind (prt_pnt hv _ hm) with ⟨_, _, e⟩ | ⟨_, _, _, h⟩
    · rw [e]; exact ⟨by simp, List.nodup_nil⟩
    · exact ⟨(arms_all h).1.2, (arms_all h).2.2⟩
  · rw [hm]; exact ⟨by decide, List.nodup_nil⟩
abbrev ownT : Option (List ByteArray) → ST
  | none => .tup [C1 .nils, C1 (.bool false)]
  | some l => .tup [C1 (namesT l), C1 (.bool true)]

set_option maxHeartbeats 8000000 in
theorem own_c (p : Prt) (hv : prtB p = true) (role : ByteArray) (way : List ByteArray) (hwl : way.length ≤ 1000) : Con Tryz.prog 30 [] [Ag p.cs, C1 (.str role), C1 (namesT way)] (ownT (ownL p role 0 way)) [] := by
  have hpl := prt_len hv
  have hpin := prt_in hv
  refine con_of (c := _) Tryz.func30 rfl rfl rfl (by decide) fun w M0 H Z => ?_
  repeat' (first
   | refine gc_ rfl ?_
   | (refine g_region ?_; refine run_ th rfl ?_)
   | (refine g_drawC mix rfl rfl ?_; refine drun_ th rfl ?_)
   | (refine g_drawEC mix rfl rfl ?_; refine erun_ th rfl ?_)
   | refine SOps.nil ?_
   | refine DOps.nil ?_
   | refine EOps.nil ?_ rfl rfl
   | (refine s_split rfl rfl (fun hb => ?_) (fun hb => ?_) <;> (try simp only [hbL] at hb) <;> first | (exfalso; omega) | refine run_ th rfl ?_)
   | (refine d_split rfl rfl rfl (fun hb => ?_) (fun hb => ?_) <;> (try simp only [hbL] at hb) <;> first | (exfalso; omega) | refine drun_ th rfl ?_)
   | (refine g_if rfl (fun hb => ?_) (fun hb => ?_) <;> (try simp only [hbL] at hb) <;> (try (exfalso; omega))))
  refine g_adopt 9 290 9 1 rfl rfl rfl ?_
  refine g_loop2 (fun (i : Nat) (s : Int × List ByteArray) => i ≤ way.length ∧ (0 ≤ s.1 ∧ s.1 < (p.points.length : Int)) ∧ s.2.length ≤ i ∧ ownL p role 0 way = (ownL p role s.1 (way.drop i)).map (s.2 ++ ·))
    (fun i s => [(1, .v (C1 (.str role))), (2, .v (C1 (namesT way))), (3, .v (.one (.ptr 3 0))), (8, .v (C1 (.int .i64 s.1))), (9, .v (.one (.own 290))), (10, .v (C1 (.int .i64 (i : Int))))])
    (fun i s => [(3, .box (p.cs.map SC.c)), (290, .arr false 9 1 (s.2.map fun s => [CT.str s]))])
    (fun i _ => way.length - i) 0 (0, []) ⟨Nat.zero_le _, ⟨Int.le_refl _, by simp only; omega⟩, Nat.le_refl _, by simp⟩
    (fun a w h => h.sub (by exact ⟨⟨_, rfl, .refl _⟩, ⟨_, rfl, .refl _⟩, ⟨_, rfl, .refl _⟩, ⟨_, rfl, le_int rfl⟩, ⟨_, rfl, .refl _⟩, ⟨_, rfl, le_int rfl⟩, trivial⟩) (by exact ⟨⟨_, rfl, .refl _⟩, ⟨_, rfl, le_arr rfl⟩, trivial⟩) rfl rfl rfl) (fun i s hi ih => ?_)
  obtain ⟨x, mine⟩ := s
  obtain ⟨hi, hxr, hml, hst⟩ := hi
  simp only at hxr hml hst ⊢
  by_cases hlt : i < way.length
  · have hxp := pntAt_get hxr
    have hxw : (way.map fun s => [CT.str s])[i]? = some [.str way[i]] := by simp [hlt]
    obtain ⟨h6, hnd⟩ := pnt_arms6 hv x
    have hnx : ∀ a ∈ (pntAt p x).arms, 0 ≤ a.next ∧ a.next < (p.points.length : Int) := fun a ha => hpin x a ha
    rw [List.drop_eq_getElem_cons hlt, ownL, armsAt_prt] at hst
    have hlf := last_find way[i] (pntAt p x).arms (-1) hnd
    have hih := fun x2 m2 h => ih (i + 1) (x2, m2) ⟨hlt, h⟩ (by omega)
    obtain ⟨y, hy⟩ : ∃ y, y = pntAt p x := ⟨_, rfl⟩
    obtain ⟨z, hz⟩ : ∃ z, z = way[i] := ⟨_, rfl⟩
    rw [← hy] at hxp h6 hnx hst hlf
    rw [← hz] at hxw hst hlf
    clear hy hz hnd ih hpin
    repeat' (first
     | refine gc_ rfl ?_
     | (refine g_region ?_; refine run_ th rfl ?_)
     | (refine g_drawC mix rfl rfl ?_; refine drun_ th rfl ?_)
     | (refine g_drawEC mix rfl rfl ?_; refine erun_ th rfl ?_)
     | refine SOps.nil ?_
     | refine DOps.nil ?_
     | refine EOps.nil ?_ rfl rfl
     | (refine s_split rfl rfl (fun hb => ?_) (fun hb => ?_) <;> (try simp only [hbL] at hb) <;> first | (exfalso; omega) | refine run_ th rfl ?_)
     | (refine d_split rfl rfl rfl (fun hb => ?_) (fun hb => ?_) <;> (try simp only [hbL] at hb) <;> first | (exfalso; omega) | refine drun_ th rfl ?_)
     | (refine g_if rfl (fun hb => ?_) (fun hb => ?_) <;> (try simp only [hbL] at hb) <;> (try (exfalso; omega)))
     | (refine s_idx th rfl rfl rfl rfl rfl rfl rfl rfl rfl x.toNat _ (by omega) hxp ?_; refine run_ th rfl ?_))
    refine g_loop1 (fun k : Nat => k ≤ y.arms.length)
      (fun k => [(1, .v (C1 (.str role))), (2, .v (C1 (namesT way))), (3, .v (.one (.ptr 3 0))), (8, .v (C1 (.int .i64 x))), (9, .v (.one (.own 290))), (10, .v (C1 (.int .i64 (i : Int)))), (11, .v (C1 (.int .i64 (lastN (y.arms.take k) z (-1))))), (12, .v (.one (.ptr 12 0))), (13, .v (C1 (.int .i64 (k : Int))))])
      (fun _ => [(3, .box (p.cs.map SC.c)), (12, .box (y.cs.map SC.c)), (290, .arr false 9 1 (mine.map fun s => [CT.str s]))])
      (fun k => y.arms.length - k) 0 (Nat.zero_le _)
      (fun a w h => h.sub (by exact ⟨⟨_, rfl, .refl _⟩, ⟨_, rfl, .refl _⟩, ⟨_, rfl, .refl _⟩, ⟨_, rfl, .refl _⟩, ⟨_, rfl, .refl _⟩, ⟨_, rfl, .refl _⟩, ⟨_, rfl, le_int rfl⟩, ⟨_, rfl, .refl _⟩, ⟨_, rfl, le_int rfl⟩, trivial⟩) (by exact ⟨⟨_, rfl, .refl _⟩, ⟨_, rfl, .refl _⟩, ⟨_, rfl, .refl _⟩, trivial⟩) rfl rfl rfl) (fun k hk ihk => ?_)
    by_cases hkl : k < y.arms.length
    · have hxk : (y.arms.map Arm.cs)[k]? = some (y.arms[k]).cs := by simp [hkl]
      have hihk := ihk (k + 1) hkl (by omega)
      rw [lastN_snoc hkl] at hihk
      obtain ⟨b1, hb1⟩ : ∃ b, b = y.arms[k] := ⟨_, rfl⟩
      rw [← hb1] at hxk hihk
      clear hb1 ihk hih hst
      by_cases hbl : b1.label = z
      · rw [if_pos hbl] at hihk
        repeat' (first
         | refine gc_ rfl ?_
         | (refine g_region ?_; refine run_ th rfl ?_)
         | (refine g_drawC mix rfl rfl ?_; refine drun_ th rfl ?_)
         | (refine g_drawEC mix rfl rfl ?_; refine erun_ th rfl ?_)
         | refine SOps.nil ?_
         | refine DOps.nil ?_
         | refine EOps.nil ?_ rfl rfl
         | (refine s_split rfl rfl (fun hb => ?_) (fun hb => ?_) <;> (try simp only [hbL] at hb) <;> first | (exfalso; omega) | refine run_ th rfl ?_)
         | (refine d_split rfl rfl rfl (fun hb => ?_) (fun hb => ?_) <;> (try simp only [hbL] at hb) <;> first | (exfalso; omega) | refine drun_ th rfl ?_)
         | (refine g_if rfl (fun hb => ?_) (fun hb => ?_) <;> (try simp only [hbL] at hb) <;> (try (exfalso; omega)))
         | (refine d_idx th rfl rfl rfl rfl rfl rfl rfl rfl rfl k _ rfl hxk ?_; refine drun_ th rfl ?_)
         | (refine d_idx th rfl rfl rfl rfl rfl rfl rfl rfl rfl i _ rfl hxw ?_; refine drun_ th rfl ?_)
         | (refine s_idx th rfl rfl rfl rfl rfl rfl rfl rfl rfl k _ rfl hxk ?_; refine run_ th rfl ?_)
         | (refine s_add rfl rfl rfl rfl rfl rfl (by omega) ?_; refine run_ th rfl ?_))
        all_goals first
          | (exfalso; contradiction)
          | (exfalso; simp only [List.length_map] at hb; omega)
          | exact g_sub (by exact ⟨⟨_, rfl, .refl _⟩, ⟨_, rfl, .refl _⟩, ⟨_, rfl, .refl _⟩, ⟨_, rfl, .refl _⟩, ⟨_, rfl, .refl _⟩, ⟨_, rfl, .refl _⟩, ⟨_, rfl, .refl _⟩, ⟨_, rfl, .refl _⟩, ⟨_, rfl, le_int (by omega)⟩, trivial⟩) (by exact ⟨⟨_, rfl, .refl _⟩, ⟨_, rfl, .refl _⟩, ⟨_, rfl, .refl _⟩, trivial⟩) rfl rfl rfl hihk
      · rw [if_neg hbl] at hihk
        repeat' (first
         | refine gc_ rfl ?_
         | (refine g_region ?_; refine run_ th rfl ?_)
         | (refine g_drawC mix rfl rfl ?_; refine drun_ th rfl ?_)
         | (refine g_drawEC mix rfl rfl ?_; refine erun_ th rfl ?_)
         | refine SOps.nil ?_
         | refine DOps.nil ?_
         | refine EOps.nil ?_ rfl rfl
         | (refine s_split rfl rfl (fun hb => ?_) (fun hb => ?_) <;> (try simp only [hbL] at hb) <;> first | (exfalso; omega) | refine run_ th rfl ?_)
         | (refine d_split rfl rfl rfl (fun hb => ?_) (fun hb => ?_) <;> (try simp only [hbL] at hb) <;> first | (exfalso; omega) | refine drun_ th rfl ?_)
         | (refine g_if rfl (fun hb => ?_) (fun hb => ?_) <;> (try simp only [hbL] at hb) <;> (try (exfalso; omega)))
         | (refine d_idx th rfl rfl rfl rfl rfl rfl rfl rfl rfl k _ rfl hxk ?_; refine drun_ th rfl ?_)
         | (refine d_idx th rfl rfl rfl rfl rfl rfl rfl rfl rfl i _ rfl hxw ?_; refine drun_ th rfl ?_)
         | (refine s_idx th rfl rfl rfl rfl rfl rfl rfl rfl rfl k _ rfl hxk ?_; refine run_ th rfl ?_)
         | (refine s_add rfl rfl rfl rfl rfl rfl (by omega) ?_; refine run_ th rfl ?_))
        all_goals first
          | (exfalso; contradiction)
          | (exfalso; simp only [List.length_map] at hb; omega)
          | exact g_sub (by exact ⟨⟨_, rfl, .refl _⟩, ⟨_, rfl, .refl _⟩, ⟨_, rfl, .refl _⟩, ⟨_, rfl, .refl _⟩, ⟨_, rfl, .refl _⟩, ⟨_, rfl, .refl _⟩, ⟨_, rfl, .refl _⟩, ⟨_, rfl, .refl _⟩, ⟨_, rfl, le_int (by omega)⟩, trivial⟩) (by exact ⟨⟨_, rfl, .refl _⟩, ⟨_, rfl, .refl _⟩, ⟨_, rfl, .refl _⟩, trivial⟩) rfl rfl rfl hihk
    · rw [List.take_of_length_le (by omega), hlf]
      cases hf : y.arms.find? (fun a => decide (a.label = z)) with
      | none =>
        rw [hf] at hst
        simp only [Option.map_none] at hst
        rw [hst]
        clear hih hst hf hlf
        simp only
        repeat' (first
         | refine gc_ rfl ?_
         | (refine g_region ?_; refine run_ th rfl ?_)
         | (refine g_drawC mix rfl rfl ?_; refine drun_ th rfl ?_)
         | (refine g_drawEC mix rfl rfl ?_; refine erun_ th rfl ?_)
         | refine SOps.nil ?_
         | refine DOps.nil ?_
         | refine EOps.nil ?_ rfl rfl
         | (refine s_split rfl rfl (fun hb => ?_) (fun hb => ?_) <;> (try simp only [hbL] at hb) <;> first | (exfalso; omega) | refine run_ th rfl ?_)
         | (refine d_split rfl rfl rfl (fun hb => ?_) (fun hb => ?_) <;> (try simp only [hbL] at hb) <;> first | (exfalso; omega) | refine drun_ th rfl ?_)
         | (refine g_if rfl (fun hb => ?_) (fun hb => ?_) <;> (try simp only [hbL] at hb) <;> (try (exfalso; omega)))
         | refine g_endL th Tryz.func30 (.inr ⟨_, rfl⟩) rfl rfl rfl ?_ rfl)
        all_goals first
          | exact .refl _
          | (exfalso; revert hb; decide)
          | (exfalso; simp only [List.length_map] at hb; omega)
      | some a =>
        rw [hf] at hst
        simp only at hst ⊢
        have hax := hnx a (List.mem_of_find?_eq_some hf)
        clear hf hlf hnx
        cases hin : inP y role with
        | true =>
          rw [hin] at hst
          have hih2 := hih a.next (mine ++ [z]) ⟨hax, by simp; omega, by rw [hst, Option.map_map]; congr 1; funext r; simp⟩
          rw [show ((a.next, mine ++ [z]) : Int × List ByteArray).2.map (fun s => [CT.str s]) = mine.map (fun s => [CT.str s]) ++ [[.str z]] by simp] at hih2
          clear hih hst
          unfold inP at hin
          simp only [Bool.or_eq_true, decide_eq_true_eq] at hin
          repeat' (first
           | refine gc_ rfl ?_
           | (refine g_region ?_; refine run_ th rfl ?_)
           | (refine g_drawC mix rfl rfl ?_; refine drun_ th rfl ?_)
           | (refine g_drawEC mix rfl rfl ?_; refine erun_ th rfl ?_)
           | refine SOps.nil ?_
           | refine DOps.nil ?_
           | refine EOps.nil ?_ rfl rfl
           | (refine s_split rfl rfl (fun hb => ?_) (fun hb => ?_) <;> (try simp only [hbL] at hb) <;> first | (exfalso; omega) | refine run_ th rfl ?_)
           | (refine d_split rfl rfl rfl (fun hb => ?_) (fun hb => ?_) <;> (try simp only [hbL] at hb) <;> first | (exfalso; omega) | refine drun_ th rfl ?_)
           | (refine g_if rfl (fun hb => ?_) (fun hb => ?_) <;> (try simp only [hbL] at hb) <;> (try (exfalso; omega)))
           | (refine s_idx th rfl rfl rfl rfl rfl rfl rfl rfl rfl i _ rfl hxw ?_; refine run_ th rfl ?_)
           | (refine s_append th rfl rfl rfl rfl rfl rfl rfl rfl rfl rfl rfl rfl rfl rfl rfl (by constructor <;> simp <;> omega) ?_; refine run_ th rfl ?_)
           | (refine s_add rfl rfl rfl rfl rfl rfl (by omega) ?_; refine run_ th rfl ?_))
          all_goals first
            | (exfalso; omega)
            | (exfalso; exact hin.elim (by assumption) (by assumption))
            | (exfalso; simp only [List.length_map] at hb; omega)
            | exact g_sub (by exact ⟨⟨_, rfl, .refl _⟩, ⟨_, rfl, .refl _⟩, ⟨_, rfl, .refl _⟩, ⟨_, rfl, .refl _⟩, ⟨_, rfl, .refl _⟩, ⟨_, rfl, le_int (by omega)⟩, trivial⟩) (by exact ⟨⟨_, rfl, .refl _⟩, ⟨_, rfl, .refl _⟩, trivial⟩) rfl rfl rfl hih2
        | false =>
          rw [hin] at hst
          have hih2 := hih a.next mine ⟨hax, (show mine.length ≤ i + 1 by omega), by rw [hst, Option.map_map]; first | rfl | (congr 1; funext r; simp)⟩
          clear hih hst
          unfold inP at hin
          simp only [Bool.or_eq_false_iff, decide_eq_false_iff_not] at hin
          obtain ⟨hin1, hin2⟩ := hin
          repeat' (first
           | refine gc_ rfl ?_
           | (refine g_region ?_; refine run_ th rfl ?_)
           | (refine g_drawC mix rfl rfl ?_; refine drun_ th rfl ?_)
           | (refine g_drawEC mix rfl rfl ?_; refine erun_ th rfl ?_)
           | refine SOps.nil ?_
           | refine DOps.nil ?_
           | refine EOps.nil ?_ rfl rfl
           | (refine s_split rfl rfl (fun hb => ?_) (fun hb => ?_) <;> (try simp only [hbL] at hb) <;> first | (exfalso; omega) | refine run_ th rfl ?_)
           | (refine d_split rfl rfl rfl (fun hb => ?_) (fun hb => ?_) <;> (try simp only [hbL] at hb) <;> first | (exfalso; omega) | refine drun_ th rfl ?_)
           | (refine g_if rfl (fun hb => ?_) (fun hb => ?_) <;> (try simp only [hbL] at hb) <;> (try (exfalso; omega)))
           | (refine s_idx th rfl rfl rfl rfl rfl rfl rfl rfl rfl i _ rfl hxw ?_; refine run_ th rfl ?_)
           | (refine s_append th rfl rfl rfl rfl rfl rfl rfl rfl rfl rfl rfl rfl rfl rfl rfl (by constructor <;> simp <;> omega) ?_; refine run_ th rfl ?_)
           | (refine s_add rfl rfl rfl rfl rfl rfl (by omega) ?_; refine run_ th rfl ?_))
          all_goals first
            | (exfalso; omega)
            | (exfalso; contradiction)
            | (exfalso; simp only [List.length_map] at hb; omega)
            | exact g_sub (by exact ⟨⟨_, rfl, .refl _⟩, ⟨_, rfl, .refl _⟩, ⟨_, rfl, .refl _⟩, ⟨_, rfl, .refl _⟩, ⟨_, rfl, .refl _⟩, ⟨_, rfl, le_int (by omega)⟩, trivial⟩) (by exact ⟨⟨_, rfl, .refl _⟩, ⟨_, rfl, .refl _⟩, trivial⟩) rfl rfl rfl hih2
  · rw [List.drop_eq_nil_of_le (by omega), ownL, Option.map_some, List.append_nil] at hst
    rw [hst]
    clear ih hst
    repeat' (first
     | (refine g_atR 18 rfl ?_; refine g_freeze 290 rfl rfl ?_)
     | refine gc_ rfl ?_
     | (refine g_region ?_; refine run_ th rfl ?_)
     | (refine g_drawC mix rfl rfl ?_; refine drun_ th rfl ?_)
     | (refine g_drawEC mix rfl rfl ?_; refine erun_ th rfl ?_)
     | refine SOps.nil ?_
     | refine DOps.nil ?_
     | refine EOps.nil ?_ rfl rfl
     | (refine s_split rfl rfl (fun hb => ?_) (fun hb => ?_) <;> (try simp only [hbL] at hb) <;> first | (exfalso; omega) | refine run_ th rfl ?_)
     | (refine d_split rfl rfl rfl (fun hb => ?_) (fun hb => ?_) <;> (try simp only [hbL] at hb) <;> first | (exfalso; omega) | refine drun_ th rfl ?_)
     | (refine g_if rfl (fun hb => ?_) (fun hb => ?_) <;> (try simp only [hbL] at hb) <;> (try (exfalso; omega))))
    all_goals first
      | (refine g_endL th Tryz.func30 (.inr ⟨_, rfl⟩) rfl rfl rfl ?_ rfl
         exact .refl _)
      | (exfalso; simp only [List.length_map] at hb; omega)
end Go.Sy
