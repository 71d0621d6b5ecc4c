/- Contracts: turns.May. -/
import Derived.Test.YtadimhaolhpglaaUb
import Derived.Test.YtadimhaolhpglaaLe
set_option linter.unusedSimpArgs false
set_option linter.unusedVariables false
set_option linter.unusedSectionVars false
namespace Go.Sy
open Go.Proofs
set_option maxRecDepth 100000
attribute [local irreducible] SOps Goes DOps EOps

abbrev bigS : Nat := 9223372036854775806
def ArmsBig (l : List Arm) : Prop := ∀ a ∈ l, a.name.size ≤ bigS
def LocBig (l : Loc) : Prop := ∀ t ∈ l.turns, ArmsBig t.arms
theorem isEmpty_len {α : Type} (l : List α) : l.isEmpty = !decide ((0 : Int) < (l.length : Int)) := by cases l <;> simp <;> omega
def turnsM (n : Int) (l : List Trn) : Bool := l.all (trnB n)
theorem turnsM_snoc {n : Int} {l : List Trn} {i : Nat} (hlt : i < l.length) (hok : turnsM n (l.take i) = true) : turnsM n (l.take (i + 1)) = trnB n l[i] := by
  unfold turnsM at *
  rw [List.take_succ_eq_append_getElem hlt, List.all_append, hok]; simp
theorem turnsM_false {n : Int} {l : List Trn} {i : Nat} (hi : i < l.length) (ht : trnB n l[i] = false) : turnsM n l = false :=
  List.all_eq_false.2 ⟨l[i], List.getElem_mem hi, by rw [ht]; decide⟩
theorem locB_M (l : Loc) : locB l = (decide (1 ≤ l.turns.length) && (decide (l.turns.length ≤ 40) && turnsM l.turns.length l.turns)) := rfl
theorem trn_end {n : Int} {t : Trn} (h : t.kind = 0) : trnB n t = (decide (t.peer = ⟨#[]⟩) && t.arms.isEmpty) := by unfold trnB; rw [if_pos h]
theorem trn_act {n : Int} {t : Trn} (h0 : t.kind ≠ 0) (h : t.kind = 1 ∨ t.kind = 2) : trnB n t = (nameB t.peer && armsOK n t.arms) := by unfold trnB; rw [if_neg h0, if_pos h]
theorem trn_bad {n : Int} {t : Trn} (h0 : t.kind ≠ 0) (h : ¬ (t.kind = 1 ∨ t.kind = 2)) : trnB n t = false := by unfold trnB; rw [if_neg h0, if_neg h]

set_option maxHeartbeats 8000000 in
theorem tmay_c (l : Loc) (hs : LocBig l) : Con Try.prog 24 [] [Ag l.cs] (Rv (.bool (locB l))) [] := by
  refine con_of (c := _) Try.func24 rfl rfl rfl (by decide) fun w M0 H Z => ?_
  repeat' (first
   | (refine g_lenB 1 1 rfl rfl fun hll => ?_; simp only [List.length_map] at hll; refine g_region ?_; refine run_ th rfl ?_)
   | refine gc_ rfl ?_
   | (refine g_region ?_; refine run_ th rfl ?_)
   | (refine g_drawC mix rfl rfl ?_; refine drun_ th rfl ?_)
   | (refine g_drawEC mix rfl rfl ?_; refine erun_ th rfl ?_)
   | refine SOps.nil ?_
   | refine DOps.nil ?_
   | refine EOps.nil ?_ rfl rfl
   | (refine s_split rfl rfl (fun hb => ?_) (fun hb => ?_) <;> (try simp only [hbL] at hb) <;> first | (exfalso; omega) | refine run_ th rfl ?_)
   | (refine d_split rfl rfl rfl (fun hb => ?_) (fun hb => ?_) <;> (try simp only [hbL] at hb) <;> first | (exfalso; omega) | refine drun_ th rfl ?_)
   | (refine g_if rfl (fun hb => ?_) (fun hb => ?_) <;> (try simp only [hbL] at hb) <;> (try (exfalso; omega)))
   | refine g_endL th Try.func24 (.inr ⟨_, rfl⟩) rfl rfl rfl ?_ rfl)
  · exact le_ct (by rw [locB_M]; simp; omega)
  · exact le_ct (by rw [locB_M]; simp; omega)
  refine g_loop1 (fun i : Nat => i ≤ l.turns.length ∧ turnsM l.turns.length (l.turns.take i) = true)
    (fun i => [(1, .v (.one (.ptr 1 0))), (16, .v (C1 (turnsC l.turns))), (17, .v (C1 (.int .i64 (l.turns.length : Int)))), (18, .v (C1 (.int .i64 (i : Int))))])
    (fun i => [(1, .box (l.cs.map SC.c))])
    (fun i => l.turns.length - i) 0 ⟨Nat.zero_le _, rfl⟩
    (fun a w h => h.sub (by exact ⟨⟨_, rfl, .refl _⟩, ⟨_, rfl, .refl _⟩, ⟨_, rfl, le_int (by simp)⟩, ⟨_, rfl, le_int rfl⟩, trivial⟩) (by exact ⟨⟨_, rfl, .refl _⟩, trivial⟩) rfl rfl rfl) (fun i hi ih => ?_)
  obtain ⟨hi, hok⟩ := hi
  by_cases hlt : i < l.turns.length
  · have hx : (l.turns.map Trn.cs)[i]? = some (l.turns[i]).cs := by simp [hlt]
    have hsi := hs l.turns[i] (List.getElem_mem hlt)
    have hst := turnsM_snoc hlt hok
    have hno : trnB l.turns.length l.turns[i] = false → locB l = false := fun h => by rw [locB_M, turnsM_false hlt h]; simp
    repeat' (first
     | refine gc_ rfl ?_
     | (refine g_region ?_; refine run_ th rfl ?_)
     | (refine g_drawC mix rfl rfl ?_; refine drun_ th rfl ?_)
     | (refine g_drawEC mix rfl rfl ?_; refine erun_ th rfl ?_)
     | refine SOps.nil ?_
     | refine DOps.nil ?_
     | refine EOps.nil ?_ rfl rfl
     | (refine s_split rfl rfl (fun hb => ?_) (fun hb => ?_) <;> (try simp only [hbL] at hb) <;> first | (exfalso; omega) | refine run_ th rfl ?_)
     | (refine d_split rfl rfl rfl (fun hb => ?_) (fun hb => ?_) <;> (try simp only [hbL] at hb) <;> first | (exfalso; omega) | refine drun_ th rfl ?_)
     | (refine g_if rfl (fun hb => ?_) (fun hb => ?_) <;> (try simp only [hbL] at hb) <;> (try (exfalso; omega)))
     | refine g_endL th Try.func24 (.inr ⟨_, rfl⟩) rfl rfl rfl ?_ rfl
     | (refine s_idx th rfl rfl rfl rfl rfl rfl rfl rfl rfl i _ rfl hx ?_; refine run_ th rfl ?_)
     | (refine s_call (may_c l.turns[i].peer) [] rfl rfl rfl rfl rfl rfl rfl rfl rfl rfl ?_; refine run_ th rfl ?_)
     | (refine s_call (arms_c l.turns[i].arms ((l.turns.map Trn.cs).length : Int) hsi) [] rfl rfl rfl rfl rfl rfl rfl rfl rfl rfl ?_; refine run_ th rfl ?_)
     | (refine s_add rfl rfl rfl rfl rfl rfl (by omega) ?_; refine run_ th rfl ?_))
    all_goals first
      | exact le_ct (by rw [hno (by rw [trn_end (by assumption), decide_eq_false (by assumption)]; rfl)])
      | exact le_ct (by rw [hno (by rw [trn_end (by assumption), isEmpty_len, decide_eq_true (p := (0 : Int) < _) (by assumption)]; simp)])
      | exact le_ct (by rw [hno (by rw [trn_act (by omega) (by omega)]; simp [*])])
      | exact le_ct (by rw [hno (trn_bad (by omega) (by omega))])
      | (have hih := ih (i + 1) ⟨hlt, by rw [hst]; first
          | (rw [trn_end (by assumption), isEmpty_len, decide_eq_false (p := (0 : Int) < _) (by assumption), decide_eq_true (by assumption)]; rfl)
          | (rw [trn_act (by omega) (by omega)]; simp [*]; done)⟩ (by omega)
         exact g_sub (by exact ⟨⟨_, rfl, .refl _⟩, ⟨_, rfl, .refl _⟩, ⟨_, rfl, .refl _⟩, ⟨_, rfl, le_int (by omega)⟩, trivial⟩) (by exact ⟨⟨_, rfl, .refl _⟩, trivial⟩) rfl rfl rfl hih)
  · have hke : i = l.turns.length := by omega
    subst hke
    rw [List.take_length] at hok
    repeat' (first
     | refine gc_ rfl ?_
     | (refine g_region ?_; refine run_ th rfl ?_)
     | (refine g_drawC mix rfl rfl ?_; refine drun_ th rfl ?_)
     | (refine g_drawEC mix rfl rfl ?_; refine erun_ th rfl ?_)
     | refine SOps.nil ?_
     | refine DOps.nil ?_
     | refine EOps.nil ?_ rfl rfl
     | (refine s_split rfl rfl (fun hb => ?_) (fun hb => ?_) <;> (try simp only [hbL] at hb) <;> first | (exfalso; omega) | refine run_ th rfl ?_)
     | (refine d_split rfl rfl rfl (fun hb => ?_) (fun hb => ?_) <;> (try simp only [hbL] at hb) <;> first | (exfalso; omega) | refine drun_ th rfl ?_)
     | (refine g_if rfl (fun hb => ?_) (fun hb => ?_) <;> (try simp only [hbL] at hb) <;> (try (exfalso; omega)))
     | refine g_endL th Try.func24 (.inr ⟨_, rfl⟩) rfl rfl rfl ?_ rfl)
    exact le_ct (by rw [locB_M, hok]; simp; omega)
end Go.Sy
