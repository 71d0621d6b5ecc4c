/- Contracts of the reference, bundle Bf2. -/
import Derived.Test.YtohalikeabmimaaDoorBf1
import Derived.Test.YtohalikeabmimaaDoorSy4
import Derived.Test.YtohalikeabmimaaDoorSy5
/- Contracts: reparteemake.roles, labels. -/
set_option linter.unusedSimpArgs false
set_option linter.unusedVariables false
set_option linter.unusedSectionVars false
namespace Go.Sy
open Go.Proofs
set_option maxRecDepth 100000
attribute [local irreducible] SOps Goes DOps EOps

def rolesL : List ByteArray := [⟨#[97]⟩, ⟨#[98]⟩, ⟨#[99]⟩, ⟨#[100]⟩, ⟨#[101]⟩]
def labelsL : List ByteArray := [⟨#[119]⟩, ⟨#[120]⟩, ⟨#[121]⟩, ⟨#[122]⟩]
theorem roles_c : Con Tryd.prog 25 [] [] (Rv (.slice true 1 (rolesL.map fun s => [CT.str s]))) [] := by
  refine con_of (c := _) Tryd.func25 rfl rfl rfl (by decide) fun w M0 H Z => ?_
  repeat' (first
   | refine gc_ rfl ?_
   | (refine g_region ?_; refine run_ th rfl ?_)
   | (refine g_drawC mix rfl rfl ?_; refine drun_ th rfl ?_)
   | (refine g_drawEC mix rfl rfl ?_; refine erun_ th rfl ?_)
   | refine SOps.nil ?_
   | refine DOps.nil ?_
   | refine EOps.nil ?_ rfl rfl
   | (refine s_split rfl rfl (fun hb => ?_) (fun hb => ?_) <;> (try simp only [hbL] at hb) <;> first | (exfalso; omega) | refine run_ th rfl ?_)
   | (refine d_split rfl rfl rfl (fun hb => ?_) (fun hb => ?_) <;> (try simp only [hbL] at hb) <;> first | (exfalso; omega) | refine drun_ th rfl ?_)
   | (refine g_if rfl (fun hb => ?_) (fun hb => ?_) <;> (try simp only [hbL] at hb) <;> (try (exfalso; omega)))
   | refine g_endL th Tryd.func25 (.inr ⟨_, rfl⟩) rfl rfl rfl ?_ rfl
   | (refine g_freeze 1 rfl rfl ?_))
  all_goals exact .refl _
theorem labels_c : Con Tryd.prog 26 [] [] (Rv (.slice true 1 (labelsL.map fun s => [CT.str s]))) [] := by
  refine con_of (c := _) Tryd.func26 rfl rfl rfl (by decide) fun w M0 H Z => ?_
  repeat' (first
   | refine gc_ rfl ?_
   | (refine g_region ?_; refine run_ th rfl ?_)
   | (refine g_drawC mix rfl rfl ?_; refine drun_ th rfl ?_)
   | (refine g_drawEC mix rfl rfl ?_; refine erun_ th rfl ?_)
   | refine SOps.nil ?_
   | refine DOps.nil ?_
   | refine EOps.nil ?_ rfl rfl
   | (refine s_split rfl rfl (fun hb => ?_) (fun hb => ?_) <;> (try simp only [hbL] at hb) <;> first | (exfalso; omega) | refine run_ th rfl ?_)
   | (refine d_split rfl rfl rfl (fun hb => ?_) (fun hb => ?_) <;> (try simp only [hbL] at hb) <;> first | (exfalso; omega) | refine drun_ th rfl ?_)
   | (refine g_if rfl (fun hb => ?_) (fun hb => ?_) <;> (try simp only [hbL] at hb) <;> (try (exfalso; omega)))
   | refine g_endL th Tryd.func26 (.inr ⟨_, rfl⟩) rfl rfl rfl ?_ rfl
   | (refine g_freeze 1 rfl rfl ?_))
  all_goals exact .refl _
end Go.Sy

/- Contracts: reparteemake.Pick. -/
namespace Go.Sy
open Go.Proofs
set_option maxRecDepth 100000
attribute [local irreducible] SOps Goes DOps EOps

/-- The dice's cells: the numbers, and a place among them. -/
abbrev diceC (l : List Int) : List CT := [intsT l, .intP .i64 fun a => 0 ≤ a ∧ a ≤ (l.length : Int)]
abbrev pickR (n : Int) : CT := .intP .i64 fun r => 0 ≤ r ∧ r < n

theorem wrapU_nn (x : Int) : 0 ≤ IntKind.u64.wrap x := by
  simp only [IntKind.wrap, IntKind.signed, IntKind.bits, Bool.false_and, Bool.false_eq_true, if_false]
  omega
theorem wrapU_id {x : Int} (h0 : 0 ≤ x) (h1 : x ≤ 9223372036854775807) : IntKind.u64.wrap x = x := by
  simp only [IntKind.wrap, IntKind.signed, IntKind.bits, Bool.false_and, Bool.false_eq_true, if_false]
  omega
theorem wrapI_id {x : Int} (h0 : 0 ≤ x) (h1 : x ≤ 9223372036854775807) : IntKind.i64.wrap x = x := by
  have h2 : x % (2 ^ 64 : Int) = x := by omega
  simp only [IntKind.wrap, IntKind.signed, IntKind.bits, Bool.true_and, h2]
  rw [if_neg (by simp; omega)]
theorem remU {x n : Int} (h0 : 1 ≤ n) (h1 : n ≤ 9223372036854775807) : 0 ≤ (IntKind.u64.wrap x).tmod n ∧ (IntKind.u64.wrap x).tmod n < n := by
  have h2 := wrapU_nn x
  exact ⟨Int.tmod_nonneg _ h2, Int.tmod_lt_of_pos _ (by omega)⟩
theorem pick_v {x n : Int} (h0 : 1 ≤ n) (h1 : n ≤ 9223372036854775807) :
    0 ≤ IntKind.i64.wrap ((IntKind.u64.wrap x).tmod (IntKind.u64.wrap n)) ∧ IntKind.i64.wrap ((IntKind.u64.wrap x).tmod (IntKind.u64.wrap n)) < n := by
  have h2 := remU (x := x) h0 h1
  rw [wrapU_id (by omega) h1, wrapI_id h2.1 (by omega)]
  exact h2

set_option maxHeartbeats 4000000 in
theorem pick_c (l : List Int) (n : Int) (hn1 : 1 ≤ n) (hn : n ≤ 9223372036854775807) : Con Tryd.prog 24 [diceC l] [.one (.ptr given 0), C1 (.int .i64 n)] (Rv (pickR n)) [diceC l] := by
  refine con_of (c := _) Tryd.func24 rfl rfl rfl (by decide) fun w M0 H Z => ?_
  refine g_lenB given 0 rfl rfl fun hll => ?_
  simp only [List.length_map] at hll
  refine g_openB given 1 rfl rfl fun p hp => ?_
  by_cases hlt : p.toNat < l.length
  · have hx : (l.map fun r => [CT.int .i64 r])[p.toNat]? = some [.int .i64 l[p.toNat]] := by simp [hlt]
    repeat' (first
     | refine gc_ rfl ?_
     | (refine g_region ?_; refine run_ th rfl ?_)
     | (refine g_drawC mix rfl rfl ?_; refine drun_ th rfl ?_)
     | (refine g_drawEC mix rfl rfl ?_; refine erun_ th rfl ?_)
     | refine SOps.nil ?_
     | refine DOps.nil ?_
     | refine EOps.nil ?_ rfl rfl
     | (refine s_split rfl rfl (fun hb => ?_) (fun hb => ?_) <;> (try simp only [hbL] at hb) <;> first | (exfalso; omega) | refine run_ th rfl ?_)
     | (refine d_split rfl rfl rfl (fun hb => ?_) (fun hb => ?_) <;> (try simp only [hbL] at hb) <;> first | (exfalso; omega) | refine drun_ th rfl ?_)
     | (refine g_if rfl (fun hb => ?_) (fun hb => ?_) <;> (try simp only [hbL] at hb) <;> (try (exfalso; omega)))
     | (refine s_add rfl rfl rfl rfl rfl rfl (by omega) ?_; refine run_ th rfl ?_)
     | (refine d_subI rfl rfl rfl rfl rfl rfl (by omega) ?_; refine drun_ th rfl ?_)
     | (refine d_idx th rfl rfl rfl rfl rfl rfl rfl rfl rfl p.toNat _ (by omega) hx ?_; refine drun_ th rfl ?_)
     | (refine d_rem rfl rfl rfl rfl rfl rfl (by rw [wrapU_id (by omega) hn]; omega) ?_; refine drun_ th rfl ?_))
    refine g_sub (tm' := [(4, .v (C1 (pickR n)))]) (mm' := [(given, .box ((diceC l).map SC.c))]) ?_ ?_ rfl rfl rfl ?_
    · exact ⟨⟨_, rfl, .v (.one (.c (.intP (pick_v hn1 hn))))⟩, trivial⟩
    · exact ⟨⟨_, rfl, .box (.cons (.refl _) (.cons (.c (.intP (by omega))) .nil))⟩, trivial⟩
    repeat' (first
     | refine gc_ rfl ?_
     | (refine g_region ?_; refine run_ th rfl ?_)
     | (refine g_drawC mix rfl rfl ?_; refine drun_ th rfl ?_)
     | (refine g_drawEC mix rfl rfl ?_; refine erun_ th rfl ?_)
     | refine SOps.nil ?_
     | refine DOps.nil ?_
     | refine EOps.nil ?_ rfl rfl
     | (refine s_split rfl rfl (fun hb => ?_) (fun hb => ?_) <;> (try simp only [hbL] at hb) <;> first | (exfalso; omega) | refine run_ th rfl ?_)
     | (refine d_split rfl rfl rfl (fun hb => ?_) (fun hb => ?_) <;> (try simp only [hbL] at hb) <;> first | (exfalso; omega) | refine drun_ th rfl ?_)
     | (refine g_if rfl (fun hb => ?_) (fun hb => ?_) <;> (try simp only [hbL] at hb) <;> (try (exfalso; omega)))
     | refine g_endL th Tryd.func24 (.inr ⟨_, rfl⟩) rfl rfl rfl ?_ rfl)
    all_goals exact .refl _
  · skip
    repeat' (first
     | refine gc_ rfl ?_
     | (refine g_region ?_; refine run_ th rfl ?_)
     | (refine g_drawC mix rfl rfl ?_; refine drun_ th rfl ?_)
     | (refine g_drawEC mix rfl rfl ?_; refine erun_ th rfl ?_)
     | refine SOps.nil ?_
     | refine DOps.nil ?_
     | refine EOps.nil ?_ rfl rfl
     | (refine s_split rfl rfl (fun hb => ?_) (fun hb => ?_) <;> (try simp only [hbL] at hb) <;> first | (exfalso; omega) | refine run_ th rfl ?_)
     | (refine d_split rfl rfl rfl (fun hb => ?_) (fun hb => ?_) <;> (try simp only [hbL] at hb) <;> first | (exfalso; omega) | refine drun_ th rfl ?_)
     | (refine g_if rfl (fun hb => ?_) (fun hb => ?_) <;> (try simp only [hbL] at hb) <;> (try (exfalso; omega))))
    refine g_sub (tm' := [(4, .v (C1 (pickR n)))]) (mm' := [(given, .box ((diceC l).map SC.c))]) ?_ ?_ rfl rfl rfl ?_
    · exact ⟨⟨_, rfl, .v (.one (.c (.intP (by omega))))⟩, trivial⟩
    · exact ⟨⟨_, rfl, .box (.cons (.refl _) (.cons (.c (.intP (by omega))) .nil))⟩, trivial⟩
    repeat' (first
     | refine gc_ rfl ?_
     | (refine g_region ?_; refine run_ th rfl ?_)
     | (refine g_drawC mix rfl rfl ?_; refine drun_ th rfl ?_)
     | (refine g_drawEC mix rfl rfl ?_; refine erun_ th rfl ?_)
     | refine SOps.nil ?_
     | refine DOps.nil ?_
     | refine EOps.nil ?_ rfl rfl
     | (refine s_split rfl rfl (fun hb => ?_) (fun hb => ?_) <;> (try simp only [hbL] at hb) <;> first | (exfalso; omega) | refine run_ th rfl ?_)
     | (refine d_split rfl rfl rfl (fun hb => ?_) (fun hb => ?_) <;> (try simp only [hbL] at hb) <;> first | (exfalso; omega) | refine drun_ th rfl ?_)
     | (refine g_if rfl (fun hb => ?_) (fun hb => ?_) <;> (try simp only [hbL] at hb) <;> (try (exfalso; omega)))
     | refine g_endL th Tryd.func24 (.inr ⟨_, rfl⟩) rfl rfl rfl ?_ rfl)
    all_goals exact .refl _
end Go.Sy

/- Contracts: reparteemake.New, sorted. -/
namespace Go.Sy
open Go.Proofs
set_option maxRecDepth 100000
attribute [local irreducible] SOps Goes DOps EOps

theorem new_c (l : List Int) (hb : l.length * 8 ≤ 140737488355328) : ConN Tryd.prog 10 [C1 (intsT l)] [intsT l, .int .i64 0] := by
  refine conN_of (c := _) Tryd.func10 rfl rfl rfl (by decide) fun w M0 H => ?_
  repeat' (first
   | refine gc_ rfl ?_
   | (refine g_region ?_; refine run_ th rfl ?_)
   | (refine g_drawC mix rfl rfl ?_; refine drun_ th rfl ?_)
   | (refine g_drawEC mix rfl rfl ?_; refine erun_ th rfl ?_)
   | refine SOps.nil ?_
   | refine DOps.nil ?_
   | refine EOps.nil ?_ rfl rfl
   | (refine s_split rfl rfl (fun hb => ?_) (fun hb => ?_) <;> (try simp only [hbL] at hb) <;> first | (exfalso; omega) | refine run_ th rfl ?_)
   | (refine d_split rfl rfl rfl (fun hb => ?_) (fun hb => ?_) <;> (try simp only [hbL] at hb) <;> first | (exfalso; omega) | refine drun_ th rfl ?_)
   | (refine g_if rfl (fun hb => ?_) (fun hb => ?_) <;> (try simp only [hbL] at hb) <;> (try (exfalso; omega)))
   | (refine s_assignAny rfl rfl rfl rfl ?_; refine run_ th rfl ?_)
   | (refine s_appendN th 4 rfl rfl rfl rfl rfl rfl rfl rfl rfl rfl rfl rfl rfl rfl (by constructor <;> simp <;> omega) ?_; refine run_ th rfl ?_)
   | (refine g_freeze 4 rfl rfl ?_)
   | exact g_endN th Tryd.func10 (.inr ⟨_, rfl⟩) rfl rfl rfl rfl rfl)

/-- Edges by rising labels, each label once. -/
def sortedE (l : List Edge) : List Edge := labelsL.filterMap fun s => l.find? fun e => decide (e.label = s)
theorem filterMap_step {α β : Type} (g : α → Option β) (l : List α) (i : Nat) (hi : i < l.length) : (l.take (i + 1)).filterMap g = (l.take i).filterMap g ++ (g l[i]).toList := by
  rw [List.take_succ_eq_append_getElem hi, List.filterMap_append]
  cases h : g l[i] <;> simp [h]
theorem find_at {l : List Edge} {s : ByteArray} {k : Nat} (hk : k < l.length) (hn : ∀ j (h : j < l.length), j < k → l[j].label ≠ s) (he : l[k].label = s) : (l.find? fun e => decide (e.label = s)) = some l[k] := by
  rw [List.find?_eq_some_iff_getElem]
  exact ⟨by simpa using he, k, hk, rfl, fun j hj => by simpa using hn j (by omega) hj⟩
theorem find_no {l : List Edge} {s : ByteArray} (hn : ∀ j (h : j < l.length), l[j].label ≠ s) : (l.find? fun e => decide (e.label = s)) = none := by
  rw [List.find?_eq_none]
  intro x hx
  obtain ⟨j, hj, rfl⟩ := List.mem_iff_getElem.1 hx
  simpa using hn j hj
theorem filterMap_len {α β : Type} (g : α → Option β) (l : List α) : (l.filterMap g).length ≤ l.length := List.length_filterMap_le g l

set_option maxHeartbeats 8000000 in
theorem sorted_c (l : List Edge) : Con Tryd.prog 27 [] [C1 (armsT l)] (Rv (armsT (sortedE l))) [] := by
  have h4 : labelsL.length = 4 := rfl
  let g : ByteArray → Option Edge := fun s => l.find? fun e => decide (e.label = s)
  refine con_of (c := _) Tryd.func27 rfl rfl rfl (by decide) fun w M0 H Z => ?_
  refine g_len 0 rfl fun hll => ?_
  simp only [List.length_map] at hll
  repeat' (first
   | refine gc_ rfl ?_
   | (refine g_region ?_; refine run_ th rfl ?_)
   | (refine g_drawC mix rfl rfl ?_; refine drun_ th rfl ?_)
   | (refine g_drawEC mix rfl rfl ?_; refine erun_ th rfl ?_)
   | refine SOps.nil ?_
   | refine DOps.nil ?_
   | refine EOps.nil ?_ rfl rfl
   | (refine s_split rfl rfl (fun hb => ?_) (fun hb => ?_) <;> (try simp only [hbL] at hb) <;> first | (exfalso; omega) | refine run_ th rfl ?_)
   | (refine d_split rfl rfl rfl (fun hb => ?_) (fun hb => ?_) <;> (try simp only [hbL] at hb) <;> first | (exfalso; omega) | refine drun_ th rfl ?_)
   | (refine g_if rfl (fun hb => ?_) (fun hb => ?_) <;> (try simp only [hbL] at hb) <;> (try (exfalso; omega)))
   | (refine s_call labels_c [] rfl rfl rfl rfl rfl rfl rfl rfl rfl rfl ?_; refine run_ th rfl ?_))
  refine g_adopt 3 3 66 4 rfl rfl rfl ?_
  refine g_loop1 (fun i : Nat => i ≤ 4)
    (fun i => [(0, .v (C1 (armsT l))), (3, .v (.one (.own 3))), (4, .v (C1 (.slice true 1 (labelsL.map fun s => [CT.str s])))), (5, .v (C1 (.int .i64 (i : Int))))])
    (fun i => [(3, .arr false 66 4 (((labelsL.take i).filterMap g).map Edge.cs))])
    (fun i => 4 - i) 0 (Nat.zero_le _)
    (fun a w h => h.sub (by exact ⟨⟨_, rfl, .refl _⟩, ⟨_, rfl, .refl _⟩, ⟨_, rfl, .refl _⟩, ⟨_, rfl, le_int rfl⟩, trivial⟩) (by exact ⟨⟨_, rfl, .refl _⟩, trivial⟩) rfl rfl rfl) (fun i hi ih => ?_)
  by_cases hlt : i < 4
  · have hil : i < labelsL.length := hlt
    have hxi : (labelsL.map fun s => [CT.str s])[i]? = some [.str labelsL[i]] := by rw [List.getElem?_map, List.getElem?_eq_getElem hil]; rfl
    have hlen := filterMap_len g (labelsL.take i)
    rw [List.length_take] at hlen
    have hih := ih (i + 1) hlt (by omega)
    rw [filterMap_step g labelsL i hil] at hih
    repeat' (first
     | refine gc_ rfl ?_
     | (refine g_region ?_; refine run_ th rfl ?_)
     | (refine g_drawC mix rfl rfl ?_; refine drun_ th rfl ?_)
     | (refine g_drawEC mix rfl rfl ?_; refine erun_ th rfl ?_)
     | refine SOps.nil ?_
     | refine DOps.nil ?_
     | refine EOps.nil ?_ rfl rfl
     | (refine s_split rfl rfl (fun hb => ?_) (fun hb => ?_) <;> (try simp only [hbL] at hb) <;> first | (exfalso; omega) | refine run_ th rfl ?_)
     | (refine d_split rfl rfl rfl (fun hb => ?_) (fun hb => ?_) <;> (try simp only [hbL] at hb) <;> first | (exfalso; omega) | refine drun_ th rfl ?_)
     | (refine g_if rfl (fun hb => ?_) (fun hb => ?_) <;> (try simp only [hbL] at hb) <;> (try (exfalso; omega))))
    refine g_loop1 (fun k : Nat => k ≤ l.length ∧ ∀ j (h : j < l.length), j < k → l[j].label ≠ labelsL[i])
      (fun k => [(0, .v (C1 (armsT l))), (3, .v (.one (.own 3))), (4, .v (C1 (.slice true 1 (labelsL.map fun s => [CT.str s])))), (5, .v (C1 (.int .i64 (i : Int)))), (6, .v (C1 (.int .i64 (k : Int))))])
      (fun _ => [(3, .arr false 66 4 (((labelsL.take i).filterMap g).map Edge.cs))])
      (fun k => l.length - k) 0 ⟨Nat.zero_le _, fun _ _ h => absurd h (Nat.not_lt_zero _)⟩
      (fun a w h => h.sub (by exact ⟨⟨_, rfl, .refl _⟩, ⟨_, rfl, .refl _⟩, ⟨_, rfl, .refl _⟩, ⟨_, rfl, .refl _⟩, ⟨_, rfl, le_int rfl⟩, trivial⟩) (by exact ⟨⟨_, rfl, .refl _⟩, trivial⟩) rfl rfl rfl) (fun k hk ih2 => ?_)
    obtain ⟨hk, hnk⟩ := hk
    by_cases hlk : k < l.length
    · have hxk : (l.map Edge.cs)[k]? = some (l[k]).cs := by simp [hlk]
      repeat' (first
       | refine gc_ rfl ?_
       | (refine g_region ?_; refine run_ th rfl ?_)
       | (refine g_drawC mix rfl rfl ?_; refine drun_ th rfl ?_)
       | (refine g_drawEC mix rfl rfl ?_; refine erun_ th rfl ?_)
       | refine SOps.nil ?_
       | refine DOps.nil ?_
       | refine EOps.nil ?_ rfl rfl
       | (refine s_split rfl rfl (fun hb => ?_) (fun hb => ?_) <;> (try simp only [hbL] at hb) <;> first | (exfalso; omega) | refine run_ th rfl ?_)
       | (refine d_split rfl rfl rfl (fun hb => ?_) (fun hb => ?_) <;> (try simp only [hbL] at hb) <;> first | (exfalso; omega) | refine drun_ th rfl ?_)
       | (refine g_if rfl (fun hb => ?_) (fun hb => ?_) <;> (try simp only [hbL] at hb) <;> (try (exfalso; omega)))
       | (refine d_idx th rfl rfl rfl rfl rfl rfl rfl rfl rfl k _ rfl hxk ?_; refine drun_ th rfl ?_)
       | (refine d_idx th rfl rfl rfl rfl rfl rfl rfl rfl rfl i _ rfl hxi ?_; refine drun_ th rfl ?_)
       | (refine s_idx th rfl rfl rfl rfl rfl rfl rfl rfl rfl k _ rfl hxk ?_; refine run_ th rfl ?_)
       | (refine s_append th rfl rfl rfl rfl rfl rfl rfl rfl rfl rfl rfl rfl rfl rfl rfl (by constructor <;> simp <;> omega) ?_; refine run_ th rfl ?_)
       | (refine s_add rfl rfl rfl rfl rfl rfl (by omega) ?_; refine run_ th rfl ?_))
      · rw [show g labelsL[i] = some l[k] from find_at hlk hnk hb] at hih
        refine g_sub ?_ ?_ rfl rfl rfl hih
        · exact ⟨⟨_, rfl, .refl _⟩, ⟨_, rfl, .refl _⟩, ⟨_, rfl, .refl _⟩, ⟨_, rfl, le_int (by omega)⟩, trivial⟩
        · exact ⟨⟨_, rfl, le_arr (by simp)⟩, trivial⟩
      · have hih2 := ih2 (k + 1) ⟨hlk, fun j hj hjk => by
          by_cases hjk' : j < k
          · exact hnk j hj hjk'
          · obtain rfl : j = k := by omega
            exact hb⟩ (by omega)
        exact g_sub (by exact ⟨⟨_, rfl, .refl _⟩, ⟨_, rfl, .refl _⟩, ⟨_, rfl, .refl _⟩, ⟨_, rfl, .refl _⟩, ⟨_, rfl, le_int (by omega)⟩, trivial⟩) (by exact ⟨⟨_, rfl, .refl _⟩, trivial⟩) rfl rfl rfl hih2
    · have hke : k = l.length := by omega
      repeat' (first
       | refine gc_ rfl ?_
       | (refine g_region ?_; refine run_ th rfl ?_)
       | (refine g_drawC mix rfl rfl ?_; refine drun_ th rfl ?_)
       | (refine g_drawEC mix rfl rfl ?_; refine erun_ th rfl ?_)
       | refine SOps.nil ?_
       | refine DOps.nil ?_
       | refine EOps.nil ?_ rfl rfl
       | (refine s_split rfl rfl (fun hb => ?_) (fun hb => ?_) <;> (try simp only [hbL] at hb) <;> first | (exfalso; omega) | refine run_ th rfl ?_)
       | (refine d_split rfl rfl rfl (fun hb => ?_) (fun hb => ?_) <;> (try simp only [hbL] at hb) <;> first | (exfalso; omega) | refine drun_ th rfl ?_)
       | (refine g_if rfl (fun hb => ?_) (fun hb => ?_) <;> (try simp only [hbL] at hb) <;> (try (exfalso; omega)))
       | (refine s_add rfl rfl rfl rfl rfl rfl (by omega) ?_; refine run_ th rfl ?_))
      rw [show g labelsL[i] = none from find_no (fun j hj => hnk j hj (by omega))] at hih
      exact g_sub (by exact ⟨⟨_, rfl, .refl _⟩, ⟨_, rfl, .refl _⟩, ⟨_, rfl, .refl _⟩, ⟨_, rfl, le_int (by omega)⟩, trivial⟩) (by exact ⟨⟨_, rfl, le_arr (by simp)⟩, trivial⟩) rfl rfl rfl hih
  · have hie : i = 4 := by omega
    subst hie
    repeat' (first
     | refine gc_ rfl ?_
     | (refine g_region ?_; refine run_ th rfl ?_)
     | (refine g_drawC mix rfl rfl ?_; refine drun_ th rfl ?_)
     | (refine g_drawEC mix rfl rfl ?_; refine erun_ th rfl ?_)
     | refine SOps.nil ?_
     | refine DOps.nil ?_
     | refine EOps.nil ?_ rfl rfl
     | (refine s_split rfl rfl (fun hb => ?_) (fun hb => ?_) <;> (try simp only [hbL] at hb) <;> first | (exfalso; omega) | refine run_ th rfl ?_)
     | (refine d_split rfl rfl rfl (fun hb => ?_) (fun hb => ?_) <;> (try simp only [hbL] at hb) <;> first | (exfalso; omega) | refine drun_ th rfl ?_)
     | (refine g_if rfl (fun hb => ?_) (fun hb => ?_) <;> (try simp only [hbL] at hb) <;> (try (exfalso; omega)))
     | refine g_endL th Tryd.func27 (.inr ⟨_, rfl⟩) rfl rfl rfl ?_ rfl
     | (refine g_freeze 3 rfl rfl ?_))
    all_goals exact .refl _
end Go.Sy

/- The plain law: what reparteemake.Book makes is a valid book. -/
namespace Go.Sy

/-- An edge as Book makes it. -/
structure GoodE (n : Int) (e : Edge) : Prop where
  label : e.label ∈ labelsL
  next : 0 ≤ e.next ∧ e.next < n
  sort : sortB e.kind e.at_ n = true
theorem label_name : ∀ s ∈ labelsL, nameB s = true := by decide
theorem sLt_eq (x y : ByteArray) : sLt x y = Op.bytesLess x.data.toList y.data.toList := by simp only [sLt, ByteArray.toList_eq]
theorem labels_rise : labelsL.Pairwise fun a b => sLt a b = true := by
  simp only [sLt_eq]
  decide
theorem sorted_mem {es : List Edge} {e : Edge} (h : e ∈ sortedE es) : e ∈ es := by
  unfold sortedE at h
  rw [List.mem_filterMap] at h
  obtain ⟨s, _, h⟩ := h
  exact List.mem_of_find?_eq_some h
theorem sorted_rise (es : List Edge) : (sortedE es).Pairwise fun a b => sLt a.label b.label = true := by
  unfold sortedE
  rw [List.pairwise_filterMap]
  refine labels_rise.imp fun {a b} hab x hx y hy => ?_
  have h1 := List.find?_some hx
  have h2 := List.find?_some hy
  simp at h1 h2
  rw [h1, h2]; exact hab
theorem sorted_len (es : List Edge) : (sortedE es).length ≤ 4 := List.length_filterMap_le _ _
theorem sorted_ne {n : Int} {es : List Edge} (h : ∀ e ∈ es, GoodE n e) (hne : es ≠ []) : 1 ≤ (sortedE es).length := by
  cases es with
  | nil => exact absurd rfl hne
  | cons e es =>
    have hl := (h e List.mem_cons_self).label
    have : (((e :: es).find? fun x => decide (x.label = e.label)).isSome) = true := by simp
    obtain ⟨x, hx⟩ := Option.isSome_iff_exists.1 this
    have : x ∈ sortedE (e :: es) := List.mem_filterMap.2 ⟨e.label, hl, hx⟩
    exact List.length_pos_iff.2 (List.ne_nil_of_mem this)
theorem sorted_arms {n : Int} {es : List Edge} (h : ∀ e ∈ es, GoodE n e) : armsB n (sortedE es) = true := by
  unfold armsB
  rw [List.all_eq_true]
  intro i hi
  have hi := List.mem_range.1 hi
  have hg := h _ (sorted_mem (List.getElem_mem hi))
  have hb : nameB (sortedE es)[i].label = true := label_name _ hg.label
  cases i with
  | zero =>
    rw [okAt_zero hi]
    simp [hb, hg.next.1, hg.next.2, hg.sort]
  | succ j =>
    rw [okAt_succ hi]
    have hr := List.pairwise_iff_getElem.1 (sorted_rise es) j (j + 1) (by omega) hi (by omega)
    simp [hb, hg.next.1, hg.next.2, hg.sort, hr]
theorem sorted_node {n : Int} {es : List Edge} {k : Int} {p : ByteArray} (h : ∀ e ∈ es, GoodE n e) (hne : es ≠ []) (hk : k = 1 ∨ k = 2) (hp : nameB p = true) : nodeB n ⟨k, p, sortedE es⟩ = true := by
  have h1 := sorted_len es
  have h2 := sorted_ne h hne
  unfold nodeB
  rw [if_neg (by simp only; omega)]
  simp only [Bool.and_eq_true, Bool.or_eq_true, decide_eq_true_eq]
  exact ⟨hk, hp, h2, by omega, sorted_arms h⟩
theorem end_node (n : Int) : nodeB n ⟨0, ⟨#[]⟩, []⟩ = true := by simp [nodeB]
def oneL : List ByteArray := [⟨#[111, 110, 101]⟩, ⟨#[116, 119, 111]⟩]
theorem book_ok {ns : List Nd} {r : Int} (hl : ns.length ≤ 8) (h1 : 1 ≤ ns.length) (hr : 0 ≤ r ∧ r < ns.length) (h : ∀ x ∈ ns, nodeB ns.length x = true) : bookB ⟨ns, oneL, [0, r]⟩ = true := by
  have hs : sLt ⟨#[111, 110, 101]⟩ ⟨#[116, 119, 111]⟩ = true := by rw [sLt_eq]; decide
  simp only [bookB, Bool.and_eq_true, decide_eq_true_eq, List.all_eq_true]
  refine ⟨by omega, rfl, fun i hi => ?_, h⟩
  have hi := List.mem_range.1 hi
  simp only [List.length_cons, List.length_nil] at hi
  match i, hi with
  | 0, _ => simp [rootAt]; omega
  | 1, _ => simp [rootAt, oneL, hs]; omega
theorem tmodB (a b : Int) (ha : 0 ≤ a) (hb : 0 < b) : 0 ≤ a.tmod b ∧ a.tmod b < b := ⟨Int.tmod_nonneg _ ha, Int.tmod_lt_of_pos _ hb⟩
def roleN (m : Int) : ByteArray := (rolesL[m.toNat]?).getD ⟨#[97]⟩
def labN (m : Int) : ByteArray := (labelsL[m.toNat]?).getD ⟨#[119]⟩
theorem role_at (m : Int) (h : 0 ≤ m ∧ m < 2) : (rolesL.map fun s => [CT.str s])[m.toNat]? = some [.str (roleN m)] := by
  have hl : rolesL.length = 5 := rfl
  have hj : m.toNat < rolesL.length := by omega
  simp [roleN, hj]
theorem roleN_name (m : Int) : nameB (roleN m) = true := by
  unfold roleN
  cases h : rolesL[m.toNat]? with
  | none => rfl
  | some s =>
    have : ∀ s ∈ rolesL, nameB s = true := by decide
    exact this _ (List.mem_of_getElem? h)
theorem lab_at (m : Int) (h : 0 ≤ m ∧ m < 4) : (labelsL.map fun s => [CT.str s])[m.toNat]? = some [.str (labN m)] := by
  have hl : labelsL.length = 4 := rfl
  have hj : m.toNat < labelsL.length := by omega
  simp [labN, hj]
theorem labN_mem (m : Int) : labN m ∈ labelsL := by
  unfold labN
  cases h : labelsL[m.toNat]? with
  | none => exact List.mem_cons_self
  | some s => exact List.mem_of_getElem? h

/-- One of the kinds of data that Book draws. -/
abbrev kindP : CT := .intP .i64 fun k => k = 0 ∨ k = 1 ∨ k = 3
theorem kinds_le : LeC (.slice true 1 [[.int .i64 1], [.int .i64 0], [.int .i64 3]]) (.slice true 1 [[kindP], [kindP], [kindP]]) := by
  refine .deep rfl ?_ ?_
  · intro i x y hx hy
    match i with
    | 0 => simp at hx hy; subst hx hy; rfl
    | 1 => simp at hx hy; subst hx hy; rfl
    | 2 => simp at hx hy; subst hx hy; rfl
    | i + 3 => simp at hx
  · intro i j x y c d hx hy hc hd
    match i with
    | 0 => simp at hx hy; subst hx hy; cases j <;> simp at hc hd; subst hc hd; exact .intP (by simp)
    | 1 => simp at hx hy; subst hx hy; cases j <;> simp at hc hd; subst hc hd; exact .intP (by simp)
    | 2 => simp at hx hy; subst hx hy; cases j <;> simp at hc hd; subst hc hd; exact .intP (by simp)
    | i + 3 => simp at hx
theorem kinds_at (m : Int) (h : 0 ≤ m ∧ m < 3) : ∃ j : Nat, m = (j : Int) ∧ ([[kindP], [kindP], [kindP]] : List (List CT))[j]? = some [kindP] := by
  refine ⟨m.toNat, by omega, ?_⟩
  have : m.toNat = 0 ∨ m.toNat = 1 ∨ m.toNat = 2 := by omega
  rcases this with h | h | h <;> rw [h] <;> rfl
end Go.Sy

/- Contracts: reparteemake.Book. -/
namespace Go.Sy
open Go.Proofs
set_option maxRecDepth 100000
attribute [local irreducible] SOps Goes DOps EOps

/-- A valid book with a node. -/
def BookQ (res : ST) : Prop := ∃ b : Bk, bookB b = true ∧ 1 ≤ b.nodes.length ∧ b.nodes.length ≤ 8 ∧ res = .v (Ag b.cs)
/-- A valid book with a node and two roots. -/
def BookQ2 (res : ST) : Prop := ∃ b : Bk, (bookB b = true ∧ b.roots.length = 2) ∧ 1 ≤ b.nodes.length ∧ b.nodes.length ≤ 8 ∧ res = .v (Ag b.cs)
theorem ConQ.le {P : Program} {f : FuncId} {pre post : List (List CT)} {args : List SV} {Q Q' : ST → Prop} (h : ConQ P f pre args Q post) (hq : ∀ r, Q r → Q' r) : ConQ P f pre args Q' post :=
  ⟨h.ok, fun w M0 H Z vs h1 h2 => (h.calls w M0 H Z vs h1 h2).mono fun e w' he => by
    obtain ⟨r, h3, h4⟩ := he
    exact ⟨r, hq r h3, h4⟩⟩

structure NInv (n : Int) (i : Nat) (ns : List Nd) : Prop where
  le : (i : Int) ≤ n
  len : ns.length = i
  ok : ∀ x ∈ ns, nodeB n x = true
structure EInv (n many : Int) (i : Nat) (es : List Edge) : Prop where
  le : (i : Int) ≤ many
  len : es.length = i
  ok : ∀ e ∈ es, GoodE n e

set_option maxHeartbeats 16000000 in
theorem book2_c (l : List Int) : ConQ Tryd.prog 9 [diceC l] [.one (.ptr given 0)] BookQ2 [diceC l] := by
  refine ConQ.of (c := _) Tryd.func9 rfl rfl rfl (by decide) fun w M0 H Z => ?_
  repeat' (first
   | refine gc_ rfl ?_
   | (refine g_region ?_; refine run_ th rfl ?_)
   | (refine g_drawC mix rfl rfl ?_; refine drun_ th rfl ?_)
   | (refine g_drawEC mix rfl rfl ?_; refine erun_ th rfl ?_)
   | refine SOps.nil ?_
   | refine DOps.nil ?_
   | refine EOps.nil ?_ rfl rfl
   | (refine s_split rfl rfl (fun hb => ?_) (fun hb => ?_) <;> (try simp only [hbL] at hb) <;> first | (exfalso; omega) | refine run_ th rfl ?_)
   | (refine d_split rfl rfl rfl (fun hb => ?_) (fun hb => ?_) <;> (try simp only [hbL] at hb) <;> first | (exfalso; omega) | refine drun_ th rfl ?_)
   | (refine g_if rfl (fun hb => ?_) (fun hb => ?_) <;> (try simp only [hbL] at hb) <;> (try (exfalso; omega)))
   | (refine s_callP (pick_c l _ (by omega) (by omega)) [given] rfl rfl rfl rfl rfl rfl rfl rfl rfl (fun m hm => ?_); refine run_ th rfl ?_)
   | (refine s_add rfl rfl rfl rfl rfl rfl (by omega) ?_; refine run_ th rfl ?_))
  have hn : 1 ≤ 1 + m ∧ 1 + m ≤ 8 := by omega
  generalize 1 + m = n at hn ⊢
  clear hm
  refine g_adoptB 4 0 200 61 3 rfl rfl rfl rfl ?_
  refine g_loop2 (NInv n)
    (fun i _ => [(0, .v (.one (.ptr given 0))), (2, .v (.one (.ptr 2 0))), (3, .v (C1 (.int .i64 n))), (4, .v (.one (.ptr 4 0))), (5, .v (C1 (.int .i64 (i : Int))))])
    (fun _ ns => [(given, .box ((diceC l).map SC.c)), (2, .box [.c .nils, .c .nils, .c .nils]), (4, .box [.own 200, .c .nils, .c .nils]), (200, .arr false 61 3 (ns.map Nd.cs))])
    (fun i _ => n.toNat - i) 0 [] ⟨by omega, rfl, fun x hx => by cases hx⟩
    (fun a w h => h.sub (by exact ⟨⟨_, rfl, .refl _⟩, ⟨_, rfl, .refl _⟩, ⟨_, rfl, .refl _⟩, ⟨_, rfl, .refl _⟩, ⟨_, rfl, le_int rfl⟩, trivial⟩) (by exact ⟨⟨_, rfl, .refl _⟩, ⟨_, rfl, .refl _⟩, ⟨_, rfl, .refl _⟩, ⟨_, rfl, le_arr rfl⟩, trivial⟩) rfl rfl rfl) (fun i ns hI ih => ?_)
  obtain ⟨hi, hlen, hok⟩ := hI
  by_cases hlt : (i : Int) < n
  · skip
    repeat' (first
     | refine gc_ rfl ?_
     | (refine g_region ?_; refine run_ th rfl ?_)
     | (refine g_drawC mix rfl rfl ?_; refine drun_ th rfl ?_)
     | (refine g_drawEC mix rfl rfl ?_; refine erun_ th rfl ?_)
     | refine SOps.nil ?_
     | refine DOps.nil ?_
     | refine EOps.nil ?_ rfl rfl
     | (refine s_split rfl rfl (fun hb => ?_) (fun hb => ?_) <;> (try simp only [hbL] at hb) <;> first | (exfalso; omega) | refine run_ th rfl ?_)
     | (refine d_split rfl rfl rfl (fun hb => ?_) (fun hb => ?_) <;> (try simp only [hbL] at hb) <;> first | (exfalso; omega) | refine drun_ th rfl ?_)
     | (refine g_if rfl (fun hb => ?_) (fun hb => ?_) <;> (try simp only [hbL] at hb) <;> (try (exfalso; omega)))
     | (refine s_callP (pick_c l _ (by omega) (by omega)) [given] rfl rfl rfl rfl rfl rfl rfl rfl rfl (fun m hm => ?_); refine run_ th rfl ?_)
     | (refine s_call roles_c [] rfl rfl rfl rfl rfl rfl rfl rfl rfl rfl ?_; refine run_ th rfl ?_)
     | (refine s_rem rfl rfl rfl rfl rfl rfl (by decide) ?_; have htm := tmodB m 2 (by omega) (by omega); refine run_ th rfl ?_)
     | (refine s_add rfl rfl rfl rfl rfl rfl (by omega) ?_; refine run_ th rfl ?_)
     | (refine s_idx th rfl rfl rfl rfl rfl rfl rfl rfl rfl m.toNat _ (by omega) (role_at m hm) ?_; refine run_ th rfl ?_)
     | (refine s_anyB 4 0 rfl ?_; refine s_append th rfl rfl rfl rfl rfl rfl rfl rfl rfl rfl rfl rfl rfl rfl rfl (by constructor <;> simp <;> omega) ?_; refine run_ th rfl ?_))
    · have hih := ih (i + 1) (ns ++ [⟨0, ⟨#[]⟩, []⟩]) ⟨by omega, by simp [hlen], fun x hx => by
        rcases List.mem_append.1 hx with hx | hx
        · exact hok x hx
        · simp at hx; subst hx; exact end_node n⟩ (by omega)
      refine g_sub ?_ ?_ rfl rfl rfl hih
      · exact ⟨⟨_, rfl, .refl _⟩, ⟨_, rfl, .refl _⟩, ⟨_, rfl, .refl _⟩, ⟨_, rfl, .refl _⟩, ⟨_, rfl, le_int (by omega)⟩, trivial⟩
      · refine ⟨⟨_, rfl, .refl _⟩, ⟨_, rfl, .refl _⟩, ⟨_, rfl, .refl _⟩, ⟨_, rfl, ?_⟩, trivial⟩
        rw [List.map_append]
        exact .arr (.append (.refl _) (.cons (.cons (.refl _) (.cons (.refl _) (.cons (.nil 4) .nil))) .nil))
    · have hkb := hb
      rename_i hb0 k hk r hr m1 hm1
      refine g_adopt 8 201 66 4 rfl rfl rfl ?_
      refine g_loop2 (EInv n (1 + m1))
        (fun j _ => [(0, .v (.one (.ptr given 0))), (2, .v (.one (.ptr 2 0))), (3, .v (C1 (.int .i64 n))), (4, .v (.one (.ptr 4 0))), (5, .v (C1 (.int .i64 (i : Int)))), (7, .v (.one (.ptr 7 0))), (8, .v (.one (.own 201))), (9, .v (C1 (.int .i64 (1 + m1)))), (10, .v (C1 (.int .i64 m))), (11, .v (C1 (.int .i64 (j : Int))))])
        (fun _ es => [(given, .box ((diceC l).map SC.c)), (2, .box [.c .nils, .c .nils, .c .nils]), (4, .box [.own 200, .c .nils, .c .nils]), (200, .arr false 61 3 (ns.map Nd.cs)), (7, .box [.c (.int .i64 (1 + k.tmod 2)), .c (.str (roleN r)), .c .nils]), (201, .arr false 66 4 (es.map Edge.cs))])
        (fun j _ => (1 + m1).toNat - j) 0 [] ⟨by omega, rfl, fun x hx => by cases hx⟩
        (fun a w h => h.sub (by exact ⟨⟨_, rfl, .refl _⟩, ⟨_, rfl, .refl _⟩, ⟨_, rfl, .refl _⟩, ⟨_, rfl, .refl _⟩, ⟨_, rfl, .refl _⟩, ⟨_, rfl, .refl _⟩, ⟨_, rfl, .refl _⟩, ⟨_, rfl, .refl _⟩, ⟨_, rfl, .refl _⟩, ⟨_, rfl, le_int rfl⟩, trivial⟩) (by exact ⟨⟨_, rfl, .refl _⟩, ⟨_, rfl, .refl _⟩, ⟨_, rfl, .refl _⟩, ⟨_, rfl, .refl _⟩, ⟨_, rfl, .refl _⟩, ⟨_, rfl, le_arr rfl⟩, trivial⟩) rfl rfl rfl) (fun j es hE ih2 => ?_)
      obtain ⟨hj, hjl, hgood⟩ := hE
      by_cases hjt : (j : Int) < 1 + m1
      · have htl := tmodB (m + j) 4 (by omega) (by omega)
        repeat' (first
         | refine gc_ rfl ?_
         | (refine g_region ?_; refine run_ th rfl ?_)
         | (refine g_drawC mix rfl rfl ?_; refine drun_ th rfl ?_)
         | (refine g_drawEC mix rfl rfl ?_; refine erun_ th rfl ?_)
         | refine SOps.nil ?_
         | refine DOps.nil ?_
         | refine EOps.nil ?_ rfl rfl
         | (refine s_split rfl rfl (fun hb => ?_) (fun hb => ?_) <;> (try simp only [hbL] at hb) <;> first | (exfalso; omega) | refine run_ th rfl ?_)
         | (refine d_split rfl rfl rfl (fun hb => ?_) (fun hb => ?_) <;> (try simp only [hbL] at hb) <;> first | (exfalso; omega) | refine drun_ th rfl ?_)
         | (refine g_if rfl (fun hb => ?_) (fun hb => ?_) <;> (try simp only [hbL] at hb) <;> (try (exfalso; omega)))
         | (refine e_call labels_c rfl rfl rfl rfl rfl rfl rfl ?_; refine erun_ th rfl ?_)
         | (refine e_add rfl rfl rfl rfl rfl rfl (by omega) ?_; refine erun_ th rfl ?_)
         | (refine e_rem rfl rfl rfl rfl rfl rfl (by decide) ?_; refine erun_ th rfl ?_)
         | (refine e_idx th rfl rfl rfl rfl rfl rfl rfl rfl rfl ((m + j).tmod 4).toNat _ (by omega) (lab_at _ htl) ?_; refine erun_ th rfl ?_)
         | (refine e_call1 (pick_c l _ (by omega) (by omega)) given rfl rfl rfl rfl rfl rfl rfl rfl rfl ?_; refine erun_ th rfl ?_)
         | (refine e_lit th rfl rfl rfl rfl rfl rfl rfl rfl rfl rfl rfl rfl kinds_le ?_; refine erun_ th rfl ?_)
         | (refine e_idxP th rfl rfl rfl rfl rfl rfl rfl rfl rfl [kindP] kinds_at ?_; refine erun_ th rfl ?_)
         | (refine s_openB 12 1 rfl rfl fun kd hkd => ?_; refine run_ th rfl ?_)
         | (refine s_openB 12 3 rfl rfl fun nx hnx => ?_; refine run_ th rfl ?_)
         | (refine s_callP (pick_c l _ (by omega) (by omega)) [given] rfl rfl rfl rfl rfl rfl rfl rfl rfl (fun q hq => ?_); refine run_ th rfl ?_)
         | (refine s_append th rfl rfl rfl rfl rfl rfl rfl rfl rfl rfl rfl rfl rfl rfl rfl (by constructor <;> simp <;> omega) ?_; refine run_ th rfl ?_)
         | (refine s_add rfl rfl rfl rfl rfl rfl (by omega) ?_; refine run_ th rfl ?_))
        · have hih := ih2 (j + 1) (es ++ [⟨labN ((m + j).tmod 4), 5, q, nx⟩]) ⟨by omega, by simp [hjl], fun x hx => by
            rcases List.mem_append.1 hx with hx | hx
            · exact hgood x hx
            · simp at hx; subst hx
              exact ⟨labN_mem _, hnx, by simp [sortB, hq]⟩⟩ (by omega)
          refine g_sub ?_ ?_ rfl rfl rfl hih
          · exact ⟨⟨_, rfl, .refl _⟩, ⟨_, rfl, .refl _⟩, ⟨_, rfl, .refl _⟩, ⟨_, rfl, .refl _⟩, ⟨_, rfl, .refl _⟩, ⟨_, rfl, .refl _⟩, ⟨_, rfl, .refl _⟩, ⟨_, rfl, .refl _⟩, ⟨_, rfl, .refl _⟩, ⟨_, rfl, le_int (by omega)⟩, trivial⟩
          · exact ⟨⟨_, rfl, .refl _⟩, ⟨_, rfl, .refl _⟩, ⟨_, rfl, .refl _⟩, ⟨_, rfl, .refl _⟩, ⟨_, rfl, .refl _⟩, ⟨_, rfl, le_arr (by simp)⟩, trivial⟩
        · have hih := ih2 (j + 1) (es ++ [⟨labN ((m + j).tmod 4), kd, 0, nx⟩]) ⟨by omega, by simp [hjl], fun x hx => by
            rcases List.mem_append.1 hx with hx | hx
            · exact hgood x hx
            · simp at hx; subst hx
              exact ⟨labN_mem _, hnx, by rcases hkd with h | h | h <;> subst h <;> simp [sortB]⟩⟩ (by omega)
          refine g_sub ?_ ?_ rfl rfl rfl hih
          · exact ⟨⟨_, rfl, .refl _⟩, ⟨_, rfl, .refl _⟩, ⟨_, rfl, .refl _⟩, ⟨_, rfl, .refl _⟩, ⟨_, rfl, .refl _⟩, ⟨_, rfl, .refl _⟩, ⟨_, rfl, .refl _⟩, ⟨_, rfl, .refl _⟩, ⟨_, rfl, .refl _⟩, ⟨_, rfl, le_int (by omega)⟩, trivial⟩
          · exact ⟨⟨_, rfl, .refl _⟩, ⟨_, rfl, .refl _⟩, ⟨_, rfl, .refl _⟩, ⟨_, rfl, .refl _⟩, ⟨_, rfl, .refl _⟩, ⟨_, rfl, le_arr (by simp)⟩, trivial⟩
      · have hne : es ≠ [] := fun h => by rw [h] at hjl; simp at hjl; omega
        repeat' (first
         | refine gc_ rfl ?_
         | (refine g_region ?_; refine run_ th rfl ?_)
         | (refine g_drawC mix rfl rfl ?_; refine drun_ th rfl ?_)
         | (refine g_drawEC mix rfl rfl ?_; refine erun_ th rfl ?_)
         | refine SOps.nil ?_
         | refine DOps.nil ?_
         | refine EOps.nil ?_ rfl rfl
         | (refine s_split rfl rfl (fun hb => ?_) (fun hb => ?_) <;> (try simp only [hbL] at hb) <;> first | (exfalso; omega) | refine run_ th rfl ?_)
         | (refine d_split rfl rfl rfl (fun hb => ?_) (fun hb => ?_) <;> (try simp only [hbL] at hb) <;> first | (exfalso; omega) | refine drun_ th rfl ?_)
         | (refine g_if rfl (fun hb => ?_) (fun hb => ?_) <;> (try simp only [hbL] at hb) <;> (try (exfalso; omega)))
         | (refine s_call (sorted_c es) [] rfl rfl rfl rfl rfl rfl rfl rfl rfl rfl ?_; refine run_ th rfl ?_)
         | (refine s_freeze 201 rfl rfl ?_; refine run_ th rfl ?_)
         | (refine s_anyB 4 0 rfl ?_; refine s_append th rfl rfl rfl rfl rfl rfl rfl rfl rfl rfl rfl rfl rfl rfl rfl (by constructor <;> simp <;> omega) ?_; refine run_ th rfl ?_)
         | (refine s_add rfl rfl rfl rfl rfl rfl (by omega) ?_; refine run_ th rfl ?_))
        have hih := ih (i + 1) (ns ++ [⟨1 + k.tmod 2, roleN r, sortedE es⟩]) ⟨by omega, by simp [hlen], fun x hx => by
          rcases List.mem_append.1 hx with hx | hx
          · exact hok x hx
          · simp at hx; subst hx; exact sorted_node hgood hne (by omega) (roleN_name r)⟩ (by omega)
        refine g_sub ?_ ?_ rfl rfl rfl hih
        · exact ⟨⟨_, rfl, .refl _⟩, ⟨_, rfl, .refl _⟩, ⟨_, rfl, .refl _⟩, ⟨_, rfl, .refl _⟩, ⟨_, rfl, le_int (by omega)⟩, trivial⟩
        · exact ⟨⟨_, rfl, .refl _⟩, ⟨_, rfl, .refl _⟩, ⟨_, rfl, .refl _⟩, ⟨_, rfl, le_arr (by simp)⟩, trivial⟩
  · have hin : (i : Int) = n := by omega
    subst hin
    repeat' (first
     | refine gc_ rfl ?_
     | (refine g_region ?_; refine run_ th rfl ?_)
     | (refine g_drawC mix rfl rfl ?_; refine drun_ th rfl ?_)
     | (refine g_drawEC mix rfl rfl ?_; refine erun_ th rfl ?_)
     | refine SOps.nil ?_
     | refine DOps.nil ?_
     | refine EOps.nil ?_ rfl rfl
     | (refine s_split rfl rfl (fun hb => ?_) (fun hb => ?_) <;> (try simp only [hbL] at hb) <;> first | (exfalso; omega) | refine run_ th rfl ?_)
     | (refine d_split rfl rfl rfl (fun hb => ?_) (fun hb => ?_) <;> (try simp only [hbL] at hb) <;> first | (exfalso; omega) | refine drun_ th rfl ?_)
     | (refine g_if rfl (fun hb => ?_) (fun hb => ?_) <;> (try simp only [hbL] at hb) <;> (try (exfalso; omega)))
     | (refine s_callP (pick_c l _ (by omega) (by omega)) [given] rfl rfl rfl rfl rfl rfl rfl rfl rfl (fun q hq => ?_); refine run_ th rfl ?_))
    refine g_freeze 200 rfl rfl ?_
    refine g_freeze 88 rfl rfl ?_
    refine g_freeze 93 rfl rfl ?_
    subst hlen
    refine g_wit (.v (Ag (Bk.cs ⟨ns, oneL, [0, q]⟩))) ⟨_, ⟨book_ok (by omega) (by omega) hq hok, rfl⟩, by show 1 ≤ ns.length; omega, by show ns.length ≤ 8; omega, rfl⟩ ?_
    refine g_endL th Tryd.func9 (.inr ⟨_, rfl⟩) rfl rfl rfl ?_ rfl
    exact .v (.agg (.cons (.refl _) (.cons (.c (.nn true 1 _)) (.cons (.c (.nn true 1 _)) .nil))))
theorem book_c (l : List Int) : ConQ Tryd.prog 9 [diceC l] [.one (.ptr given 0)] BookQ [diceC l] :=
  (book2_c l).le fun r ⟨b, ⟨h1, _⟩, h2, h3, h4⟩ => ⟨b, h1, h2, h3, h4⟩
end Go.Sy

/- Contracts: the law's given, made, pick. -/
namespace Go.Sy
open Go.Proofs
set_option maxRecDepth 100000
attribute [local irreducible] SOps Goes DOps EOps

end Go.Sy
