/- Contracts: reparteemake.Pick. -/
import Derived.Test.YtadimhaolhpglaaFk
import Derived.Test.YtadimhaolhpglaaSy5
import Derived.Test.YtadimhaolhpglaaDat
set_option linter.unusedSimpArgs false
set_option linter.unusedVariables false
set_option linter.unusedSectionVars false
namespace Go.Sy
open Go.Proofs
set_option maxRecDepth 100000
attribute [local irreducible] SOps Goes DOps EOps

/-- The dice's cells: the numbers, and a place among them. -/
abbrev diceC (l : List Int) : List CT := [intsT l, .intP .i64 fun a => 0 ≤ a ∧ a ≤ (l.length : Int)]
abbrev pickR (n : Int) : CT := .intP .i64 fun r => 0 ≤ r ∧ r < n

theorem wrapU_nn (x : Int) : 0 ≤ IntKind.u64.wrap x := by
  simp only [IntKind.wrap, IntKind.signed, IntKind.bits, Bool.false_and, Bool.false_eq_true, if_false]
  omega
theorem wrapU_id {x : Int} (h0 : 0 ≤ x) (h1 : x ≤ 9223372036854775807) : IntKind.u64.wrap x = x := by
  simp only [IntKind.wrap, IntKind.signed, IntKind.bits, Bool.false_and, Bool.false_eq_true, if_false]
  omega
theorem wrapI_id {x : Int} (h0 : 0 ≤ x) (h1 : x ≤ 9223372036854775807) : IntKind.i64.wrap x = x := by
  have h2 : x % (2 ^ 64 : Int) = x := by omega
  simp only [IntKind.wrap, IntKind.signed, IntKind.bits, Bool.true_and, h2]
  rw [if_neg (by simp; omega)]
theorem remU {x n : Int} (h0 : 1 ≤ n) (h1 : n ≤ 9223372036854775807) : 0 ≤ (IntKind.u64.wrap x).tmod n ∧ (IntKind.u64.wrap x).tmod n < n := by
  have h2 := wrapU_nn x
  exact ⟨Int.tmod_nonneg _ h2, Int.tmod_lt_of_pos _ (by omega)⟩
theorem pick_v {x n : Int} (h0 : 1 ≤ n) (h1 : n ≤ 9223372036854775807) :
    0 ≤ IntKind.i64.wrap ((IntKind.u64.wrap x).tmod (IntKind.u64.wrap n)) ∧ IntKind.i64.wrap ((IntKind.u64.wrap x).tmod (IntKind.u64.wrap n)) < n := by
  have h2 := remU (x := x) h0 h1
  rw [wrapU_id (by omega) h1, wrapI_id h2.1 (by omega)]
  exact h2

set_option maxHeartbeats 4000000 in
theorem pick_c (l : List Int) (n : Int) (hn1 : 1 ≤ n) (hn : n ≤ 9223372036854775807) : Con Try.prog 49 [diceC l] [.one (.ptr given 0), C1 (.int .i64 n)] (Rv (pickR n)) [diceC l] := by
  refine con_of (c := _) Try.func49 rfl rfl rfl (by decide) fun w M0 H Z => ?_
  refine g_lenB given 0 rfl rfl fun hll => ?_
  simp only [List.length_map] at hll
  refine g_openB given 1 rfl rfl fun p hp => ?_
  by_cases hlt : p.toNat < l.length
  · have hx : (l.map fun r => [CT.int .i64 r])[p.toNat]? = some [.int .i64 l[p.toNat]] := by simp [hlt]
    repeat' (first
     | refine gc_ rfl ?_
     | (refine g_region ?_; refine run_ th rfl ?_)
     | (refine g_drawC mix rfl rfl ?_; refine drun_ th rfl ?_)
     | (refine g_drawEC mix rfl rfl ?_; refine erun_ th rfl ?_)
     | refine SOps.nil ?_
     | refine DOps.nil ?_
     | refine EOps.nil ?_ rfl rfl
     | (refine s_split rfl rfl (fun hb => ?_) (fun hb => ?_) <;> (try simp only [hbL] at hb) <;> first | (exfalso; omega) | refine run_ th rfl ?_)
     | (refine d_split rfl rfl rfl (fun hb => ?_) (fun hb => ?_) <;> (try simp only [hbL] at hb) <;> first | (exfalso; omega) | refine drun_ th rfl ?_)
     | (refine g_if rfl (fun hb => ?_) (fun hb => ?_) <;> (try simp only [hbL] at hb) <;> (try (exfalso; omega)))
     | (refine s_add rfl rfl rfl rfl rfl rfl (by omega) ?_; refine run_ th rfl ?_)
     | (refine d_subI rfl rfl rfl rfl rfl rfl (by omega) ?_; refine drun_ th rfl ?_)
     | (refine d_idx th rfl rfl rfl rfl rfl rfl rfl rfl rfl p.toNat _ (by omega) hx ?_; refine drun_ th rfl ?_)
     | (refine d_rem rfl rfl rfl rfl rfl rfl (by rw [wrapU_id (by omega) hn]; omega) ?_; refine drun_ th rfl ?_))
    refine g_sub (tm' := [(4, .v (C1 (pickR n)))]) (mm' := [(given, .box ((diceC l).map SC.c))]) ?_ ?_ rfl rfl rfl ?_
    · exact ⟨⟨_, rfl, .v (.one (.c (.intP (pick_v hn1 hn))))⟩, trivial⟩
    · exact ⟨⟨_, rfl, .box (.cons (.refl _) (.cons (.c (.intP (by omega))) .nil))⟩, trivial⟩
    repeat' (first
     | refine gc_ rfl ?_
     | (refine g_region ?_; refine run_ th rfl ?_)
     | (refine g_drawC mix rfl rfl ?_; refine drun_ th rfl ?_)
     | (refine g_drawEC mix rfl rfl ?_; refine erun_ th rfl ?_)
     | refine SOps.nil ?_
     | refine DOps.nil ?_
     | refine EOps.nil ?_ rfl rfl
     | (refine s_split rfl rfl (fun hb => ?_) (fun hb => ?_) <;> (try simp only [hbL] at hb) <;> first | (exfalso; omega) | refine run_ th rfl ?_)
     | (refine d_split rfl rfl rfl (fun hb => ?_) (fun hb => ?_) <;> (try simp only [hbL] at hb) <;> first | (exfalso; omega) | refine drun_ th rfl ?_)
     | (refine g_if rfl (fun hb => ?_) (fun hb => ?_) <;> (try simp only [hbL] at hb) <;> (try (exfalso; omega)))
     | refine g_endL th Try.func49 (.inr ⟨_, rfl⟩) rfl rfl rfl ?_ rfl)
    all_goals exact .refl _
  · skip
    repeat' (first
     | refine gc_ rfl ?_
     | (refine g_region ?_; refine run_ th rfl ?_)
     | (refine g_drawC mix rfl rfl ?_; refine drun_ th rfl ?_)
     | (refine g_drawEC mix rfl rfl ?_; refine erun_ th rfl ?_)
     | refine SOps.nil ?_
     | refine DOps.nil ?_
     | refine EOps.nil ?_ rfl rfl
     | (refine s_split rfl rfl (fun hb => ?_) (fun hb => ?_) <;> (try simp only [hbL] at hb) <;> first | (exfalso; omega) | refine run_ th rfl ?_)
     | (refine d_split rfl rfl rfl (fun hb => ?_) (fun hb => ?_) <;> (try simp only [hbL] at hb) <;> first | (exfalso; omega) | refine drun_ th rfl ?_)
     | (refine g_if rfl (fun hb => ?_) (fun hb => ?_) <;> (try simp only [hbL] at hb) <;> (try (exfalso; omega))))
    refine g_sub (tm' := [(4, .v (C1 (pickR n)))]) (mm' := [(given, .box ((diceC l).map SC.c))]) ?_ ?_ rfl rfl rfl ?_
    · exact ⟨⟨_, rfl, .v (.one (.c (.intP (by omega))))⟩, trivial⟩
    · exact ⟨⟨_, rfl, .box (.cons (.refl _) (.cons (.c (.intP (by omega))) .nil))⟩, trivial⟩
    repeat' (first
     | refine gc_ rfl ?_
     | (refine g_region ?_; refine run_ th rfl ?_)
     | (refine g_drawC mix rfl rfl ?_; refine drun_ th rfl ?_)
     | (refine g_drawEC mix rfl rfl ?_; refine erun_ th rfl ?_)
     | refine SOps.nil ?_
     | refine DOps.nil ?_
     | refine EOps.nil ?_ rfl rfl
     | (refine s_split rfl rfl (fun hb => ?_) (fun hb => ?_) <;> (try simp only [hbL] at hb) <;> first | (exfalso; omega) | refine run_ th rfl ?_)
     | (refine d_split rfl rfl rfl (fun hb => ?_) (fun hb => ?_) <;> (try simp only [hbL] at hb) <;> first | (exfalso; omega) | refine drun_ th rfl ?_)
     | (refine g_if rfl (fun hb => ?_) (fun hb => ?_) <;> (try simp only [hbL] at hb) <;> (try (exfalso; omega)))
     | refine g_endL th Try.func49 (.inr ⟨_, rfl⟩) rfl rfl rfl ?_ rfl)
    all_goals exact .refl _
end Go.Sy
