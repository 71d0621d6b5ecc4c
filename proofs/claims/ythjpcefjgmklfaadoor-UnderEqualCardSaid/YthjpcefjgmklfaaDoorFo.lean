/- Contracts: the law's given, made, pick. -/
import Derived.Test.YthjpcefjgmklfaaDoorFn
import Derived.Test.YthjpcefjgmklfaaDoorSy5
set_option linter.unusedSimpArgs false
set_option linter.unusedVariables false
set_option linter.unusedSectionVars false
namespace Go.Sy
open Go.Proofs
set_option maxRecDepth 100000
attribute [local irreducible] SOps Goes DOps EOps

def xE : Edge := ⟨⟨#[120]⟩, 0, 0, 4⟩
def yE : Edge := ⟨⟨#[121]⟩, 0, 0, 4⟩
def givenB : Bk := ⟨[⟨1, ⟨#[98]⟩, [xE, yE]⟩, ⟨1, ⟨#[98]⟩, [xE]⟩, ⟨2, ⟨#[98]⟩, [xE]⟩, ⟨2, ⟨#[98]⟩, [xE, yE]⟩, ⟨0, ⟨#[]⟩, []⟩], [], []⟩
abbrev armsTt (l : List Edge) : CT := .slice true 4 (l.map Edge.cs)

set_option maxHeartbeats 4000000 in
theorem given_c0 : Con Tryd.prog 25 [] [] (.v (Ag [.slice true 3 [[.int .i64 1, .str ⟨#[98]⟩, armsTt [xE, yE]], [.int .i64 1, .str ⟨#[98]⟩, armsTt [xE]], [.int .i64 2, .str ⟨#[98]⟩, armsTt [xE]], [.int .i64 2, .str ⟨#[98]⟩, armsTt [xE, yE]], [.int .i64 0, .str ⟨#[]⟩, .nils]], .nils, .nils])) [] := by
  refine con_of (c := _) Tryd.func25 rfl rfl rfl (by decide) fun w M0 H Z => ?_
  repeat' (first
    | refine g_seq ?_
    | (refine g_region ?_; refine run_ th rfl ?_)
    | (refine g_drawC mix rfl rfl ?_; refine drun_ th rfl ?_)
    | (refine g_drawEC mix rfl rfl ?_; refine erun_ th rfl ?_)
    | refine SOps.nil ?_
    | refine DOps.nil ?_
    | refine EOps.nil ?_ rfl rfl
    | refine g_block ?_
    | refine g_inBlock ?_
    | refine g_skip ?_
    | refine g_exit rfl ?_
    | refine g_if_true rfl ?_
    | refine g_if_false rfl ?_
    | (refine s_split rfl rfl (fun hb => ?_) (fun hb => ?_) <;> (try simp only [decide_eq_true_eq, decide_eq_false_iff_not, Bool.not_eq_true', Bool.not_eq_false', Bool.not_eq_true, Bool.not_eq_false, Bool.not_true, Bool.not_false, Bool.false_eq_true, Bool.true_eq_false, reduceCtorEq, not_true_eq_false, not_false_eq_true, List.length_map] at hb) <;> first | (exfalso; omega) | refine run_ th rfl ?_)
    | (refine d_split rfl rfl rfl (fun hb => ?_) (fun hb => ?_) <;> (try simp only [decide_eq_true_eq, decide_eq_false_iff_not, Bool.not_eq_true', Bool.not_eq_false', Bool.not_eq_true, Bool.not_eq_false, Bool.not_true, Bool.not_false, Bool.false_eq_true, Bool.true_eq_false, reduceCtorEq, not_true_eq_false, not_false_eq_true, List.length_map] at hb) <;> first | (exfalso; omega) | refine drun_ th rfl ?_)
    | (refine g_if rfl (fun hb => ?_) (fun hb => ?_) <;> (try simp only [decide_eq_true_eq, decide_eq_false_iff_not, Bool.not_eq_true', Bool.not_eq_false', Bool.not_eq_true, Bool.not_eq_false, Bool.not_true, Bool.not_false, Bool.false_eq_true, Bool.true_eq_false, reduceCtorEq, not_true_eq_false, not_false_eq_true, List.length_map] at hb) <;> (try (exfalso; omega)))
    | (refine s_freeze 7 rfl rfl ?_; refine run_ th rfl ?_)
    | (refine s_freeze 10 rfl rfl ?_; refine run_ th rfl ?_)
    | (refine s_freeze 13 rfl rfl ?_; refine run_ th rfl ?_)
    | (refine s_freeze 17 rfl rfl ?_; refine run_ th rfl ?_)
    | (refine g_freeze 20 rfl rfl ?_)
    | refine g_endL th Tryd.func25 (.inr ⟨_, rfl⟩) rfl rfl rfl ?_ rfl)
  all_goals exact .refl _
theorem given_c : Con Tryd.prog 25 [] [] (.v (Ag givenB.cs)) [] := by
  refine (given_c0.le (res' := .v (Ag [.slice true 3 (givenB.nodes.map Nd.cs), .slice false 1 [], .slice false 1 []])) ?_).le ?_
  · refine .v (.agg (.cons (.c (le_deep ?_)) (.cons (.c (.nil 1)) (.cons (.c (.nil 1)) .nil))))
    refine .cons (.cons (.refl _) (.cons (.refl _) (.cons (.nn true 4 _) .nil))) (.cons (.cons (.refl _) (.cons (.refl _) (.cons (.nn true 4 _) .nil))) (.cons (.cons (.refl _) (.cons (.refl _) (.cons (.nn true 4 _) .nil))) (.cons (.cons (.refl _) (.cons (.refl _) (.cons (.nn true 4 _) .nil))) (.cons (.cons (.refl _) (.cons (.refl _) (.cons (.nil 4) .nil))) .nil))))
  · exact .v (.agg (.cons (.c (.nn true 3 _)) (.cons (.refl _) (.cons (.refl _) .nil))))

set_option maxHeartbeats 4000000 in
theorem made_c (b : Bk) (l : List Int) (hl : l ≠ []) (hbig : l.length * 8 ≤ 140737488355328) : ConQ Tryd.prog 24 [] [Ag b.cs, C1 (intsT l)] BookQ [] := by
  have hlp : 0 < l.length := List.length_pos_iff.2 hl
  refine ConQ.of (c := _) Tryd.func24 rfl rfl rfl (by decide) fun w M0 H Z => ?_
  repeat' (first
    | refine g_seq ?_
    | (refine g_region ?_; refine run_ th rfl ?_)
    | (refine g_drawC mix rfl rfl ?_; refine drun_ th rfl ?_)
    | (refine g_drawEC mix rfl rfl ?_; refine erun_ th rfl ?_)
    | refine SOps.nil ?_
    | refine DOps.nil ?_
    | refine EOps.nil ?_ rfl rfl
    | refine g_block ?_
    | refine g_inBlock ?_
    | refine g_skip ?_
    | refine g_exit rfl ?_
    | refine g_if_true rfl ?_
    | refine g_if_false rfl ?_
    | (refine s_split rfl rfl (fun hb => ?_) (fun hb => ?_) <;> (try simp only [decide_eq_true_eq, decide_eq_false_iff_not, Bool.not_eq_true', Bool.not_eq_false', Bool.not_eq_true, Bool.not_eq_false, Bool.not_true, Bool.not_false, Bool.false_eq_true, Bool.true_eq_false, reduceCtorEq, not_true_eq_false, not_false_eq_true, List.length_map] at hb) <;> first | (exfalso; omega) | refine run_ th rfl ?_)
    | (refine d_split rfl rfl rfl (fun hb => ?_) (fun hb => ?_) <;> (try simp only [decide_eq_true_eq, decide_eq_false_iff_not, Bool.not_eq_true', Bool.not_eq_false', Bool.not_eq_true, Bool.not_eq_false, Bool.not_true, Bool.not_false, Bool.false_eq_true, Bool.true_eq_false, reduceCtorEq, not_true_eq_false, not_false_eq_true, List.length_map] at hb) <;> first | (exfalso; omega) | refine drun_ th rfl ?_)
    | (refine g_if rfl (fun hb => ?_) (fun hb => ?_) <;> (try simp only [decide_eq_true_eq, decide_eq_false_iff_not, Bool.not_eq_true', Bool.not_eq_false', Bool.not_eq_true, Bool.not_eq_false, Bool.not_true, Bool.not_false, Bool.false_eq_true, Bool.true_eq_false, reduceCtorEq, not_true_eq_false, not_false_eq_true, List.length_map] at hb) <;> (try (exfalso; omega)))
    | (refine s_callN (new_c l hbig) rfl rfl rfl rfl rfl rfl rfl ?_; refine run_ th rfl ?_)
    | (refine s_leB 9 1 (.intP .i64 fun a => 0 ≤ a ∧ a ≤ (l.length : Int)) rfl rfl (.intP (by omega)) ?_; refine s_callQ (book_c l) [9] rfl rfl rfl rfl rfl rfl rfl rfl rfl (fun res hr => by obtain ⟨b, _, _, _, rfl⟩ := hr; rfl) (fun res hr => ?_); obtain ⟨c, hc, hc1, hc8, rfl⟩ := hr; refine run_ th rfl ?_))
  refine g_wit (.v (Ag c.cs)) ⟨c, hc, hc1, hc8, rfl⟩ ?_
  refine g_endL th Tryd.func24 (.inr ⟨_, rfl⟩) rfl rfl rfl (.refl _) rfl

def pickI (n : Nat) (x : Int) : Int := IntKind.i64.wrap ((IntKind.u64.wrap x).tmod (IntKind.u64.wrap n))
theorem pickI_range {n : Nat} (h1 : 1 ≤ n) (h8 : n ≤ 8) (x : Int) : 0 ≤ pickI n x ∧ pickI n x < n := pick_v (by omega) (by omega)
theorem picku_c (b : Bk) (x : Int) (h1 : 1 ≤ b.nodes.length) (h8 : b.nodes.length ≤ 8) : Con Tryd.prog 26 [] [Ag b.cs, C1 (.int .i64 x)] (Rv (.int .i64 (pickI b.nodes.length x))) [] := by
  refine con_of (c := _) Tryd.func26 rfl rfl rfl (by decide) fun w M0 H Z => ?_
  repeat' (first
    | refine g_seq ?_
    | (refine g_region ?_; refine run_ th rfl ?_)
    | (refine g_drawC mix rfl rfl ?_; refine drun_ th rfl ?_)
    | (refine g_drawEC mix rfl rfl ?_; refine erun_ th rfl ?_)
    | refine SOps.nil ?_
    | refine DOps.nil ?_
    | refine EOps.nil ?_ rfl rfl
    | refine g_block ?_
    | refine g_inBlock ?_
    | refine g_skip ?_
    | refine g_exit rfl ?_
    | refine g_if_true rfl ?_
    | refine g_if_false rfl ?_
    | (refine s_split rfl rfl (fun hb => ?_) (fun hb => ?_) <;> (try simp only [decide_eq_true_eq, decide_eq_false_iff_not, Bool.not_eq_true', Bool.not_eq_false', Bool.not_eq_true, Bool.not_eq_false, Bool.not_true, Bool.not_false, Bool.false_eq_true, Bool.true_eq_false, reduceCtorEq, not_true_eq_false, not_false_eq_true, List.length_map] at hb) <;> first | (exfalso; omega) | refine run_ th rfl ?_)
    | (refine d_split rfl rfl rfl (fun hb => ?_) (fun hb => ?_) <;> (try simp only [decide_eq_true_eq, decide_eq_false_iff_not, Bool.not_eq_true', Bool.not_eq_false', Bool.not_eq_true, Bool.not_eq_false, Bool.not_true, Bool.not_false, Bool.false_eq_true, Bool.true_eq_false, reduceCtorEq, not_true_eq_false, not_false_eq_true, List.length_map] at hb) <;> first | (exfalso; omega) | refine drun_ th rfl ?_)
    | (refine g_if rfl (fun hb => ?_) (fun hb => ?_) <;> (try simp only [decide_eq_true_eq, decide_eq_false_iff_not, Bool.not_eq_true', Bool.not_eq_false', Bool.not_eq_true, Bool.not_eq_false, Bool.not_true, Bool.not_false, Bool.false_eq_true, Bool.true_eq_false, reduceCtorEq, not_true_eq_false, not_false_eq_true, List.length_map] at hb) <;> (try (exfalso; omega)))
    | refine g_endL th Tryd.func26 (.inr ⟨_, rfl⟩) rfl rfl rfl ?_ rfl
    | (refine s_rem rfl rfl rfl rfl rfl rfl (by simp only [List.length_map]; rw [wrapU_id (by omega) (by omega)]; omega) ?_; refine run_ th rfl ?_))
  all_goals (simp only [List.length_map]; exact .refl _)
end Go.Sy
