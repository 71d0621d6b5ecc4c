/- Contracts: names. -/
import Derived.Test.YtadimhaolhpglaaSymT
set_option linter.unusedSimpArgs false
set_option linter.unusedVariables false
set_option linter.unusedSectionVars false
namespace Go.Sy
open Go.Proofs
abbrev C1 (c : CT) : SV := .one (.c c)
abbrev Rv (c : CT) : ST := .v (.one (.c c))
set_option maxRecDepth 100000
attribute [local irreducible] SOps Goes

def letB (x : Int) : Bool := decide (97 ≤ x) && decide (x ≤ 122)
def digB (x : Int) : Bool := decide (48 ≤ x) && decide (x ≤ 57)

theorem letter_c (x : Int) : Con Try.prog 84 [] [C1 (.int .u8 x)] (Rv (.bool (letB x))) [] := by
  refine con_of (c := _) Try.func84 rfl rfl rfl (by decide) fun w M0 H Z => ?_
  repeat' (first
    | refine g_seq ?_
    | (refine g_region ?_; refine run_ th rfl ?_)
    | refine SOps.nil ?_
    | (refine s_splitD rfl rfl (fun _ => ?_) (fun _ => ?_) <;> refine run_ th rfl ?_)
    | (refine g_end th Try.func84 (.inr ⟨_, rfl⟩) rfl rfl rfl ⟨?_, rfl⟩))
  all_goals first | (simp_all [packS, letB]; done) | (simp_all [packS, letB]; omega)

theorem digit_c (x : Int) : Con Try.prog 86 [] [C1 (.int .u8 x)] (Rv (.bool (digB x))) [] := by
  refine con_of (c := _) Try.func86 rfl rfl rfl (by decide) fun w M0 H Z => ?_
  repeat' (first
    | refine g_seq ?_
    | (refine g_region ?_; refine run_ th rfl ?_)
    | refine SOps.nil ?_
    | (refine s_splitD rfl rfl (fun _ => ?_) (fun _ => ?_) <;> refine run_ th rfl ?_)
    | (refine g_end th Try.func86 (.inr ⟨_, rfl⟩) rfl rfl rfl ⟨?_, rfl⟩))
  all_goals first | (simp_all [packS, digB]; done) | (simp_all [packS, digB]; omega)
def kwList : List ByteArray := [
  ⟨#[97, 110, 100]⟩,
  ⟨#[97, 115]⟩,
  ⟨#[97, 116]⟩,
  ⟨#[98, 111, 111, 108]⟩,
  ⟨#[99, 97, 108, 108]⟩,
  ⟨#[99, 104, 97, 110]⟩,
  ⟨#[100, 114, 111, 112]⟩,
  ⟨#[101, 108, 115, 101]⟩,
  ⟨#[101, 109, 112, 116, 121]⟩,
  ⟨#[101, 110, 100]⟩,
  ⟨#[102, 97, 105, 108]⟩,
  ⟨#[102, 97, 108, 115, 101]⟩,
  ⟨#[102, 114, 111, 109]⟩,
  ⟨#[104, 101, 97, 114]⟩,
  ⟨#[105, 102]⟩,
  ⟨#[105, 110, 116]⟩,
  ⟨#[106, 111, 105, 110]⟩,
  ⟨#[108, 101, 110]⟩,
  ⟨#[108, 101, 116]⟩,
  ⟨#[108, 105, 115, 116]⟩,
  ⟨#[108, 111, 99, 97, 108]⟩,
  ⟨#[108, 111, 115, 116]⟩,
  ⟨#[109, 111, 100]⟩,
  ⟨#[110, 111, 116]⟩,
  ⟨#[111, 112, 101, 110]⟩,
  ⟨#[111, 114]⟩,
  ⟨#[112, 114, 105, 110, 116]⟩,
  ⟨#[112, 114, 111, 99]⟩,
  ⟨#[112, 114, 111, 116, 111, 99, 111, 108]⟩,
  ⟨#[112, 117, 115, 104]⟩,
  ⟨#[114, 111, 108, 101, 115]⟩,
  ⟨#[115, 97, 121]⟩,
  ⟨#[115, 112, 97, 119, 110]⟩,
  ⟨#[115, 116, 111, 112]⟩,
  ⟨#[116, 101, 120, 116]⟩,
  ⟨#[116, 111]⟩,
  ⟨#[116, 114, 117, 101]⟩,
  ⟨#[117, 110, 105, 116]⟩,
  ⟨#[119, 105, 116, 104]⟩
]

def kwB (s : ByteArray) : Bool := kwList.any fun k => decide (s = k)

set_option maxHeartbeats 4000000 in
theorem keyword_c (s : ByteArray) : Con Try.prog 85 [] [C1 (.str s)] (Rv (.bool (kwB s))) [] := by
  refine con_of (c := _) Try.func85 rfl rfl rfl (by decide) fun w M0 H Z => ?_
  repeat' (first
    | refine g_seq ?_
    | refine g_block ?_
    | refine g_inBlock ?_
    | refine g_skip ?_
    | refine g_exit rfl ?_
    | refine g_goto rfl ?_
    | refine g_label ?_
    | refine g_scope ?_
    | refine g_inScope ?_
    | (refine g_region ?_; refine run_ th rfl ?_)
    | refine SOps.nil ?_
    | (refine g_ifD rfl (fun _ => ?_) (fun _ => ?_))
    | (refine g_end th Try.func85 (.inr ⟨_, rfl⟩) rfl rfl rfl ⟨?_, rfl⟩)
    | refine g_if_true rfl ?_
    | refine g_if_false rfl ?_)
  any_goals (rename_i h; subst h; rfl)
  simp [packS, kwB, kwList, *]
end Go.Sy
