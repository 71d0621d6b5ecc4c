/- Contracts: the first example of layer 6. -/
import Derived.Test.YtadimhaolhpglaaDd
import Derived.Test.YtadimhaolhpglaaDc
set_option linter.unusedSimpArgs false
set_option linter.unusedVariables false
set_option linter.unusedSectionVars false
namespace Go.Sy
open Go.Proofs
set_option maxRecDepth 100000
attribute [local irreducible] SOps Goes DOps EOps

def fst6 : Loc := ⟨⟨#[116]⟩, [⟨2, ⟨#[98]⟩, [⟨⟨#[121]⟩, 1, ⟨#[]⟩, 2⟩, ⟨⟨#[120]⟩, 1, ⟨#[]⟩, 0⟩]⟩, noTrn, noTrn]⟩
def fst6t : Loc := ⟨⟨#[116]⟩, [⟨2, ⟨#[98]⟩, [⟨⟨#[120]⟩, 1, ⟨#[]⟩, 0⟩, ⟨⟨#[121]⟩, 1, ⟨#[]⟩, 1⟩]⟩, noTrn]⟩
theorem fst6_big : LocBig fst6 := by
  intro t ht a ha
  simp only [fst6, List.mem_cons, List.not_mem_nil, or_false] at ht
  rcases ht with rfl | rfl | rfl
  · simp only [List.mem_cons, List.not_mem_nil, or_false] at ha
    rcases ha with rfl | rfl <;> exact Nat.zero_le _
  · cases ha
  · cases ha
theorem lt_xy : sLt ⟨#[120]⟩ ⟨#[121]⟩ = true := by unfold sLt; rw [ByteArray.toList_eq, ByteArray.toList_eq]; decide
theorem ris_yx : risA [⟨⟨#[121]⟩, 1, ⟨#[]⟩, 2⟩, ⟨⟨#[120]⟩, 1, ⟨#[]⟩, 0⟩] = [⟨⟨#[120]⟩, 1, ⟨#[]⟩, 0⟩, ⟨⟨#[121]⟩, 1, ⟨#[]⟩, 2⟩] := by simp [risA, insA, lt_xy]
theorem fst6_trim : trimL fst6 = fst6t := by
  have h1 : nameB ⟨#[98]⟩ = true := by decide
  have h2 : nameB ⟨#[120]⟩ = true := by decide
  have h3 : nameB ⟨#[121]⟩ = true := by decide
  have hv : locB fst6 = true := by
    simp [locB, fst6, trnB, noTrn, armsOK, armB, carB, h1, h2, h3]
  rw [trimL, if_pos hv]
  have hr : reachG fst6.g = [0, 2] := by
    simp [reachG, Loc.g, fst6, bfs, armsAt, noTrn, bfsIn, risA, insA, lt_xy]
  unfold trimT
  rw [hr]
  simp [fst6, trnAt, movA, noTrn, fst6t, risA, insA, lt_xy]
  rfl
theorem zero_big : LocBig zeroLoc := fun t h => by cases h
theorem zero_may : locB zeroLoc = false := rfl

set_option maxHeartbeats 4000000 in
theorem first6_c : Con Try.prog 20 [] [] (Rv (.bool true)) [] := by
  have ht := ttrim_c fst6 fst6_big
  rw [fst6_trim] at ht
  have hz : Con Try.prog 24 [] [Ag [.str ⟨#[]⟩, .nils]] (Rv (.bool false)) [] := (tmay_c zeroLoc zero_big).args (.cons (.agg (.cons (.refl _) (.cons (.c (.nil 3)) .nil))) .nil)
  have h0 : (fst6t.turns.map Trn.cs)[0]? = some (Trn.cs ⟨2, ⟨#[98]⟩, [⟨⟨#[120]⟩, 1, ⟨#[]⟩, 0⟩, ⟨⟨#[121]⟩, 1, ⟨#[]⟩, 1⟩]⟩) := rfl
  have hsa := sameArms_c [⟨⟨#[120]⟩, 1, ⟨#[]⟩, 0⟩, ⟨⟨#[121]⟩, 1, ⟨#[]⟩, 1⟩] [⟨⟨#[120]⟩, 1, ⟨#[]⟩, 0⟩, ⟨⟨#[121]⟩, 1, ⟨#[]⟩, 1⟩]
  refine con_of (c := _) Try.func20 rfl rfl rfl (by decide) fun w M0 H Z => ?_
  repeat' (first
   | refine gc_ rfl ?_
   | (refine g_region ?_; refine run_ th rfl ?_)
   | (refine g_drawC mix rfl rfl ?_; refine drun_ th rfl ?_)
   | (refine g_drawEC mix rfl rfl ?_; refine erun_ th rfl ?_)
   | refine SOps.nil ?_
   | refine DOps.nil ?_
   | refine EOps.nil ?_ rfl rfl
   | (refine s_split rfl rfl (fun hb => ?_) (fun hb => ?_) <;> (try simp only [hbL] at hb) <;> first | (exfalso; omega) | refine run_ th rfl ?_)
   | (refine d_split rfl rfl rfl (fun hb => ?_) (fun hb => ?_) <;> (try simp only [hbL] at hb) <;> first | (exfalso; omega) | refine drun_ th rfl ?_)
   | (refine g_if rfl (fun hb => ?_) (fun hb => ?_) <;> (try simp only [hbL] at hb) <;> (try (exfalso; omega)))
   | refine g_endL th Try.func20 (.inr ⟨_, rfl⟩) rfl rfl rfl ?_ rfl
   | (refine s_call ht [] rfl rfl rfl rfl rfl rfl rfl rfl rfl rfl ?_; refine run_ th rfl ?_)
   | (refine s_leT 13 (.v (Ag [.str ⟨#[116]⟩, .slice true 3 (fst6.turns.map Trn.cs)])) rfl (.v (.agg (.cons (.refl _) (.cons (.c (le_deep (.cons (.cons (.refl _) (.cons (.refl _) (.cons (.nn true 4 _) .nil))) (.cons (.cons (.refl _) (.cons (.refl _) (.cons (.nil 4) .nil))) (.cons (.cons (.refl _) (.cons (.refl _) (.cons (.nil 4) .nil))) .nil))))) .nil)))) ?_; refine s_leT 13 (.v (Ag fst6.cs)) rfl (.v (.agg (.cons (.refl _) (.cons (.c (.nn true 3 _)) .nil)))) ?_; refine s_call ht [] rfl rfl rfl rfl rfl rfl rfl rfl rfl rfl ?_; refine run_ th rfl ?_)
   | (refine d_idx th rfl rfl rfl rfl rfl rfl rfl rfl rfl 0 _ rfl h0 ?_; refine drun_ th rfl ?_)
   | (refine DOps.step rfl (op_lit th rfl rfl rfl rfl rfl rfl rfl rfl rfl (.nn true 4 _) rfl rfl) ?_; refine drun_ th rfl ?_)
   | (refine d_call hsa [] rfl rfl rfl rfl rfl rfl rfl rfl rfl rfl rfl ?_; refine drun_ th rfl ?_)
   | (refine d_call hz [] rfl rfl rfl rfl rfl rfl rfl rfl rfl rfl rfl ?_; refine drun_ th rfl ?_)
   | (refine s_freeze 8 rfl rfl ?_; refine run_ th rfl ?_)
   | (refine s_freeze 12 rfl rfl ?_; refine run_ th rfl ?_))
  · exact .refl _
  · exact absurd rfl hb
  · exact absurd rfl hb
end Go.Sy
