/- Contracts: reparteemake.Local, its turns as a row of one's own; layer 12's pair. -/
import Derived.Test.YtdjocfajcbhmgaaDoorBd1
import Derived.Test.YtdjocfajcbhmgaaDoorBu1
import Derived.Test.YtdjocfajcbhmgaaDoorZ11
import Derived.Test.YtdjocfajcbhmgaaDoorXb
set_option linter.unusedSimpArgs false
set_option linter.unusedVariables false
set_option linter.unusedSectionVars false
namespace Go.Sy
open Go.Proofs
set_option maxRecDepth 100000
attribute [local irreducible] SOps Goes DOps EOps GOps
end Go.Sy

/- Layer 12's first; the law MirrorTwice. -/
set_option linter.unusedSimpArgs false
set_option linter.unusedVariables false
set_option linter.unusedSectionVars false
namespace Go.Sy
open Go.Proofs
set_option maxRecDepth 100000
attribute [local irreducible] SOps Goes DOps EOps
def fst12 : Loc := ⟨⟨#[116]⟩, [⟨1, ⟨#[98]⟩, [⟨⟨#[120]⟩, 0, ⟨#[]⟩, 1⟩]⟩, ⟨0, ⟨#[]⟩, []⟩]⟩
def fst12m : Loc := ⟨⟨#[116]⟩, [⟨2, ⟨#[97]⟩, [⟨⟨#[120]⟩, 0, ⟨#[]⟩, 1⟩]⟩, ⟨0, ⟨#[]⟩, []⟩]⟩
theorem fst12_ok : locB fst12 = true := by decide
theorem fst12_big : LocBig fst12 := by
  intro t ht a ha
  simp only [fst12, List.mem_cons, List.not_mem_nil, or_false] at ht
  rcases ht with rfl | rfl
  · simp only [List.mem_cons, List.not_mem_nil, or_false] at ha; subst ha; exact Nat.zero_le _
  · cases ha
theorem fst12_one : OnePeer ⟨#[98]⟩ fst12 := by
  intro t ht hk
  simp only [fst12, List.mem_cons, List.not_mem_nil, or_false] at ht
  rcases ht with rfl | rfl
  · rfl
  · exact absurd rfl hk
theorem fst12_peers : peersL fst12 = [⟨#[98]⟩] := by
  rcases one_short fst12_one with h | h
  · have := peers_some fst12_ok (by decide)
    rw [h] at this; simp at this
  · exact h
theorem fst12_a : ofE fst12 ⟨#[97]⟩ = (fst12m, 0) := by
  rw [(one_ok fst12_one fst12_ok (by decide) (by decide)).2]
  exact congrArg (fun t => (Loc.mk ⟨#[116]⟩ t, (0 : Int))) (show (mirL ⟨#[97]⟩ fst12).turns = fst12m.turns by decide +kernel)
theorem fst12_b : ofE fst12 ⟨#[98]⟩ = (⟨⟨#[]⟩, []⟩, 1201) := by
  have h : peerE fst12 ⟨#[98]⟩ = (⟨#[]⟩, 1201) := by
    unfold peerE
    rw [fst12_ok, fst12_peers]
    decide
  unfold ofE
  rw [h]; rfl
set_option maxHeartbeats 4000000 in
theorem first12_c : Con Tryd.prog 8 [] [] (Rv (.bool true)) [] := by
  have c1 := of_c fst12 fst12_big ⟨#[97]⟩
  have c2 := of_c fst12 fst12_big ⟨#[98]⟩
  rw [fst12_a] at c1
  rw [fst12_b] at c2
  have hx : (fst12m.turns.map Trn.cs)[0]? = some [.int .i64 2, .str ⟨#[97]⟩, armsC [⟨⟨#[120]⟩, 0, ⟨#[]⟩, 1⟩]] := rfl
  refine con_of (c := _) Tryd.func8 rfl rfl rfl (by decide) fun w M0 H Z => ?_
  repeat' (first
   | refine gc_ rfl ?_
   | (refine g_region ?_; refine run_ th rfl ?_)
   | (refine g_drawC mix rfl rfl ?_; refine drun_ th rfl ?_)
   | (refine g_drawEC mix rfl rfl ?_; refine erun_ th rfl ?_)
   | refine SOps.nil ?_
   | refine DOps.nil ?_
   | refine EOps.nil ?_ rfl rfl
   | (refine s_split rfl rfl (fun hb => ?_) (fun hb => ?_) <;> (try simp only [hbL] at hb) <;> first | (exfalso; omega) | refine run_ th rfl ?_)
   | (refine d_split rfl rfl rfl (fun hb => ?_) (fun hb => ?_) <;> (try simp only [hbL] at hb) <;> first | (exfalso; omega) | refine drun_ th rfl ?_)
   | (refine g_if rfl (fun hb => ?_) (fun hb => ?_) <;> (try simp only [hbL] at hb) <;> (try (exfalso; omega)))
   | (refine s_freeze 7 rfl rfl ?_; refine run_ th rfl ?_)
   | (refine s_freeze 10 rfl rfl ?_; refine run_ th rfl ?_)
   | (refine s_leT 13 (.v (Ag [.str ⟨#[116]⟩, .slice true 3 (fst12.turns.map Trn.cs)])) rfl (.v (.agg (.cons (.refl _) (.cons (.c (le_deep (.cons (.cons (.refl _) (.cons (.refl _) (.cons (.nn true 4 _) .nil))) (.cons (.cons (.refl _) (.cons (.refl _) (.cons (.nil 4) .nil))) .nil)))) .nil)))) ?_; refine s_leT 13 (.v (Ag fst12.cs)) rfl (.v (.agg (.cons (.refl _) (.cons (.c (.nn true 3 _)) .nil)))) ?_; refine s_call c1 [] rfl rfl rfl rfl rfl rfl rfl rfl rfl rfl ?_; refine run_ th rfl ?_)
   | (refine s_leT 18 (.v (Ag [.str ⟨#[116]⟩, .slice true 3 (fst12.turns.map Trn.cs)])) rfl (.v (.agg (.cons (.refl _) (.cons (.c (le_deep (.cons (.cons (.refl _) (.cons (.refl _) (.cons (.nn true 4 _) .nil))) (.cons (.cons (.refl _) (.cons (.refl _) (.cons (.nil 4) .nil))) .nil)))) .nil)))) ?_; refine s_leT 18 (.v (Ag fst12.cs)) rfl (.v (.agg (.cons (.refl _) (.cons (.c (.nn true 3 _)) .nil)))) ?_; refine s_call c2 [] rfl rfl rfl rfl rfl rfl rfl rfl rfl rfl ?_; refine run_ th rfl ?_)
   | (refine s_idx th rfl rfl rfl rfl rfl rfl rfl rfl rfl 0 _ rfl hx ?_; refine run_ th rfl ?_))
  all_goals first
    | (exfalso; revert hb; simp [fst12m]; done)
    | (refine g_endL th Tryd.func8 (.inr ⟨_, rfl⟩) rfl rfl rfl ?_ rfl
       first | exact .refl _ | exact le_ct (by simp [fst12m]))
end Go.Sy
