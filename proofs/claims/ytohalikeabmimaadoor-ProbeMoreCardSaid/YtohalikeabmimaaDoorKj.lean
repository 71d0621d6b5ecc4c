/- Contracts: ProbeForms. -/
import Derived.Test.YtohalikeabmimaaDoorKi
set_option linter.unusedSimpArgs false
set_option linter.unusedVariables false
set_option linter.unusedSectionVars false
namespace Go.Sy
open Go.Proofs
set_option maxRecDepth 100000
attribute [local irreducible] SOps Goes DOps EOps FOps

def modI (m : Int) (x : Int) : Int := IntKind.i64.wrap ((IntKind.u64.wrap x).tmod m)
theorem modI_in {m : Int} (h0 : 1 ≤ m) (h1 : m ≤ 9223372036854775807) (x : Int) : 0 ≤ modI m x ∧ modI m x < m := by
  have h2 := remU (x := x) h0 h1
  unfold modI
  rw [wrapI_id h2.1 (by omega)]
  exact h2
section
variable {b : Bk} {roles : List ByteArray} {at_ : List Int}
theorem begin_at (hb : bookB b = true) (h1 : 1 ≤ roles.length) (h5 : roles.length ≤ 5) (ho : onceB roles = true) (hl : at_.length = roles.length) (hx : ∀ v ∈ at_, 0 ≤ v ∧ v < (b.nodes.length : Int)) :
    mayS b roles (stg0 roles.length at_) = true ∧ beginO b roles at_ = (stg0 roles.length at_, 0) := by
  have hM : mayS b roles (stg0 roles.length at_) = true := mayS_of hb h1 h5 ho hl (by simp [stg0]) hx (fun m hm => by
    have : m = [] := List.eq_of_mem_replicate hm
    subst this; simp)
  exact ⟨hM, by rw [beginO, if_neg (by omega), if_pos hM]⟩
theorem begin_not {v : Int} (hv : v ∈ at_) (h : ¬ (0 ≤ v ∧ v < (b.nodes.length : Int))) : (beginO b roles at_).2 = 1300 := by
  unfold beginO
  split
  · rfl
  · rw [if_neg]
    intro hM
    simp only [mayS, Bool.and_eq_true, List.all_eq_true] at hM
    have := hM.2.2.2.2.2.2.1 v hv
    simp only [atB, Bool.and_eq_true, decide_eq_true_eq] at this
    exact h this
theorem begin_twice (h : onceB roles = false) : (beginO b roles at_).2 = 1300 := by
  unfold beginO
  split
  · rfl
  · rw [if_neg]
    intro hM
    simp only [mayS, Bool.and_eq_true] at hM
    rw [h] at hM
    exact absurd hM.2.2.2.1 (by decide)
end

set_option maxHeartbeats 16000000 in
theorem probeForms_c (l : List Int) (x most : Int) (hbig : l.length * 8 ≤ 140737488355328) :
    Con Tryd.prog 7 [] [C1 (intsT l), C1 (.int .i64 x), C1 (.int .i64 most)] (Rv (.bool true)) [] := by
  have hm := modI_in (m := 1000) (by omega) (by omega) most
  have h9 := modI_in (m := 9) (by omega) (by omega) x
  have h99 := modI_in (m := 99) (by omega) (by omega) x
  refine con_of (c := _) Tryd.func7 rfl rfl rfl (by decide) fun w M0 H Z => ?_
  repeat' (first
   | (refine g_freeze 32 rfl rfl ?_; refine g_leT 9 (.v (C1 (namesT abP))) rfl (.v (.one (.c (.nn true 1 _)))) ?_)
   | refine gc_ rfl ?_
   | (refine g_region ?_; refine run_ th rfl ?_)
   | (refine g_drawC mix rfl rfl ?_; refine drun_ th rfl ?_)
   | (refine g_drawEC mix rfl rfl ?_; refine erun_ th rfl ?_)
   | refine SOps.nil ?_
   | refine DOps.nil ?_
   | refine EOps.nil ?_ rfl rfl
   | (refine s_split rfl rfl (fun hb => ?_) (fun hb => ?_) <;> (try simp only [hbL] at hb) <;> first | (exfalso; omega) | refine run_ th rfl ?_)
   | (refine d_split rfl rfl rfl (fun hb => ?_) (fun hb => ?_) <;> (try simp only [hbL] at hb) <;> first | (exfalso; omega) | refine drun_ th rfl ?_)
   | (refine g_if rfl (fun hb => ?_) (fun hb => ?_) <;> (try simp only [hbL] at hb) <;> (try (exfalso; omega)))
   | (refine s_call first14_c [] rfl rfl rfl rfl rfl rfl rfl rfl rfl rfl ?_; refine run_ th rfl ?_)
   | (refine s_callQ ((made14_c l [] 2 (by omega) hbig).args (args' := [C1 (intsT l), .one (.c .nils), C1 (.int .i64 2)]) (.cons (.refl _) (.cons (.one (.c (.nil 1))) (.cons (.refl _) .nil)))) [] rfl rfl rfl rfl rfl rfl rfl rfl rfl (fun res hr => by obtain ⟨b, at_, _, _, _, _, _, rfl⟩ := hr; rfl) (fun res hr => ?_); obtain ⟨b, at_, hb1, hb2, hb3, hal, har, rfl⟩ := hr; refine run_ th rfl ?_)
   | (refine s_rem rfl rfl rfl rfl rfl rfl (by decide) ?_; refine run_ th rfl ?_))
  obtain ⟨hMb, hbe⟩ := begin_at (roles := abP) hb1 (by decide) (by decide) (by decide) hal har
  have hbn : (b.nodes.length : Int) ≤ 8 := by omega
  have hatb : at_.length * 8 ≤ 140737488355328 := by rw [hal]; decide
  change 0 ≤ IntKind.i64.wrap ((IntKind.u64.wrap most).tmod 1000) ∧ IntKind.i64.wrap ((IntKind.u64.wrap most).tmod 1000) < 1000 at hm
  change 0 ≤ IntKind.i64.wrap ((IntKind.u64.wrap x).tmod 9) ∧ IntKind.i64.wrap ((IntKind.u64.wrap x).tmod 9) < 9 at h9
  change 0 ≤ IntKind.i64.wrap ((IntKind.u64.wrap x).tmod 99) ∧ IntKind.i64.wrap ((IntKind.u64.wrap x).tmod 99) < 99 at h99
  generalize hkm : IntKind.i64.wrap ((IntKind.u64.wrap most).tmod 1000) = km at hm
  generalize hk9 : IntKind.i64.wrap ((IntKind.u64.wrap x).tmod 9) = k9 at h9
  generalize hk99 : IntKind.i64.wrap ((IntKind.u64.wrap x).tmod 99) = k99 at h99
  have hs1 := search_c b abP at_ (0 - km) (by omega) hatb
  rw [show searchO b abP at_ (0 - km) = (noRep, 1400) by rw [searchO, if_pos (.inr (.inl (by omega)))]] at hs1
  have hs2 := search_c b abP at_ (4001 - (0 - km)) (by omega) hatb
  rw [show searchO b abP at_ (4001 - (0 - km)) = (noRep, 1400) by rw [searchO, if_pos (.inr (.inr (by omega)))]] at hs2
  have hs3 := search_c b abP [0, ((b.nodes.map Nd.cs).length : Int) + k99] 5 (by omega) (by simp)
  rw [show searchO b abP [0, ((b.nodes.map Nd.cs).length : Int) + k99] 5 = (noRep, 1400) by
    rw [searchO, if_pos (.inl (by rw [begin_not (v := ((b.nodes.map Nd.cs).length : Int) + k99) (by simp) (by rw [List.length_map]; omega)]; decide))]] at hs3
  have hp1 := play_c b abP at_ [-1 - k9] hatb
  rw [show playO b abP at_ [-1 - k9] = (⟨[], []⟩, 1401) by rw [playO, hbe, if_neg (by simp)]; simp [playS, show -1 - k9 < 0 by omega]] at hp1
  have hp2 := play_c b [⟨#[97]⟩, ⟨#[97]⟩] at_ [] hatb
  rw [show playO b [⟨#[97]⟩, ⟨#[97]⟩] at_ [] = (⟨[], []⟩, 1400) by rw [playO, if_pos (by rw [begin_twice (by decide)]; decide)]] at hp2
  have hp3 := play_c b abP at_ [] hatb
  rw [show playO b abP at_ [] = (stg0 abP.length at_, 0) by rw [playO, hbe, if_neg (by simp)]; rfl] at hp3
  have hbg := begin_c b abP at_ hatb
  rw [hbe] at hbg
  have hsm := same_c (stg0 abP.length at_) (stg0 abP.length at_)
  rw [show sameS (stg0 abP.length at_) (stg0 abP.length at_) = true by simp [sameS]] at hsm
  have hp2 := hp2.args (args' := [Ag b.cs, C1 (namesT [⟨#[97]⟩, ⟨#[97]⟩]), C1 (intsT at_), .one (.c .nils)]) (.cons (.refl _) (.cons (.refl _) (.cons (.refl _) (.cons (.one (.c (.nil 1))) .nil))))
  have hp3 := hp3.args (args' := [Ag b.cs, C1 (namesT abP), C1 (intsT at_), .one (.c .nils)]) (.cons (.refl _) (.cons (.refl _) (.cons (.refl _) (.cons (.one (.c (.nil 1))) .nil))))
  generalize stg0 abP.length at_ = s0 at *
  refine s_neg rfl rfl rfl rfl rfl (by omega) ?_
  refine run_ th rfl ?_
  repeat' (first
   | refine gc_ rfl ?_
   | (refine g_region ?_; refine run_ th rfl ?_)
   | (refine g_drawC mix rfl rfl ?_; refine drun_ th rfl ?_)
   | (refine g_drawEC mix rfl rfl ?_; refine erun_ th rfl ?_)
   | refine SOps.nil ?_
   | refine DOps.nil ?_
   | refine EOps.nil ?_ rfl rfl
   | (refine s_split rfl rfl (fun hb => ?_) (fun hb => ?_) <;> (try simp only [hbL] at hb) <;> first | (exfalso; omega) | refine run_ th rfl ?_)
   | (refine d_split rfl rfl rfl (fun hb => ?_) (fun hb => ?_) <;> (try simp only [hbL] at hb) <;> first | (exfalso; omega) | refine drun_ th rfl ?_)
   | (refine g_if rfl (fun hb => ?_) (fun hb => ?_) <;> (try simp only [hbL] at hb) <;> (try (exfalso; omega)))
   | (refine s_call hs1 [] rfl rfl rfl rfl rfl rfl rfl rfl rfl rfl ?_; refine run_ th rfl ?_)
   | (refine s_call hs2 [] rfl rfl rfl rfl rfl rfl rfl rfl rfl rfl ?_; refine run_ th rfl ?_)
   | (rw [hk9]; refine s_subI rfl rfl rfl rfl rfl rfl (by omega) ?_; refine run_ th rfl ?_)
   | (refine s_subI rfl rfl rfl rfl rfl rfl (by omega) ?_; refine run_ th rfl ?_)
   | (rw [hk99]; refine s_add rfl rfl rfl rfl rfl rfl (by rw [List.length_map]; omega) ?_; refine run_ th rfl ?_)
   | (refine s_freeze 66 rfl rfl ?_; refine s_leT 66 (.v (C1 (intsT [0, ((b.nodes.map Nd.cs).length : Int) + k99]))) rfl (.v (.one (.c (.nn true 1 _)))) ?_; refine s_call hs3 [] rfl rfl rfl rfl rfl rfl rfl rfl rfl rfl ?_; refine run_ th rfl ?_)
   | (refine s_freeze 79 rfl rfl ?_; refine s_leT 79 (.v (C1 (intsT [-1 - k9]))) rfl (.v (.one (.c (.nn true 1 _)))) ?_; refine s_call hp1 [] rfl rfl rfl rfl rfl rfl rfl rfl rfl rfl ?_; refine run_ th rfl ?_)
   | (refine s_freeze 85 rfl rfl ?_; refine s_leT 85 (.v (C1 (namesT [⟨#[97]⟩, ⟨#[97]⟩]))) rfl (.v (.one (.c (.nn true 1 _)))) ?_; refine s_call hp2 [] rfl rfl rfl rfl rfl rfl rfl rfl rfl rfl ?_; refine run_ th rfl ?_)
   | (refine s_call hp3 [] rfl rfl rfl rfl rfl rfl rfl rfl rfl rfl ?_; refine run_ th rfl ?_)
   | (refine s_call hbg [] rfl rfl rfl rfl rfl rfl rfl rfl rfl rfl ?_; refine run_ th rfl ?_)
   | (refine s_call hsm [] rfl rfl rfl rfl rfl rfl rfl rfl rfl rfl ?_; refine run_ th rfl ?_)
   | (refine s_rem rfl rfl rfl rfl rfl rfl (by decide) ?_; refine run_ th rfl ?_))
  all_goals first
    | exact g_endL th Tryd.func7 (.inr ⟨_, rfl⟩) rfl rfl rfl (.refl _) rfl
    | exact g_endL th Tryd.func7 (.inr ⟨_, rfl⟩) rfl rfl rfl (.v (.one (.lit true))) rfl
    | (exfalso; exact hb rfl)
    | (exfalso; revert hb; simp; done)
end Go.Sy
