/- The law MirrorRefuses. -/
import Derived.Test.YtdjocfajcbhmgaaDoorZ31
import Derived.Test.YtdjocfajcbhmgaaDoorEd
set_option linter.unusedSimpArgs false
set_option linter.unusedVariables false
set_option linter.unusedSectionVars false
namespace Go.Sy
open Go.Proofs
set_option maxRecDepth 100000
attribute [local irreducible] SOps Goes DOps EOps GOps
set_option maxHeartbeats 16000000 in
theorem mirrorRefuses_c (made : List Int) (me : ByteArray) (hbig : made.length * 8 ≤ 140737488355328) :
    Con Tryd.prog 4 [] [C1 (intsT made), C1 (.str me)] (Rv (.bool true)) [] := by
  obtain ⟨hv, hB⟩ := loc_ok made ⟨#[116]⟩
  have hloc : Con Tryd.prog 9 [[intsT made, .int .i64 0]] [.one (.ptr given 0), C1 (.str ⟨#[116]⟩), C1 .nils] (.v (Ag (locV ⟨#[116]⟩ [] made 0).1.cs)) [diceX made (locV ⟨#[116]⟩ [] made 0).2] := (locx_c ⟨#[116]⟩ [] (by simp) made 0 (Nat.zero_le _)).args (.cons (.one (.refl _)) (.cons (.one (.refl _)) (.cons (.one (.c (.nil 1))) .nil)))
  obtain ⟨q, hq⟩ : ∃ q, q = (locV ⟨#[116]⟩ [] made 0).2 := ⟨_, rfl⟩
  rw [← hq] at hloc
  obtain ⟨l, ha⟩ : ∃ a, a = (locV ⟨#[116]⟩ [] made 0).1 := ⟨_, rfl⟩
  rw [← ha] at hloc hv hB
  clear ha hq
  have c1 := of_c l hB me
  have c2 := lift_c l hB me
  have c3 := tpeers_c l hB
  have c4 := may_c me
  have c5 := has_c (peersL l) me
  have key : ∃ m e p f, ofE l me = (m, e) ∧ liftE l me = (p, f) ∧ ((nameB me = false ∧ m.turns = [] ∧ p.points = [] ∧ e = 1200 ∧ f = 1200) ∨ (nameB me = true ∧ (decide (1 < (peersL l).length) || hasB (peersL l) me) = true ∧ m.turns = [] ∧ p.points = [] ∧ e = 1201 ∧ f = 1201) ∨ (nameB me = true ∧ (decide (1 < (peersL l).length) || hasB (peersL l) me) = false ∧ e = 0 ∧ (f = 0 ∨ f = 1202))) := by
    have hE : ∀ {c : Int}, c ≠ 0 → peerE l me = (⟨#[]⟩, c) → ofE l me = (noLoc, c) ∧ liftE l me = (noPrt, c) := fun {c} hc hp => by
      unfold ofE liftE
      rw [hp]
      exact ⟨if_neg hc, if_neg hc⟩
    cases hn : nameB me with
    | false =>
      have hp : peerE l me = (⟨#[]⟩, 1200) := by unfold peerE; rw [hn, Bool.and_false]; rfl
      obtain ⟨e1, e2⟩ := hE (by decide) hp
      exact ⟨_, _, _, _, e1, e2, .inl ⟨rfl, rfl, rfl, rfl, rfl⟩⟩
    | true =>
      cases hh : (decide (1 < (peersL l).length) || hasB (peersL l) me) with
      | true =>
        have hp : peerE l me = (⟨#[]⟩, 1201) := by unfold peerE; rw [hn, hv, hh]; rfl
        obtain ⟨e1, e2⟩ := hE (by decide) hp
        exact ⟨_, _, _, _, e1, e2, .inr (.inl ⟨rfl, rfl, rfl, rfl, rfl, rfl⟩)⟩
      | false =>
        have hp : (peerE l me).2 = 0 := by unfold peerE; rw [hn, hv, hh]; rfl
        have e1 : ofE l me = (mirL me l, 0) := by unfold ofE; rw [if_pos hp]
        have e2 : ∃ p f, liftE l me = (p, f) ∧ (f = 0 ∨ f = 1202) := by
          unfold liftE
          rw [if_pos hp]
          split
          · exact ⟨_, _, rfl, .inr rfl⟩
          · exact ⟨_, _, rfl, .inl rfl⟩
        obtain ⟨p, f, e2, hf⟩ := e2
        exact ⟨_, _, p, f, e1, e2, .inr (.inr ⟨rfl, rfl, rfl, hf⟩)⟩
  obtain ⟨m, e, p, f, h1, h2, hk⟩ := key
  rw [h1] at c1
  rw [h2] at c2
  clear h1 h2
  generalize peersL l = P at *
  rcases hk with ⟨hn, hm, hp, rfl, rfl⟩ | ⟨hn, hh, hm, hp, rfl, rfl⟩ | ⟨hn, hh, rfl, hf⟩
  · obtain ⟨mn, mt⟩ := m
    obtain ⟨pn, pr, pp⟩ := p
    simp only at hm hp
    subst hm hp
    rw [hn] at c4
    refine con_of (c := _) Tryd.func4 rfl rfl rfl (by decide) fun w M0 H Z => ?_
    repeat' (first
     | (exfalso; revert hb; simp; done)
     | refine gc_ rfl ?_
     | (refine g_region ?_; refine run_ th rfl ?_)
     | (refine g_drawC mix rfl rfl ?_; refine drun_ th rfl ?_)
     | (refine g_drawEC mix rfl rfl ?_; refine erun_ th rfl ?_)
     | refine SOps.nil ?_
     | refine DOps.nil ?_
     | refine EOps.nil ?_ rfl rfl
     | (refine s_split rfl rfl (fun hb => ?_) (fun hb => ?_) <;> (try simp only [hbL] at hb) <;> first | (exfalso; omega) | refine run_ th rfl ?_)
     | (refine d_split rfl rfl rfl (fun hb => ?_) (fun hb => ?_) <;> (try simp only [hbL] at hb) <;> first | (exfalso; omega) | refine drun_ th rfl ?_)
     | (refine g_if rfl (fun hb => ?_) (fun hb => ?_) <;> (try simp only [hbL] at hb) <;> (try (exfalso; omega)))
     | refine g_endL th Tryd.func4 (.inr ⟨_, rfl⟩) rfl rfl rfl ?_ rfl
     | (refine s_call first12_c [] rfl rfl rfl rfl rfl rfl rfl rfl rfl rfl ?_; refine run_ th rfl ?_)
     | (refine s_callN (new_c made (by omega)) rfl rfl rfl rfl rfl rfl rfl ?_; refine run_ th rfl ?_)
     | (refine s_call hloc [14] rfl rfl rfl rfl rfl rfl rfl rfl rfl rfl ?_; refine run_ th rfl ?_)
     | (refine s_call c1 [] rfl rfl rfl rfl rfl rfl rfl rfl rfl rfl ?_; refine run_ th rfl ?_)
     | (refine s_call c2 [] rfl rfl rfl rfl rfl rfl rfl rfl rfl rfl ?_; refine run_ th rfl ?_)
     | (refine s_call c3 [] rfl rfl rfl rfl rfl rfl rfl rfl rfl rfl ?_; refine run_ th rfl ?_)
     | (refine s_call c4 [] rfl rfl rfl rfl rfl rfl rfl rfl rfl rfl ?_; refine run_ th rfl ?_))
    all_goals first
      | exact .refl _
      | (exfalso; simp at hb; done)
      | exact le_ct (by simp)
  · obtain ⟨mn, mt⟩ := m
    obtain ⟨pn, pr, pp⟩ := p
    simp only at hm hp
    subst hm hp
    rw [hn] at c4
    refine con_of (c := _) Tryd.func4 rfl rfl rfl (by decide) fun w M0 H Z => ?_
    repeat' (first
     | (exfalso; revert hb; simp; done)
     | refine gc_ rfl ?_
     | (refine g_region ?_; refine run_ th rfl ?_)
     | (refine g_drawC mix rfl rfl ?_; refine drun_ th rfl ?_)
     | (refine g_drawEC mix rfl rfl ?_; refine erun_ th rfl ?_)
     | refine SOps.nil ?_
     | refine DOps.nil ?_
     | refine EOps.nil ?_ rfl rfl
     | (refine s_split rfl rfl (fun hb => ?_) (fun hb => ?_) <;> (try simp only [hbL] at hb) <;> first | (exfalso; omega) | refine run_ th rfl ?_)
     | (refine d_split rfl rfl rfl (fun hb => ?_) (fun hb => ?_) <;> (try simp only [hbL] at hb) <;> first | (exfalso; omega) | refine drun_ th rfl ?_)
     | (refine g_if rfl (fun hb => ?_) (fun hb => ?_) <;> (try simp only [hbL] at hb) <;> (try (exfalso; omega)))
     | refine g_endL th Tryd.func4 (.inr ⟨_, rfl⟩) rfl rfl rfl ?_ rfl
     | (refine s_call first12_c [] rfl rfl rfl rfl rfl rfl rfl rfl rfl rfl ?_; refine run_ th rfl ?_)
     | (refine s_callN (new_c made (by omega)) rfl rfl rfl rfl rfl rfl rfl ?_; refine run_ th rfl ?_)
     | (refine s_call hloc [14] rfl rfl rfl rfl rfl rfl rfl rfl rfl rfl ?_; refine run_ th rfl ?_)
     | (refine s_call c1 [] rfl rfl rfl rfl rfl rfl rfl rfl rfl rfl ?_; refine run_ th rfl ?_)
     | (refine s_call c2 [] rfl rfl rfl rfl rfl rfl rfl rfl rfl rfl ?_; refine run_ th rfl ?_)
     | (refine s_call c3 [] rfl rfl rfl rfl rfl rfl rfl rfl rfl rfl ?_; refine run_ th rfl ?_)
     | (refine s_call c4 [] rfl rfl rfl rfl rfl rfl rfl rfl rfl rfl ?_; refine run_ th rfl ?_)
     | (refine s_call c5 [] rfl rfl rfl rfl rfl rfl rfl rfl rfl rfl ?_; refine run_ th rfl ?_))
    all_goals first
      | exact .refl _
      | (exfalso; simp at hb; done)
      | (exfalso; simp_all; omega)
      | exact le_ct (by simp)
  · rw [hn] at c4
    have hP : ¬ ((1 : Int) < (P.length : Int)) ∧ hasB P me = false := by
      simp only [Bool.or_eq_false_iff, decide_eq_false_iff_not] at hh
      exact ⟨by omega, hh.2⟩
    obtain ⟨hP1, hP2⟩ := hP
    rcases hf with rfl | rfl
    all_goals
      refine con_of (c := _) Tryd.func4 rfl rfl rfl (by decide) fun w M0 H Z => ?_
      repeat' (first
       | (exfalso; revert hb; simp; done)
       | refine gc_ rfl ?_
       | (refine g_region ?_; refine run_ th rfl ?_)
       | (refine g_drawC mix rfl rfl ?_; refine drun_ th rfl ?_)
       | (refine g_drawEC mix rfl rfl ?_; refine erun_ th rfl ?_)
       | refine SOps.nil ?_
       | refine DOps.nil ?_
       | refine EOps.nil ?_ rfl rfl
       | (refine s_split rfl rfl (fun hb => ?_) (fun hb => ?_) <;> (try simp only [hbL] at hb) <;> first | (exfalso; omega) | refine run_ th rfl ?_)
       | (refine d_split rfl rfl rfl (fun hb => ?_) (fun hb => ?_) <;> (try simp only [hbL] at hb) <;> first | (exfalso; omega) | refine drun_ th rfl ?_)
       | (refine g_if rfl (fun hb => ?_) (fun hb => ?_) <;> (try simp only [hbL] at hb) <;> (try (exfalso; omega)))
       | refine g_endL th Tryd.func4 (.inr ⟨_, rfl⟩) rfl rfl rfl ?_ rfl
       | (refine s_call first12_c [] rfl rfl rfl rfl rfl rfl rfl rfl rfl rfl ?_; refine run_ th rfl ?_)
       | (refine s_callN (new_c made (by omega)) rfl rfl rfl rfl rfl rfl rfl ?_; refine run_ th rfl ?_)
       | (refine s_call hloc [14] rfl rfl rfl rfl rfl rfl rfl rfl rfl rfl ?_; refine run_ th rfl ?_)
       | (refine s_call c1 [] rfl rfl rfl rfl rfl rfl rfl rfl rfl rfl ?_; refine run_ th rfl ?_)
       | (refine s_call c2 [] rfl rfl rfl rfl rfl rfl rfl rfl rfl rfl ?_; refine run_ th rfl ?_)
       | (refine s_call c3 [] rfl rfl rfl rfl rfl rfl rfl rfl rfl rfl ?_; refine run_ th rfl ?_)
       | (refine s_call c4 [] rfl rfl rfl rfl rfl rfl rfl rfl rfl rfl ?_; refine run_ th rfl ?_)
       | (refine s_call c5 [] rfl rfl rfl rfl rfl rfl rfl rfl rfl rfl ?_; refine run_ th rfl ?_))
      all_goals first
        | exact .refl _
        | (exfalso; exact hP1 hb)
        | (exfalso; rw [hP2] at hb; cases hb; done)
        | (exfalso; simp at hb; done)
        | (exfalso; simp_all; done)
        | exact le_ct (by simp)
end Go.Sy
