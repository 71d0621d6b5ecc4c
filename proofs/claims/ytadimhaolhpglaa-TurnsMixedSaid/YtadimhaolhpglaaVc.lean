/- The law TurnsPeers. -/
import Derived.Test.YtadimhaolhpglaaBv1
import Derived.Test.YtadimhaolhpglaaBn1
import Derived.Test.YtadimhaolhpglaaDf
set_option linter.unusedSimpArgs false
set_option linter.unusedVariables false
set_option linter.unusedSectionVars false
namespace Go.Sy
open Go.Proofs
set_option maxRecDepth 100000
attribute [local irreducible] SOps Goes DOps EOps

set_option maxHeartbeats 16000000 in
theorem turnsPeers_c (made : List Int) (hbig : made.length * 8 ≤ 140737488355328) : Con Try.prog 6 [] [C1 (intsT made)] (Rv (.bool true)) [] := by
  obtain ⟨hv, hB⟩ := loc_ok made ⟨#[116]⟩
  have hloc : Con Try.prog 21 [[intsT made, .int .i64 0]] [.one (.ptr given 0), C1 (.str ⟨#[116]⟩), C1 .nils] (.v (Ag (locV ⟨#[116]⟩ [] made 0).1.cs)) [diceX made (locV ⟨#[116]⟩ [] made 0).2] := (locx_c ⟨#[116]⟩ [] (by simp) made 0 (Nat.zero_le _)).args (.cons (.one (.refl _)) (.cons (.one (.refl _)) (.cons (.one (.c (.nil 1))) .nil)))
  obtain ⟨q, hq⟩ : ∃ q, q = (locV ⟨#[116]⟩ [] made 0).2 := ⟨_, rfl⟩
  rw [← hq] at hloc
  obtain ⟨a, ha⟩ : ∃ a, a = (locV ⟨#[116]⟩ [] made 0).1 := ⟨_, rfl⟩
  rw [← ha] at hloc hv hB
  have c1 := tpeers_c a hB
  have c8 := treach_c a hB
  rw [reachL, if_pos hv] at c8
  obtain ⟨p, hp⟩ : ∃ p, p = peersL a := ⟨_, rfl⟩
  rw [← hp] at c1
  have hln := loc_len hv
  have hpl := peers_len hv
  rw [← hp] at hpl
  have h00 : (a.turns.map Trn.cs)[0]? = some (a.turns[0]'(by omega)).cs := by rw [List.getElem?_map, List.getElem?_eq_getElem (by omega)]; rfl
  have e00 : trnAt a 0 = a.turns[0]'(by omega) := by unfold trnAt; rw [List.getD_eq_getElem?_getD, Int.toNat_zero, List.getElem?_eq_getElem]; rfl
  obtain ⟨hg, h0, _⟩ := loc_g hv
  have hgl : a.g.length = a.turns.length := by simp [Loc.g]
  have hrl := (reach_ok hg h0).1.len
  refine con_of (c := _) Try.func6 rfl rfl rfl (by decide) fun w M0 H Z => ?_
  repeat' (first
   | refine gc_ rfl ?_
   | (refine g_region ?_; refine run_ th rfl ?_)
   | (refine g_drawC mix rfl rfl ?_; refine drun_ th rfl ?_)
   | (refine g_drawEC mix rfl rfl ?_; refine erun_ th rfl ?_)
   | refine SOps.nil ?_
   | refine DOps.nil ?_
   | refine EOps.nil ?_ rfl rfl
   | (refine s_split rfl rfl (fun hb => ?_) (fun hb => ?_) <;> (try simp only [hbL] at hb) <;> first | (exfalso; omega) | refine run_ th rfl ?_)
   | (refine d_split rfl rfl rfl (fun hb => ?_) (fun hb => ?_) <;> (try simp only [hbL] at hb) <;> first | (exfalso; omega) | refine drun_ th rfl ?_)
   | (refine g_if rfl (fun hb => ?_) (fun hb => ?_) <;> (try simp only [hbL] at hb) <;> (try (exfalso; omega)))
   | (refine s_call first6_c [] rfl rfl rfl rfl rfl rfl rfl rfl rfl rfl ?_; refine run_ th rfl ?_)
   | (refine s_callN (new_c made (by omega)) rfl rfl rfl rfl rfl rfl rfl ?_; refine run_ th rfl ?_)
   | (refine s_call hloc [12] rfl rfl rfl rfl rfl rfl rfl rfl rfl rfl ?_; refine run_ th rfl ?_)
   | (refine s_call c1 [] rfl rfl rfl rfl rfl rfl rfl rfl rfl rfl ?_; refine run_ th rfl ?_)
   | (refine s_call c8 [] rfl rfl rfl rfl rfl rfl rfl rfl rfl rfl ?_; refine run_ th rfl ?_)
   | (refine s_idx th rfl rfl rfl rfl rfl rfl rfl rfl rfl 0 _ rfl h00 ?_; refine run_ th rfl ?_))
  · obtain ⟨pe, re⟩ := peers_end hv (by rw [e00]; assumption)
    rw [← hp] at pe
    rw [pe, re]
    refine g_endL th Try.func6 (.inr ⟨_, rfl⟩) rfl rfl rfl ?_ rfl
    exact .refl _
  · obtain ⟨pe, re⟩ := peers_end hv (by rw [e00]; assumption)
    rw [← hp] at pe
    rw [pe] at hb
    exact absurd rfl hb
  have hk0 : (trnAt a 0).kind ≠ 0 := by rw [e00]; exact hb
  obtain ⟨rw0, hrw⟩ : ∃ r, r = reachG a.g := ⟨_, rfl⟩
  have hrin : ∀ i (h : i < rw0.length), 0 ≤ rw0[i] ∧ rw0[i] < (a.turns.length : Int) := fun i h => by
    subst hrw
    have := reach_pos hg h0 (List.getElem_mem h)
    simpa [Loc.g] using this
  have hrm : ∀ i (h : i < rw0.length), (trnAt a rw0[i]).kind ≠ 0 → (trnAt a rw0[i]).peer ∈ p := fun i h hk => by
    subst hrw
    rw [hp]; exact peers_mem hv (List.getElem_mem h) hk
  rw [← hrw] at hrl ⊢
  refine g_loop1 (fun k : Nat => k ≤ rw0.length)
    (fun k => [(3, .v (.one (.ptr 3 0))), (4, .v (C1 (namesT p))), (5, .v (C1 (intsT rw0))), (6, .v (C1 (.int .i64 (k : Int))))])
    (fun k => [(3, .box [.c (.str a.name), .c (turnsC a.turns)])])
    (fun k => rw0.length - k) 0 (Nat.zero_le _)
    (fun a w h => h.sub (by exact ⟨⟨_, rfl, .refl _⟩, ⟨_, rfl, .refl _⟩, ⟨_, rfl, .refl _⟩, ⟨_, rfl, le_int rfl⟩, trivial⟩) (by exact ⟨⟨_, rfl, .refl _⟩, trivial⟩) rfl rfl rfl) (fun k hk ih => ?_)
  by_cases hlt : k < rw0.length
  · have hx : (rw0.map fun r => [CT.int .i64 r])[k]? = some [.int .i64 rw0[k]] := by simp [hlt]
    obtain ⟨hi0, hi1⟩ := hrin k hlt
    have hyl : rw0[k].toNat < a.turns.length := by omega
    have hy : (a.turns.map Trn.cs)[rw0[k].toNat]? = some (a.turns[rw0[k].toNat]).cs := by simp [hyl]
    have e1 : trnAt a rw0[k] = a.turns[rw0[k].toNat] := by unfold trnAt; rw [List.getD_eq_getElem?_getD, List.getElem?_eq_getElem hyl]; rfl
    have hm := hrm k hlt
    rw [e1] at hm
    have hih := ih (k + 1) hlt (by omega)
    have hh := has_c p (a.turns[rw0[k].toNat]).peer
    repeat' (first
     | refine gc_ rfl ?_
     | (refine g_region ?_; refine run_ th rfl ?_)
     | (refine g_drawC mix rfl rfl ?_; refine drun_ th rfl ?_)
     | (refine g_drawEC mix rfl rfl ?_; refine erun_ th rfl ?_)
     | refine SOps.nil ?_
     | refine DOps.nil ?_
     | refine EOps.nil ?_ rfl rfl
     | (refine s_split rfl rfl (fun hb => ?_) (fun hb => ?_) <;> (try simp only [hbL] at hb) <;> first | (exfalso; omega) | refine run_ th rfl ?_)
     | (refine d_split rfl rfl rfl (fun hb => ?_) (fun hb => ?_) <;> (try simp only [hbL] at hb) <;> first | (exfalso; omega) | refine drun_ th rfl ?_)
     | (refine g_if rfl (fun hb => ?_) (fun hb => ?_) <;> (try simp only [hbL] at hb) <;> (try (exfalso; omega)))
     | (refine d_idx th rfl rfl rfl rfl rfl rfl rfl rfl rfl k _ rfl hx ?_; refine drun_ th rfl ?_)
     | (refine d_idx th rfl rfl rfl rfl rfl rfl rfl rfl rfl rw0[k].toNat _ (by omega) hy ?_; refine drun_ th rfl ?_)
     | (refine e_idx th rfl rfl rfl rfl rfl rfl rfl rfl rfl k _ rfl hx ?_; refine erun_ th rfl ?_)
     | (refine e_idx th rfl rfl rfl rfl rfl rfl rfl rfl rfl rw0[k].toNat _ (by omega) hy ?_; refine erun_ th rfl ?_)
     | (refine s_call hh [] rfl rfl rfl rfl rfl rfl rfl rfl rfl rfl ?_; refine run_ th rfl ?_)
     | (refine s_add rfl rfl rfl rfl rfl rfl (by omega) ?_; refine run_ th rfl ?_))
    · have := hasB_iff.2 (hm (by assumption))
      rw [this] at hb; cases hb
    all_goals exact g_sub (by exact ⟨⟨_, rfl, .refl _⟩, ⟨_, rfl, .refl _⟩, ⟨_, rfl, .refl _⟩, ⟨_, rfl, le_int (by omega)⟩, trivial⟩) (by exact ⟨⟨_, rfl, .refl _⟩, trivial⟩) rfl rfl rfl hih
  have hasc := peers_asc a
  have hnm : ∀ s ∈ p, nameB s = true := fun s hs => by rw [hp] at hs; exact peers_name hv hs
  have hp1 := peers_some hv hk0
  rw [← hp] at hasc hp1
  have hon := onceB_of (asc_nodup hasc)
  have hoc := once_c p
  rw [hon] at hoc
  repeat' (first
   | refine gc_ rfl ?_
   | (refine g_region ?_; refine run_ th rfl ?_)
   | (refine g_drawC mix rfl rfl ?_; refine drun_ th rfl ?_)
   | (refine g_drawEC mix rfl rfl ?_; refine erun_ th rfl ?_)
   | refine SOps.nil ?_
   | refine DOps.nil ?_
   | refine EOps.nil ?_ rfl rfl
   | (refine s_split rfl rfl (fun hb => ?_) (fun hb => ?_) <;> (try simp only [hbL] at hb) <;> first | (exfalso; omega) | refine run_ th rfl ?_)
   | (refine d_split rfl rfl rfl (fun hb => ?_) (fun hb => ?_) <;> (try simp only [hbL] at hb) <;> first | (exfalso; omega) | refine drun_ th rfl ?_)
   | (refine g_if rfl (fun hb => ?_) (fun hb => ?_) <;> (try simp only [hbL] at hb) <;> (try (exfalso; omega))))
  refine g_loop1 (fun k : Nat => k ≤ p.length)
    (fun k => [(4, .v (C1 (namesT p))), (8, .v (C1 (.int .i64 (k : Int))))])
    (fun k => [])
    (fun k => p.length - k) 0 (Nat.zero_le _)
    (fun a w h => h.sub (by exact ⟨⟨_, rfl, .refl _⟩, ⟨_, rfl, le_int rfl⟩, trivial⟩) (by exact trivial) rfl rfl rfl) (fun k hk ih => ?_)
  by_cases hlt : k < p.length
  · have hx : (p.map fun s => [CT.str s])[k]? = some [.str p[k]] := by simp [hlt]
    have hnk := mayR_c p[k]
    rw [hnm _ (List.getElem_mem hlt)] at hnk
    have hih := ih (k + 1) hlt (by omega)
    by_cases hk1 : 0 < k
    · have hy : (p.map fun s => [CT.str s])[k - 1]? = some [.str (p[k - 1]'(by omega))] := by rw [List.getElem?_map, List.getElem?_eq_getElem (by omega)]; rfl
      have hlt2 := List.pairwise_iff_getElem.1 hasc (k - 1) k (by omega) hlt (by omega)
      repeat' (first
       | refine gc_ rfl ?_
       | (refine g_region ?_; refine run_ th rfl ?_)
       | (refine g_drawC mix rfl rfl ?_; refine drun_ th rfl ?_)
       | (refine g_drawEC mix rfl rfl ?_; refine erun_ th rfl ?_)
       | refine SOps.nil ?_
       | refine DOps.nil ?_
       | refine EOps.nil ?_ rfl rfl
       | (refine s_split rfl rfl (fun hb => ?_) (fun hb => ?_) <;> (try simp only [hbL] at hb) <;> first | (exfalso; omega) | refine run_ th rfl ?_)
       | (refine d_split rfl rfl rfl (fun hb => ?_) (fun hb => ?_) <;> (try simp only [hbL] at hb) <;> first | (exfalso; omega) | refine drun_ th rfl ?_)
       | (refine g_if rfl (fun hb => ?_) (fun hb => ?_) <;> (try simp only [hbL] at hb) <;> (try (exfalso; omega)))
       | (refine d_idx th rfl rfl rfl rfl rfl rfl rfl rfl rfl k _ rfl hx ?_; refine drun_ th rfl ?_)
       | (refine d_idx th rfl rfl rfl rfl rfl rfl rfl rfl rfl (k - 1) _ (by omega) hy ?_; refine drun_ th rfl ?_)
       | (refine d_subI rfl rfl rfl rfl rfl rfl (by omega) ?_; refine drun_ th rfl ?_)
       | (refine d_call hnk [] rfl rfl rfl rfl rfl rfl rfl rfl rfl rfl rfl ?_; refine drun_ th rfl ?_)
       | (refine s_add rfl rfl rfl rfl rfl rfl (by omega) ?_; refine run_ th rfl ?_))
      · rw [hlt2] at hb; cases hb
      all_goals exact g_sub (by exact ⟨⟨_, rfl, .refl _⟩, ⟨_, rfl, le_int (by omega)⟩, trivial⟩) (by exact trivial) rfl rfl rfl hih
    · skip
      repeat' (first
       | refine gc_ rfl ?_
       | (refine g_region ?_; refine run_ th rfl ?_)
       | (refine g_drawC mix rfl rfl ?_; refine drun_ th rfl ?_)
       | (refine g_drawEC mix rfl rfl ?_; refine erun_ th rfl ?_)
       | refine SOps.nil ?_
       | refine DOps.nil ?_
       | refine EOps.nil ?_ rfl rfl
       | (refine s_split rfl rfl (fun hb => ?_) (fun hb => ?_) <;> (try simp only [hbL] at hb) <;> first | (exfalso; omega) | refine run_ th rfl ?_)
       | (refine d_split rfl rfl rfl (fun hb => ?_) (fun hb => ?_) <;> (try simp only [hbL] at hb) <;> first | (exfalso; omega) | refine drun_ th rfl ?_)
       | (refine g_if rfl (fun hb => ?_) (fun hb => ?_) <;> (try simp only [hbL] at hb) <;> (try (exfalso; omega)))
       | (refine d_idx th rfl rfl rfl rfl rfl rfl rfl rfl rfl k _ rfl hx ?_; refine drun_ th rfl ?_)
       | (refine d_call hnk [] rfl rfl rfl rfl rfl rfl rfl rfl rfl rfl rfl ?_; refine drun_ th rfl ?_)
       | (refine s_add rfl rfl rfl rfl rfl rfl (by omega) ?_; refine run_ th rfl ?_))
      all_goals exact g_sub (by exact ⟨⟨_, rfl, .refl _⟩, ⟨_, rfl, le_int (by omega)⟩, trivial⟩) (by exact trivial) rfl rfl rfl hih
  · skip
    repeat' (first
     | refine gc_ rfl ?_
     | (refine g_region ?_; refine run_ th rfl ?_)
     | (refine g_drawC mix rfl rfl ?_; refine drun_ th rfl ?_)
     | (refine g_drawEC mix rfl rfl ?_; refine erun_ th rfl ?_)
     | refine SOps.nil ?_
     | refine DOps.nil ?_
     | refine EOps.nil ?_ rfl rfl
     | (refine s_split rfl rfl (fun hb => ?_) (fun hb => ?_) <;> (try simp only [hbL] at hb) <;> first | (exfalso; omega) | refine run_ th rfl ?_)
     | (refine d_split rfl rfl rfl (fun hb => ?_) (fun hb => ?_) <;> (try simp only [hbL] at hb) <;> first | (exfalso; omega) | refine drun_ th rfl ?_)
     | (refine g_if rfl (fun hb => ?_) (fun hb => ?_) <;> (try simp only [hbL] at hb) <;> (try (exfalso; omega)))
     | refine g_endL th Try.func6 (.inr ⟨_, rfl⟩) rfl rfl rfl ?_ rfl
     | (refine s_call hoc [] rfl rfl rfl rfl rfl rfl rfl rfl rfl rfl ?_; refine run_ th rfl ?_))
    all_goals exact .refl _
end Go.Sy
