/- Contracts: names.Fresh of one name, mirror.Lift. -/
import Derived.Test.YtdjocfajcbhmgaaDoorZ28
import Derived.Test.YtdjocfajcbhmgaaDoorXb
import Derived.Test.YtdjocfajcbhmgaaDoorJc
set_option linter.unusedSimpArgs false
set_option linter.unusedVariables false
set_option linter.unusedSectionVars false
namespace Go.Sy
open Go.Proofs
set_option maxRecDepth 100000
attribute [local irreducible] SOps Goes DOps EOps
theorem fresh_no {me : ByteArray} (h : me ≠ nmPeer) : hasB [me] nmPeer = false := by
  cases hb : hasB [me] nmPeer with
  | false => rfl
  | true => exact absurd (List.mem_singleton.1 (hasB_iff.1 hb)).symm h
set_option maxHeartbeats 4000000 in
theorem fresh1_c (me : ByteArray) : Con Tryd.prog 30 [] [C1 (namesT [me]), C1 (.str nmPeer)] (Rv (.str (freshV me))) [] := by
  by_cases hm : me = nmPeer
  · subst hm
    have c1 := has_c [nmPeer] nmPeer
    have c2 := has_c [nmPeer] (nmPeer ++ ⟨#[50]⟩)
    have ci := itoaJ_i 2 (by omega) (by omega)
    rw [show hasB [nmPeer] nmPeer = true by decide] at c1
    rw [show hasB [nmPeer] (nmPeer ++ ⟨#[50]⟩) = false by decide] at c2
    rw [show itJ 2 = ⟨#[50]⟩ by decide] at ci
    rw [show freshV nmPeer = nmPeer2 from if_pos rfl]
    refine con_of (c := _) Tryd.func30 rfl rfl rfl (by decide) fun w M0 H Z => ?_
    repeat' (first
     | refine gc_ rfl ?_
     | (refine g_region ?_; refine run_ th rfl ?_)
     | (refine g_drawC mix rfl rfl ?_; refine drun_ th rfl ?_)
     | (refine g_drawEC mix rfl rfl ?_; refine erun_ th rfl ?_)
     | refine SOps.nil ?_
     | refine DOps.nil ?_
     | refine EOps.nil ?_ rfl rfl
     | (refine s_split rfl rfl (fun hb => ?_) (fun hb => ?_) <;> (try simp only [hbL] at hb) <;> first | (exfalso; omega) | refine run_ th rfl ?_)
     | (refine d_split rfl rfl rfl (fun hb => ?_) (fun hb => ?_) <;> (try simp only [hbL] at hb) <;> first | (exfalso; omega) | refine drun_ th rfl ?_)
     | (refine g_if rfl (fun hb => ?_) (fun hb => ?_) <;> (try simp only [hbL] at hb) <;> (try (exfalso; omega)))
     | (refine s_call c1 [] rfl rfl rfl rfl rfl rfl rfl rfl rfl rfl ?_; refine run_ th rfl ?_))
    refine g_loop1 (fun k : Nat => k = 0)
      (fun _ => [(0, .v (C1 (namesT [nmPeer]))), (0 + 1, .v (C1 (.str nmPeer))), (5, .v (C1 (.int .i64 2)))])
      (fun _ => []) (fun k => k) 0 rfl
      (fun a w h => h.sub (by exact ⟨⟨_, rfl, .refl _⟩, ⟨_, rfl, .refl _⟩, ⟨_, rfl, .refl _⟩, trivial⟩) (by exact trivial) rfl rfl rfl) (fun k hk ih => ?_)
    clear ih
    repeat' (first
     | refine gc_ rfl ?_
     | (refine g_region ?_; refine run_ th rfl ?_)
     | (refine g_drawC mix rfl rfl ?_; refine drun_ th rfl ?_)
     | (refine g_drawEC mix rfl rfl ?_; refine erun_ th rfl ?_)
     | refine SOps.nil ?_
     | refine DOps.nil ?_
     | refine EOps.nil ?_ rfl rfl
     | (refine s_split rfl rfl (fun hb => ?_) (fun hb => ?_) <;> (try simp only [hbL] at hb) <;> first | (exfalso; omega) | refine run_ th rfl ?_)
     | (refine d_split rfl rfl rfl (fun hb => ?_) (fun hb => ?_) <;> (try simp only [hbL] at hb) <;> first | (exfalso; omega) | refine drun_ th rfl ?_)
     | (refine g_if rfl (fun hb => ?_) (fun hb => ?_) <;> (try simp only [hbL] at hb) <;> (try (exfalso; omega)))
     | (refine s_call ci [] rfl rfl rfl rfl rfl rfl rfl rfl rfl rfl ?_; refine run_ th rfl ?_)
     | (refine s_subI rfl rfl rfl rfl rfl rfl (by decide) ?_; refine run_ th rfl ?_)
     | (refine s_cat rfl rfl rfl rfl rfl rfl (by decide) ?_; refine run_ th rfl ?_)
     | (refine s_call c2 [] rfl rfl rfl rfl rfl rfl rfl rfl rfl rfl ?_; refine run_ th rfl ?_))
    all_goals first
      | (exfalso; revert hb; decide)
      | (refine g_endL th Tryd.func30 (.inr ⟨_, rfl⟩) rfl rfl rfl ?_ rfl
         exact le_ct (congrArg CT.str (show nmPeer ++ (⟨#[50]⟩ : ByteArray) = nmPeer2 by decide)))
  · have c1 := has_c [me] nmPeer
    rw [fresh_no hm] at c1
    rw [show freshV me = nmPeer from if_neg hm]
    refine con_of (c := _) Tryd.func30 rfl rfl rfl (by decide) fun w M0 H Z => ?_
    repeat' (first
     | refine gc_ rfl ?_
     | (refine g_region ?_; refine run_ th rfl ?_)
     | (refine g_drawC mix rfl rfl ?_; refine drun_ th rfl ?_)
     | (refine g_drawEC mix rfl rfl ?_; refine erun_ th rfl ?_)
     | refine SOps.nil ?_
     | refine DOps.nil ?_
     | refine EOps.nil ?_ rfl rfl
     | (refine s_split rfl rfl (fun hb => ?_) (fun hb => ?_) <;> (try simp only [hbL] at hb) <;> first | (exfalso; omega) | refine run_ th rfl ?_)
     | (refine d_split rfl rfl rfl (fun hb => ?_) (fun hb => ?_) <;> (try simp only [hbL] at hb) <;> first | (exfalso; omega) | refine drun_ th rfl ?_)
     | (refine g_if rfl (fun hb => ?_) (fun hb => ?_) <;> (try simp only [hbL] at hb) <;> (try (exfalso; omega)))
     | (refine s_call c1 [] rfl rfl rfl rfl rfl rfl rfl rfl rfl rfl ?_; refine run_ th rfl ?_))
    all_goals first
      | (exfalso; revert hb; decide)
      | (refine g_endL th Tryd.func30 (.inr ⟨_, rfl⟩) rfl rfl rfl ?_ rfl
         exact .refl _)
theorem liftT_1 {me q : ByteArray} {t : Trn} (h : t.kind = 1) : liftT me q t = ⟨me, q, t.arms⟩ := if_pos h
theorem liftT_2 {me q : ByteArray} {t : Trn} (h1 : ¬ t.kind = 1) (h : t.kind = 2) : liftT me q t = ⟨q, me, t.arms⟩ := by unfold liftT; rw [if_neg h1, if_pos h]
theorem liftT_0 {me q : ByteArray} {t : Trn} (h1 : ¬ t.kind = 1) (h : ¬ t.kind = 2) : liftT me q t = noPnt := by unfold liftT; rw [if_neg h1, if_neg h]
theorem lift1_c (t : Trn) (me q : ByteArray) : Con Tryd.prog 32 [[.str me], [.str q]] [Ag t.cs, .one (.ptr given 0), .one (.ptr (given + 1) 0)] (.v (Ag (liftT me q t).cs)) [[.str me], [.str q]] := by
  refine con_of (c := _) Tryd.func32 rfl rfl rfl (by decide) fun w M0 H Z => ?_
  repeat' (first
   | refine gc_ rfl ?_
   | (refine g_region ?_; refine run_ th rfl ?_)
   | (refine g_drawC mix rfl rfl ?_; refine drun_ th rfl ?_)
   | (refine g_drawEC mix rfl rfl ?_; refine erun_ th rfl ?_)
   | refine SOps.nil ?_
   | refine DOps.nil ?_
   | refine EOps.nil ?_ rfl rfl
   | (refine s_split rfl rfl (fun hb => ?_) (fun hb => ?_) <;> (try simp only [hbL] at hb) <;> first | (exfalso; omega) | refine run_ th rfl ?_)
   | (refine d_split rfl rfl rfl (fun hb => ?_) (fun hb => ?_) <;> (try simp only [hbL] at hb) <;> first | (exfalso; omega) | refine drun_ th rfl ?_)
   | (refine g_if rfl (fun hb => ?_) (fun hb => ?_) <;> (try simp only [hbL] at hb) <;> (try (exfalso; omega)))
   | refine g_endL th Tryd.func32 (.inr ⟨_, rfl⟩) rfl rfl rfl ?_ rfl)
  all_goals first
    | (rw [liftT_1 (by assumption)]; exact .refl _)
    | (rw [liftT_2 (by assumption) (by assumption)]; exact .refl _)
    | (rw [liftT_0 (by assumption) (by assumption)]; exact .v (.agg (.cons (.refl _) (.cons (.refl _) (.cons (.c (.nil 4)) .nil)))))
set_option maxHeartbeats 4000000 in
theorem eachP_c (h : Trn → Pnt) (l : List Trn) (hl : l.length ≤ 40) (g : Nat) (c0 c1 : CT)
    (hc : ∀ e : Trn, Con Tryd.prog g [[c0], [c1]] [Ag e.cs, .one (.ptr given 0), .one (.ptr (given + 1) 0)] (.v (Ag (h e).cs)) [[c0], [c1]]) :
    Con Tryd.prog 31 [[c0], [c1]] [C1 (turnsC l), .one (.clo g [given, given + 1])] (Rv (pointsC (l.map h))) [[c0], [c1]] := by
  refine con_of (c := _) Tryd.func31 rfl rfl rfl (by decide) fun w M0 H Z => ?_
  repeat' (first
   | refine gc_ rfl ?_
   | (refine g_region ?_; refine run_ th rfl ?_)
   | (refine g_drawC mix rfl rfl ?_; refine drun_ th rfl ?_)
   | (refine g_drawEC mix rfl rfl ?_; refine erun_ th rfl ?_)
   | refine SOps.nil ?_
   | refine DOps.nil ?_
   | refine EOps.nil ?_ rfl rfl
   | (refine s_split rfl rfl (fun hb => ?_) (fun hb => ?_) <;> (try simp only [hbL] at hb) <;> first | (exfalso; omega) | refine run_ th rfl ?_)
   | (refine d_split rfl rfl rfl (fun hb => ?_) (fun hb => ?_) <;> (try simp only [hbL] at hb) <;> first | (exfalso; omega) | refine drun_ th rfl ?_)
   | (refine g_if rfl (fun hb => ?_) (fun hb => ?_) <;> (try simp only [hbL] at hb) <;> (try (exfalso; omega))))
  refine g_adopt 5 200 30 3 rfl rfl rfl ?_
  refine g_loop1 (fun k : Nat => k ≤ l.length)
    (fun k => [(1, .v (.one (.clo g [given, given + 1]))), (5, .v (.one (.own 200))), (8, .v (C1 (turnsC l))), (9, .v (C1 (.int .i64 (l.length : Int)))), (10, .v (C1 (.int .i64 (k : Int))))])
    (fun k => [(given, .box [.c c0]), (given + 1, .box [.c c1]), (200, .arr false 30 3 (((l.take k).map h).map Pnt.cs))]) (fun k => l.length - k) 0 (Nat.zero_le _)
    (fun a w h => h.sub (by exact ⟨⟨_, rfl, .refl _⟩, ⟨_, rfl, .refl _⟩, ⟨_, rfl, .refl _⟩, ⟨_, rfl, le_int (by simp)⟩, ⟨_, rfl, le_int rfl⟩, trivial⟩) (by exact ⟨⟨_, rfl, .refl _⟩, ⟨_, rfl, .refl _⟩, ⟨_, rfl, le_arr rfl⟩, trivial⟩) rfl rfl rfl) (fun k hk ih => ?_)
  by_cases hlt : k < l.length
  · have hx : (l.map Trn.cs)[k]? = some (l[k]).cs := by simp [hlt]
    have hsn : ((l.take (k + 1)).map h).map Pnt.cs = ((l.take k).map h).map Pnt.cs ++ [(h l[k]).cs] := by
      rw [List.take_succ_eq_append_getElem hlt, List.map_append, List.map_append]; rfl
    have htk : (l.take k).length = k := by simp; omega
    have hih := ih (k + 1) hlt (by omega)
    rw [hsn] at hih
    have hck := hc l[k]
    generalize h l[k] = s at hck hih
    repeat' (first
     | refine gc_ rfl ?_
     | (refine g_region ?_; refine run_ th rfl ?_)
     | (refine g_drawC mix rfl rfl ?_; refine drun_ th rfl ?_)
     | (refine g_drawEC mix rfl rfl ?_; refine erun_ th rfl ?_)
     | refine SOps.nil ?_
     | refine DOps.nil ?_
     | refine EOps.nil ?_ rfl rfl
     | (refine s_split rfl rfl (fun hb => ?_) (fun hb => ?_) <;> (try simp only [hbL] at hb) <;> first | (exfalso; omega) | refine run_ th rfl ?_)
     | (refine d_split rfl rfl rfl (fun hb => ?_) (fun hb => ?_) <;> (try simp only [hbL] at hb) <;> first | (exfalso; omega) | refine drun_ th rfl ?_)
     | (refine g_if rfl (fun hb => ?_) (fun hb => ?_) <;> (try simp only [hbL] at hb) <;> (try (exfalso; omega)))
     | (refine s_idx th rfl rfl rfl rfl rfl rfl rfl rfl rfl k _ rfl hx ?_; refine run_ th rfl ?_)
     | (refine s_clo hck [given, given + 1] rfl rfl rfl rfl rfl rfl rfl rfl rfl rfl rfl rfl ?_; refine run_ th rfl ?_)
     | (refine s_append th rfl rfl rfl rfl rfl rfl rfl rfl rfl rfl rfl rfl rfl rfl rfl (by constructor <;> simp [htk] <;> omega) ?_; refine run_ th rfl ?_)
     | (refine s_add rfl rfl rfl rfl rfl rfl (by omega) ?_; refine run_ th rfl ?_))
    all_goals exact g_sub (by exact ⟨⟨_, rfl, .refl _⟩, ⟨_, rfl, .refl _⟩, ⟨_, rfl, .refl _⟩, ⟨_, rfl, .refl _⟩, ⟨_, rfl, le_int (by omega)⟩, trivial⟩) (by exact ⟨⟨_, rfl, .refl _⟩, ⟨_, rfl, .refl _⟩, ⟨_, rfl, .refl _⟩, trivial⟩) rfl rfl rfl hih
  · rw [List.take_of_length_le (by omega)]
    repeat' (first
     | refine gc_ rfl ?_
     | (refine g_region ?_; refine run_ th rfl ?_)
     | (refine g_drawC mix rfl rfl ?_; refine drun_ th rfl ?_)
     | (refine g_drawEC mix rfl rfl ?_; refine erun_ th rfl ?_)
     | refine SOps.nil ?_
     | refine DOps.nil ?_
     | refine EOps.nil ?_ rfl rfl
     | (refine s_split rfl rfl (fun hb => ?_) (fun hb => ?_) <;> (try simp only [hbL] at hb) <;> first | (exfalso; omega) | refine run_ th rfl ?_)
     | (refine d_split rfl rfl rfl (fun hb => ?_) (fun hb => ?_) <;> (try simp only [hbL] at hb) <;> first | (exfalso; omega) | refine drun_ th rfl ?_)
     | (refine g_if rfl (fun hb => ?_) (fun hb => ?_) <;> (try simp only [hbL] at hb) <;> (try (exfalso; omega))))
    refine g_freeze 200 rfl rfl ?_
    refine g_endL th Tryd.func31 (.inr ⟨_, rfl⟩) rfl rfl rfl ?_ rfl
    exact .refl _
def noPrt : Prt := ⟨⟨#[]⟩, [], []⟩
def otherV (l : Loc) (me : ByteArray) : ByteArray := if (peerE l me).1 = ⟨#[]⟩ then freshV me else (peerE l me).1
def liftE (l : Loc) (me : ByteArray) : Prt × Int :=
  if (peerE l me).2 = 0 then (if 24 < (trimT l).turns.length then (noPrt, 1202) else (liftP l me (otherV l me), 0)) else (noPrt, (peerE l me).2)
theorem lift_big {l : Loc} (h : LocBig l) (me q : ByteArray) : PrtBig (liftP l me q) := fun x hx a ha => by
  obtain ⟨t, ht, rfl⟩ := List.mem_map.1 (show x ∈ List.map (liftT me q) (trimT l).turns from hx)
  refine trim_big h t ht a ?_
  unfold liftT at ha
  split at ha
  · exact ha
  · split at ha
    · exact ha
    · cases ha
theorem fresh_ok (me : ByteArray) : nameB (freshV me) = true ∧ me ≠ freshV me := by
  unfold freshV
  by_cases h : me = nmPeer
  · rw [if_pos h]; exact ⟨by decide, by rw [h]; decide⟩
  · rw [if_neg h]; exact ⟨by decide, h⟩
theorem other_ok {l : Loc} {me : ByteArray} (h : (peerE l me).2 = 0) : nameB me = true ∧ nameB (otherV l me) = true ∧ me ≠ otherV l me := by
  have hv := of_zero h
  have hm : nameB me = true := by
    unfold peerE at h
    cases hm : nameB me with
    | true => rfl
    | false => rw [hm, Bool.and_false] at h; simp at h
  refine ⟨hm, ?_⟩
  unfold otherV
  by_cases h1 : (peerE l me).1 = ⟨#[]⟩
  · rw [if_pos h1]; exact fresh_ok me
  · rw [if_neg h1]
    unfold peerE at h h1 ⊢
    rw [hv, hm] at h h1 ⊢
    simp only [Bool.and_self, if_true] at h h1 ⊢
    by_cases h2 : (decide (1 < (peersL l).length) || hasB (peersL l) me) = true
    · rw [if_pos h2] at h; simp at h
    · rw [if_neg h2] at h1 ⊢
      have hmem : (peersL l).getD 0 ⟨#[]⟩ ∈ peersL l := by
        generalize peersL l = p at h1
        cases p with
        | nil => exact absurd rfl h1
        | cons x r => exact List.mem_cons_self
      refine ⟨peers_name hv hmem, fun e => ?_⟩
      apply h2
      rw [Bool.or_eq_true]
      have e' : me = (peersL l).getD 0 ⟨#[]⟩ := e
      exact .inr (hasB_iff.2 (by rw [e']; exact hmem))
set_option maxHeartbeats 8000000 in
theorem lift_c (l : Loc) (hB : LocBig l) (me : ByteArray) : Con Tryd.prog 12 [] [Ag l.cs, C1 (.str me)] (.tup [Ag (liftE l me).1.cs, C1 (.int .i64 (liftE l me).2)]) [] := by
  have c1 := peer_c l hB me
  have c2 := ttrim_c l hB
  unfold liftE
  by_cases he : (peerE l me).2 = 0
  · rw [if_pos he]
    have hv := of_zero he
    obtain ⟨hm, ho1, ho2⟩ := other_ok he
    rw [trim_L hv] at c2
    rw [he] at c1
    by_cases hl : 24 < (trimT l).turns.length
    · rw [if_pos hl]
      generalize trimT l = T at c2 hl
      generalize (peerE l me).1 = q at c1
      have hlI : (24 : Int) < ((T.turns.map Trn.cs).length : Int) := by simp; omega
      refine con_of (c := _) Tryd.func12 rfl rfl rfl (by decide) fun w M0 H Z => ?_
      repeat' (first
       | refine gc_ rfl ?_
       | (refine g_region ?_; refine run_ th rfl ?_)
       | (refine g_drawC mix rfl rfl ?_; refine drun_ th rfl ?_)
       | (refine g_drawEC mix rfl rfl ?_; refine erun_ th rfl ?_)
       | refine SOps.nil ?_
       | refine DOps.nil ?_
       | refine EOps.nil ?_ rfl rfl
       | (refine s_split rfl rfl (fun hb => ?_) (fun hb => ?_) <;> (try simp only [hbL] at hb) <;> first | (exfalso; omega) | refine run_ th rfl ?_)
       | (refine d_split rfl rfl rfl (fun hb => ?_) (fun hb => ?_) <;> (try simp only [hbL] at hb) <;> first | (exfalso; omega) | refine drun_ th rfl ?_)
       | (refine g_if rfl (fun hb => ?_) (fun hb => ?_) <;> (try simp only [hbL] at hb) <;> (try (exfalso; omega)))
       | (refine s_call c1 [] rfl rfl rfl rfl rfl rfl rfl rfl rfl rfl ?_; refine run_ th rfl ?_)
       | (refine s_call c2 [] rfl rfl rfl rfl rfl rfl rfl rfl rfl rfl ?_; refine run_ th rfl ?_))
      all_goals first
        | (exfalso; revert hb; simp; done)
        | (exfalso; exact hb hlI)
        | (refine g_endL th Tryd.func12 (.inr ⟨_, rfl⟩) rfl rfl rfl ?_ rfl
           exact .tup (.cons (.agg (.cons (.refl _) (.cons (.c (.nil 1)) (.cons (.c (.nil 3)) .nil)))) (.cons (.refl _) .nil)))
    · rw [if_neg hl]
      have hok := lift_ok hv hm ho1 ho2 (by omega)
      have cm := gmay_c (liftP l me (otherV l me)) (lift_big hB me _)
      rw [hok] at cm
      have ce := eachP_c (liftT me (otherV l me)) (trimT l).turns (loc_len (loc_trim hv)).2 32 (.str me) (.str (otherV l me)) fun e => lift1_c e me (otherV l me)
      have cf := fresh1_c me
      have cn := may_c l.name
      have hot : otherV l me = if (peerE l me).1 = ⟨#[]⟩ then freshV me else (peerE l me).1 := rfl
      have hpe : liftP l me (otherV l me) = ⟨nameL l, [me, otherV l me], (trimT l).turns.map (liftT me (otherV l me))⟩ := rfl
      have hnl : nameL l = if nameB l.name = true then l.name else nmPair := rfl
      rw [hpe] at cm ⊢
      generalize nameL l = nl at cm hnl ⊢
      generalize (trimT l).turns.map (liftT me (otherV l me)) = P at cm ce ⊢
      generalize otherV l me = q at cm ce hot ho2 ⊢
      clear hpe hok ho1 ho2
      generalize trimT l = T at c2 hl ce
      generalize (peerE l me).1 = q0 at c1 hot
      have hlI : ¬ (24 : Int) < ((T.turns.map Trn.cs).length : Int) := by simp; omega
      by_cases hq0 : q0 = ⟨#[]⟩
      · rw [if_pos hq0] at hot
        subst hot hq0
        cases hnn : nameB l.name
        all_goals
          rw [hnn] at cn hnl
          simp only [Bool.false_eq_true, if_false, if_true] at hnl
          subst hnl
          refine con_of (c := _) Tryd.func12 rfl rfl rfl (by decide) fun w M0 H Z => ?_
          repeat' (first
           | refine gc_ rfl ?_
           | (refine g_region ?_; refine run_ th rfl ?_)
           | (refine g_drawC mix rfl rfl ?_; refine drun_ th rfl ?_)
           | (refine g_drawEC mix rfl rfl ?_; refine erun_ th rfl ?_)
           | refine SOps.nil ?_
           | refine DOps.nil ?_
           | refine EOps.nil ?_ rfl rfl
           | (refine s_split rfl rfl (fun hb => ?_) (fun hb => ?_) <;> (try simp only [hbL] at hb) <;> first | (exfalso; omega) | refine run_ th rfl ?_)
           | (refine d_split rfl rfl rfl (fun hb => ?_) (fun hb => ?_) <;> (try simp only [hbL] at hb) <;> first | (exfalso; omega) | refine drun_ th rfl ?_)
           | (refine g_if rfl (fun hb => ?_) (fun hb => ?_) <;> (try simp only [hbL] at hb) <;> (try (exfalso; omega)))
           | (refine s_call c1 [] rfl rfl rfl rfl rfl rfl rfl rfl rfl rfl ?_; refine run_ th rfl ?_)
           | (refine s_call c2 [] rfl rfl rfl rfl rfl rfl rfl rfl rfl rfl ?_; refine run_ th rfl ?_)
           | (refine s_freeze 30 rfl rfl ?_; refine s_leT 30 (.v (C1 (namesT [me]))) rfl (.v (.one (.c (.nn true 1 _)))) ?_; refine run_ th rfl ?_)
           | (refine s_call cf [] rfl rfl rfl rfl rfl rfl rfl rfl rfl rfl ?_; refine run_ th rfl ?_)
           | (refine s_call cn [] rfl rfl rfl rfl rfl rfl rfl rfl rfl rfl ?_; refine run_ th rfl ?_)
           | (refine s_call ce [3, 6] rfl rfl rfl rfl rfl rfl rfl rfl rfl rfl ?_; refine run_ th rfl ?_)
           | (refine s_freeze 36 rfl rfl ?_; refine s_leT 48 (.v (Ag [_, namesT [me, freshV me], pointsC P])) rfl (.v (.agg (.cons (.refl _) (.cons (.c (.nn true 1 _)) (.cons (.refl _) .nil))))) ?_; refine s_call cm [] rfl rfl rfl rfl rfl rfl rfl rfl rfl rfl ?_; refine run_ th rfl ?_))
          all_goals first
            | (exfalso; revert hb; simp; done)
            | (exfalso; exact hlI hb)
            | (refine g_endL th Tryd.func12 (.inr ⟨_, rfl⟩) rfl rfl rfl ?_ rfl
               exact .tup (.cons (.agg (.cons (.refl _) (.cons (.c (.nn true 1 _)) (.cons (.refl _) .nil)))) (.cons (.refl _) .nil)))
      · rw [if_neg hq0] at hot
        subst hot
        cases hnn : nameB l.name
        all_goals
          rw [hnn] at cn hnl
          simp only [Bool.false_eq_true, if_false, if_true] at hnl
          subst hnl
          refine con_of (c := _) Tryd.func12 rfl rfl rfl (by decide) fun w M0 H Z => ?_
          repeat' (first
           | (exfalso; rename q = ⟨#[]⟩ => h0; exact hq0 h0)
           | refine gc_ rfl ?_
           | (refine g_region ?_; refine run_ th rfl ?_)
           | (refine g_drawC mix rfl rfl ?_; refine drun_ th rfl ?_)
           | (refine g_drawEC mix rfl rfl ?_; refine erun_ th rfl ?_)
           | refine SOps.nil ?_
           | refine DOps.nil ?_
           | refine EOps.nil ?_ rfl rfl
           | (refine s_split rfl rfl (fun hb => ?_) (fun hb => ?_) <;> (try simp only [hbL] at hb) <;> first | (exfalso; omega) | refine run_ th rfl ?_)
           | (refine d_split rfl rfl rfl (fun hb => ?_) (fun hb => ?_) <;> (try simp only [hbL] at hb) <;> first | (exfalso; omega) | refine drun_ th rfl ?_)
           | (refine g_if rfl (fun hb => ?_) (fun hb => ?_) <;> (try simp only [hbL] at hb) <;> (try (exfalso; omega)))
           | (refine s_call c1 [] rfl rfl rfl rfl rfl rfl rfl rfl rfl rfl ?_; refine run_ th rfl ?_)
           | (refine s_call c2 [] rfl rfl rfl rfl rfl rfl rfl rfl rfl rfl ?_; refine run_ th rfl ?_)
           | (refine s_freeze 30 rfl rfl ?_; refine s_leT 30 (.v (C1 (namesT [me]))) rfl (.v (.one (.c (.nn true 1 _)))) ?_; refine run_ th rfl ?_)
           | (refine s_call cf [] rfl rfl rfl rfl rfl rfl rfl rfl rfl rfl ?_; refine run_ th rfl ?_)
           | (refine s_call cn [] rfl rfl rfl rfl rfl rfl rfl rfl rfl rfl ?_; refine run_ th rfl ?_)
           | (refine s_call ce [3, 6] rfl rfl rfl rfl rfl rfl rfl rfl rfl rfl ?_; refine run_ th rfl ?_)
           | (refine s_freeze 36 rfl rfl ?_; refine s_leT 48 (.v (Ag [_, namesT [me, q], pointsC P])) rfl (.v (.agg (.cons (.refl _) (.cons (.c (.nn true 1 _)) (.cons (.refl _) .nil))))) ?_; refine s_call cm [] rfl rfl rfl rfl rfl rfl rfl rfl rfl rfl ?_; refine run_ th rfl ?_))
          all_goals first
            | (exfalso; revert hb; simp; done)
            | (exfalso; exact hlI hb)
            | (refine g_endL th Tryd.func12 (.inr ⟨_, rfl⟩) rfl rfl rfl ?_ rfl
               exact .tup (.cons (.agg (.cons (.refl _) (.cons (.c (.nn true 1 _)) (.cons (.refl _) .nil)))) (.cons (.refl _) .nil)))
  · rw [if_neg he]
    generalize (peerE l me).1 = q at c1
    generalize (peerE l me).2 = e at c1 he ⊢
    refine con_of (c := _) Tryd.func12 rfl rfl rfl (by decide) fun w M0 H Z => ?_
    repeat' (first
     | refine gc_ rfl ?_
     | (refine g_region ?_; refine run_ th rfl ?_)
     | (refine g_drawC mix rfl rfl ?_; refine drun_ th rfl ?_)
     | (refine g_drawEC mix rfl rfl ?_; refine erun_ th rfl ?_)
     | refine SOps.nil ?_
     | refine DOps.nil ?_
     | refine EOps.nil ?_ rfl rfl
     | (refine s_split rfl rfl (fun hb => ?_) (fun hb => ?_) <;> (try simp only [hbL] at hb) <;> first | (exfalso; omega) | refine run_ th rfl ?_)
     | (refine d_split rfl rfl rfl (fun hb => ?_) (fun hb => ?_) <;> (try simp only [hbL] at hb) <;> first | (exfalso; omega) | refine drun_ th rfl ?_)
     | (refine g_if rfl (fun hb => ?_) (fun hb => ?_) <;> (try simp only [hbL] at hb) <;> (try (exfalso; omega)))
     | (refine s_call c1 [] rfl rfl rfl rfl rfl rfl rfl rfl rfl rfl ?_; refine run_ th rfl ?_))
    all_goals first
      | (exfalso; exact he (by assumption))
      | (exfalso; exact he (by simpa using hb))
      | (refine g_endL th Tryd.func12 (.inr ⟨_, rfl⟩) rfl rfl rfl ?_ rfl
         exact .tup (.cons (.agg (.cons (.refl _) (.cons (.c (.nil 1)) (.cons (.c (.nil 3)) .nil)))) (.cons (.refl _) .nil)))
end Go.Sy
