/- Contracts: mirror.turned, each, peer, Of. -/
import Derived.Test.YtdjocfajcbhmgaaDoorZ28
import Derived.Test.YtdjocfajcbhmgaaDoorBv1
set_option linter.unusedSimpArgs false
set_option linter.unusedVariables false
set_option linter.unusedSectionVars false
namespace Go.Sy
open Go.Proofs
set_option maxRecDepth 100000
attribute [local irreducible] SOps Goes DOps EOps
theorem mirT_1 {me : ByteArray} {t : Trn} (h : t.kind = 1) : mirT me t = ⟨2, me, t.arms⟩ := if_pos h
theorem mirT_2 {me : ByteArray} {t : Trn} (h1 : ¬ t.kind = 1) (h : t.kind = 2) : mirT me t = ⟨1, me, t.arms⟩ := by unfold mirT; rw [if_neg h1, if_pos h]
theorem mirT_0 {me : ByteArray} {t : Trn} (h1 : ¬ t.kind = 1) (h : ¬ t.kind = 2) : mirT me t = t := by unfold mirT; rw [if_neg h1, if_neg h]
theorem turned_c (t : Trn) (me : ByteArray) : Con Tryd.prog 29 [] [Ag t.cs, C1 (.str me)] (.v (Ag (mirT me t).cs)) [] := by
  refine con_of (c := _) Tryd.func29 rfl rfl rfl (by decide) fun w M0 H Z => ?_
  repeat' (first
   | refine gc_ rfl ?_
   | (refine g_region ?_; refine run_ th rfl ?_)
   | (refine g_drawC mix rfl rfl ?_; refine drun_ th rfl ?_)
   | (refine g_drawEC mix rfl rfl ?_; refine erun_ th rfl ?_)
   | refine SOps.nil ?_
   | refine DOps.nil ?_
   | refine EOps.nil ?_ rfl rfl
   | (refine s_split rfl rfl (fun hb => ?_) (fun hb => ?_) <;> (try simp only [hbL] at hb) <;> first | (exfalso; omega) | refine run_ th rfl ?_)
   | (refine d_split rfl rfl rfl (fun hb => ?_) (fun hb => ?_) <;> (try simp only [hbL] at hb) <;> first | (exfalso; omega) | refine drun_ th rfl ?_)
   | (refine g_if rfl (fun hb => ?_) (fun hb => ?_) <;> (try simp only [hbL] at hb) <;> (try (exfalso; omega)))
   | refine g_endL th Tryd.func29 (.inr ⟨_, rfl⟩) rfl rfl rfl ?_ rfl)
  all_goals first
    | (rw [mirT_1 (by assumption)]; exact .refl _)
    | (rw [mirT_2 (by assumption) (by assumption)]; exact .refl _)
    | (rw [mirT_0 (by assumption) (by assumption)]; exact .refl _)
theorem of1_c (t : Trn) (me : ByteArray) : Con Tryd.prog 28 [[.str me]] [Ag t.cs, .one (.ptr given 0)] (.v (Ag (mirT me t).cs)) [[.str me]] := by
  have h := turned_c t me
  generalize mirT me t = s at h ⊢
  refine con_of (c := _) Tryd.func28 rfl rfl rfl (by decide) fun w M0 H Z => ?_
  repeat' (first
   | refine gc_ rfl ?_
   | (refine g_region ?_; refine run_ th rfl ?_)
   | (refine g_drawC mix rfl rfl ?_; refine drun_ th rfl ?_)
   | (refine g_drawEC mix rfl rfl ?_; refine erun_ th rfl ?_)
   | refine SOps.nil ?_
   | refine DOps.nil ?_
   | refine EOps.nil ?_ rfl rfl
   | (refine s_split rfl rfl (fun hb => ?_) (fun hb => ?_) <;> (try simp only [hbL] at hb) <;> first | (exfalso; omega) | refine run_ th rfl ?_)
   | (refine d_split rfl rfl rfl (fun hb => ?_) (fun hb => ?_) <;> (try simp only [hbL] at hb) <;> first | (exfalso; omega) | refine drun_ th rfl ?_)
   | (refine g_if rfl (fun hb => ?_) (fun hb => ?_) <;> (try simp only [hbL] at hb) <;> (try (exfalso; omega)))
   | refine g_endL th Tryd.func28 (.inr ⟨_, rfl⟩) rfl rfl rfl ?_ rfl
   | (refine s_call h [] rfl rfl rfl rfl rfl rfl rfl rfl rfl rfl ?_; refine run_ th rfl ?_))
  all_goals exact .refl _
set_option maxHeartbeats 4000000 in
theorem each_c (h : Trn → Trn) (l : List Trn) (hl : l.length ≤ 40) (g : Nat) (c0 : CT)
    (hc : ∀ e : Trn, Con Tryd.prog g [[c0]] [Ag e.cs, .one (.ptr given 0)] (.v (Ag (h e).cs)) [[c0]]) :
    Con Tryd.prog 27 [[c0]] [C1 (turnsC l), .one (.clo g [given])] (Rv (turnsC (l.map h))) [[c0]] := by
  refine con_of (c := _) Tryd.func27 rfl rfl rfl (by decide) fun w M0 H Z => ?_
  repeat' (first
   | refine gc_ rfl ?_
   | (refine g_region ?_; refine run_ th rfl ?_)
   | (refine g_drawC mix rfl rfl ?_; refine drun_ th rfl ?_)
   | (refine g_drawEC mix rfl rfl ?_; refine erun_ th rfl ?_)
   | refine SOps.nil ?_
   | refine DOps.nil ?_
   | refine EOps.nil ?_ rfl rfl
   | (refine s_split rfl rfl (fun hb => ?_) (fun hb => ?_) <;> (try simp only [hbL] at hb) <;> first | (exfalso; omega) | refine run_ th rfl ?_)
   | (refine d_split rfl rfl rfl (fun hb => ?_) (fun hb => ?_) <;> (try simp only [hbL] at hb) <;> first | (exfalso; omega) | refine drun_ th rfl ?_)
   | (refine g_if rfl (fun hb => ?_) (fun hb => ?_) <;> (try simp only [hbL] at hb) <;> (try (exfalso; omega))))
  refine g_adopt 5 200 55 3 rfl rfl rfl ?_
  refine g_loop1 (fun k : Nat => k ≤ l.length)
    (fun k => [(1, .v (.one (.clo g [given]))), (5, .v (.one (.own 200))), (8, .v (C1 (turnsC l))), (9, .v (C1 (.int .i64 (l.length : Int)))), (10, .v (C1 (.int .i64 (k : Int))))])
    (fun k => [(given, .box [.c c0]), (200, .arr false 55 3 (((l.take k).map h).map Trn.cs))]) (fun k => l.length - k) 0 (Nat.zero_le _)
    (fun a w h => h.sub (by exact ⟨⟨_, rfl, .refl _⟩, ⟨_, rfl, .refl _⟩, ⟨_, rfl, .refl _⟩, ⟨_, rfl, le_int (by simp)⟩, ⟨_, rfl, le_int rfl⟩, trivial⟩) (by exact ⟨⟨_, rfl, .refl _⟩, ⟨_, rfl, le_arr rfl⟩, trivial⟩) rfl rfl rfl) (fun k hk ih => ?_)
  by_cases hlt : k < l.length
  · have hx : (l.map Trn.cs)[k]? = some (l[k]).cs := by simp [hlt]
    have hsn : ((l.take (k + 1)).map h).map Trn.cs = ((l.take k).map h).map Trn.cs ++ [(h l[k]).cs] := by
      rw [List.take_succ_eq_append_getElem hlt, List.map_append, List.map_append]; rfl
    have htk : (l.take k).length = k := by simp; omega
    have hih := ih (k + 1) hlt (by omega)
    rw [hsn] at hih
    have hck := hc l[k]
    generalize h l[k] = s at hck hih
    repeat' (first
     | refine gc_ rfl ?_
     | (refine g_region ?_; refine run_ th rfl ?_)
     | (refine g_drawC mix rfl rfl ?_; refine drun_ th rfl ?_)
     | (refine g_drawEC mix rfl rfl ?_; refine erun_ th rfl ?_)
     | refine SOps.nil ?_
     | refine DOps.nil ?_
     | refine EOps.nil ?_ rfl rfl
     | (refine s_split rfl rfl (fun hb => ?_) (fun hb => ?_) <;> (try simp only [hbL] at hb) <;> first | (exfalso; omega) | refine run_ th rfl ?_)
     | (refine d_split rfl rfl rfl (fun hb => ?_) (fun hb => ?_) <;> (try simp only [hbL] at hb) <;> first | (exfalso; omega) | refine drun_ th rfl ?_)
     | (refine g_if rfl (fun hb => ?_) (fun hb => ?_) <;> (try simp only [hbL] at hb) <;> (try (exfalso; omega)))
     | (refine s_idx th rfl rfl rfl rfl rfl rfl rfl rfl rfl k _ rfl hx ?_; refine run_ th rfl ?_)
     | (refine s_clo hck [given] rfl rfl rfl rfl rfl rfl rfl rfl rfl rfl rfl rfl ?_; refine run_ th rfl ?_)
     | (refine s_append th rfl rfl rfl rfl rfl rfl rfl rfl rfl rfl rfl rfl rfl rfl rfl (by constructor <;> simp [htk] <;> omega) ?_; refine run_ th rfl ?_)
     | (refine s_add rfl rfl rfl rfl rfl rfl (by omega) ?_; refine run_ th rfl ?_))
    all_goals exact g_sub (by exact ⟨⟨_, rfl, .refl _⟩, ⟨_, rfl, .refl _⟩, ⟨_, rfl, .refl _⟩, ⟨_, rfl, .refl _⟩, ⟨_, rfl, le_int (by omega)⟩, trivial⟩) (by exact ⟨⟨_, rfl, .refl _⟩, ⟨_, rfl, .refl _⟩, trivial⟩) rfl rfl rfl hih
  · rw [List.take_of_length_le (by omega)]
    repeat' (first
     | refine gc_ rfl ?_
     | (refine g_region ?_; refine run_ th rfl ?_)
     | (refine g_drawC mix rfl rfl ?_; refine drun_ th rfl ?_)
     | (refine g_drawEC mix rfl rfl ?_; refine erun_ th rfl ?_)
     | refine SOps.nil ?_
     | refine DOps.nil ?_
     | refine EOps.nil ?_ rfl rfl
     | (refine s_split rfl rfl (fun hb => ?_) (fun hb => ?_) <;> (try simp only [hbL] at hb) <;> first | (exfalso; omega) | refine run_ th rfl ?_)
     | (refine d_split rfl rfl rfl (fun hb => ?_) (fun hb => ?_) <;> (try simp only [hbL] at hb) <;> first | (exfalso; omega) | refine drun_ th rfl ?_)
     | (refine g_if rfl (fun hb => ?_) (fun hb => ?_) <;> (try simp only [hbL] at hb) <;> (try (exfalso; omega))))
    refine g_freeze 200 rfl rfl ?_
    refine g_endL th Tryd.func27 (.inr ⟨_, rfl⟩) rfl rfl rfl ?_ rfl
    exact .refl _
def peerZ (l : Loc) (me : ByteArray) (p : List ByteArray) : ByteArray × Int :=
  if locB l && nameB me then (if decide (1 < p.length) || hasB p me then (⟨#[]⟩, 1201) else (p.getD 0 ⟨#[]⟩, 0)) else (⟨#[]⟩, 1200)
set_option maxHeartbeats 4000000 in
theorem peer_c (l : Loc) (hB : LocBig l) (me : ByteArray) : Con Tryd.prog 25 [] [Ag l.cs, C1 (.str me)] (.tup [C1 (.str (peerE l me).1), C1 (.int .i64 (peerE l me).2)]) [] := by
  have c1 := tmay_c l hB
  have c2 := may_c me
  have c3 := tpeers_c l hB
  have c4 := has_c (peersL l) me
  show Con _ _ _ _ (.tup [C1 (.str (peerZ l me (peersL l)).1), C1 (.int .i64 (peerZ l me (peersL l)).2)]) _
  obtain ⟨p, hp⟩ : ∃ p, p = peersL l := ⟨_, rfl⟩
  rw [← hp] at c3 c4 ⊢
  clear hp
  have hx : ∀ h : 0 < p.length, (p.map fun s => [CT.str s])[0]? = some [.str (p.getD 0 ⟨#[]⟩)] := fun h => by
    rw [List.getElem?_map, List.getElem?_eq_getElem h, List.getD_eq_getElem?_getD, List.getElem?_eq_getElem h]; rfl
  refine con_of (c := _) Tryd.func25 rfl rfl rfl (by decide) fun w M0 H Z => ?_
  repeat' (first
   | refine gc_ rfl ?_
   | (refine g_region ?_; refine run_ th rfl ?_)
   | (refine g_drawC mix rfl rfl ?_; refine drun_ th rfl ?_)
   | (refine g_drawEC mix rfl rfl ?_; refine erun_ th rfl ?_)
   | refine SOps.nil ?_
   | refine DOps.nil ?_
   | refine EOps.nil ?_ rfl rfl
   | (refine s_split rfl rfl (fun hb => ?_) (fun hb => ?_) <;> (try simp only [hbL] at hb) <;> first | (exfalso; omega) | refine run_ th rfl ?_)
   | (refine d_split rfl rfl rfl (fun hb => ?_) (fun hb => ?_) <;> (try simp only [hbL] at hb) <;> first | (exfalso; omega) | refine drun_ th rfl ?_)
   | (refine g_if rfl (fun hb => ?_) (fun hb => ?_) <;> (try simp only [hbL] at hb) <;> (try (exfalso; omega)))
   | refine g_endL th Tryd.func25 (.inr ⟨_, rfl⟩) rfl rfl rfl ?_ rfl
   | (refine s_call c1 [] rfl rfl rfl rfl rfl rfl rfl rfl rfl rfl ?_; refine run_ th rfl ?_)
   | (refine s_call c2 [] rfl rfl rfl rfl rfl rfl rfl rfl rfl rfl ?_; refine run_ th rfl ?_)
   | (refine s_call c3 [] rfl rfl rfl rfl rfl rfl rfl rfl rfl rfl ?_; refine run_ th rfl ?_)
   | (refine s_call c4 [] rfl rfl rfl rfl rfl rfl rfl rfl rfl rfl ?_; refine run_ th rfl ?_)
   | (refine s_idx th rfl rfl rfl rfl rfl rfl rfl rfl rfl 0 _ rfl (hx (by omega)) ?_; refine run_ th rfl ?_))
  all_goals first
    | (rw [show peerZ l me p = (⟨#[]⟩, 1200) by unfold peerZ; simp [*]]; exact .refl _)
    | (rw [show peerZ l me p = (⟨#[]⟩, 1201) by
         unfold peerZ
         first
           | (rw [decide_eq_true (show 1 < p.length by omega)]; simp [*]; done)
           | (simp [*]; done)]; exact .refl _)
    | (rw [show peerZ l me p = (⟨#[]⟩, 0) by
         have hp0 : p = [] := List.length_eq_zero_iff.1 (by omega)
         subst hp0
         unfold peerZ; simp [*]]; exact .refl _)
    | (rw [show peerZ l me p = (p.getD 0 ⟨#[]⟩, 0) by
         unfold peerZ
         rw [decide_eq_false (show ¬ 1 < p.length by omega)]; simp [*]]; exact .refl _)
theorem of_zero {l : Loc} {me : ByteArray} (h : (peerE l me).2 = 0) : locB l = true := by
  unfold peerE at h
  cases hv : locB l with
  | true => rfl
  | false => rw [hv] at h; simp at h
set_option maxHeartbeats 4000000 in
theorem of_c (l : Loc) (hB : LocBig l) (me : ByteArray) : Con Tryd.prog 11 [] [Ag l.cs, C1 (.str me)] (.tup [Ag (ofE l me).1.cs, C1 (.int .i64 (ofE l me).2)]) [] := by
  have c1 := peer_c l hB me
  have c2 := ttrim_c l hB
  unfold ofE
  by_cases he : (peerE l me).2 = 0
  · rw [if_pos he]
    have hv := of_zero he
    rw [trim_L hv] at c2
    have c3 := each_c (mirT me) (trimT l).turns (loc_len (loc_trim hv)).2 28 (.str me) fun e => of1_c e me
    rw [show (mirL me l) = ⟨(trimT l).name, (trimT l).turns.map (mirT me)⟩ from rfl]
    rw [he] at c1
    generalize trimT l = T at c2 c3 ⊢
    generalize T.turns.map (mirT me) = M at c3 ⊢
    generalize (peerE l me).1 = q at c1
    refine con_of (c := _) Tryd.func11 rfl rfl rfl (by decide) fun w M0 H Z => ?_
    repeat' (first
     | refine gc_ rfl ?_
     | (refine g_region ?_; refine run_ th rfl ?_)
     | (refine g_drawC mix rfl rfl ?_; refine drun_ th rfl ?_)
     | (refine g_drawEC mix rfl rfl ?_; refine erun_ th rfl ?_)
     | refine SOps.nil ?_
     | refine DOps.nil ?_
     | refine EOps.nil ?_ rfl rfl
     | (refine s_split rfl rfl (fun hb => ?_) (fun hb => ?_) <;> (try simp only [hbL] at hb) <;> first | (exfalso; omega) | refine run_ th rfl ?_)
     | (refine d_split rfl rfl rfl (fun hb => ?_) (fun hb => ?_) <;> (try simp only [hbL] at hb) <;> first | (exfalso; omega) | refine drun_ th rfl ?_)
     | (refine g_if rfl (fun hb => ?_) (fun hb => ?_) <;> (try simp only [hbL] at hb) <;> (try (exfalso; omega)))
     | (refine s_call c1 [] rfl rfl rfl rfl rfl rfl rfl rfl rfl rfl ?_; refine run_ th rfl ?_)
     | (refine s_call c2 [] rfl rfl rfl rfl rfl rfl rfl rfl rfl rfl ?_; refine run_ th rfl ?_)
     | (refine s_call c3 [3] rfl rfl rfl rfl rfl rfl rfl rfl rfl rfl ?_; refine run_ th rfl ?_))
    all_goals first
      | (exfalso; revert hb; simp; done)
      | (refine g_endL th Tryd.func11 (.inr ⟨_, rfl⟩) rfl rfl rfl ?_ rfl
         exact .refl _)
  · rw [if_neg he]
    generalize (peerE l me).1 = q at c1
    generalize (peerE l me).2 = e at c1 he ⊢
    refine con_of (c := _) Tryd.func11 rfl rfl rfl (by decide) fun w M0 H Z => ?_
    repeat' (first
     | refine gc_ rfl ?_
     | (refine g_region ?_; refine run_ th rfl ?_)
     | (refine g_drawC mix rfl rfl ?_; refine drun_ th rfl ?_)
     | (refine g_drawEC mix rfl rfl ?_; refine erun_ th rfl ?_)
     | refine SOps.nil ?_
     | refine DOps.nil ?_
     | refine EOps.nil ?_ rfl rfl
     | (refine s_split rfl rfl (fun hb => ?_) (fun hb => ?_) <;> (try simp only [hbL] at hb) <;> first | (exfalso; omega) | refine run_ th rfl ?_)
     | (refine d_split rfl rfl rfl (fun hb => ?_) (fun hb => ?_) <;> (try simp only [hbL] at hb) <;> first | (exfalso; omega) | refine drun_ th rfl ?_)
     | (refine g_if rfl (fun hb => ?_) (fun hb => ?_) <;> (try simp only [hbL] at hb) <;> (try (exfalso; omega)))
     | (refine s_call c1 [] rfl rfl rfl rfl rfl rfl rfl rfl rfl rfl ?_; refine run_ th rfl ?_))
    all_goals first
      | (exfalso; exact he (by assumption))
      | (exfalso; exact he (by simpa using hb))
      | (refine g_endL th Tryd.func11 (.inr ⟨_, rfl⟩) rfl rfl rfl ?_ rfl
         exact .tup (.cons (.agg (.cons (.refl _) (.cons (.c (.nil 3)) .nil))) (.cons (.refl _) .nil)))
end Go.Sy
