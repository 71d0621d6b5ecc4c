/- Contracts of the reference: Mirror's good case. -/
import Derived.Test.YtndmpmhekbdpdaaGreatDoorMz2
import Derived.Test.YtndmpmhekbdpdaaGreatDoorMx
import Derived.Test.YtndmpmhekbdpdaaGreatDoorBv1
import Derived.Test.YtndmpmhekbdpdaaGreatDoorMa
import Derived.Test.YtndmpmhekbdpdaaGreatDoorMe
set_option linter.unusedSimpArgs false
set_option linter.unusedVariables false
set_option linter.unusedSectionVars false
namespace Go.Sy
open Go.Proofs
set_option maxRecDepth 100000
attribute [local irreducible] SOps Goes DOps EOps FOps
def mrET (a b : Nat) (u v : Value) : Nat → Unit → TM
  | 2, _ => [(a, .v (.one (.c (.val u))))]
  | 3, _ => [(b, .v (.one (.c (.val v))))]
  | _, _ => []
def mrMM (mm : MM) (v : Value) (xs : List (List CT)) (j : Nat) (x1 x2 : List CT) : Nat → Unit → MM
  | 0, _ => mm
  | 1, _ => updM mm 200 (.pool 68 3 [(v, xs.set j x1)])
  | 2, _ => updM mm 200 (.pool 68 3 [(v, xs.set j x1)])
  | 3, _ => updM mm 200 (.pool 68 3 [(v, xs.set j x1)])
  | _, _ => updM (updM mm 200 (.pool 68 3 [(v, xs.set j x1)])) 200 (.pool 68 3 [(v, (xs.set j x1).set j x2)])
set_option maxHeartbeats 16000000 in
theorem mirrorR_ok (l : Loc) (hs : LocBig l) (me : ByteArray) (hv : locB l = true) (hn : nameB me = true) (hp : (decide (1 < (peersL l).length) || hasB (peersL l) me) = false) :
    Con Tryz.prog 24 [] [Ag l.cs, C1 (.str me)] (.tup [Ag (mirL me l).cs, C1 (.int .i64 0)]) [] := by
  have cm := lmayR_c l hs
  have cn := nameOK_c me
  have cp := lpeersR_c l hs
  have ct := ltrimR_cO l hs hv
  rw [hv] at cm
  rw [hn] at cn
  have hne : ∀ p, peersL l = [p] → p ≠ me := fun p e h => by
    rw [Bool.or_eq_false_iff] at hp
    have := hp.2
    rw [e, h] at this
    have h2 : hasB [me] me = true := hasB_iff.2 List.mem_cons_self
    rw [h2] at this; cases this
  generalize peersL l = P at cp hp hne
  have hts40 := (loc_len (loc_trim hv)).2
  unfold mirL
  generalize (trimT l).turns = ts at *
  rcases P with _ | ⟨p, _ | ⟨q, r⟩⟩
  case cons.cons => exfalso; simp at hp
  all_goals
    try have hpm := hne p rfl
    refine con_of (c := _) Tryz.func24 rfl rfl rfl (by decide) fun w M0 H Z => ?_
    repeat' (first
     | (exfalso; revert hb; simp; done)
     | (exfalso; exact hpm (by assumption))
     | refine gc_ rfl ?_
     | (refine g_region ?_; refine run_ th rfl ?_)
     | (refine g_drawC mix rfl rfl ?_; refine drun_ th rfl ?_)
     | (refine g_drawEC mix rfl rfl ?_; refine erun_ th rfl ?_)
     | refine SOps.nil ?_
     | refine DOps.nil ?_
     | refine EOps.nil ?_ rfl rfl
     | (refine s_split rfl rfl (fun hb => ?_) (fun hb => ?_) <;> (try simp only [hbL] at hb) <;> first | (exfalso; omega) | refine run_ th rfl ?_)
     | (refine d_split rfl rfl rfl (fun hb => ?_) (fun hb => ?_) <;> (try simp only [hbL] at hb) <;> first | (exfalso; omega) | refine drun_ th rfl ?_)
     | (refine g_if rfl (fun hb => ?_) (fun hb => ?_) <;> (try simp only [hbL] at hb) <;> (try (exfalso; omega)))
     | (refine s_call cm [] rfl rfl rfl rfl rfl rfl rfl rfl rfl rfl ?_; refine run_ th rfl ?_)
     | (refine s_call cn [] rfl rfl rfl rfl rfl rfl rfl rfl rfl rfl ?_; refine run_ th rfl ?_)
     | (refine s_call cp [] rfl rfl rfl rfl rfl rfl rfl rfl rfl rfl ?_; refine run_ th rfl ?_)
     | (refine s_idx th rfl rfl rfl rfl rfl rfl rfl rfl rfl 0 _ rfl rfl ?_; refine run_ th rfl ?_)
     | (refine s_callO ct [200] rfl rfl rfl rfl rfl rfl rfl rfl rfl (fun _ => rfl) (fun vA _ => ?_); refine run_ th rfl ?_))
    all_goals first
      | (exfalso; simp at hb; done)
      | skip
    refine g_loop1 (fun k : Nat => k ≤ ts.length)
      (fun k => [(0 + 1, .v (C1 (.str me))), (4, .v (.one (.ptr 4 0))), (5, .v (C1 (.int .i64 0))), (7, .v (.one (.ptr 7 0))), (8, .v (C1 (.int .i64 (k : Int))))])
      (fun k => [(4, .box [.c (.str ⟨#[]⟩), .c .nils]), (7, .box [.c (.str l.name), .c (.val vA)]), (200, .pool 68 3 [(vA, ((ts.take k).map (mirT me) ++ ts.drop k).map Trn.cs)])])
      (fun k => ts.length - k) 0 (Nat.zero_le _)
      (fun a w h => h.sub (by exact ⟨⟨_, rfl, .refl _⟩, ⟨_, rfl, .refl _⟩, ⟨_, rfl, .refl _⟩, ⟨_, rfl, .refl _⟩, ⟨_, rfl, le_int rfl⟩, trivial⟩) (by exact ⟨⟨_, rfl, .refl _⟩, ⟨_, rfl, .refl _⟩, ⟨_, rfl, .refl _⟩, trivial⟩) rfl rfl rfl) (fun k hk ih => ?_)
    have hlen : ((ts.take k).map (mirT me) ++ ts.drop k).length = ts.length := by simp; omega
    by_cases hlt : k < ts.length
    · have hxm := mid_get' (mirT me) Trn.cs ts k hlt
      have hset := set_mid' (mirT me) Trn.cs ts k hlt
      have hih := ih (k + 1) hlt (by omega)
      clear ih
      have hxsl : (((ts.take k).map (mirT me) ++ ts.drop k).map Trn.cs).length = ts.length := by rw [List.length_map]; exact hlen
      clear hlen
      generalize ((ts.take k).map (mirT me) ++ ts.drop k).map Trn.cs = xs at *
      generalize ((ts.take (k + 1)).map (mirT me) ++ ts.drop (k + 1)).map Trn.cs = ys at *
      generalize ts[k] = t at *
      have hx1 : ∀ c : List CT, (xs.set k c)[k]? = some c := fun c => by
        rw [List.getElem?_set_self']; rw [hxm]; rfl
      have hxl : xs.length = ts.length := hxsl
      repeat' (first
       | (refine g_atR 12 rfl ?_; refine g_drawF3 (ι := Unit) 8 0 9 [9, 10, 11, 12] [200] [] (mrET 62 63 (ptrV vA (k * 3)) (ptrV vA (k * 3 + 1))) (mrMM _ vA xs k [.int .i64 2, .str t.peer, armsC t.arms] [.int .i64 2, .str me, armsC t.arms]) () mix rfl (fun k x => by match k with | 0 => (refine subG_spec ?_; repeat (first | exact trivial | refine ⟨rfl, ?_⟩)) | 1 => (refine subG_spec ?_; repeat (first | exact trivial | refine ⟨rfl, ?_⟩)) | 2 => (refine subG_spec ?_; repeat (first | exact trivial | refine ⟨rfl, ?_⟩)) | 3 => (refine subG_spec ?_; repeat (first | exact trivial | refine ⟨rfl, ?_⟩)) | _ + 4 => (refine subG_spec ?_; repeat (first | exact trivial | refine ⟨rfl, ?_⟩))) (fun k x hk => by match k, hk with | 0, _ => (refine subG_spec ?_; repeat (first | exact trivial | refine ⟨rfl, ?_⟩))) rfl (fun k x => by match k with | 0 => rfl | 1 => rfl | 2 => rfl | 3 => rfl | _ + 4 => rfl) rfl rfl (by simp) rfl rfl ?_; refine frun_ th rfl ?_)
       | (refine g_atR 14 rfl ?_; refine g_drawF3 (ι := Unit) 8 0 9 [9, 10, 11, 12] [200] [] (mrET 75 76 (ptrV vA (k * 3)) (ptrV vA (k * 3 + 1))) (mrMM _ vA xs k [.int .i64 1, .str t.peer, armsC t.arms] [.int .i64 1, .str me, armsC t.arms]) () mix rfl (fun k x => by match k with | 0 => (refine subG_spec ?_; repeat (first | exact trivial | refine ⟨rfl, ?_⟩)) | 1 => (refine subG_spec ?_; repeat (first | exact trivial | refine ⟨rfl, ?_⟩)) | 2 => (refine subG_spec ?_; repeat (first | exact trivial | refine ⟨rfl, ?_⟩)) | 3 => (refine subG_spec ?_; repeat (first | exact trivial | refine ⟨rfl, ?_⟩)) | _ + 4 => (refine subG_spec ?_; repeat (first | exact trivial | refine ⟨rfl, ?_⟩))) (fun k x hk => by match k, hk with | 0, _ => (refine subG_spec ?_; repeat (first | exact trivial | refine ⟨rfl, ?_⟩))) rfl (fun k x => by match k with | 0 => rfl | 1 => rfl | 2 => rfl | 3 => rfl | _ + 4 => rfl) rfl rfl (by simp) rfl rfl ?_; refine frun_ th rfl ?_)
       | (refine f_pidx (r := 200) th rfl rfl rfl rfl rfl rfl rfl rfl rfl rfl rfl 0 rfl k rfl (by omega) ?_; refine frun_ th rfl ?_)
       | (refine f_pfield (r := 200) th rfl rfl rfl rfl rfl rfl rfl rfl rfl (c := 0) rfl (by omega) ?_; refine frun_ th rfl ?_)
       | (refine FOps.nil ⟨Effs.cons rfl (fun x => ?_) (Effs.cons rfl (fun x => ?_) (Effs.cons rfl (fun x => ?_) (Effs.cons rfl (fun x => ?_) Effs.nil))), fun x => ?_⟩)
       | exact ef_pstoref (i := 200) th [.int .i64 t.kind, .str t.peer, armsC t.arms] rfl rfl rfl rfl rfl rfl rfl rfl rfl rfl rfl rfl rfl rfl 0 rfl hxm rfl rfl
       | exact ef_pstoref (i := 200) th _ rfl rfl rfl rfl rfl rfl rfl rfl rfl rfl rfl rfl rfl rfl 0 rfl (hx1 _) rfl rfl
       | exact ef_val ((op_pidx (i := 200) (k := 0) th rfl rfl rfl rfl rfl rfl rfl rfl rfl (by rw [List.length_set]; omega) rfl rfl).toX) rfl rfl rfl rfl
       | exact ef_val ((op_pfield (i := 200) (c := 0) th rfl rfl rfl rfl rfl (by rw [List.length_set]; omega) rfl rfl rfl).toX) rfl rfl rfl rfl
       | refine gc_ rfl ?_
       | (refine g_region ?_; refine run_ th rfl ?_)
       | (refine g_drawC mix rfl rfl ?_; refine drun_ th rfl ?_)
       | (refine g_drawEC mix rfl rfl ?_; refine erun_ th rfl ?_)
       | refine SOps.nil ?_
       | refine DOps.nil ?_
       | refine EOps.nil ?_ rfl rfl
       | (refine s_split rfl rfl (fun hb => ?_) (fun hb => ?_) <;> (try simp only [hbL] at hb) <;> first | (exfalso; omega) | refine run_ th rfl ?_)
       | (refine d_split rfl rfl rfl (fun hb => ?_) (fun hb => ?_) <;> (try simp only [hbL] at hb) <;> first | (exfalso; omega) | refine drun_ th rfl ?_)
       | (refine g_if rfl (fun hb => ?_) (fun hb => ?_) <;> (try simp only [hbL] at hb) <;> (try (exfalso; omega)))
       | (refine s_plen th 200 0 rfl rfl rfl rfl rfl rfl rfl rfl (ts.length) (by omega) ?_; refine run_ th rfl ?_)
       | (refine s_pidx (r := 200) th rfl rfl rfl rfl rfl rfl rfl rfl rfl rfl 0 rfl k rfl (by omega) ?_; refine run_ th rfl ?_)
       | (refine s_pfield (i := 200) th rfl rfl rfl rfl rfl rfl rfl rfl (c := 0) rfl (by omega) ?_; refine run_ th rfl ?_)
       | (refine s_ploadf (i := 200) (k := 0) th rfl rfl rfl rfl rfl rfl rfl rfl hxm rfl rfl ?_; refine run_ th rfl ?_)
       | (refine s_add rfl rfl rfl rfl rfl rfl (by omega) ?_; refine run_ th rfl ?_))
      all_goals exact g_sub (by exact ⟨⟨_, rfl, .refl _⟩, ⟨_, rfl, .refl _⟩, ⟨_, rfl, .refl _⟩, ⟨_, rfl, .refl _⟩, ⟨_, rfl, le_int (by omega)⟩, trivial⟩) (by exact ⟨⟨_, rfl, .refl _⟩, ⟨_, rfl, .refl _⟩, ⟨_, rfl, le_pool (by first | (rw [List.set_set, ← hset, mirT_1 (by assumption)]; done) | (rw [List.set_set, ← hset, mirT_2 (by assumption) (by assumption)]; done) | (rw [← hset, mirT_0 (by assumption) (by assumption)]; exact congrArg (fun z => [(vA, z)]) (set_same hxm).symm))⟩, trivial⟩) rfl rfl rfl hih
    · have hke : k = ts.length := by omega
      subst hke
      clear ih hlen
      rw [List.take_length, List.drop_length, List.append_nil]
      repeat' (first
       | refine gc_ rfl ?_
       | (refine g_region ?_; refine run_ th rfl ?_)
       | (refine g_drawC mix rfl rfl ?_; refine drun_ th rfl ?_)
       | (refine g_drawEC mix rfl rfl ?_; refine erun_ th rfl ?_)
       | refine SOps.nil ?_
       | refine DOps.nil ?_
       | refine EOps.nil ?_ rfl rfl
       | (refine s_split rfl rfl (fun hb => ?_) (fun hb => ?_) <;> (try simp only [hbL] at hb) <;> first | (exfalso; omega) | refine run_ th rfl ?_)
       | (refine d_split rfl rfl rfl (fun hb => ?_) (fun hb => ?_) <;> (try simp only [hbL] at hb) <;> first | (exfalso; omega) | refine drun_ th rfl ?_)
       | (refine g_if rfl (fun hb => ?_) (fun hb => ?_) <;> (try simp only [hbL] at hb) <;> (try (exfalso; omega)))
       | (refine s_plen th 200 0 rfl rfl rfl rfl rfl rfl rfl rfl (ts.length) (by simp) ?_; refine run_ th rfl ?_))
      all_goals first
        | (exfalso; omega)
        | skip
      refine g_freezeB 200 4 1 rfl rfl rfl rfl rfl rfl rfl ?_
      refine g_endL th Tryz.func24 (.inr ⟨_, rfl⟩) rfl rfl rfl ?_ rfl
      exact .refl _
theorem mirrorR_c (l : Loc) (hs : LocBig l) (me : ByteArray) : Con Tryz.prog 24 [] [Ag l.cs, C1 (.str me)] (.tup [Ag (ofE l me).1.cs, C1 (.int .i64 (ofE l me).2)]) [] := by
  cases hb : (locB l && nameB me) with
  | false =>
    have h : ofE l me = (⟨⟨#[]⟩, []⟩, 1200) := by
      have : peerE l me = (⟨#[]⟩, 1200) := by unfold peerE; rw [hb]; rfl
      unfold ofE; rw [this]; rfl
    rw [h]; exact mirrorR_bad l hs me hb
  | true =>
    obtain ⟨hv, hn⟩ := (Bool.and_eq_true _ _).mp hb
    cases hp : (decide (1 < (peersL l).length) || hasB (peersL l) me) with
    | true =>
      have h : ofE l me = (⟨⟨#[]⟩, []⟩, 1201) := by
        have : peerE l me = (⟨#[]⟩, 1201) := by unfold peerE; rw [hb, hp]; rfl
        unfold ofE; rw [this]; rfl
      rw [h]; exact mirrorR_peers l hs me hv hn hp
    | false =>
      have h : ofE l me = (mirL me l, 0) := by
        have : (peerE l me).2 = 0 := by unfold peerE; rw [hb, hp]; rfl
        unfold ofE; rw [if_pos this]
      rw [h]; exact mirrorR_ok l hs me hv hn hp
theorem hasR1 (l s : ByteArray) : decide (placeI [l] s ≥ 0) = decide (l = s) := by
  unfold placeI
  by_cases h : l = s
  · subst h; simp [idxG]
  · simp [idxG, h]
set_option maxHeartbeats 4000000 in
theorem fresh1R_c (me : ByteArray) : Con Tryz.prog 89 [] [C1 (namesT [me]), C1 (.str nmPeer)] (Rv (.str (freshV me))) [] := by
  have c1 := hasR_c [me] nmPeer
  rw [hasR1] at c1
  by_cases hm : me = nmPeer
  · subst hm
    have c2 := hasR_c [nmPeer] (nmPeer.extract 0 4 ++ ⟨#[50]⟩)
    rw [hasR1] at c2
    have ci := digits_c 2 (by omega)
    rw [show decide (nmPeer = nmPeer) = true by decide] at c1
    rw [show decide (nmPeer = nmPeer.extract 0 4 ++ (⟨#[50]⟩ : ByteArray)) = false by decide +kernel] at c2
    rw [show (⟨(digs 2).toArray⟩ : ByteArray) = ⟨#[50]⟩ by decide] at ci
    rw [show freshV nmPeer = nmPeer2 from if_pos rfl]
    refine con_of (c := _) Tryz.func89 rfl rfl rfl (by decide) fun w M0 H Z => ?_
    repeat' (first
     | refine g_loopU ?_
     | refine g_inLoopU ?_
     | (exfalso; revert hb; simp; done)
     | refine gc_ rfl ?_
     | (refine g_region ?_; refine run_ th rfl ?_)
     | (refine g_drawC mix rfl rfl ?_; refine drun_ th rfl ?_)
     | (refine g_drawEC mix rfl rfl ?_; refine erun_ th rfl ?_)
     | refine SOps.nil ?_
     | refine DOps.nil ?_
     | refine EOps.nil ?_ rfl rfl
     | (refine s_split rfl rfl (fun hb => ?_) (fun hb => ?_) <;> (try simp only [hbL] at hb) <;> first | (exfalso; omega) | refine run_ th rfl ?_)
     | (refine d_split rfl rfl rfl (fun hb => ?_) (fun hb => ?_) <;> (try simp only [hbL] at hb) <;> first | (exfalso; omega) | refine drun_ th rfl ?_)
     | (refine g_if rfl (fun hb => ?_) (fun hb => ?_) <;> (try simp only [hbL] at hb) <;> (try (exfalso; omega)))
     | (refine s_call c1 [] rfl rfl rfl rfl rfl rfl rfl rfl rfl rfl ?_; refine run_ th rfl ?_)
     | (refine s_call c2 [] rfl rfl rfl rfl rfl rfl rfl rfl rfl rfl ?_; refine run_ th rfl ?_)
     | (refine s_call ci [] rfl rfl rfl rfl rfl rfl rfl rfl rfl rfl ?_; refine run_ th rfl ?_)
     | (refine s_subI rfl rfl rfl rfl rfl rfl (by decide) ?_; refine run_ th rfl ?_)
     | (refine s_strTo th rfl rfl rfl rfl rfl rfl rfl 4 (by decide) (by decide) ?_; refine run_ th rfl ?_)
     | (refine s_cat rfl rfl rfl rfl rfl rfl (by decide) ?_; refine run_ th rfl ?_)
     | (refine s_add rfl rfl rfl rfl rfl rfl (by omega) ?_; refine run_ th rfl ?_))
    all_goals first
      | (exfalso; revert hb; simp; done)
      | (refine g_endL th Tryz.func89 (.inr ⟨_, rfl⟩) rfl rfl rfl ?_ rfl
         exact le_ct (congrArg CT.str (show nmPeer.extract 0 4 ++ (⟨#[50]⟩ : ByteArray) = nmPeer2 by decide +kernel)))
  · rw [show decide (me = nmPeer) = false by simpa using hm] at c1
    rw [show freshV me = nmPeer from if_neg hm]
    refine con_of (c := _) Tryz.func89 rfl rfl rfl (by decide) fun w M0 H Z => ?_
    repeat' (first
     | refine g_loopU ?_
     | (exfalso; revert hb; simp; done)
     | refine gc_ rfl ?_
     | (refine g_region ?_; refine run_ th rfl ?_)
     | (refine g_drawC mix rfl rfl ?_; refine drun_ th rfl ?_)
     | (refine g_drawEC mix rfl rfl ?_; refine erun_ th rfl ?_)
     | refine SOps.nil ?_
     | refine DOps.nil ?_
     | refine EOps.nil ?_ rfl rfl
     | (refine s_split rfl rfl (fun hb => ?_) (fun hb => ?_) <;> (try simp only [hbL] at hb) <;> first | (exfalso; omega) | refine run_ th rfl ?_)
     | (refine d_split rfl rfl rfl (fun hb => ?_) (fun hb => ?_) <;> (try simp only [hbL] at hb) <;> first | (exfalso; omega) | refine drun_ th rfl ?_)
     | (refine g_if rfl (fun hb => ?_) (fun hb => ?_) <;> (try simp only [hbL] at hb) <;> (try (exfalso; omega)))
     | (refine s_call c1 [] rfl rfl rfl rfl rfl rfl rfl rfl rfl rfl ?_; refine run_ th rfl ?_))
    all_goals first
      | (exfalso; revert hb; simp; done)
      | (refine g_endL th Tryz.func89 (.inr ⟨_, rfl⟩) rfl rfl rfl ?_ rfl
         exact .refl _)
theorem other_peers {l : Loc} {me : ByteArray} (h : (peerE l me).2 = 0) : (peersL l = [] ∧ otherV l me = freshV me) ∨ ∃ p, peersL l = [p] ∧ otherV l me = p ∧ p ≠ ⟨#[]⟩ := by
  have hv := of_zero h
  have hm : nameB me = true := (other_ok h).1
  unfold otherV
  unfold peerE at h ⊢
  rw [hv, hm] at h ⊢
  simp only [Bool.and_self, if_true] at h ⊢
  have hname := fun x => peers_name (s := x) hv
  by_cases h2 : (decide (1 < (peersL l).length) || hasB (peersL l) me) = true
  · rw [if_pos h2] at h; simp at h
  · rw [if_neg h2]
    rcases hP : peersL l with _ | ⟨p, _ | ⟨q, r⟩⟩
    · exact .inl ⟨rfl, if_pos rfl⟩
    · have hp : p ≠ ⟨#[]⟩ := name_ne (hname p (by rw [hP]; exact List.mem_cons_self))
      exact .inr ⟨p, rfl, if_neg hp, hp⟩
    · exfalso; rw [hP] at h2; simp at h2
set_option maxHeartbeats 16000000 in
theorem liftR_ok (l : Loc) (hB : LocBig l) (me : ByteArray) (he : (peerE l me).2 = 0) (hl : ¬ 24 < (trimT l).turns.length) : Con Tryz.prog 26 [] [Ag l.cs, C1 (.str me)] (.tup [Ag (liftP l me (otherV l me)).cs, C1 (.int .i64 0)]) [] := by
  have c1 := mirrorR_c l hB me
  rw [show ofE l me = (mirL me l, 0) by unfold ofE; rw [if_pos he]] at c1
  have hv := of_zero he
  have c2 := ltrimR_cO l hB hv
  have c3 := fresh1R_c me
  have c4 := lpeersR_c l hB
  have c5 := nameOK_c l.name
  have hoo := other_peers he
  have hk0 : ∀ t ∈ (trimT l).turns, t.kind ≠ 1 → t.kind ≠ 2 → t.arms = [] := fun t ht n1 n2 => by
    have h := trn_ok (loc_trim hv) t ht
    unfold trnB at h
    split at h
    · simp only [Bool.and_eq_true, List.isEmpty_iff] at h; exact h.2
    · split at h
      · rename_i h1 h2; rcases h2 with h2 | h2
        · exact absurd h2 n1
        · exact absurd h2 n2
      · cases h
  have hpe : liftP l me (otherV l me) = ⟨nameL l, [me, otherV l me], (trimT l).turns.map (liftT me (otherV l me))⟩ := rfl
  have hnl : nameL l = if nameB l.name = true then l.name else nmPair := rfl
  rw [hpe]
  generalize otherV l me = q at *
  generalize nameL l = nl at *
  generalize (trimT l).turns = ts at *
  generalize peersL l = P at c4 hoo
  have hl40 : ts.length ≤ 24 := by omega
  cases hnn : nameB l.name
  all_goals
    rw [hnn] at c5 hnl
    simp only [Bool.false_eq_true, if_false, if_true] at hnl
    rcases hoo with ⟨hP, hq⟩ | ⟨p, hP, hq, hpn⟩
    all_goals
      subst hP
      try subst p
      refine con_of (c := _) Tryz.func26 rfl rfl rfl (by decide) fun w M0 H Z => ?_
      repeat' (first
       | (refine g_atR 5 rfl ?_; refine g_freezeB 200 8 1 rfl rfl rfl rfl rfl rfl rfl ?_)
       | (exfalso; revert hb; simp; done)
       | (exfalso; simp only [List.length_map] at hb; omega)
       | refine gc_ rfl ?_
       | (refine g_region ?_; refine run_ th rfl ?_)
       | (refine g_drawC mix rfl rfl ?_; refine drun_ th rfl ?_)
       | (refine g_drawEC mix rfl rfl ?_; refine erun_ th rfl ?_)
       | refine SOps.nil ?_
       | refine DOps.nil ?_
       | refine EOps.nil ?_ rfl rfl
       | (refine s_split rfl rfl (fun hb => ?_) (fun hb => ?_) <;> (try simp only [hbL] at hb) <;> first | (exfalso; omega) | refine run_ th rfl ?_)
       | (refine d_split rfl rfl rfl (fun hb => ?_) (fun hb => ?_) <;> (try simp only [hbL] at hb) <;> first | (exfalso; omega) | refine drun_ th rfl ?_)
       | (refine g_if rfl (fun hb => ?_) (fun hb => ?_) <;> (try simp only [hbL] at hb) <;> (try (exfalso; omega)))
       | (refine s_call c1 [] rfl rfl rfl rfl rfl rfl rfl rfl rfl rfl ?_; refine run_ th rfl ?_)
       | (refine s_callO c2 [200] rfl rfl rfl rfl rfl rfl rfl rfl rfl (fun _ => rfl) (fun vA _ => ?_); refine run_ th rfl ?_)
       | (refine s_freeze 32 rfl rfl ?_; refine s_leT 32 (.v (C1 (namesT [me]))) rfl (.v (.one (.c (.nn true 1 _)))) ?_; refine s_call c3 [] rfl rfl rfl rfl rfl rfl rfl rfl rfl rfl ?_; refine run_ th rfl ?_)
       | (refine s_call c4 [] rfl rfl rfl rfl rfl rfl rfl rfl rfl rfl ?_; refine run_ th rfl ?_)
       | (refine s_idx th rfl rfl rfl rfl rfl rfl rfl rfl rfl 0 _ rfl rfl ?_; refine run_ th rfl ?_)
       | (refine s_call c5 [] rfl rfl rfl rfl rfl rfl rfl rfl rfl rfl ?_; refine run_ th rfl ?_))
      all_goals first
        | (exfalso; simp at hb; done)
        | skip
      try rw [← hq]
      first
        | rw [show (⟨#[112, 97, 105, 114]⟩ : ByteArray) = nl from hnl.symm]
        | rw [← hnl]
      refine g_freeze 44 rfl rfl ?_
      refine g_adoptB 11 2 300 66 3 rfl rfl rfl rfl ?_
      refine g_loop1 (fun k : Nat => k ≤ ts.length)
        (fun k => [(0 + 1, .v (C1 (.str me))), (4, .v (.one (.ptr 4 0))), (5, .v (C1 (.int .i64 0))), (8, .v (.one (.ptr 8 0))), (9, .v (C1 (.str q))), (11, .v (.one (.ptr 11 0))), (12, .v (C1 (.int .i64 (k : Int))))])
        (fun k => [(4, .box [.c (.str ⟨#[]⟩), .c .nils, .c .nils]), (8, .box [.any, .c (turnsC ts)]), (11, .box [.c (.str nl), .c (namesT [me, q]), .own 300]), (300, .arr false 66 3 (((ts.take k).map (liftT me q)).map Pnt.cs))])
        (fun k => ts.length - k) 0 (Nat.zero_le _)
        (fun a w h => h.sub (by exact ⟨⟨_, rfl, .refl _⟩, ⟨_, rfl, .refl _⟩, ⟨_, rfl, .refl _⟩, ⟨_, rfl, .refl _⟩, ⟨_, rfl, .refl _⟩, ⟨_, rfl, .refl _⟩, ⟨_, rfl, le_int rfl⟩, trivial⟩) (by exact ⟨⟨_, rfl, .refl _⟩, ⟨_, rfl, .box (.cons (.any _) (.cons (.refl _) .nil))⟩, ⟨_, rfl, .box (.cons (.refl _) (.cons (.c (.nn true 1 _)) (.cons (.refl _) .nil)))⟩, ⟨_, rfl, .refl _⟩, trivial⟩) rfl rfl rfl) (fun k hk ih => ?_)
      by_cases hlt : k < ts.length
      · have hx : (ts.map Trn.cs)[k]? = some (ts[k]).cs := by simp [hlt]
        have hsn : ((ts.take (k + 1)).map (liftT me q)).map Pnt.cs = ((ts.take k).map (liftT me q)).map Pnt.cs ++ [(liftT me q ts[k]).cs] := by
          rw [List.take_succ_eq_append_getElem hlt, List.map_append, List.map_append]; rfl
        have htk : (((ts.take k).map (liftT me q)).map Pnt.cs).length = k := by simp; omega
        have hka := hk0 ts[k] (List.getElem_mem hlt)
        have hih := ih (k + 1) hlt (by omega)
        rw [hsn] at hih
        clear ih hsn
        generalize ((ts.take k).map (liftT me q)).map Pnt.cs = rows at *
        generalize ts[k] = t at *
        repeat' (first
         | refine gc_ rfl ?_
         | (refine g_region ?_; refine run_ th rfl ?_)
         | (refine g_drawC mix rfl rfl ?_; refine drun_ th rfl ?_)
         | (refine g_drawEC mix rfl rfl ?_; refine erun_ th rfl ?_)
         | refine SOps.nil ?_
         | refine DOps.nil ?_
         | refine EOps.nil ?_ rfl rfl
         | (refine s_split rfl rfl (fun hb => ?_) (fun hb => ?_) <;> (try simp only [hbL] at hb) <;> first | (exfalso; omega) | refine run_ th rfl ?_)
         | (refine d_split rfl rfl rfl (fun hb => ?_) (fun hb => ?_) <;> (try simp only [hbL] at hb) <;> first | (exfalso; omega) | refine drun_ th rfl ?_)
         | (refine g_if rfl (fun hb => ?_) (fun hb => ?_) <;> (try simp only [hbL] at hb) <;> (try (exfalso; omega)))
         | (refine s_idx th rfl rfl rfl rfl rfl rfl rfl rfl rfl k _ rfl hx ?_; refine run_ th rfl ?_)
         | (refine s_anyB 11 2 rfl ?_; refine s_append th rfl rfl rfl rfl rfl rfl rfl rfl rfl rfl rfl rfl rfl rfl rfl (by constructor <;> simp <;> omega) ?_; refine run_ th rfl ?_)
         | (refine s_add rfl rfl rfl rfl rfl rfl (by omega) ?_; refine run_ th rfl ?_))
        all_goals exact g_sub (by exact ⟨⟨_, rfl, .refl _⟩, ⟨_, rfl, .refl _⟩, ⟨_, rfl, .refl _⟩, ⟨_, rfl, .refl _⟩, ⟨_, rfl, .refl _⟩, ⟨_, rfl, .refl _⟩, ⟨_, rfl, le_int (by omega)⟩, trivial⟩) (by exact ⟨⟨_, rfl, .refl _⟩, ⟨_, rfl, .refl _⟩, ⟨_, rfl, .refl _⟩, ⟨_, rfl, le_arr (by first | (rw [liftT_1 (by assumption)]; done) | (rw [liftT_2 (by assumption) (by assumption)]; done) | (rw [liftT_0 (by assumption) (by assumption), hka (by assumption) (by assumption)]; rfl))⟩, trivial⟩) rfl rfl rfl hih
      · have hke : k = ts.length := by omega
        subst hke
        rw [List.take_length]
        clear ih
        repeat' (first
         | refine gc_ rfl ?_
         | (refine g_region ?_; refine run_ th rfl ?_)
         | (refine g_drawC mix rfl rfl ?_; refine drun_ th rfl ?_)
         | (refine g_drawEC mix rfl rfl ?_; refine erun_ th rfl ?_)
         | refine SOps.nil ?_
         | refine DOps.nil ?_
         | refine EOps.nil ?_ rfl rfl
         | (refine s_split rfl rfl (fun hb => ?_) (fun hb => ?_) <;> (try simp only [hbL] at hb) <;> first | (exfalso; omega) | refine run_ th rfl ?_)
         | (refine d_split rfl rfl rfl (fun hb => ?_) (fun hb => ?_) <;> (try simp only [hbL] at hb) <;> first | (exfalso; omega) | refine drun_ th rfl ?_)
         | (refine g_if rfl (fun hb => ?_) (fun hb => ?_) <;> (try simp only [hbL] at hb) <;> (try (exfalso; omega))))
        all_goals first
          | (exfalso; simp only [List.length_map] at hb; omega)
          | skip
        refine g_freeze 300 rfl rfl ?_
        refine g_endL th Tryz.func26 (.inr ⟨_, rfl⟩) rfl rfl rfl ?_ rfl
        exact .refl _
set_option maxHeartbeats 8000000 in
theorem liftR_no (l : Loc) (hB : LocBig l) (me : ByteArray) (he : (peerE l me).2 ≠ 0) : Con Tryz.prog 26 [] [Ag l.cs, C1 (.str me)] (.tup [Ag noPrt.cs, C1 (.int .i64 (peerE l me).2)]) [] := by
  have c1 := mirrorR_c l hB me
  rw [show ofE l me = (⟨⟨#[]⟩, []⟩, (peerE l me).2) by unfold ofE; rw [if_neg he]] at c1
  generalize (peerE l me).2 = e at *
  refine con_of (c := _) Tryz.func26 rfl rfl rfl (by decide) fun w M0 H Z => ?_
  repeat' (first
   | refine gc_ rfl ?_
   | (refine g_region ?_; refine run_ th rfl ?_)
   | (refine g_drawC mix rfl rfl ?_; refine drun_ th rfl ?_)
   | (refine g_drawEC mix rfl rfl ?_; refine erun_ th rfl ?_)
   | refine SOps.nil ?_
   | refine DOps.nil ?_
   | refine EOps.nil ?_ rfl rfl
   | (refine s_split rfl rfl (fun hb => ?_) (fun hb => ?_) <;> (try simp only [hbL] at hb) <;> first | (exfalso; omega) | refine run_ th rfl ?_)
   | (refine d_split rfl rfl rfl (fun hb => ?_) (fun hb => ?_) <;> (try simp only [hbL] at hb) <;> first | (exfalso; omega) | refine drun_ th rfl ?_)
   | (refine g_if rfl (fun hb => ?_) (fun hb => ?_) <;> (try simp only [hbL] at hb) <;> (try (exfalso; omega)))
   | (refine s_call c1 [] rfl rfl rfl rfl rfl rfl rfl rfl rfl rfl ?_; refine run_ th rfl ?_))
  all_goals first
    | (exfalso; exact he (by assumption))
    | (exfalso; exact he (by simpa using hb))
    | (refine g_endL th Tryz.func26 (.inr ⟨_, rfl⟩) rfl rfl rfl ?_ rfl
       exact .tup (.cons (.agg (.cons (.refl _) (.cons (.c (.nil 1)) (.cons (.c (.nil 3)) .nil)))) (.cons (.refl _) .nil)))
set_option maxHeartbeats 8000000 in
theorem liftR_large (l : Loc) (hB : LocBig l) (me : ByteArray) (he : (peerE l me).2 = 0) (hl : 24 < (trimT l).turns.length) : Con Tryz.prog 26 [] [Ag l.cs, C1 (.str me)] (.tup [Ag noPrt.cs, C1 (.int .i64 1202)]) [] := by
  have c1 := mirrorR_c l hB me
  rw [show ofE l me = (mirL me l, 0) by unfold ofE; rw [if_pos he]] at c1
  have c2 := ltrimR_cO l hB (of_zero he)
  generalize (trimT l).turns = ts at *
  refine con_of (c := _) Tryz.func26 rfl rfl rfl (by decide) fun w M0 H Z => ?_
  repeat' (first
   | (refine g_atR 5 rfl ?_; refine g_freezeB 200 8 1 rfl rfl rfl rfl rfl rfl rfl ?_)
   | (exfalso; revert hb; simp; done)
   | (exfalso; simp only [List.length_map] at hb; omega)
   | refine gc_ rfl ?_
   | (refine g_region ?_; refine run_ th rfl ?_)
   | (refine g_drawC mix rfl rfl ?_; refine drun_ th rfl ?_)
   | (refine g_drawEC mix rfl rfl ?_; refine erun_ th rfl ?_)
   | refine SOps.nil ?_
   | refine DOps.nil ?_
   | refine EOps.nil ?_ rfl rfl
   | (refine s_split rfl rfl (fun hb => ?_) (fun hb => ?_) <;> (try simp only [hbL] at hb) <;> first | (exfalso; omega) | refine run_ th rfl ?_)
   | (refine d_split rfl rfl rfl (fun hb => ?_) (fun hb => ?_) <;> (try simp only [hbL] at hb) <;> first | (exfalso; omega) | refine drun_ th rfl ?_)
   | (refine g_if rfl (fun hb => ?_) (fun hb => ?_) <;> (try simp only [hbL] at hb) <;> (try (exfalso; omega)))
   | (refine s_call c1 [] rfl rfl rfl rfl rfl rfl rfl rfl rfl rfl ?_; refine run_ th rfl ?_)
   | (refine s_callO c2 [200] rfl rfl rfl rfl rfl rfl rfl rfl rfl (fun _ => rfl) (fun vA _ => ?_); refine run_ th rfl ?_))
  all_goals first
    | (exfalso; simp at hb; done)
    | (refine g_endL th Tryz.func26 (.inr ⟨_, rfl⟩) rfl rfl rfl ?_ rfl
       exact .tup (.cons (.agg (.cons (.refl _) (.cons (.c (.nil 1)) (.cons (.c (.nil 3)) .nil)))) (.cons (.refl _) .nil)))
theorem liftR_c (l : Loc) (hB : LocBig l) (me : ByteArray) : Con Tryz.prog 26 [] [Ag l.cs, C1 (.str me)] (.tup [Ag (liftE l me).1.cs, C1 (.int .i64 (liftE l me).2)]) [] := by
  unfold liftE
  by_cases he : (peerE l me).2 = 0
  · rw [if_pos he]
    by_cases hl : 24 < (trimT l).turns.length
    · rw [if_pos hl]; exact liftR_large l hB me he hl
    · rw [if_neg hl]; exact liftR_ok l hB me he hl
  · rw [if_neg he]; exact liftR_no l hB me he
end Go.Sy

/- The law MirrorTells. -/
set_option linter.unusedSimpArgs false
set_option linter.unusedVariables false
set_option linter.unusedSectionVars false
namespace Go.Sy
open Go.Proofs
set_option maxRecDepth 100000
attribute [local irreducible] SOps Goes DOps EOps GOps
def fewL (l : Loc) : Bool := l.turns.all (fun x => decide (x.arms.length ≤ 20)) && decide (l.turns.length ≤ 60)
set_option maxHeartbeats 4000000 in
theorem few12_c (p : Loc) : Con Tryz.prog 20 [] [Ag p.cs] (Rv (.bool (fewL p))) [] := by
  refine con_of (c := _) Tryz.func20 rfl rfl rfl (by decide) fun w M0 H Z => ?_
  repeat' (first
   | refine gc_ rfl ?_
   | (refine g_region ?_; refine run_ th rfl ?_)
   | (refine g_drawC mix rfl rfl ?_; refine drun_ th rfl ?_)
   | (refine g_drawEC mix rfl rfl ?_; refine erun_ th rfl ?_)
   | refine SOps.nil ?_
   | refine DOps.nil ?_
   | refine EOps.nil ?_ rfl rfl
   | (refine s_split rfl rfl (fun hb => ?_) (fun hb => ?_) <;> (try simp only [hbL] at hb) <;> first | (exfalso; omega) | refine run_ th rfl ?_)
   | (refine d_split rfl rfl rfl (fun hb => ?_) (fun hb => ?_) <;> (try simp only [hbL] at hb) <;> first | (exfalso; omega) | refine drun_ th rfl ?_)
   | (refine g_if rfl (fun hb => ?_) (fun hb => ?_) <;> (try simp only [hbL] at hb) <;> (try (exfalso; omega))))
  refine g_lenB 1 1 rfl rfl fun hll => ?_
  simp only [List.length_map] at hll
  refine g_loop1 (fun i : Nat => i ≤ p.turns.length ∧ (p.turns.take i).all (fun x => decide (x.arms.length ≤ 20)) = true)
    (fun i => [(1, .v (.one (.ptr 1 0))), (3, .v (C1 (.int .i64 (i : Int))))]) (fun _ => [(1, .box (p.cs.map SC.c))])
    (fun i => p.turns.length - i) 0 ⟨Nat.zero_le _, rfl⟩
    (fun a w h => h.sub (by exact ⟨⟨_, rfl, .refl _⟩, ⟨_, rfl, le_int rfl⟩, trivial⟩) (by exact ⟨⟨_, rfl, .refl _⟩, trivial⟩) rfl rfl rfl) (fun i hi ih => ?_)
  obtain ⟨hi, hok⟩ := hi
  by_cases hlt : i < p.turns.length
  · have hx : (p.turns.map Trn.cs)[i]? = some (p.turns[i]).cs := by simp [hlt]
    by_cases h20 : (p.turns[i]).arms.length ≤ 20
    · have hih := ih (i + 1) ⟨hlt, all_snoc hlt hok (by simpa using h20)⟩ (by omega)
      clear ih
      generalize p.turns[i] = x at hx h20
      repeat' (first
       | refine gc_ rfl ?_
       | (refine g_region ?_; refine run_ th rfl ?_)
       | (refine g_drawC mix rfl rfl ?_; refine drun_ th rfl ?_)
       | (refine g_drawEC mix rfl rfl ?_; refine erun_ th rfl ?_)
       | refine SOps.nil ?_
       | refine DOps.nil ?_
       | refine EOps.nil ?_ rfl rfl
       | (refine s_split rfl rfl (fun hb => ?_) (fun hb => ?_) <;> (try simp only [hbL] at hb) <;> first | (exfalso; omega) | refine run_ th rfl ?_)
       | (refine d_split rfl rfl rfl (fun hb => ?_) (fun hb => ?_) <;> (try simp only [hbL] at hb) <;> first | (exfalso; omega) | refine drun_ th rfl ?_)
       | (refine g_if rfl (fun hb => ?_) (fun hb => ?_) <;> (try simp only [hbL] at hb) <;> (try (exfalso; omega)))
       | (refine s_idx th rfl rfl rfl rfl rfl rfl rfl rfl rfl i _ rfl hx ?_; refine run_ th rfl ?_)
       | (refine s_add rfl rfl rfl rfl rfl rfl (by omega) ?_; refine run_ th rfl ?_))
      all_goals first
        | (exfalso; simp only [List.length_map] at hb; omega)
        | exact g_sub (by exact ⟨⟨_, rfl, .refl _⟩, ⟨_, rfl, le_int (by omega)⟩, trivial⟩) (by exact ⟨⟨_, rfl, .refl _⟩, trivial⟩) rfl rfl rfl hih
    · have hf : fewL p = false := by
        unfold fewL
        rw [show p.turns.all (fun x => decide (x.arms.length ≤ 20)) = false from List.all_eq_false.2 ⟨p.turns[i], List.getElem_mem hlt, by simpa using h20⟩]; rfl
      rw [hf]
      clear ih
      generalize p.turns[i] = x at hx h20
      repeat' (first
       | refine gc_ rfl ?_
       | (refine g_region ?_; refine run_ th rfl ?_)
       | (refine g_drawC mix rfl rfl ?_; refine drun_ th rfl ?_)
       | (refine g_drawEC mix rfl rfl ?_; refine erun_ th rfl ?_)
       | refine SOps.nil ?_
       | refine DOps.nil ?_
       | refine EOps.nil ?_ rfl rfl
       | (refine s_split rfl rfl (fun hb => ?_) (fun hb => ?_) <;> (try simp only [hbL] at hb) <;> first | (exfalso; omega) | refine run_ th rfl ?_)
       | (refine d_split rfl rfl rfl (fun hb => ?_) (fun hb => ?_) <;> (try simp only [hbL] at hb) <;> first | (exfalso; omega) | refine drun_ th rfl ?_)
       | (refine g_if rfl (fun hb => ?_) (fun hb => ?_) <;> (try simp only [hbL] at hb) <;> (try (exfalso; omega)))
       | refine g_endL th Tryz.func20 (.inr ⟨_, rfl⟩) rfl rfl rfl ?_ rfl
       | (refine s_idx th rfl rfl rfl rfl rfl rfl rfl rfl rfl i _ rfl hx ?_; refine run_ th rfl ?_)
       | (refine s_add rfl rfl rfl rfl rfl rfl (by omega) ?_; refine run_ th rfl ?_))
      all_goals first
        | (exfalso; simp only [List.length_map] at hb; omega)
        | exact .refl _
  · rw [List.take_of_length_le (by omega)] at hok
    unfold fewL
    rw [hok, Bool.true_and]
    clear ih
    repeat' (first
     | refine gc_ rfl ?_
     | (refine g_region ?_; refine run_ th rfl ?_)
     | (refine g_drawC mix rfl rfl ?_; refine drun_ th rfl ?_)
     | (refine g_drawEC mix rfl rfl ?_; refine erun_ th rfl ?_)
     | refine SOps.nil ?_
     | refine DOps.nil ?_
     | refine EOps.nil ?_ rfl rfl
     | (refine s_split rfl rfl (fun hb => ?_) (fun hb => ?_) <;> (try simp only [hbL] at hb) <;> first | (exfalso; omega) | refine run_ th rfl ?_)
     | (refine d_split rfl rfl rfl (fun hb => ?_) (fun hb => ?_) <;> (try simp only [hbL] at hb) <;> first | (exfalso; omega) | refine drun_ th rfl ?_)
     | (refine g_if rfl (fun hb => ?_) (fun hb => ?_) <;> (try simp only [hbL] at hb) <;> (try (exfalso; omega)))
     | refine g_endL th Tryz.func20 (.inr ⟨_, rfl⟩) rfl rfl rfl ?_ rfl)
    all_goals first
      | (exfalso; simp only [List.length_map] at hb; omega)
      | (refine le_ct ?_
         by_cases h1 : p.turns.length ≤ 60
         · rw [decide_eq_true h1]; simp <;> omega
         · rw [decide_eq_false h1]; simp <;> omega)
set_option maxHeartbeats 4000000 in
theorem samePoints12_t (l : List Pnt) : Con Tryz.prog 29 [] [C1 (pointsC l), C1 (pointsC l)] (Rv (.bool true)) [] := by
  refine con_of (c := _) Tryz.func29 rfl rfl rfl (by decide) fun w M0 H Z => ?_
  refine g_len 0 rfl fun hll => ?_
  simp only [List.length_map] at hll
  repeat' (first
   | (exfalso; revert hb; simp; done)
   | refine gc_ rfl ?_
   | (refine g_region ?_; refine run_ th rfl ?_)
   | (refine g_drawC mix rfl rfl ?_; refine drun_ th rfl ?_)
   | (refine g_drawEC mix rfl rfl ?_; refine erun_ th rfl ?_)
   | refine SOps.nil ?_
   | refine DOps.nil ?_
   | refine EOps.nil ?_ rfl rfl
   | (refine s_split rfl rfl (fun hb => ?_) (fun hb => ?_) <;> (try simp only [hbL] at hb) <;> first | (exfalso; omega) | refine run_ th rfl ?_)
   | (refine d_split rfl rfl rfl (fun hb => ?_) (fun hb => ?_) <;> (try simp only [hbL] at hb) <;> first | (exfalso; omega) | refine drun_ th rfl ?_)
   | (refine g_if rfl (fun hb => ?_) (fun hb => ?_) <;> (try simp only [hbL] at hb) <;> (try (exfalso; omega))))
  refine g_loop1 (fun k : Nat => k ≤ l.length)
    (fun k => [(0, .v (C1 (pointsC l))), (0 + 1, .v (C1 (pointsC l))), (5, .v (C1 (.int .i64 (k : Int))))])
    (fun _ => []) (fun k => l.length - k) 0 (Nat.zero_le _)
    (fun a w h => h.sub (by exact ⟨⟨_, rfl, .refl _⟩, ⟨_, rfl, .refl _⟩, ⟨_, rfl, le_int rfl⟩, trivial⟩) (by exact trivial) rfl rfl rfl) (fun k hk ih => ?_)
  by_cases hlt : k < l.length
  · have hx : (l.map Pnt.cs)[k]? = some (l[k]).cs := by simp [hlt]
    have hih := ih (k + 1) hlt (by omega)
    have ca := sameArms_c (l[k]).arms (l[k]).arms
    rw [show decide ((l[k]).arms = (l[k]).arms) = true by simp] at ca
    clear ih
    generalize l[k] = x at *
    repeat' (first
     | (exfalso; revert hb; simp; done)
     | refine gc_ rfl ?_
     | (refine g_region ?_; refine run_ th rfl ?_)
     | (refine g_drawC mix rfl rfl ?_; refine drun_ th rfl ?_)
     | (refine g_drawEC mix rfl rfl ?_; refine erun_ th rfl ?_)
     | refine SOps.nil ?_
     | refine DOps.nil ?_
     | refine EOps.nil ?_ rfl rfl
     | (refine s_split rfl rfl (fun hb => ?_) (fun hb => ?_) <;> (try simp only [hbL] at hb) <;> first | (exfalso; omega) | refine run_ th rfl ?_)
     | (refine d_split rfl rfl rfl (fun hb => ?_) (fun hb => ?_) <;> (try simp only [hbL] at hb) <;> first | (exfalso; omega) | refine drun_ th rfl ?_)
     | (refine g_if rfl (fun hb => ?_) (fun hb => ?_) <;> (try simp only [hbL] at hb) <;> (try (exfalso; omega)))
     | (refine d_idx th rfl rfl rfl rfl rfl rfl rfl rfl rfl k _ rfl hx ?_; refine drun_ th rfl ?_)
     | (refine d_call ca [] rfl rfl rfl rfl rfl rfl rfl rfl rfl rfl rfl ?_; refine drun_ th rfl ?_)
     | (refine s_add rfl rfl rfl rfl rfl rfl (by omega) ?_; refine run_ th rfl ?_))
    all_goals first
      | (exfalso; simp only [List.length_map] at hb; omega)
      | exact g_sub (by exact ⟨⟨_, rfl, .refl _⟩, ⟨_, rfl, .refl _⟩, ⟨_, rfl, le_int (by omega)⟩, trivial⟩) (by exact trivial) rfl rfl rfl hih
  · clear ih
    repeat' (first
     | refine gc_ rfl ?_
     | (refine g_region ?_; refine run_ th rfl ?_)
     | (refine g_drawC mix rfl rfl ?_; refine drun_ th rfl ?_)
     | (refine g_drawEC mix rfl rfl ?_; refine erun_ th rfl ?_)
     | refine SOps.nil ?_
     | refine DOps.nil ?_
     | refine EOps.nil ?_ rfl rfl
     | (refine s_split rfl rfl (fun hb => ?_) (fun hb => ?_) <;> (try simp only [hbL] at hb) <;> first | (exfalso; omega) | refine run_ th rfl ?_)
     | (refine d_split rfl rfl rfl (fun hb => ?_) (fun hb => ?_) <;> (try simp only [hbL] at hb) <;> first | (exfalso; omega) | refine drun_ th rfl ?_)
     | (refine g_if rfl (fun hb => ?_) (fun hb => ?_) <;> (try simp only [hbL] at hb) <;> (try (exfalso; omega)))
     | refine g_endL th Tryz.func29 (.inr ⟨_, rfl⟩) rfl rfl rfl ?_ rfl)
    all_goals first
      | exact .refl _
      | (exfalso; simp only [List.length_map] at hb; omega)
set_option maxHeartbeats 16000000 in
theorem mirrorTells_c (l : Loc) (hB : LocBig l) (made : List Int) (me : ByteArray) (hbig : made.length * 8 ≤ 140737488355328) :
    Con Tryz.prog 3 [] [Ag l.cs, C1 (intsT made), C1 (.str me)] (Rv (.bool true)) [] := by
  have cf := few12_c l
  obtain ⟨hv, hB2⟩ := loc_ok made ⟨#[116]⟩
  have hloc : Con Tryz.prog 21 [[intsT made, .int .i64 0]] [.one (.ptr given 0), C1 (.str ⟨#[116]⟩), C1 .nils] (.v (Ag (locV ⟨#[116]⟩ [] made 0).1.cs)) [diceX made (locV ⟨#[116]⟩ [] made 0).2] := (locx_c ⟨#[116]⟩ [] (by simp) made 0 (Nat.zero_le _)).args (.cons (.one (.refl _)) (.cons (.one (.refl _)) (.cons (.one (.c (.nil 1))) .nil)))
  obtain ⟨q, hq⟩ : ∃ q, q = (locV ⟨#[116]⟩ [] made 0).2 := ⟨_, rfl⟩
  rw [← hq] at hloc
  obtain ⟨a, ha⟩ : ∃ a, a = (locV ⟨#[116]⟩ [] made 0).1 := ⟨_, rfl⟩
  rw [← ha] at hloc hv hB2
  generalize fewL l = fw at cf
  obtain ⟨x, hx, hxe⟩ : ∃ x, LocBig x ∧ x = if made.length = 0 then l else a := by
    by_cases h : made.length = 0
    · exact ⟨l, hB, by rw [if_pos h]⟩
    · exact ⟨a, hB2, by rw [if_neg h]⟩
  have c1 := of_c x hx me
  have c2 := mirrorR_c x hx me
  have c3 := lift_c x hx me
  have c4 := liftR_c x hx me
  generalize ofE x me = E1 at c1 c2
  generalize liftE x me = E2 at c3 c4
  obtain ⟨m, e⟩ := E1
  obtain ⟨p, f⟩ := E2
  have c5 := sameTurns_c m.turns m.turns
  rw [show decide (m.turns = m.turns) = true by simp] at c5
  have c6 := sameNames_c p.roles p.roles
  rw [show decide (p.roles = p.roles) = true by simp] at c6
  have c7 := samePoints12_t p.points
  by_cases hm : made.length = 0
  · rw [if_pos hm] at hxe
    subst hxe
    refine con_of (c := _) Tryz.func3 rfl rfl rfl (by decide) fun w M0 H Z => ?_
    repeat' (first
     | (exfalso; revert hb; simp; done)
     | (exfalso; simp only [List.length_map] at hb; omega)
     | refine gc_ rfl ?_
     | (refine g_region ?_; refine run_ th rfl ?_)
     | (refine g_drawC mix rfl rfl ?_; refine drun_ th rfl ?_)
     | (refine g_drawEC mix rfl rfl ?_; refine erun_ th rfl ?_)
     | refine SOps.nil ?_
     | refine DOps.nil ?_
     | refine EOps.nil ?_ rfl rfl
     | (refine s_split rfl rfl (fun hb => ?_) (fun hb => ?_) <;> (try simp only [hbL] at hb) <;> first | (exfalso; omega) | refine run_ th rfl ?_)
     | (refine d_split rfl rfl rfl (fun hb => ?_) (fun hb => ?_) <;> (try simp only [hbL] at hb) <;> first | (exfalso; omega) | refine drun_ th rfl ?_)
     | (refine g_if rfl (fun hb => ?_) (fun hb => ?_) <;> (try simp only [hbL] at hb) <;> (try (exfalso; omega)))
     | refine g_endL th Tryz.func3 (.inr ⟨_, rfl⟩) rfl rfl rfl ?_ rfl
     | (refine s_call first12_c [] rfl rfl rfl rfl rfl rfl rfl rfl rfl rfl ?_; refine run_ th rfl ?_)
     | (refine s_call cf [] rfl rfl rfl rfl rfl rfl rfl rfl rfl rfl ?_; refine run_ th rfl ?_)
     | (refine s_call c1 [] rfl rfl rfl rfl rfl rfl rfl rfl rfl rfl ?_; refine run_ th rfl ?_)
     | (refine s_call c2 [] rfl rfl rfl rfl rfl rfl rfl rfl rfl rfl ?_; refine run_ th rfl ?_)
     | (refine s_call c3 [] rfl rfl rfl rfl rfl rfl rfl rfl rfl rfl ?_; refine run_ th rfl ?_)
     | (refine s_call c4 [] rfl rfl rfl rfl rfl rfl rfl rfl rfl rfl ?_; refine run_ th rfl ?_)
     | (refine s_call c5 [] rfl rfl rfl rfl rfl rfl rfl rfl rfl rfl ?_; refine run_ th rfl ?_)
     | (refine s_call c6 [] rfl rfl rfl rfl rfl rfl rfl rfl rfl rfl ?_; refine run_ th rfl ?_)
     | (refine s_call c7 [] rfl rfl rfl rfl rfl rfl rfl rfl rfl rfl ?_; refine run_ th rfl ?_))
    all_goals first
      | exact .refl _
      | exact le_ct (by simp)
      | skip
  · rw [if_neg hm] at hxe
    subst hxe
    refine con_of (c := _) Tryz.func3 rfl rfl rfl (by decide) fun w M0 H Z => ?_
    repeat' (first
     | (exfalso; revert hb; simp; done)
     | (exfalso; simp only [List.length_map] at hb; omega)
     | refine gc_ rfl ?_
     | (refine g_region ?_; refine run_ th rfl ?_)
     | (refine g_drawC mix rfl rfl ?_; refine drun_ th rfl ?_)
     | (refine g_drawEC mix rfl rfl ?_; refine erun_ th rfl ?_)
     | refine SOps.nil ?_
     | refine DOps.nil ?_
     | refine EOps.nil ?_ rfl rfl
     | (refine s_split rfl rfl (fun hb => ?_) (fun hb => ?_) <;> (try simp only [hbL] at hb) <;> first | (exfalso; omega) | refine run_ th rfl ?_)
     | (refine d_split rfl rfl rfl (fun hb => ?_) (fun hb => ?_) <;> (try simp only [hbL] at hb) <;> first | (exfalso; omega) | refine drun_ th rfl ?_)
     | (refine g_if rfl (fun hb => ?_) (fun hb => ?_) <;> (try simp only [hbL] at hb) <;> (try (exfalso; omega)))
     | refine g_endL th Tryz.func3 (.inr ⟨_, rfl⟩) rfl rfl rfl ?_ rfl
     | (refine s_call first12_c [] rfl rfl rfl rfl rfl rfl rfl rfl rfl rfl ?_; refine run_ th rfl ?_)
     | (refine s_call cf [] rfl rfl rfl rfl rfl rfl rfl rfl rfl rfl ?_; refine run_ th rfl ?_)
     | (refine s_callN (new_c made (by omega)) rfl rfl rfl rfl rfl rfl rfl ?_; refine run_ th rfl ?_)
     | (refine s_call hloc [26] rfl rfl rfl rfl rfl rfl rfl rfl rfl rfl ?_; refine run_ th rfl ?_)
     | (refine s_call c1 [] rfl rfl rfl rfl rfl rfl rfl rfl rfl rfl ?_; refine run_ th rfl ?_)
     | (refine s_call c2 [] rfl rfl rfl rfl rfl rfl rfl rfl rfl rfl ?_; refine run_ th rfl ?_)
     | (refine s_call c3 [] rfl rfl rfl rfl rfl rfl rfl rfl rfl rfl ?_; refine run_ th rfl ?_)
     | (refine s_call c4 [] rfl rfl rfl rfl rfl rfl rfl rfl rfl rfl ?_; refine run_ th rfl ?_)
     | (refine s_call c5 [] rfl rfl rfl rfl rfl rfl rfl rfl rfl rfl ?_; refine run_ th rfl ?_)
     | (refine s_call c6 [] rfl rfl rfl rfl rfl rfl rfl rfl rfl rfl ?_; refine run_ th rfl ?_)
     | (refine s_call c7 [] rfl rfl rfl rfl rfl rfl rfl rfl rfl rfl ?_; refine run_ th rfl ?_))
    all_goals first
      | exact .refl _
      | exact le_ct (by simp)
      | skip
end Go.Sy
