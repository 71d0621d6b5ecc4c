/- Contracts of the reference: LocalTrim, its outcome as a row of one's own. -/
import Derived.Test.YtndmpmhekbdpdaaGreatDoorMz1
import Derived.Test.YtndmpmhekbdpdaaGreatDoorMj4
import Derived.Test.YtndmpmhekbdpdaaGreatDoorMu
import Derived.Test.YtndmpmhekbdpdaaGreatDoorLp
import Derived.Test.YtndmpmhekbdpdaaGreatDoorBn1
set_option linter.unusedSimpArgs false
set_option linter.unusedVariables false
set_option linter.unusedSectionVars false
namespace Go.Sy
open Go.Proofs
set_option maxRecDepth 100000
attribute [local irreducible] SOps Goes DOps EOps FOps
def ltET : Nat → Value → TM
  | 1, v => [(42, .v (.one (.c (.val v))))]
  | _, _ => []
def ltMM (mm : MM) (name : ByteArray) (rows : List (List CT)) (row : List CT) : Nat → Value → MM
  | 0, _ => mm
  | 1, v => updM mm 200 (.pool 68 3 [(v, rows ++ [row])])
  | _, v => updM (updM mm 200 (.pool 68 3 [(v, rows ++ [row])])) 4 (.box [.c (.str name), .c (.val v)])
set_option maxHeartbeats 16000000 in
theorem ltrimR_cO (l : Loc) (hs : LocBig l) (hv : locB l = true) :
    ConO Tryz.prog 83 [Ag l.cs] (fun _ : Value => True) (fun v => .v (.agg [.c (.str l.name), .c (.val v)])) (fun v => [(68, 3, [(v, (trimT l).turns.map Trn.cs)])]) := by
  have cl := lreachR_c l hs
  obtain ⟨hg, h0, hu⟩ := loc_g hv
  have hn40 := (loc_len hv).2
  have hgl : l.g.length = l.turns.length := by simp [Loc.g]
  obtain ⟨hrow, _⟩ := reach_ok hg h0
  have hrl := hrow.len
  have hre : reachL l = reachG l.g := by unfold reachL; rw [if_pos hv]
  obtain ⟨r0, hr0⟩ := reach_first l.g
  have hpos : 0 < (reachG l.g).length := by rw [hr0]; simp
  clear hr0
  have hnx : ∀ x ∈ reachG l.g, ∀ a ∈ risA (trnAt l x).arms, a.next ∈ reachG l.g := fun x hx a ha => reach_next hg h0 hx (by rw [armsAt_loc]; exact risA_mem.1 ha)
  rw [trimT_eq]
  rw [hre] at cl
  have htr1 : ∀ x ∈ reachG l.g, trimT1 l x = ⟨(trnAt l x).kind, (trnAt l x).peer, (risA (trnAt l x).arms).map (renA (placeZ (reachG l.g)))⟩ := fun x hx => by
    unfold trimT1 movA
    congr 1
    refine List.map_congr_left fun a ha => ?_
    unfold renA
    rw [placeZ_mem (hnx x hx a ha)]
  generalize reachG l.g = row at *
  refine conO_of (c := _) Tryz.func83 rfl rfl rfl (by decide) fun w M0 H => ?_
  repeat' (first
   | (exfalso; simp only [List.length_map] at hb; omega)
   | refine gc_ rfl ?_
   | (refine g_region ?_; refine run_ th rfl ?_)
   | (refine g_drawC mix rfl rfl ?_; refine drun_ th rfl ?_)
   | (refine g_drawEC mix rfl rfl ?_; refine erun_ th rfl ?_)
   | refine SOps.nil ?_
   | refine DOps.nil ?_
   | refine EOps.nil ?_ rfl rfl
   | (refine s_split rfl rfl (fun hb => ?_) (fun hb => ?_) <;> (try simp only [hbL] at hb) <;> first | (exfalso; omega) | refine run_ th rfl ?_)
   | (refine d_split rfl rfl rfl (fun hb => ?_) (fun hb => ?_) <;> (try simp only [hbL] at hb) <;> first | (exfalso; omega) | refine drun_ th rfl ?_)
   | (refine g_if rfl (fun hb => ?_) (fun hb => ?_) <;> (try simp only [hbL] at hb) <;> (try (exfalso; omega)))
   | (refine s_call cl [] rfl rfl rfl rfl rfl rfl rfl rfl rfl rfl ?_; refine run_ th rfl ?_))
  refine g_nilVal 4 1 rfl rfl ?_
  refine g_newPool 200 68 3 rfl rfl ?_
  refine g_nilPool 200 rfl rfl rfl rfl ?_
  refine g_loop2 (fun (k : Nat) (_ : Value) => k ≤ row.length)
    (fun k _ => [(1, .v (.one (.ptr 1 0))), (2, .v (.one (.ptr 2 0))), (3, .v (C1 (intsT row))), (4, .v (.one (.ptr 4 0))), (5, .v (C1 (.int .i64 (k : Int))))])
    (fun k v => [(1, .box (l.cs.map SC.c)), (2, .box [.c (.str ⟨#[]⟩), .c .nils]), (4, .box [.c (.str l.name), .c (.val v)]), (200, .pool 68 3 [(v, ((row.take k).map (trimT1 l)).map Trn.cs)])])
    (fun k _ => row.length - k) 0 (.slice none 0 0) (Nat.zero_le _)
    (fun a w h => h.sub (by exact ⟨⟨_, rfl, .refl _⟩, ⟨_, rfl, .refl _⟩, ⟨_, rfl, .refl _⟩, ⟨_, rfl, .refl _⟩, ⟨_, rfl, le_int rfl⟩, trivial⟩) (by exact ⟨⟨_, rfl, .refl _⟩, ⟨_, rfl, .refl _⟩, ⟨_, rfl, .refl _⟩, ⟨_, rfl, .refl _⟩, trivial⟩) rfl rfl rfl) (fun k v hk ih => ?_)
  by_cases hlt : k < row.length
  · have hx : (row.map fun r => [CT.int .i64 r])[k]? = some [.int .i64 row[k]] := by simp [hlt]
    have hxr := hrow.range row[k] (List.getElem_mem hlt)
    rw [hgl] at hxr
    have hti := trnAt_get hxr
    have hnd := trnAt_nodup hv row[k]
    have ht1 := htr1 row[k] (List.getElem_mem hlt)
    have hih := fun v' => ih (k + 1) v' hlt (by omega)
    have hsn : ((row.take (k + 1)).map (trimT1 l)).map Trn.cs = ((row.take k).map (trimT1 l)).map Trn.cs ++ [(trimT1 l row[k]).cs] := by
      rw [List.take_succ_eq_append_getElem hlt, List.map_append, List.map_append]; rfl
    rw [hsn, ht1] at hih
    have hol : (((row.take k).map (trimT1 l)).map Trn.cs).length = k := by simp; omega
    have cm := movedR_c (trnAt l row[k]).arms (by omega) row
    clear ih hsn ht1 htr1 hnx
    generalize row[k] = x at *
    generalize trnAt l x = t at *
    generalize ((row.take k).map (trimT1 l)).map Trn.cs = rows at *
    repeat' (first
     | (refine g_atR 9 rfl ?_; refine g_drawF (ι := Value) [12, 14] [200] ltET (ltMM _ l.name rows (Trn.cs ⟨t.kind, t.peer, (risA t.arms).map (renA (placeZ row))⟩)) v mix rfl (fun k x hk => by match k, hk with | 0, _ => (refine subG_spec ?_; repeat (first | exact trivial | refine ⟨rfl, ?_⟩)) | 1, _ => (refine subG_spec ?_; repeat (first | exact trivial | refine ⟨rfl, ?_⟩))) rfl (fun k x => by match k with | 0 => rfl | 1 => rfl | _ + 2 => rfl) rfl rfl (by simp) rfl rfl ?_; refine frun_ th rfl ?_)
     | (refine f_call cm rfl rfl rfl rfl rfl rfl rfl rfl ?_; refine frun_ th rfl ?_)
     | (refine f_lit th rfl rfl rfl rfl rfl rfl rfl rfl rfl rfl rfl rfl rfl (.refl _) ?_; refine frun_ th rfl ?_)
     | (refine FOps.nil ⟨Effs.cons rfl (fun x => ?_) (Effs.cons rfl (fun x => ?_) Effs.nil), fun x => ?_⟩)
     | exact ef_append (i := 200) th rfl rfl rfl rfl rfl rfl rfl rfl rfl rfl rfl rfl rfl rfl rfl rfl 0 rfl (by constructor <;> simp <;> omega) (fun v' => v') (fun _ => rfl) (fun _ => rfl)
     | exact ef_store (i := 4) th rfl rfl rfl rfl rfl rfl rfl rfl rfl rfl rfl rfl
     | refine gc_ rfl ?_
     | (refine g_region ?_; refine run_ th rfl ?_)
     | (refine g_drawC mix rfl rfl ?_; refine drun_ th rfl ?_)
     | (refine g_drawEC mix rfl rfl ?_; refine erun_ th rfl ?_)
     | refine SOps.nil ?_
     | refine DOps.nil ?_
     | refine EOps.nil ?_ rfl rfl
     | (refine s_split rfl rfl (fun hb => ?_) (fun hb => ?_) <;> (try simp only [hbL] at hb) <;> first | (exfalso; omega) | refine run_ th rfl ?_)
     | (refine d_split rfl rfl rfl (fun hb => ?_) (fun hb => ?_) <;> (try simp only [hbL] at hb) <;> first | (exfalso; omega) | refine drun_ th rfl ?_)
     | (refine g_if rfl (fun hb => ?_) (fun hb => ?_) <;> (try simp only [hbL] at hb) <;> (try (exfalso; omega)))
     | (refine e_idx th rfl rfl rfl rfl rfl rfl rfl rfl rfl k _ rfl hx ?_; refine erun_ th rfl ?_)
     | (refine e_idx th rfl rfl rfl rfl rfl rfl rfl rfl rfl x.toNat _ (by omega) hti ?_; refine erun_ th rfl ?_)
     | (refine s_add rfl rfl rfl rfl rfl rfl (by omega) ?_; refine run_ th rfl ?_))
    all_goals first
      | (exfalso; simp only [List.length_map] at hb; omega)
      | (exact g_sub (by exact ⟨⟨_, rfl, .refl _⟩, ⟨_, rfl, .refl _⟩, ⟨_, rfl, .refl _⟩, ⟨_, rfl, .refl _⟩, ⟨_, rfl, le_int (by omega)⟩, trivial⟩) (by exact ⟨⟨_, rfl, .refl _⟩, ⟨_, rfl, .refl _⟩, ⟨_, rfl, .refl _⟩, ⟨_, rfl, .refl _⟩, trivial⟩) rfl rfl rfl (hih x))
  · have hke : k = row.length := by omega
    subst hke
    rw [List.take_length]
    clear ih
    repeat' (first
     | refine gc_ rfl ?_
     | (refine g_region ?_; refine run_ th rfl ?_)
     | (refine g_drawC mix rfl rfl ?_; refine drun_ th rfl ?_)
     | (refine g_drawEC mix rfl rfl ?_; refine erun_ th rfl ?_)
     | refine SOps.nil ?_
     | refine DOps.nil ?_
     | refine EOps.nil ?_ rfl rfl
     | (refine s_split rfl rfl (fun hb => ?_) (fun hb => ?_) <;> (try simp only [hbL] at hb) <;> first | (exfalso; omega) | refine run_ th rfl ?_)
     | (refine d_split rfl rfl rfl (fun hb => ?_) (fun hb => ?_) <;> (try simp only [hbL] at hb) <;> first | (exfalso; omega) | refine drun_ th rfl ?_)
     | (refine g_if rfl (fun hb => ?_) (fun hb => ?_) <;> (try simp only [hbL] at hb) <;> (try (exfalso; omega))))
    all_goals first
      | (exfalso; simp only [List.length_map] at hb; omega)
      | skip
    exact g_endO th Tryz.func83 [200] v (.inr ⟨_, rfl⟩) rfl rfl rfl rfl rfl rfl trivial
theorem peer_kind {l : Loc} (hv : locB l = true) {x : Int} (hx : 0 ≤ x ∧ x < (l.turns.length : Int)) : (trnAt l x).peer = ⟨#[]⟩ ↔ (trnAt l x).kind = 0 := by
  have hm : trnAt l x ∈ l.turns := by
    have h : x.toNat < l.turns.length := by omega
    have e : trnAt l x = l.turns[x.toNat] := by simp [trnAt, h]
    rw [e]; exact List.getElem_mem h
  have ht : trnB l.turns.length (trnAt l x) = true := by
    unfold locB at hv
    simp only [Bool.and_eq_true, List.all_eq_true] at hv
    exact hv.2.2 _ hm
  generalize trnAt l x = t at ht
  unfold trnB at ht
  by_cases h0 : t.kind = 0
  · rw [if_pos h0] at ht
    simp only [Bool.and_eq_true, decide_eq_true_eq] at ht
    simp [h0, ht.1]
  · rw [if_neg h0] at ht
    constructor
    · intro e
      exfalso
      rw [e] at ht
      split at ht
      · simp only [Bool.and_eq_true] at ht
        exact absurd ht.1 (by decide)
      · cases ht
    · intro e; exact absurd e h0
set_option maxHeartbeats 8000000 in
theorem lpeersR_c (l : Loc) (hs : LocBig l) : Con Tryz.prog 82 [] [Ag l.cs] (Rv (namesT (peersL l))) [] := by
  have cl := lreachR_c l hs
  have hpe : peersL l = peersS l (reachL l) := by
    unfold peersL reachL
    cases locB l <;> rfl
  rw [hpe]
  have hlen : (reachL l).length ≤ 40 ∧ ∀ x ∈ reachL l, (0 ≤ x ∧ x < (l.turns.length : Int)) ∧ ((trnAt l x).peer = ⟨#[]⟩ ↔ (trnAt l x).kind = 0) := by
    unfold reachL
    cases hv : locB l with
    | false => simp
    | true =>
      rw [if_pos rfl]
      obtain ⟨hg, h0, hu⟩ := loc_g hv
      have hn40 := (loc_len hv).2
      have hgl : l.g.length = l.turns.length := by simp [Loc.g]
      obtain ⟨hrow, _⟩ := reach_ok hg h0
      have hrl := hrow.len
      refine ⟨by omega, fun x hx => ?_⟩
      have hxr := hrow.range x hx
      rw [hgl] at hxr
      exact ⟨hxr, peer_kind hv hxr⟩
  clear hpe
  generalize reachL l = row at *
  obtain ⟨hr40, hrx⟩ := hlen
  refine con_of (c := _) Tryz.func82 rfl rfl rfl (by decide) fun w M0 H Z => ?_
  repeat' (first
   | refine gc_ rfl ?_
   | (refine g_region ?_; refine run_ th rfl ?_)
   | (refine g_drawC mix rfl rfl ?_; refine drun_ th rfl ?_)
   | (refine g_drawEC mix rfl rfl ?_; refine erun_ th rfl ?_)
   | refine SOps.nil ?_
   | refine DOps.nil ?_
   | refine EOps.nil ?_ rfl rfl
   | (refine s_split rfl rfl (fun hb => ?_) (fun hb => ?_) <;> (try simp only [hbL] at hb) <;> first | (exfalso; omega) | refine run_ th rfl ?_)
   | (refine d_split rfl rfl rfl (fun hb => ?_) (fun hb => ?_) <;> (try simp only [hbL] at hb) <;> first | (exfalso; omega) | refine drun_ th rfl ?_)
   | (refine g_if rfl (fun hb => ?_) (fun hb => ?_) <;> (try simp only [hbL] at hb) <;> (try (exfalso; omega)))
   | (refine s_call cl [] rfl rfl rfl rfl rfl rfl rfl rfl rfl rfl ?_; refine run_ th rfl ?_))
  refine g_leT 4 (.v (C1 (namesT []))) rfl (.v (.one (.c (.nil 1)))) ?_
  refine g_loop1 (fun k : Nat => k ≤ row.length)
    (fun k => [(1, .v (.one (.ptr 1 0))), (3, .v (C1 (intsT row))), (4, .v (C1 (namesT (peersS l (row.take k))))), (5, .v (C1 (.int .i64 (k : Int))))])
    (fun _ => [(1, .box (l.cs.map SC.c))]) (fun k => row.length - k) 0 (Nat.zero_le _)
    (fun a w h => h.sub (by exact ⟨⟨_, rfl, .refl _⟩, ⟨_, rfl, .refl _⟩, ⟨_, rfl, .refl _⟩, ⟨_, rfl, le_int rfl⟩, trivial⟩) (by exact ⟨⟨_, rfl, .refl _⟩, trivial⟩) rfl rfl rfl) (fun k hk ih => ?_)
  by_cases hlt : k < row.length
  · have hx : (row.map fun r => [CT.int .i64 r])[k]? = some [.int .i64 row[k]] := by simp [hlt]
    obtain ⟨hxr, hpk⟩ := hrx row[k] (List.getElem_mem hlt)
    have hti := trnAt_get hxr
    have hih := ih (k + 1) hlt (by omega)
    have hsn : peersS l (row.take (k + 1)) = peersF l (peersS l (row.take k)) row[k] := by
      unfold peersS
      rw [List.take_succ_eq_append_getElem hlt, List.foldl_append]; rfl
    rw [hsn] at hih
    have hpl := peersS_len l (row.take k)
    rw [List.length_take] at hpl
    have cp := putR_c (peersS l (row.take k)) (trnAt l row[k]).peer (by omega)
    unfold peersF at hih
    clear ih hsn
    generalize peersS l (row.take k) = out at *
    generalize row[k] = x at *
    generalize trnAt l x = t at *
    repeat' (first
     | refine gc_ rfl ?_
     | (refine g_region ?_; refine run_ th rfl ?_)
     | (refine g_drawC mix rfl rfl ?_; refine drun_ th rfl ?_)
     | (refine g_drawEC mix rfl rfl ?_; refine erun_ th rfl ?_)
     | refine SOps.nil ?_
     | refine DOps.nil ?_
     | refine EOps.nil ?_ rfl rfl
     | (refine s_split rfl rfl (fun hb => ?_) (fun hb => ?_) <;> (try simp only [hbL] at hb) <;> first | (exfalso; omega) | refine run_ th rfl ?_)
     | (refine d_split rfl rfl rfl (fun hb => ?_) (fun hb => ?_) <;> (try simp only [hbL] at hb) <;> first | (exfalso; omega) | refine drun_ th rfl ?_)
     | (refine g_if rfl (fun hb => ?_) (fun hb => ?_) <;> (try simp only [hbL] at hb) <;> (try (exfalso; omega)))
     | (refine e_idx th rfl rfl rfl rfl rfl rfl rfl rfl rfl k _ rfl hx ?_; refine erun_ th rfl ?_)
     | (refine e_idx th rfl rfl rfl rfl rfl rfl rfl rfl rfl x.toNat _ (by omega) hti ?_; refine erun_ th rfl ?_)
     | (refine d_idx th rfl rfl rfl rfl rfl rfl rfl rfl rfl k _ rfl hx ?_; refine drun_ th rfl ?_)
     | (refine d_idx th rfl rfl rfl rfl rfl rfl rfl rfl rfl x.toNat _ (by omega) hti ?_; refine drun_ th rfl ?_)
     | (refine s_call cp [] rfl rfl rfl rfl rfl rfl rfl rfl rfl rfl ?_; refine run_ th rfl ?_)
     | (refine s_add rfl rfl rfl rfl rfl rfl (by omega) ?_; refine run_ th rfl ?_))
    all_goals first
      | (exfalso; simp only [List.length_map] at hb; omega)
      | (by_cases h0 : t.kind = 0
         · exfalso; have := hpk.2 h0; simp [this] at hb
         · rw [if_neg h0] at hih
           exact g_sub (by exact ⟨⟨_, rfl, .refl _⟩, ⟨_, rfl, .refl _⟩, ⟨_, rfl, .refl _⟩, ⟨_, rfl, le_int (by omega)⟩, trivial⟩) (by exact ⟨⟨_, rfl, .refl _⟩, trivial⟩) rfl rfl rfl hih)
      | (by_cases h0 : t.kind = 0
         · rw [if_pos h0] at hih
           exact g_sub (by exact ⟨⟨_, rfl, .refl _⟩, ⟨_, rfl, .refl _⟩, ⟨_, rfl, .refl _⟩, ⟨_, rfl, le_int (by omega)⟩, trivial⟩) (by exact ⟨⟨_, rfl, .refl _⟩, trivial⟩) rfl rfl rfl hih
         · exfalso; have : ¬ t.peer = ⟨#[]⟩ := fun e => h0 (hpk.1 e)
           simp [this] at hb)
  · have hke : k = row.length := by omega
    subst hke
    rw [List.take_length]
    clear ih
    repeat' (first
     | refine gc_ rfl ?_
     | (refine g_region ?_; refine run_ th rfl ?_)
     | (refine g_drawC mix rfl rfl ?_; refine drun_ th rfl ?_)
     | (refine g_drawEC mix rfl rfl ?_; refine erun_ th rfl ?_)
     | refine SOps.nil ?_
     | refine DOps.nil ?_
     | refine EOps.nil ?_ rfl rfl
     | (refine s_split rfl rfl (fun hb => ?_) (fun hb => ?_) <;> (try simp only [hbL] at hb) <;> first | (exfalso; omega) | refine run_ th rfl ?_)
     | (refine d_split rfl rfl rfl (fun hb => ?_) (fun hb => ?_) <;> (try simp only [hbL] at hb) <;> first | (exfalso; omega) | refine drun_ th rfl ?_)
     | (refine g_if rfl (fun hb => ?_) (fun hb => ?_) <;> (try simp only [hbL] at hb) <;> (try (exfalso; omega)))
     | refine g_endL th Tryz.func82 (.inr ⟨_, rfl⟩) rfl rfl rfl ?_ rfl)
    all_goals first
      | exact .refl _
      | (exfalso; simp only [List.length_map] at hb; omega)
theorem nameOK_c (s : ByteArray) : Con Tryz.prog 81 [] [C1 (.str s)] (Rv (.bool (nameB s))) [] := by
  refine con_of (c := _) Tryz.func81 rfl rfl rfl (by decide) fun w M0 H Z => ?_
  repeat' (first
   | refine gc_ rfl ?_
   | (refine g_region ?_; refine run_ th rfl ?_)
   | (refine g_drawC mix rfl rfl ?_; refine drun_ th rfl ?_)
   | (refine g_drawEC mix rfl rfl ?_; refine erun_ th rfl ?_)
   | refine SOps.nil ?_
   | refine DOps.nil ?_
   | refine EOps.nil ?_ rfl rfl
   | (refine s_split rfl rfl (fun hb => ?_) (fun hb => ?_) <;> (try simp only [hbL] at hb) <;> first | (exfalso; omega) | refine run_ th rfl ?_)
   | (refine d_split rfl rfl rfl (fun hb => ?_) (fun hb => ?_) <;> (try simp only [hbL] at hb) <;> first | (exfalso; omega) | refine drun_ th rfl ?_)
   | (refine g_if rfl (fun hb => ?_) (fun hb => ?_) <;> (try simp only [hbL] at hb) <;> (try (exfalso; omega)))
   | refine g_endL th Tryz.func81 (.inr ⟨_, rfl⟩) rfl rfl rfl ?_ rfl
   | (refine s_call (mayR_c s) [] rfl rfl rfl rfl rfl rfl rfl rfl rfl rfl ?_; refine run_ th rfl ?_))
  all_goals exact .refl _
theorem le_noLocE (e : Int) : LeT (.tup [Ag [.str ⟨#[]⟩, .nils], C1 (.int .i64 e)]) (.tup [Ag (Loc.cs ⟨⟨#[]⟩, []⟩), C1 (.int .i64 e)]) := .tup (.cons (.agg (.cons (.refl _) (.cons (.c (.nil 3)) .nil))) (.cons (.refl _) .nil))
set_option maxHeartbeats 8000000 in
theorem mirrorR_bad (l : Loc) (hs : LocBig l) (me : ByteArray) (hb0 : (locB l && nameB me) = false) :
    Con Tryz.prog 24 [] [Ag l.cs, C1 (.str me)] (.tup [Ag (Loc.cs ⟨⟨#[]⟩, []⟩), C1 (.int .i64 1200)]) [] := by
  have cm := lmayR_c l hs
  have cn := nameOK_c me
  cases hv : locB l with
  | false =>
    rw [hv] at cm
    refine con_of (c := _) Tryz.func24 rfl rfl rfl (by decide) fun w M0 H Z => ?_
    repeat' (first
     | (exfalso; revert hb; simp; done)
     | refine gc_ rfl ?_
     | (refine g_region ?_; refine run_ th rfl ?_)
     | (refine g_drawC mix rfl rfl ?_; refine drun_ th rfl ?_)
     | (refine g_drawEC mix rfl rfl ?_; refine erun_ th rfl ?_)
     | refine SOps.nil ?_
     | refine DOps.nil ?_
     | refine EOps.nil ?_ rfl rfl
     | (refine s_split rfl rfl (fun hb => ?_) (fun hb => ?_) <;> (try simp only [hbL] at hb) <;> first | (exfalso; omega) | refine run_ th rfl ?_)
     | (refine d_split rfl rfl rfl (fun hb => ?_) (fun hb => ?_) <;> (try simp only [hbL] at hb) <;> first | (exfalso; omega) | refine drun_ th rfl ?_)
     | (refine g_if rfl (fun hb => ?_) (fun hb => ?_) <;> (try simp only [hbL] at hb) <;> (try (exfalso; omega)))
     | refine g_endL th Tryz.func24 (.inr ⟨_, rfl⟩) rfl rfl rfl ?_ rfl
     | (refine s_call cm [] rfl rfl rfl rfl rfl rfl rfl rfl rfl rfl ?_; refine run_ th rfl ?_))
    all_goals exact le_noLocE _
  | true =>
    rw [hv] at cm hb0
    rw [Bool.true_and] at hb0
    rw [hb0] at cn
    refine con_of (c := _) Tryz.func24 rfl rfl rfl (by decide) fun w M0 H Z => ?_
    repeat' (first
     | (exfalso; revert hb; simp; done)
     | refine gc_ rfl ?_
     | (refine g_region ?_; refine run_ th rfl ?_)
     | (refine g_drawC mix rfl rfl ?_; refine drun_ th rfl ?_)
     | (refine g_drawEC mix rfl rfl ?_; refine erun_ th rfl ?_)
     | refine SOps.nil ?_
     | refine DOps.nil ?_
     | refine EOps.nil ?_ rfl rfl
     | (refine s_split rfl rfl (fun hb => ?_) (fun hb => ?_) <;> (try simp only [hbL] at hb) <;> first | (exfalso; omega) | refine run_ th rfl ?_)
     | (refine d_split rfl rfl rfl (fun hb => ?_) (fun hb => ?_) <;> (try simp only [hbL] at hb) <;> first | (exfalso; omega) | refine drun_ th rfl ?_)
     | (refine g_if rfl (fun hb => ?_) (fun hb => ?_) <;> (try simp only [hbL] at hb) <;> (try (exfalso; omega)))
     | refine g_endL th Tryz.func24 (.inr ⟨_, rfl⟩) rfl rfl rfl ?_ rfl
     | (refine s_call cm [] rfl rfl rfl rfl rfl rfl rfl rfl rfl rfl ?_; refine run_ th rfl ?_)
     | (refine s_call cn [] rfl rfl rfl rfl rfl rfl rfl rfl rfl rfl ?_; refine run_ th rfl ?_))
    all_goals exact le_noLocE _
set_option maxHeartbeats 8000000 in
theorem mirrorR_peers (l : Loc) (hs : LocBig l) (me : ByteArray) (hv : locB l = true) (hn : nameB me = true) (hp : (decide (1 < (peersL l).length) || hasB (peersL l) me) = true) :
    Con Tryz.prog 24 [] [Ag l.cs, C1 (.str me)] (.tup [Ag (Loc.cs ⟨⟨#[]⟩, []⟩), C1 (.int .i64 1201)]) [] := by
  have cm := lmayR_c l hs
  have cn := nameOK_c me
  have cp := lpeersR_c l hs
  rw [hv] at cm
  rw [hn] at cn
  generalize peersL l = P at cp hp
  rcases P with _ | ⟨p, _ | ⟨q, r⟩⟩
  · exfalso
    rw [Bool.or_eq_true, hasB_iff] at hp
    simp at hp
  · have he : p = me := by
      rw [Bool.or_eq_true, hasB_iff] at hp
      simp at hp
      exact hp.symm
    subst he
    refine con_of (c := _) Tryz.func24 rfl rfl rfl (by decide) fun w M0 H Z => ?_
    repeat' (first
     | (exfalso; revert hb; simp; done)
     | (exfalso; simp only [List.length_map, List.length_cons] at hb; omega)
     | refine gc_ rfl ?_
     | (refine g_region ?_; refine run_ th rfl ?_)
     | (refine g_drawC mix rfl rfl ?_; refine drun_ th rfl ?_)
     | (refine g_drawEC mix rfl rfl ?_; refine erun_ th rfl ?_)
     | refine SOps.nil ?_
     | refine DOps.nil ?_
     | refine EOps.nil ?_ rfl rfl
     | (refine s_split rfl rfl (fun hb => ?_) (fun hb => ?_) <;> (try simp only [hbL] at hb) <;> first | (exfalso; omega) | refine run_ th rfl ?_)
     | (refine d_split rfl rfl rfl (fun hb => ?_) (fun hb => ?_) <;> (try simp only [hbL] at hb) <;> first | (exfalso; omega) | refine drun_ th rfl ?_)
     | (refine g_if rfl (fun hb => ?_) (fun hb => ?_) <;> (try simp only [hbL] at hb) <;> (try (exfalso; omega)))
     | refine g_endL th Tryz.func24 (.inr ⟨_, rfl⟩) rfl rfl rfl ?_ rfl
     | (refine s_call cm [] rfl rfl rfl rfl rfl rfl rfl rfl rfl rfl ?_; refine run_ th rfl ?_)
     | (refine s_call cn [] rfl rfl rfl rfl rfl rfl rfl rfl rfl rfl ?_; refine run_ th rfl ?_)
     | (refine s_call cp [] rfl rfl rfl rfl rfl rfl rfl rfl rfl rfl ?_; refine run_ th rfl ?_)
     | (refine s_idx th rfl rfl rfl rfl rfl rfl rfl rfl rfl 0 _ rfl rfl ?_; refine run_ th rfl ?_))
    all_goals exact le_noLocE _
  · skip
    refine con_of (c := _) Tryz.func24 rfl rfl rfl (by decide) fun w M0 H Z => ?_
    repeat' (first
     | (exfalso; revert hb; simp; done)
     | (exfalso; simp only [List.length_map, List.length_cons] at hb; omega)
     | refine gc_ rfl ?_
     | (refine g_region ?_; refine run_ th rfl ?_)
     | (refine g_drawC mix rfl rfl ?_; refine drun_ th rfl ?_)
     | (refine g_drawEC mix rfl rfl ?_; refine erun_ th rfl ?_)
     | refine SOps.nil ?_
     | refine DOps.nil ?_
     | refine EOps.nil ?_ rfl rfl
     | (refine s_split rfl rfl (fun hb => ?_) (fun hb => ?_) <;> (try simp only [hbL] at hb) <;> first | (exfalso; omega) | refine run_ th rfl ?_)
     | (refine d_split rfl rfl rfl (fun hb => ?_) (fun hb => ?_) <;> (try simp only [hbL] at hb) <;> first | (exfalso; omega) | refine drun_ th rfl ?_)
     | (refine g_if rfl (fun hb => ?_) (fun hb => ?_) <;> (try simp only [hbL] at hb) <;> (try (exfalso; omega)))
     | refine g_endL th Tryz.func24 (.inr ⟨_, rfl⟩) rfl rfl rfl ?_ rfl
     | (refine s_call cm [] rfl rfl rfl rfl rfl rfl rfl rfl rfl rfl ?_; refine run_ th rfl ?_)
     | (refine s_call cn [] rfl rfl rfl rfl rfl rfl rfl rfl rfl rfl ?_; refine run_ th rfl ?_)
     | (refine s_call cp [] rfl rfl rfl rfl rfl rfl rfl rfl rfl rfl ?_; refine run_ th rfl ?_)
     | (refine s_idx th rfl rfl rfl rfl rfl rfl rfl rfl rfl 0 _ rfl rfl ?_; refine run_ th rfl ?_))
    all_goals first
      | exact le_noLocE _
      | (exfalso; simp only [List.length_map, List.length_cons] at hb; omega)
      | (exfalso; simp at hb; omega)
      | (exfalso; simp at hb; done)
end Go.Sy
