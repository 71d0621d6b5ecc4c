/- The law TurnsWrong, where the turn that is picked is an end; the law. -/
import Derived.Test.YtadimhaolhpglaaTc
set_option linter.unusedSimpArgs false
set_option linter.unusedVariables false
set_option linter.unusedSectionVars false
namespace Go.Sy
open Go.Proofs
set_option maxRecDepth 100000
attribute [local irreducible] SOps Goes DOps EOps GOps FOps

set_option maxHeartbeats 64000000 in
theorem turnsWrong_e (made : List Int) (what at_ : Int) (hbig : made.length * 8 ≤ 140737488355328) (kN : Nat) (t : Trn) (hkt : (locV ⟨#[116]⟩ [] made 0).1.turns[kN]? = some t) (htk : t.kind = 0)
    (hkN : IntKind.i64.wrap ((IntKind.u64.wrap at_).tmod (IntKind.u64.wrap ((locV ⟨#[116]⟩ [] made 0).1.turns.length : Int))) = (kN : Int)) :
    Con Try.prog 8 [] [C1 (intsT made), C1 (.int .i64 what), C1 (.int .i64 at_)] (Rv (.bool true)) [] := by
  obtain ⟨hv, hB⟩ := loc_ok made ⟨#[116]⟩
  have hloc := (locN_c ⟨#[116]⟩ [] (by simp) made 0 (Nat.zero_le _)).argsT (args' := [.one (.ptr given 0), C1 (.str ⟨#[116]⟩), C1 .nils]) (.cons (.one (.refl _)) (.cons (.one (.refl _)) (.cons (.one (.c (.nil 1))) .nil)))
  have hnm : (locV ⟨#[116]⟩ [] made 0).1.name = ⟨#[116]⟩ := rfl
  generalize (locV ⟨#[116]⟩ [] made 0).2 = q at hloc
  generalize (locV ⟨#[116]⟩ [] made 0).1 = A at hloc hv hB hkt hkN hnm
  have hln := loc_len hv
  have hkl := (List.getElem?_eq_some_iff.1 hkt).1
  obtain ⟨n, hn⟩ : ∃ n, n = A.turns.length := ⟨_, rfl⟩
  have htm : t ∈ A.turns := List.mem_of_getElem? hkt
  have hw8 := remU (x := what) (n := 8) (by omega) (by omega)
  have hu := pick_v (x := at_) (n := 5) (by omega) (by omega)
  obtain ⟨u, hue⟩ : ∃ u, u = IntKind.i64.wrap ((IntKind.u64.wrap at_).tmod 5) := ⟨_, rfl⟩
  rw [show IntKind.u64.wrap (5 : Int) = 5 from rfl, ← hue] at hu
  have hwn : IntKind.u64.wrap (A.turns.length : Int) ≠ 0 := by rw [wrapU_id (by omega) (by omega)]; omega
  have hrlen : ((A.turns.map csN).length : Int) = (A.turns.length : Int) := by simp
  have hkm : kN < (A.turns.map csN).length := by simpa using hkl
  have hx0 : (A.turns.map csN)[kN]? = some [.int .i64 t.kind, .str t.peer, .nils] := by rw [List.getElem?_map, hkt]; exact congrArg some (csN_end htk)
  have harm : t.arms = [] := by
    have h := trn_ok hv t htm
    unfold trnB at h; rw [if_pos htk] at h
    simp at h; exact h.2
  refine con_of (c := _) Try.func8 rfl rfl rfl (by decide) fun w M0 H Z => ?_
  refine g_len 0 rfl fun hll => ?_
  simp only [List.length_map] at hll
  repeat' (first
    | (refine g_atR 4 rfl ?_; refine g_ownB 200 201 7 1 rfl rfl rfl rfl rfl rfl rfl rfl ?_)
    | refine gc_ rfl ?_
    | ((fail_if_success refine g_atR 6 rfl ?_); refine g_region ?_; refine run_ th rfl ?_)
    | refine SOps.nil ?_
    | (refine g_if rfl (fun hb => ?_) (fun hb => ?_) <;> (try simp only [hbL] at hb) <;> (try (exfalso; omega)))
    | (refine s_call first6_c [] rfl rfl rfl rfl rfl rfl rfl rfl rfl rfl ?_; refine run_ th rfl ?_)
    | (refine s_callN (new_c made (by omega)) rfl rfl rfl rfl rfl rfl rfl ?_; refine run_ th rfl ?_)
    | (refine s_callM hloc [(given, 15)] rfl rfl rfl rfl ⟨rfl, trivial⟩ ⟨rfl, rfl, rfl, rfl, rfl⟩ (fun _ => ⟨rfl, rfl, rfl, rfl, rfl, rfl, rfl⟩) (fun _ => rfl) (fun _ => rfl) rfl rfl rfl (fun v _ => ?_); refine run_ th rfl ?_)
    | (refine s_rem rfl rfl rfl rfl rfl rfl (by rw [hrlen]; exact hwn) ?_; rw [hrlen]; refine run_ th rfl ?_; rw [hkN])
    | (refine s_idxo th rfl rfl rfl rfl rfl rfl rfl rfl rfl rfl kN rfl hkm ?_; refine run_ th rfl ?_))
  all_goals first
    | (exfalso; revert hb; simp; done)
    | skip
  refine g_sub (tm' := [(1, .v (C1 (.int .i64 what))), (2, .v (C1 (.int .i64 at_))), (7, .v (.one (.ptr 7 0))), (9, .v (.one (.aptr 201 kN 0)))]) (mm' := [(7, .box [.c (.str ⟨#[116]⟩), .own 201]), (201, .arr false 56 3 (A.turns.map csN))]) (by exact ⟨⟨_, rfl, .refl _⟩, ⟨_, rfl, .refl _⟩, ⟨_, rfl, .refl _⟩, ⟨_, rfl, .refl _⟩, trivial⟩) (by exact ⟨⟨_, rfl, .refl _⟩, ⟨_, rfl, .refl _⟩, trivial⟩) rfl rfl rfl ?_
  have hwc : (IntKind.u64.wrap what).tmod 8 = 0 ∨ (IntKind.u64.wrap what).tmod 8 = 1 ∨ (IntKind.u64.wrap what).tmod 8 = 2 ∨ (IntKind.u64.wrap what).tmod 8 = 3 ∨ (IntKind.u64.wrap what).tmod 8 = 4 ∨ (IntKind.u64.wrap what).tmod 8 = 5 ∨ (IntKind.u64.wrap what).tmod 8 = 6 ∨ (IntKind.u64.wrap what).tmod 8 = 7 := by omega
  rcases hwc with hw | hw | hw | hw | hw | hw | hw | hw
  · skip
    repeat' (first
      | (refine s_storef th _ rfl rfl rfl rfl hx0 rfl rfl rfl rfl rfl rfl rfl ?_; refine run_ th rfl ?_)
      | (refine s_rem rfl rfl rfl rfl rfl rfl (by decide) ?_; refine run_ th rfl ?_; rw [← hue])
      | (refine s_add rfl rfl rfl rfl rfl rfl (by omega) ?_; refine run_ th rfl ?_)
      | refine gc_ rfl ?_
      | ((fail_if_success refine g_atR 22 rfl ?_); refine g_region ?_; refine run_ th rfl ?_)
      | refine SOps.nil ?_
      | (refine g_if rfl (fun hb => ?_) (fun hb => ?_) <;> (try simp only [hbL] at hb) <;> (try (exfalso; omega)))
      | (refine s_rem rfl rfl rfl rfl rfl rfl (by decide) ?_; rw [hw]; refine run_ th rfl ?_))
    refine g_sub (tm' := [(7, .v (.one (.ptr 7 0)))]) (mm' := [(7, .box [.c (.str ⟨#[116]⟩), .own 201]), (201, .arr false 56 3 ((A.turns.set kN (⟨3 + u, t.peer, t.arms⟩ : Trn)).map Trn.cs))]) (by exact ⟨⟨_, rfl, .refl _⟩, trivial⟩) (by exact ⟨⟨_, rfl, .refl _⟩, ⟨_, rfl, .arr (by rw [List.map_set, harm]; exact setN_row (.cons (.refl _) (.cons (.refl _) (.cons (.nil 4) .nil))) kN (trn_ok hv))⟩, trivial⟩) rfl rfl rfl ?_
    refine g_freeze 201 rfl rfl ?_
    have hbad : locB (⟨⟨#[116]⟩, A.turns.set kN (⟨3 + u, t.peer, t.arms⟩ : Trn)⟩ : Loc) = false := loc_noT (l := (⟨⟨#[116]⟩, A.turns.set kN (⟨3 + u, t.peer, t.arms⟩ : Trn)⟩ : Loc)) (List.mem_set hkl _) (by rw [show ((⟨⟨#[116]⟩, A.turns.set kN (⟨3 + u, t.peer, t.arms⟩ : Trn)⟩ : Loc)).turns.length = A.turns.length by simp]; unfold trnB; rw [if_neg (by show ¬ (3 + u : Int) = 0; omega), if_neg (by show ¬ ((3 + u : Int) = 1 ∨ (3 + u : Int) = 2); omega)])
    have hbig2 : LocBig (⟨⟨#[116]⟩, A.turns.set kN (⟨3 + u, t.peer, t.arms⟩ : Trn)⟩ : Loc) := setL_big hB kN (fun a ha => hB t htm a ha)
    obtain ⟨c1, c2, c3, c4, c5, c6⟩ := badL_c _ hbad hbig2
    repeat' (first
      | refine gc_ rfl ?_
      | (refine g_region ?_; refine run_ th rfl ?_)
      | refine SOps.nil ?_
      | (refine s_call c1 [] rfl rfl rfl rfl rfl rfl rfl rfl rfl rfl ?_; refine run_ th rfl ?_)
      | (refine s_call c2 [] rfl rfl rfl rfl rfl rfl rfl rfl rfl rfl ?_; refine run_ th rfl ?_)
      | (refine s_call c3 [] rfl rfl rfl rfl rfl rfl rfl rfl rfl rfl ?_; refine run_ th rfl ?_)
      | (refine s_call c4 [] rfl rfl rfl rfl rfl rfl rfl rfl rfl rfl ?_; refine run_ th rfl ?_)
      | (refine s_call c5 [] rfl rfl rfl rfl rfl rfl rfl rfl rfl rfl ?_; refine run_ th rfl ?_)
      | (refine s_call c6 [] rfl rfl rfl rfl rfl rfl rfl rfl rfl rfl ?_; refine run_ th rfl ?_)
      | (refine s_split rfl rfl (fun hb => ?_) (fun hb => ?_) <;> (try simp only [hbL] at hb) <;> first | (exfalso; omega) | refine run_ th rfl ?_)
      | (refine s_step (op_field1 th rfl rfl rfl rfl rfl rfl rfl rfl rfl).wp rfl ?_; refine run_ th rfl ?_))
    all_goals first
      | (exfalso; revert hb; simp; done)
      | (exfalso; exact hb rfl)
      | (refine g_endL th Try.func8 (.inr ⟨_, rfl⟩) rfl rfl rfl ?_ rfl
         first | exact .refl _ | exact le_ct rfl | exact le_ct (by simp))
  · skip
    repeat' (first
      | (refine s_storef th _ rfl rfl rfl rfl hx0 rfl rfl rfl rfl rfl rfl rfl ?_; refine run_ th rfl ?_)
      | refine gc_ rfl ?_
      | ((fail_if_success refine g_atR 22 rfl ?_); refine g_region ?_; refine run_ th rfl ?_)
      | refine SOps.nil ?_
      | (refine g_if rfl (fun hb => ?_) (fun hb => ?_) <;> (try simp only [hbL] at hb) <;> (try (exfalso; omega)))
      | (refine s_rem rfl rfl rfl rfl rfl rfl (by decide) ?_; rw [hw]; refine run_ th rfl ?_))
    refine g_sub (tm' := [(7, .v (.one (.ptr 7 0)))]) (mm' := [(7, .box [.c (.str ⟨#[116]⟩), .own 201]), (201, .arr false 56 3 ((A.turns.set kN (⟨t.kind, ⟨#[101, 110, 100]⟩, t.arms⟩ : Trn)).map Trn.cs))]) (by exact ⟨⟨_, rfl, .refl _⟩, trivial⟩) (by exact ⟨⟨_, rfl, .refl _⟩, ⟨_, rfl, .arr (by rw [List.map_set, harm]; exact setN_row (.cons (.refl _) (.cons (.refl _) (.cons (.nil 4) .nil))) kN (trn_ok hv))⟩, trivial⟩) rfl rfl rfl ?_
    refine g_freeze 201 rfl rfl ?_
    have hbad : locB (⟨⟨#[116]⟩, A.turns.set kN (⟨t.kind, ⟨#[101, 110, 100]⟩, t.arms⟩ : Trn)⟩ : Loc) = false := loc_noT (l := (⟨⟨#[116]⟩, A.turns.set kN (⟨t.kind, ⟨#[101, 110, 100]⟩, t.arms⟩ : Trn)⟩ : Loc)) (List.mem_set hkl _) (by rw [show ((⟨⟨#[116]⟩, A.turns.set kN (⟨t.kind, ⟨#[101, 110, 100]⟩, t.arms⟩ : Trn)⟩ : Loc)).turns.length = A.turns.length by simp]; unfold trnB; simp only; split <;> first | rfl | decide | (split <;> first | rfl | simp [show nameB ⟨#[101, 110, 100]⟩ = false by decide]))
    have hbig2 : LocBig (⟨⟨#[116]⟩, A.turns.set kN (⟨t.kind, ⟨#[101, 110, 100]⟩, t.arms⟩ : Trn)⟩ : Loc) := setL_big hB kN (fun a ha => hB t htm a ha)
    obtain ⟨c1, c2, c3, c4, c5, c6⟩ := badL_c _ hbad hbig2
    repeat' (first
      | refine gc_ rfl ?_
      | (refine g_region ?_; refine run_ th rfl ?_)
      | refine SOps.nil ?_
      | (refine s_call c1 [] rfl rfl rfl rfl rfl rfl rfl rfl rfl rfl ?_; refine run_ th rfl ?_)
      | (refine s_call c2 [] rfl rfl rfl rfl rfl rfl rfl rfl rfl rfl ?_; refine run_ th rfl ?_)
      | (refine s_call c3 [] rfl rfl rfl rfl rfl rfl rfl rfl rfl rfl ?_; refine run_ th rfl ?_)
      | (refine s_call c4 [] rfl rfl rfl rfl rfl rfl rfl rfl rfl rfl ?_; refine run_ th rfl ?_)
      | (refine s_call c5 [] rfl rfl rfl rfl rfl rfl rfl rfl rfl rfl ?_; refine run_ th rfl ?_)
      | (refine s_call c6 [] rfl rfl rfl rfl rfl rfl rfl rfl rfl rfl ?_; refine run_ th rfl ?_)
      | (refine s_split rfl rfl (fun hb => ?_) (fun hb => ?_) <;> (try simp only [hbL] at hb) <;> first | (exfalso; omega) | refine run_ th rfl ?_)
      | (refine s_step (op_field1 th rfl rfl rfl rfl rfl rfl rfl rfl rfl).wp rfl ?_; refine run_ th rfl ?_))
    all_goals first
      | (exfalso; revert hb; simp; done)
      | (exfalso; exact hb rfl)
      | (refine g_endL th Try.func8 (.inr ⟨_, rfl⟩) rfl rfl rfl ?_ rfl
         first | exact .refl _ | exact le_ct rfl | exact le_ct (by simp))
  · skip
    repeat' (first
      | (refine g_atR 13 rfl ?_; refine g_drawF3 (ι := Unit) 8 0 13 [13] [201] [] (fun _ _ => []) (twEM _ ((A.turns.map csN).set kN [.int .i64 t.kind, .str t.peer, .slice false 4 [[.str ⟨#[119]⟩, .int .i64 0, .str ⟨#[]⟩, .int .i64 ((A.turns.map csN).length : Int)]]])) () mix rfl (fun k x => by match k with | 0 => (refine subG_spec ?_; repeat (first | exact trivial | refine ⟨rfl, ?_⟩)) | _ + 1 => (refine subG_spec ?_; repeat (first | exact trivial | refine ⟨rfl, ?_⟩))) (fun k x hk => by match k, hk with | 0, _ => (refine subG_spec ?_; repeat (first | exact trivial | refine ⟨rfl, ?_⟩))) rfl (fun _ _ => rfl) rfl rfl (by simp) rfl rfl ?_; refine frun_ th rfl ?_)
      | (refine f_loada th _ rfl rfl rfl rfl hx0 rfl rfl rfl rfl rfl rfl ?_; refine frun_ th rfl ?_)
      | (refine f_appendNF th rfl rfl rfl rfl rfl rfl rfl rfl rfl rfl rfl rfl (by constructor <;> simp <;> omega) ?_; refine frun_ th rfl ?_)
      | (refine FOps.nil ⟨Effs.cons rfl (fun x => ?_) Effs.nil, fun x => ?_⟩)
      | exact ef_storef (i := 201) th _ rfl rfl rfl rfl hx0 rfl rfl rfl rfl rfl rfl rfl rfl rfl
      | (refine f_lit th rfl rfl rfl rfl rfl rfl rfl rfl rfl rfl rfl rfl rfl (.refl _) ?_; refine frun_ th rfl ?_)
      | refine gc_ rfl ?_
      | ((fail_if_success refine g_atR 22 rfl ?_); refine g_region ?_; refine run_ th rfl ?_)
      | refine SOps.nil ?_
      | (refine g_if rfl (fun hb => ?_) (fun hb => ?_) <;> (try simp only [hbL] at hb) <;> (try (exfalso; omega)))
      | (refine s_rem rfl rfl rfl rfl rfl rfl (by decide) ?_; rw [hw]; refine run_ th rfl ?_))
    rw [hrlen, ← hn]
    refine g_sub (tm' := [(7, .v (.one (.ptr 7 0)))]) (mm' := [(7, .box [.c (.str ⟨#[116]⟩), .own 201]), (201, .arr false 56 3 ((A.turns.set kN (⟨t.kind, t.peer, t.arms ++ ([⟨⟨#[119]⟩, 0, ⟨#[]⟩, (n : Int)⟩] : List Arm)⟩ : Trn)).map Trn.cs))]) (by exact ⟨⟨_, rfl, .refl _⟩, trivial⟩) (by exact ⟨⟨_, rfl, .refl _⟩, ⟨_, rfl, .arr (by rw [List.map_set, harm]; exact setN_row (.cons (.refl _) (.cons (.refl _) (.cons (.refl _) .nil))) kN (trn_ok hv))⟩, trivial⟩) rfl rfl rfl ?_
    refine g_freeze 201 rfl rfl ?_
    have hbad : locB (⟨⟨#[116]⟩, A.turns.set kN (⟨t.kind, t.peer, t.arms ++ ([⟨⟨#[119]⟩, 0, ⟨#[]⟩, (n : Int)⟩] : List Arm)⟩ : Trn)⟩ : Loc) = false := loc_noT (l := (⟨⟨#[116]⟩, A.turns.set kN (⟨t.kind, t.peer, t.arms ++ ([⟨⟨#[119]⟩, 0, ⟨#[]⟩, (n : Int)⟩] : List Arm)⟩ : Trn)⟩ : Loc)) (List.mem_set hkl _) (by rw [show ((⟨⟨#[116]⟩, A.turns.set kN (⟨t.kind, t.peer, t.arms ++ ([⟨⟨#[119]⟩, 0, ⟨#[]⟩, (n : Int)⟩] : List Arm)⟩ : Trn)⟩ : Loc)).turns.length = A.turns.length by simp]; exact trn_badA (arms_bad (a := ⟨⟨#[119]⟩, 0, ⟨#[]⟩, (n : Int)⟩) (by simp) (by unfold armB; rw [hn]; simp)) (by simp))
    have hbig2 : LocBig (⟨⟨#[116]⟩, A.turns.set kN (⟨t.kind, t.peer, t.arms ++ ([⟨⟨#[119]⟩, 0, ⟨#[]⟩, (n : Int)⟩] : List Arm)⟩ : Trn)⟩ : Loc) := setL_big hB kN (fun a ha => by
      rcases List.mem_append.1 ha with h | h
      · exact hB t htm a h
      · simp at h
        subst h; show (⟨#[]⟩ : ByteArray).size ≤ bigS; decide)
    obtain ⟨c1, c2, c3, c4, c5, c6⟩ := badL_c _ hbad hbig2
    repeat' (first
      | refine gc_ rfl ?_
      | (refine g_region ?_; refine run_ th rfl ?_)
      | refine SOps.nil ?_
      | (refine s_call c1 [] rfl rfl rfl rfl rfl rfl rfl rfl rfl rfl ?_; refine run_ th rfl ?_)
      | (refine s_call c2 [] rfl rfl rfl rfl rfl rfl rfl rfl rfl rfl ?_; refine run_ th rfl ?_)
      | (refine s_call c3 [] rfl rfl rfl rfl rfl rfl rfl rfl rfl rfl ?_; refine run_ th rfl ?_)
      | (refine s_call c4 [] rfl rfl rfl rfl rfl rfl rfl rfl rfl rfl ?_; refine run_ th rfl ?_)
      | (refine s_call c5 [] rfl rfl rfl rfl rfl rfl rfl rfl rfl rfl ?_; refine run_ th rfl ?_)
      | (refine s_call c6 [] rfl rfl rfl rfl rfl rfl rfl rfl rfl rfl ?_; refine run_ th rfl ?_)
      | (refine s_split rfl rfl (fun hb => ?_) (fun hb => ?_) <;> (try simp only [hbL] at hb) <;> first | (exfalso; omega) | refine run_ th rfl ?_)
      | (refine s_step (op_field1 th rfl rfl rfl rfl rfl rfl rfl rfl rfl).wp rfl ?_; refine run_ th rfl ?_))
    all_goals first
      | (exfalso; revert hb; simp; done)
      | (exfalso; exact hb rfl)
      | (refine g_endL th Try.func8 (.inr ⟨_, rfl⟩) rfl rfl rfl ?_ rfl
         first | exact .refl _ | exact le_ct rfl | exact le_ct (by simp))
  · skip
    repeat' (first
      | (refine s_storef th _ rfl rfl rfl rfl hx0 rfl rfl rfl rfl rfl rfl rfl ?_; refine run_ th rfl ?_)
      | (refine s_loada th _ rfl rfl rfl rfl hx0 rfl rfl rfl rfl rfl ?_; refine run_ th rfl ?_)
      | (refine s_freeze 73 rfl rfl ?_; refine s_appendN th 300 rfl rfl rfl rfl rfl rfl rfl rfl rfl rfl rfl rfl rfl rfl (by constructor <;> simp <;> omega) ?_; refine s_freeze 300 rfl rfl ?_; refine run_ th rfl ?_)
      | refine gc_ rfl ?_
      | ((fail_if_success refine g_atR 22 rfl ?_); refine g_region ?_; refine run_ th rfl ?_)
      | refine SOps.nil ?_
      | (refine g_if rfl (fun hb => ?_) (fun hb => ?_) <;> (try simp only [hbL] at hb) <;> (try (exfalso; omega)))
      | (refine s_rem rfl rfl rfl rfl rfl rfl (by decide) ?_; rw [hw]; refine run_ th rfl ?_))
    refine g_sub (tm' := [(7, .v (.one (.ptr 7 0)))]) (mm' := [(7, .box [.c (.str ⟨#[116]⟩), .own 201]), (201, .arr false 56 3 ((A.turns.set kN (⟨t.kind, t.peer, t.arms ++ ([⟨⟨#[119]⟩, 5, ⟨#[]⟩, 0⟩] : List Arm)⟩ : Trn)).map Trn.cs))]) (by exact ⟨⟨_, rfl, .refl _⟩, trivial⟩) (by exact ⟨⟨_, rfl, .refl _⟩, ⟨_, rfl, .arr (by rw [List.map_set, harm]; exact setN_row (.cons (.refl _) (.cons (.refl _) (.cons (.refl _) .nil))) kN (trn_ok hv))⟩, trivial⟩) rfl rfl rfl ?_
    refine g_freeze 201 rfl rfl ?_
    have hbad : locB (⟨⟨#[116]⟩, A.turns.set kN (⟨t.kind, t.peer, t.arms ++ ([⟨⟨#[119]⟩, 5, ⟨#[]⟩, 0⟩] : List Arm)⟩ : Trn)⟩ : Loc) = false := loc_noT (l := (⟨⟨#[116]⟩, A.turns.set kN (⟨t.kind, t.peer, t.arms ++ ([⟨⟨#[119]⟩, 5, ⟨#[]⟩, 0⟩] : List Arm)⟩ : Trn)⟩ : Loc)) (List.mem_set hkl _) (by rw [show ((⟨⟨#[116]⟩, A.turns.set kN (⟨t.kind, t.peer, t.arms ++ ([⟨⟨#[119]⟩, 5, ⟨#[]⟩, 0⟩] : List Arm)⟩ : Trn)⟩ : Loc)).turns.length = A.turns.length by simp]; exact trn_badA (arms_bad (a := ⟨⟨#[119]⟩, 5, ⟨#[]⟩, 0⟩) (by simp) (by unfold armB; rw [show carB 5 ⟨#[]⟩ = false by decide]; simp)) (by simp))
    have hbig2 : LocBig (⟨⟨#[116]⟩, A.turns.set kN (⟨t.kind, t.peer, t.arms ++ ([⟨⟨#[119]⟩, 5, ⟨#[]⟩, 0⟩] : List Arm)⟩ : Trn)⟩ : Loc) := setL_big hB kN (fun a ha => by
      rcases List.mem_append.1 ha with h | h
      · exact hB t htm a h
      · simp at h
        subst h; show (⟨#[]⟩ : ByteArray).size ≤ bigS; decide)
    obtain ⟨c1, c2, c3, c4, c5, c6⟩ := badL_c _ hbad hbig2
    repeat' (first
      | refine gc_ rfl ?_
      | (refine g_region ?_; refine run_ th rfl ?_)
      | refine SOps.nil ?_
      | (refine s_call c1 [] rfl rfl rfl rfl rfl rfl rfl rfl rfl rfl ?_; refine run_ th rfl ?_)
      | (refine s_call c2 [] rfl rfl rfl rfl rfl rfl rfl rfl rfl rfl ?_; refine run_ th rfl ?_)
      | (refine s_call c3 [] rfl rfl rfl rfl rfl rfl rfl rfl rfl rfl ?_; refine run_ th rfl ?_)
      | (refine s_call c4 [] rfl rfl rfl rfl rfl rfl rfl rfl rfl rfl ?_; refine run_ th rfl ?_)
      | (refine s_call c5 [] rfl rfl rfl rfl rfl rfl rfl rfl rfl rfl ?_; refine run_ th rfl ?_)
      | (refine s_call c6 [] rfl rfl rfl rfl rfl rfl rfl rfl rfl rfl ?_; refine run_ th rfl ?_)
      | (refine s_split rfl rfl (fun hb => ?_) (fun hb => ?_) <;> (try simp only [hbL] at hb) <;> first | (exfalso; omega) | refine run_ th rfl ?_)
      | (refine s_step (op_field1 th rfl rfl rfl rfl rfl rfl rfl rfl rfl).wp rfl ?_; refine run_ th rfl ?_))
    all_goals first
      | (exfalso; revert hb; simp; done)
      | (exfalso; exact hb rfl)
      | (refine g_endL th Try.func8 (.inr ⟨_, rfl⟩) rfl rfl rfl ?_ rfl
         first | exact .refl _ | exact le_ct rfl | exact le_ct (by simp))
  · skip
    repeat' (first
      | (refine s_storef th _ rfl rfl rfl rfl hx0 rfl rfl rfl rfl rfl rfl rfl ?_; refine run_ th rfl ?_)
      | (refine s_loada th _ rfl rfl rfl rfl hx0 rfl rfl rfl rfl rfl ?_; refine run_ th rfl ?_)
      | (refine s_freeze 86 rfl rfl ?_; refine s_appendN th 300 rfl rfl rfl rfl rfl rfl rfl rfl rfl rfl rfl rfl rfl rfl (by constructor <;> simp <;> omega) ?_; refine s_freeze 300 rfl rfl ?_; refine run_ th rfl ?_)
      | refine gc_ rfl ?_
      | ((fail_if_success refine g_atR 22 rfl ?_); refine g_region ?_; refine run_ th rfl ?_)
      | refine SOps.nil ?_
      | (refine g_if rfl (fun hb => ?_) (fun hb => ?_) <;> (try simp only [hbL] at hb) <;> (try (exfalso; omega)))
      | (refine s_rem rfl rfl rfl rfl rfl rfl (by decide) ?_; rw [hw]; refine run_ th rfl ?_))
    refine g_sub (tm' := [(7, .v (.one (.ptr 7 0)))]) (mm' := [(7, .box [.c (.str ⟨#[116]⟩), .own 201]), (201, .arr false 56 3 ((A.turns.set kN (⟨t.kind, t.peer, t.arms ++ ([⟨⟨#[118]⟩, 0, ⟨#[]⟩, 0⟩, ⟨⟨#[118]⟩, 0, ⟨#[]⟩, 0⟩] : List Arm)⟩ : Trn)).map Trn.cs))]) (by exact ⟨⟨_, rfl, .refl _⟩, trivial⟩) (by exact ⟨⟨_, rfl, .refl _⟩, ⟨_, rfl, .arr (by rw [List.map_set, harm]; exact setN_row (.cons (.refl _) (.cons (.refl _) (.cons (.refl _) .nil))) kN (trn_ok hv))⟩, trivial⟩) rfl rfl rfl ?_
    refine g_freeze 201 rfl rfl ?_
    have hbad : locB (⟨⟨#[116]⟩, A.turns.set kN (⟨t.kind, t.peer, t.arms ++ ([⟨⟨#[118]⟩, 0, ⟨#[]⟩, 0⟩, ⟨⟨#[118]⟩, 0, ⟨#[]⟩, 0⟩] : List Arm)⟩ : Trn)⟩ : Loc) = false := loc_noT (l := (⟨⟨#[116]⟩, A.turns.set kN (⟨t.kind, t.peer, t.arms ++ ([⟨⟨#[118]⟩, 0, ⟨#[]⟩, 0⟩, ⟨⟨#[118]⟩, 0, ⟨#[]⟩, 0⟩] : List Arm)⟩ : Trn)⟩ : Loc)) (List.mem_set hkl _) (by rw [show ((⟨⟨#[116]⟩, A.turns.set kN (⟨t.kind, t.peer, t.arms ++ ([⟨⟨#[118]⟩, 0, ⟨#[]⟩, 0⟩, ⟨⟨#[118]⟩, 0, ⟨#[]⟩, 0⟩] : List Arm)⟩ : Trn)⟩ : Loc)).turns.length = A.turns.length by simp]; exact trn_badA (arms_dup rfl) (by simp))
    have hbig2 : LocBig (⟨⟨#[116]⟩, A.turns.set kN (⟨t.kind, t.peer, t.arms ++ ([⟨⟨#[118]⟩, 0, ⟨#[]⟩, 0⟩, ⟨⟨#[118]⟩, 0, ⟨#[]⟩, 0⟩] : List Arm)⟩ : Trn)⟩ : Loc) := setL_big hB kN (fun a ha => by
      rcases List.mem_append.1 ha with h | h
      · exact hB t htm a h
      · simp at h
        subst h; show (⟨#[]⟩ : ByteArray).size ≤ bigS; decide)
    obtain ⟨c1, c2, c3, c4, c5, c6⟩ := badL_c _ hbad hbig2
    repeat' (first
      | refine gc_ rfl ?_
      | (refine g_region ?_; refine run_ th rfl ?_)
      | refine SOps.nil ?_
      | (refine s_call c1 [] rfl rfl rfl rfl rfl rfl rfl rfl rfl rfl ?_; refine run_ th rfl ?_)
      | (refine s_call c2 [] rfl rfl rfl rfl rfl rfl rfl rfl rfl rfl ?_; refine run_ th rfl ?_)
      | (refine s_call c3 [] rfl rfl rfl rfl rfl rfl rfl rfl rfl rfl ?_; refine run_ th rfl ?_)
      | (refine s_call c4 [] rfl rfl rfl rfl rfl rfl rfl rfl rfl rfl ?_; refine run_ th rfl ?_)
      | (refine s_call c5 [] rfl rfl rfl rfl rfl rfl rfl rfl rfl rfl ?_; refine run_ th rfl ?_)
      | (refine s_call c6 [] rfl rfl rfl rfl rfl rfl rfl rfl rfl rfl ?_; refine run_ th rfl ?_)
      | (refine s_split rfl rfl (fun hb => ?_) (fun hb => ?_) <;> (try simp only [hbL] at hb) <;> first | (exfalso; omega) | refine run_ th rfl ?_)
      | (refine s_step (op_field1 th rfl rfl rfl rfl rfl rfl rfl rfl rfl).wp rfl ?_; refine run_ th rfl ?_))
    all_goals first
      | (exfalso; revert hb; simp; done)
      | (exfalso; exact hb rfl)
      | (refine g_endL th Try.func8 (.inr ⟨_, rfl⟩) rfl rfl rfl ?_ rfl
         first | exact .refl _ | exact le_ct rfl | exact le_ct (by simp))
  · skip
    repeat' (first
      | (refine s_storef th _ rfl rfl rfl rfl hx0 rfl rfl rfl rfl rfl rfl rfl ?_; refine run_ th rfl ?_)
      | (refine s_loada th _ rfl rfl rfl rfl hx0 rfl rfl rfl rfl rfl ?_; refine run_ th rfl ?_)
      | (refine s_freeze 99 rfl rfl ?_; refine s_appendN th 300 rfl rfl rfl rfl rfl rfl rfl rfl rfl rfl rfl rfl rfl rfl (by constructor <;> simp <;> omega) ?_; refine s_freeze 300 rfl rfl ?_; refine run_ th rfl ?_)
      | refine gc_ rfl ?_
      | ((fail_if_success refine g_atR 22 rfl ?_); refine g_region ?_; refine run_ th rfl ?_)
      | refine SOps.nil ?_
      | (refine g_if rfl (fun hb => ?_) (fun hb => ?_) <;> (try simp only [hbL] at hb) <;> (try (exfalso; omega)))
      | (refine s_rem rfl rfl rfl rfl rfl rfl (by decide) ?_; rw [hw]; refine run_ th rfl ?_))
    refine g_sub (tm' := [(7, .v (.one (.ptr 7 0)))]) (mm' := [(7, .box [.c (.str ⟨#[116]⟩), .own 201]), (201, .arr false 56 3 ((A.turns.set kN (⟨t.kind, t.peer, t.arms ++ ([⟨⟨#[118]⟩, 1, ⟨#[116]⟩, 0⟩] : List Arm)⟩ : Trn)).map Trn.cs))]) (by exact ⟨⟨_, rfl, .refl _⟩, trivial⟩) (by exact ⟨⟨_, rfl, .refl _⟩, ⟨_, rfl, .arr (by rw [List.map_set, harm]; exact setN_row (.cons (.refl _) (.cons (.refl _) (.cons (.refl _) .nil))) kN (trn_ok hv))⟩, trivial⟩) rfl rfl rfl ?_
    refine g_freeze 201 rfl rfl ?_
    have hbad : locB (⟨⟨#[116]⟩, A.turns.set kN (⟨t.kind, t.peer, t.arms ++ ([⟨⟨#[118]⟩, 1, ⟨#[116]⟩, 0⟩] : List Arm)⟩ : Trn)⟩ : Loc) = false := loc_noT (l := (⟨⟨#[116]⟩, A.turns.set kN (⟨t.kind, t.peer, t.arms ++ ([⟨⟨#[118]⟩, 1, ⟨#[116]⟩, 0⟩] : List Arm)⟩ : Trn)⟩ : Loc)) (List.mem_set hkl _) (by rw [show ((⟨⟨#[116]⟩, A.turns.set kN (⟨t.kind, t.peer, t.arms ++ ([⟨⟨#[118]⟩, 1, ⟨#[116]⟩, 0⟩] : List Arm)⟩ : Trn)⟩ : Loc)).turns.length = A.turns.length by simp]; exact trn_badA (arms_bad (a := ⟨⟨#[118]⟩, 1, ⟨#[116]⟩, 0⟩) (by simp) (by unfold armB; rw [show carB 1 ⟨#[116]⟩ = false by decide]; simp)) (by simp))
    have hbig2 : LocBig (⟨⟨#[116]⟩, A.turns.set kN (⟨t.kind, t.peer, t.arms ++ ([⟨⟨#[118]⟩, 1, ⟨#[116]⟩, 0⟩] : List Arm)⟩ : Trn)⟩ : Loc) := setL_big hB kN (fun a ha => by
      rcases List.mem_append.1 ha with h | h
      · exact hB t htm a h
      · simp at h
        subst h; show (⟨#[116]⟩ : ByteArray).size ≤ bigS; decide)
    obtain ⟨c1, c2, c3, c4, c5, c6⟩ := badL_c _ hbad hbig2
    repeat' (first
      | refine gc_ rfl ?_
      | (refine g_region ?_; refine run_ th rfl ?_)
      | refine SOps.nil ?_
      | (refine s_call c1 [] rfl rfl rfl rfl rfl rfl rfl rfl rfl rfl ?_; refine run_ th rfl ?_)
      | (refine s_call c2 [] rfl rfl rfl rfl rfl rfl rfl rfl rfl rfl ?_; refine run_ th rfl ?_)
      | (refine s_call c3 [] rfl rfl rfl rfl rfl rfl rfl rfl rfl rfl ?_; refine run_ th rfl ?_)
      | (refine s_call c4 [] rfl rfl rfl rfl rfl rfl rfl rfl rfl rfl ?_; refine run_ th rfl ?_)
      | (refine s_call c5 [] rfl rfl rfl rfl rfl rfl rfl rfl rfl rfl ?_; refine run_ th rfl ?_)
      | (refine s_call c6 [] rfl rfl rfl rfl rfl rfl rfl rfl rfl rfl ?_; refine run_ th rfl ?_)
      | (refine s_split rfl rfl (fun hb => ?_) (fun hb => ?_) <;> (try simp only [hbL] at hb) <;> first | (exfalso; omega) | refine run_ th rfl ?_)
      | (refine s_step (op_field1 th rfl rfl rfl rfl rfl rfl rfl rfl rfl).wp rfl ?_; refine run_ th rfl ?_))
    all_goals first
      | (exfalso; revert hb; simp; done)
      | (exfalso; exact hb rfl)
      | (refine g_endL th Try.func8 (.inr ⟨_, rfl⟩) rfl rfl rfl ?_ rfl
         first | exact .refl _ | exact le_ct rfl | exact le_ct (by simp))
  · skip
    repeat' (first
      | (refine s_storef th _ rfl rfl rfl rfl hx0 rfl rfl rfl rfl rfl rfl rfl ?_; refine run_ th rfl ?_)
      | (refine s_loada th _ rfl rfl rfl rfl hx0 rfl rfl rfl rfl rfl ?_; refine run_ th rfl ?_)
      | (refine s_freeze 111 rfl rfl ?_; refine s_appendN th 300 rfl rfl rfl rfl rfl rfl rfl rfl rfl rfl rfl rfl rfl rfl (by constructor <;> simp <;> omega) ?_; refine s_freeze 300 rfl rfl ?_; refine run_ th rfl ?_)
      | refine gc_ rfl ?_
      | ((fail_if_success refine g_atR 22 rfl ?_); refine g_region ?_; refine run_ th rfl ?_)
      | refine SOps.nil ?_
      | (refine g_if rfl (fun hb => ?_) (fun hb => ?_) <;> (try simp only [hbL] at hb) <;> (try (exfalso; omega)))
      | (refine s_rem rfl rfl rfl rfl rfl rfl (by decide) ?_; rw [hw]; refine run_ th rfl ?_))
    refine g_sub (tm' := [(7, .v (.one (.ptr 7 0)))]) (mm' := [(7, .box [.c (.str ⟨#[116]⟩), .own 201]), (201, .arr false 56 3 ((A.turns.set kN (⟨t.kind, t.peer, t.arms ++ ([⟨⟨#[86]⟩, 0, ⟨#[]⟩, 0⟩] : List Arm)⟩ : Trn)).map Trn.cs))]) (by exact ⟨⟨_, rfl, .refl _⟩, trivial⟩) (by exact ⟨⟨_, rfl, .refl _⟩, ⟨_, rfl, .arr (by rw [List.map_set, harm]; exact setN_row (.cons (.refl _) (.cons (.refl _) (.cons (.refl _) .nil))) kN (trn_ok hv))⟩, trivial⟩) rfl rfl rfl ?_
    refine g_freeze 201 rfl rfl ?_
    have hbad : locB (⟨⟨#[116]⟩, A.turns.set kN (⟨t.kind, t.peer, t.arms ++ ([⟨⟨#[86]⟩, 0, ⟨#[]⟩, 0⟩] : List Arm)⟩ : Trn)⟩ : Loc) = false := loc_noT (l := (⟨⟨#[116]⟩, A.turns.set kN (⟨t.kind, t.peer, t.arms ++ ([⟨⟨#[86]⟩, 0, ⟨#[]⟩, 0⟩] : List Arm)⟩ : Trn)⟩ : Loc)) (List.mem_set hkl _) (by rw [show ((⟨⟨#[116]⟩, A.turns.set kN (⟨t.kind, t.peer, t.arms ++ ([⟨⟨#[86]⟩, 0, ⟨#[]⟩, 0⟩] : List Arm)⟩ : Trn)⟩ : Loc)).turns.length = A.turns.length by simp]; exact trn_badA (arms_bad (a := ⟨⟨#[86]⟩, 0, ⟨#[]⟩, 0⟩) (by simp) (by unfold armB; rw [show nameB ⟨#[86]⟩ = false by decide]; simp)) (by simp))
    have hbig2 : LocBig (⟨⟨#[116]⟩, A.turns.set kN (⟨t.kind, t.peer, t.arms ++ ([⟨⟨#[86]⟩, 0, ⟨#[]⟩, 0⟩] : List Arm)⟩ : Trn)⟩ : Loc) := setL_big hB kN (fun a ha => by
      rcases List.mem_append.1 ha with h | h
      · exact hB t htm a h
      · simp at h
        subst h; show (⟨#[]⟩ : ByteArray).size ≤ bigS; decide)
    obtain ⟨c1, c2, c3, c4, c5, c6⟩ := badL_c _ hbad hbig2
    repeat' (first
      | refine gc_ rfl ?_
      | (refine g_region ?_; refine run_ th rfl ?_)
      | refine SOps.nil ?_
      | (refine s_call c1 [] rfl rfl rfl rfl rfl rfl rfl rfl rfl rfl ?_; refine run_ th rfl ?_)
      | (refine s_call c2 [] rfl rfl rfl rfl rfl rfl rfl rfl rfl rfl ?_; refine run_ th rfl ?_)
      | (refine s_call c3 [] rfl rfl rfl rfl rfl rfl rfl rfl rfl rfl ?_; refine run_ th rfl ?_)
      | (refine s_call c4 [] rfl rfl rfl rfl rfl rfl rfl rfl rfl rfl ?_; refine run_ th rfl ?_)
      | (refine s_call c5 [] rfl rfl rfl rfl rfl rfl rfl rfl rfl rfl ?_; refine run_ th rfl ?_)
      | (refine s_call c6 [] rfl rfl rfl rfl rfl rfl rfl rfl rfl rfl ?_; refine run_ th rfl ?_)
      | (refine s_split rfl rfl (fun hb => ?_) (fun hb => ?_) <;> (try simp only [hbL] at hb) <;> first | (exfalso; omega) | refine run_ th rfl ?_)
      | (refine s_step (op_field1 th rfl rfl rfl rfl rfl rfl rfl rfl rfl).wp rfl ?_; refine run_ th rfl ?_))
    all_goals first
      | (exfalso; revert hb; simp; done)
      | (exfalso; exact hb rfl)
      | (refine g_endL th Try.func8 (.inr ⟨_, rfl⟩) rfl rfl rfl ?_ rfl
         first | exact .refl _ | exact le_ct rfl | exact le_ct (by simp))
  · skip
    repeat' (first
      | (refine s_makeW th rfl rfl rfl rfl rfl rfl rfl rfl rfl rfl rfl rfl 41 rfl rfl (by constructor <;> decide) ?_; refine run_ th rfl ?_)
      | refine gc_ rfl ?_
      | ((fail_if_success refine g_atR 22 rfl ?_); refine g_region ?_; refine run_ th rfl ?_)
      | refine SOps.nil ?_
      | (refine g_if rfl (fun hb => ?_) (fun hb => ?_) <;> (try simp only [hbL] at hb) <;> (try (exfalso; omega)))
      | (refine s_rem rfl rfl rfl rfl rfl rfl (by decide) ?_; rw [hw]; refine run_ th rfl ?_))
    refine g_sub (tm' := [(7, .v (.one (.ptr 7 0)))]) (mm' := [(7, .box [.c (.str ⟨#[116]⟩), .own 32]), (32, .arr false 56 3 ((List.replicate 41 noTrn).map Trn.cs))]) (by exact ⟨⟨_, rfl, .refl _⟩, trivial⟩) (by exact ⟨⟨_, rfl, .refl _⟩, ⟨_, rfl, .nn (by rw [List.map_replicate]; exact LeX.repT (.cons (.refl _) (.cons (.refl _) (.cons (.nil 4) .nil))) 41)⟩, trivial⟩) rfl rfl rfl ?_
    refine g_freeze 32 rfl rfl ?_
    have hbad : locB (⟨⟨#[116]⟩, List.replicate 41 noTrn⟩ : Loc) = false := loc_no fun h => by
      simp only [locB, Bool.and_eq_true, decide_eq_true_eq, List.length_replicate] at h
      omega
    have hbig2 : LocBig (⟨⟨#[116]⟩, List.replicate 41 noTrn⟩ : Loc) := fun s hs a ha => by rw [(List.mem_replicate.1 hs).2] at ha; cases ha
    obtain ⟨c1, c2, c3, c4, c5, c6⟩ := badL_c _ hbad hbig2
    repeat' (first
      | refine gc_ rfl ?_
      | (refine g_region ?_; refine run_ th rfl ?_)
      | refine SOps.nil ?_
      | (refine s_call c1 [] rfl rfl rfl rfl rfl rfl rfl rfl rfl rfl ?_; refine run_ th rfl ?_)
      | (refine s_call c2 [] rfl rfl rfl rfl rfl rfl rfl rfl rfl rfl ?_; refine run_ th rfl ?_)
      | (refine s_call c3 [] rfl rfl rfl rfl rfl rfl rfl rfl rfl rfl ?_; refine run_ th rfl ?_)
      | (refine s_call c4 [] rfl rfl rfl rfl rfl rfl rfl rfl rfl rfl ?_; refine run_ th rfl ?_)
      | (refine s_call c5 [] rfl rfl rfl rfl rfl rfl rfl rfl rfl rfl ?_; refine run_ th rfl ?_)
      | (refine s_call c6 [] rfl rfl rfl rfl rfl rfl rfl rfl rfl rfl ?_; refine run_ th rfl ?_)
      | (refine s_split rfl rfl (fun hb => ?_) (fun hb => ?_) <;> (try simp only [hbL] at hb) <;> first | (exfalso; omega) | refine run_ th rfl ?_)
      | (refine s_step (op_field1 th rfl rfl rfl rfl rfl rfl rfl rfl rfl).wp rfl ?_; refine run_ th rfl ?_))
    all_goals first
      | (exfalso; revert hb; simp; done)
      | (exfalso; exact hb rfl)
      | (refine g_endL th Try.func8 (.inr ⟨_, rfl⟩) rfl rfl rfl ?_ rfl
         first | exact .refl _ | exact le_ct rfl | exact le_ct (by simp))

theorem turnsWrong_c (made : List Int) (what at_ : Int) (hbig : made.length * 8 ≤ 140737488355328) : Con Try.prog 8 [] [C1 (intsT made), C1 (.int .i64 what), C1 (.int .i64 at_)] (Rv (.bool true)) [] := by
  have hln := loc_len (loc_ok made ⟨#[116]⟩).1
  have hk := pick_v (x := at_) (n := ((locV ⟨#[116]⟩ [] made 0).1.turns.length : Int)) (by omega) (by omega)
  obtain ⟨kN, hkN⟩ : ∃ kN : Nat, IntKind.i64.wrap ((IntKind.u64.wrap at_).tmod (IntKind.u64.wrap ((locV ⟨#[116]⟩ [] made 0).1.turns.length : Int))) = (kN : Int) := ⟨_, (Int.toNat_of_nonneg hk.1).symm⟩
  have hkl : kN < (locV ⟨#[116]⟩ [] made 0).1.turns.length := by omega
  have hkt := List.getElem?_eq_getElem hkl
  by_cases h0 : ((locV ⟨#[116]⟩ [] made 0).1.turns[kN]).kind = 0
  · exact turnsWrong_e made what at_ hbig kN _ hkt h0 hkN
  · exact turnsWrong_k made what at_ hbig kN _ hkt h0 hkN
end Go.Sy
