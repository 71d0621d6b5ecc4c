/- Contracts: reparteemake.rounds, exactly, for other numbers of roles. -/
import Derived.Test.YtadimhaolhpglaaWr
set_option linter.unusedSimpArgs false
set_option linter.unusedVariables false
set_option linter.unusedSectionVars false
namespace Go.Sy
open Go.Proofs
set_option maxRecDepth 100000
attribute [local irreducible] SOps Goes DOps EOps GOps FOps

set_option maxHeartbeats 64000000 in
theorem rnd2t_c (name : ByteArray) (types : List ByteArray) (ht : types.length ≤ 1000) (l : List Int) (k : Nat) (hk : k ≤ l.length) (hb0 : pkV l (pkA l (pkA l k)) 2 = 1) :
    ConM Try.prog 75 [(given, .box ((diceX l k).map SC.c))] [.one (.ptr given 0), C1 (.str name), C1 (.int .i64 ((2 : Nat) : Int)), C1 (namesT types)]
      (fun _ : PV => True) (fun v => .v (.agg [.c (.str name), .c (.val v.1), .c (.val v.2)])) (fun v => [(given, .box ((diceX l (rndV name types l 2 k).2).map SC.c)), (22, .pool 9 1 [(v.1, (rolesL.take 2).map fun s => [CT.str s])]), (200, .pool 34 3 [(v.2, (rndV name types l 2 k).1.points.map Pnt.cs)])]) := by
  have hk1 := pkA_le hk
  have hk2 := pkA_le hk1
  have hk3 := pkA_le hk2
  have hk4 : rnd4 l k ≤ l.length := pkA_le hk3
  have hr0 := pk_range l k (n := 2) (by omega) (by omega)
  have hr1 := pk_range l (pkA l k) (n := 2) (by omega) (by omega)
  have hrl : rolesL.length = 5 := rfl
  have hB : rndB l k = true := by unfold rndB; simp [hb0]
  have hres : rndV name types l 2 k = (⟨name, rolesL.take 2, rndP 2 true (rndGo l k) (rndQuit l k) (dataV l (pkA l (pkA l (pkA l k)))) [] (dataV l (rnd4 l k))⟩, (pkA l (rnd4 l k))) := by unfold rndV; rw [hB]; rfl
  rw [hres]
  refine conM_of (c := _) Try.func75 rfl rfl rfl (by decide) rfl fun w M0 H Z hd => ?_
  repeat' (first
   | (refine g_drawS 12 [given] mix rfl rfl rfl rfl rfl rfl rfl rfl ?_; refine grun_ th rfl ?_)
   | refine gc_ rfl ?_
   | (refine g_region ?_; refine run_ th rfl ?_)
   | refine SOps.nil ?_
   | (refine s_split rfl rfl (fun hb => ?_) (fun hb => ?_) <;> (try simp only [hbL] at hb) <;> first | (exfalso; omega) | refine run_ th rfl ?_)
   | (refine g_if rfl (fun hb => ?_) (fun hb => ?_) <;> (try simp only [hbL] at hb) <;> (try (exfalso; omega)))
   | (refine s_call roles_c [] rfl rfl rfl rfl rfl rfl rfl rfl rfl rfl ?_; refine run_ th rfl ?_)
   | (refine s_step (op_sliceTo (j := 2) th rfl rfl rfl rfl rfl rfl (by decide) rfl rfl).wp rfl ?_; refine run_ th rfl ?_)
   | (refine s_appendN th 22 rfl rfl rfl rfl rfl rfl rfl rfl rfl rfl rfl rfl rfl rfl (by constructor <;> decide) ?_; refine s_toPool 22 rfl rfl fun vr => ?_; refine run_ th rfl ?_)
   | (refine q_eff labels_c [] rfl rfl rfl rfl rfl rfl rfl rfl rfl rfl rfl (outM_sub (ids := [given]) rfl) ?_; refine grun_ th rfl ?_)
   | (refine q_eff (pickx_c l k hk 2 (by omega) (by omega)) [given] rfl rfl rfl rfl rfl rfl rfl rfl rfl rfl rfl (outM_sub (ids := [given]) rfl) ?_; refine grun_ th rfl ?_)
   | (refine q_eff (pickx_c l _ hk1 2 (by omega) (by omega)) [given] rfl rfl rfl rfl rfl rfl rfl rfl rfl rfl rfl (outM_sub (ids := [given]) rfl) ?_; refine grun_ th rfl ?_)
   | (refine q_idx th rfl rfl rfl rfl rfl rfl rfl rfl rfl (pkV l k 2).toNat _ (by omega) (lab_get (by omega)) ?_; refine grun_ th rfl ?_)
   | (refine q_add rfl rfl rfl rfl rfl rfl (by omega) ?_; refine grun_ th rfl ?_)
   | (refine q_idx th rfl rfl rfl rfl rfl rfl rfl rfl rfl (2 + pkV l (pkA l k) 2).toNat _ (by omega) (lab_get (by omega)) ?_; refine grun_ th rfl ?_)
   | (refine GOps.nil ?_; refine run_ th rfl ?_)
   | (refine s_call (pickx_c l _ hk2 2 (by omega) (by omega)) [given] rfl rfl rfl rfl rfl rfl rfl rfl rfl rfl ?_; refine run_ th rfl ?_)
   | (refine s_call (datax_c l _ hk3) [given] rfl rfl rfl rfl rfl rfl rfl rfl rfl rfl ?_; refine run_ th rfl ?_))
  refine g_nilVal 9 2 rfl rfl ?_
  refine g_newPool 200 34 3 rfl rfl ?_
  refine g_nilPool 200 rfl rfl rfl rfl ?_
  rw [show decide (pkV l (pkA l (pkA l k)) 2 = 1) = true from hB]
  obtain ⟨go, hgo⟩ : ∃ x, x = rndGo l k := ⟨_, rfl⟩
  obtain ⟨quit, hqu⟩ : ∃ x, x = rndQuit l k := ⟨_, rfl⟩
  obtain ⟨c, hc⟩ : ∃ x, x = dataV l (pkA l (pkA l (pkA l k))) := ⟨_, rfl⟩
  rw [show labelsL.getD (pkV l k 2).toNat ⟨#[]⟩ = go from hgo.symm, show labelsL.getD (2 + pkV l (pkA l k) 2).toNat ⟨#[]⟩ = quit from hqu.symm, show rndGo l k = go from hgo.symm, show rndQuit l k = quit from hqu.symm, show dataV l (pkA l (pkA l (pkA l k))) = c from hc.symm, show pkA l (pkA l (pkA l (pkA l k))) = rnd4 l k from rfl]
  obtain ⟨k4, hk4e⟩ : ∃ x, x = rnd4 l k := ⟨_, rfl⟩
  rw [← hk4e] at hk4 ⊢
  clear hgo hqu hc hres hB hr0 hr1 hk1 hk2 hk3 hk4e hb0
  refine g_sub (tm' := [(0, .v (.one (.ptr given 0))), (2, .v (C1 (.int .i64 ((2 : Nat) : Int)))), (3, .v (C1 (namesT types))), (8, .v (.one (.ptr 8 0))), (9, .v (.one (.ptr 9 0))), (10, .v (C1 (.str go))), (11, .v (C1 (.str quit))), (12, .v (C1 (.bool true))), (13, .v (.one (.ptr 13 0)))]) (mm' := [(given, .box ((diceX l k4).map SC.c)), (8, .box [.c (.str ⟨#[]⟩), .c .nils, .c .nils]), (9, .box [.c (.str name), .c (.val vr), .c (.val (.slice none 0 0))]), (13, .box [.c (.int .i64 c), .c (.str ⟨#[]⟩)]), (22, .pool 9 1 [(vr, (rolesL.take 2).map fun s => [CT.str s])]), (200, .pool 34 3 [((.slice none 0 0), [])])]) (by exact ⟨⟨_, rfl, .refl _⟩, ⟨_, rfl, .refl _⟩, ⟨_, rfl, .refl _⟩, ⟨_, rfl, .refl _⟩, ⟨_, rfl, .refl _⟩, ⟨_, rfl, .refl _⟩, ⟨_, rfl, .refl _⟩, ⟨_, rfl, .refl _⟩, ⟨_, rfl, .refl _⟩, trivial⟩) (by exact ⟨⟨_, rfl, .refl _⟩, ⟨_, rfl, .refl _⟩, ⟨_, rfl, .refl _⟩, ⟨_, rfl, .refl _⟩, ⟨_, rfl, .refl _⟩, ⟨_, rfl, .refl _⟩, trivial⟩) rfl rfl rfl ?_
  refine g_drawF (ι := PV) [15, 16, 17, 18, 20] [200] (r5ET (roleN 0) (roleN 1)) (r5MM _ name vr [[.str go, .int .i64 c, .str ⟨#[]⟩, .int .i64 1], [.str quit, .int .i64 0, .str ⟨#[]⟩, .int .i64 0]] (roleN 0) (roleN 1)) (vr, vr) mix rfl (fun k x hk => by match k, hk with | 0, _ => (refine subG_spec ?_; repeat (first | exact trivial | refine ⟨rfl, ?_⟩)) | 1, _ => (refine subG_spec ?_; repeat (first | exact trivial | refine ⟨rfl, ?_⟩)) | 2, _ => (refine subG_spec ?_; repeat (first | exact trivial | refine ⟨rfl, ?_⟩)) | 3, _ => (refine subG_spec ?_; repeat (first | exact trivial | refine ⟨rfl, ?_⟩)) | 4, _ => (refine subG_spec ?_; repeat (first | exact trivial | refine ⟨rfl, ?_⟩))) rfl (fun k x => by match k with | 0 => rfl | 1 => rfl | 2 => rfl | 3 => rfl | 4 => rfl | 5 => rfl | _ + 6 => rfl) rfl rfl (by simp) rfl rfl ?_
  refine frun_ th rfl ?_
  repeat' (first
    | (refine f_pidx (r := 22) th rfl rfl rfl rfl rfl rfl rfl rfl rfl rfl rfl 0 rfl 0 rfl (by decide) ?_; refine frun_ th rfl ?_)
    | (refine f_pidx (r := 22) th rfl rfl rfl rfl rfl rfl rfl rfl rfl rfl rfl 0 rfl 1 rfl (by decide) ?_; refine frun_ th rfl ?_)
    | (refine f_pidx (r := 22) th rfl rfl rfl rfl rfl rfl rfl rfl rfl rfl rfl 0 rfl 2 rfl (by decide) ?_; refine frun_ th rfl ?_)
    | (refine f_pidx (r := 22) th rfl rfl rfl rfl rfl rfl rfl rfl rfl rfl rfl 0 rfl 3 rfl (by decide) ?_; refine frun_ th rfl ?_)
    | (refine f_pload (r := 22) th rfl rfl rfl rfl rfl rfl rfl rfl rfl 0 rfl rfl rfl ?_; refine frun_ th rfl ?_)
    | (refine FOps.nil ⟨Effs.cons rfl (fun x => ?_) (Effs.cons rfl (fun x => ?_) (Effs.cons rfl (fun x => ?_) (Effs.cons rfl (fun x => ?_) (Effs.cons rfl (fun x => ?_) Effs.nil)))), fun x => ?_⟩)
    | exact ef_eval th rfl rfl rfl rfl rfl rfl rfl
    | exact ef_litP th rfl rfl rfl rfl rfl rfl rfl rfl rfl rfl rfl rfl rfl rfl rfl rfl rfl (fun v => (v, x.2)) (fun _ => rfl) (fun _ => rfl)
    | exact ef_lit th rfl rfl rfl rfl rfl rfl rfl rfl rfl rfl rfl rfl rfl (.nn true 4 _) rfl rfl
    | exact ef_lit th rfl rfl rfl rfl rfl rfl rfl rfl rfl rfl rfl rfl rfl (.refl _) rfl rfl
    | exact ef_append (i := 200) th rfl rfl rfl rfl rfl rfl rfl rfl rfl rfl rfl rfl rfl rfl rfl rfl 0 rfl ⟨(Nat.le_of_ble_eq_true rfl), (Nat.le_of_ble_eq_true rfl)⟩ (fun v' => (x.1, v')) (fun _ => rfl) (fun _ => rfl)
    | exact ef_append (i := 200) th rfl rfl rfl rfl rfl rfl rfl rfl rfl rfl rfl rfl rfl rfl rfl rfl 0 rfl ⟨(Nat.le_of_ble_eq_true rfl), (Nat.le_of_ble_eq_true rfl)⟩ (fun v' => v') (fun _ => rfl) (fun _ => rfl)
    | exact ef_store (i := 9) th rfl rfl rfl rfl rfl rfl rfl rfl rfl rfl rfl rfl)
  obtain ⟨v55, vp0⟩ := x
  refine g_sub (tm' := [(0, .v (.one (.ptr given 0))), (2, .v (C1 (.int .i64 ((2 : Nat) : Int)))), (3, .v (C1 (namesT types))), (8, .v (.one (.ptr 8 0))), (9, .v (.one (.ptr 9 0))), (10, .v (C1 (.str go))), (11, .v (C1 (.str quit))), (12, .v (C1 (.bool true))), (13, .v (.one (.ptr 13 0)))]) (mm' := [(given, .box ((diceX l k4).map SC.c)), (8, .box [.c (.str ⟨#[]⟩), .c .nils, .c .nils]), (9, .box [.c (.str name), .c (.val vr), .c (.val vp0)]), (13, .box [.c (.int .i64 c), .c (.str ⟨#[]⟩)]), (22, .pool 9 1 [(vr, (rolesL.take 2).map fun s => [CT.str s])]), (200, .pool 34 3 [(vp0, [ptRow (roleN 0) (roleN 1) (.val v55)])]), (55, .pool 41 4 [(v55, [[.str go, .int .i64 c, .str ⟨#[]⟩, .int .i64 1], [.str quit, .int .i64 0, .str ⟨#[]⟩, .int .i64 0]])])]) (by exact ⟨⟨_, rfl, .refl _⟩, ⟨_, rfl, .refl _⟩, ⟨_, rfl, .refl _⟩, ⟨_, rfl, .refl _⟩, ⟨_, rfl, .refl _⟩, ⟨_, rfl, .refl _⟩, ⟨_, rfl, .refl _⟩, ⟨_, rfl, .refl _⟩, ⟨_, rfl, .refl _⟩, trivial⟩) (by exact ⟨⟨_, rfl, .refl _⟩, ⟨_, rfl, .refl _⟩, ⟨_, rfl, .refl _⟩, ⟨_, rfl, .refl _⟩, ⟨_, rfl, .refl _⟩, ⟨_, rfl, .refl _⟩, ⟨_, rfl, .refl _⟩, trivial⟩) rfl rfl rfl ?_
  repeat' (first
    | exact no_bool hb
    | exact no_bool' hb
    | refine gc_ rfl ?_
    | refine g_loopU ?_
    | refine g_inLoopU ?_
    | (refine g_region ?_; refine run_ th rfl ?_)
    | refine SOps.nil ?_
    | (refine g_if rfl (fun hb => ?_) (fun hb => ?_) <;> (try simp only [hbL] at hb) <;> (try (exfalso; omega)))
    | (refine s_add rfl rfl rfl rfl rfl rfl (by omega) ?_; refine run_ th rfl ?_))
  refine g_sub (tm' := [(0, .v (.one (.ptr given 0))), (2, .v (C1 (.int .i64 ((2 : Nat) : Int)))), (3, .v (C1 (namesT types))), (8, .v (.one (.ptr 8 0))), (9, .v (.one (.ptr 9 0))), (10, .v (C1 (.str go))), (11, .v (C1 (.str quit))), (12, .v (C1 (.bool true))), (13, .v (.one (.ptr 13 0)))]) (mm' := [(given, .box ((diceX l k4).map SC.c)), (8, .box [.c (.str ⟨#[]⟩), .c .nils, .c .nils]), (9, .box [.c (.str name), .c (.val vr), .c (.val vp0)]), (13, .box [.c (.int .i64 c), .c (.str ⟨#[]⟩)]), (22, .pool 9 1 [(vr, (rolesL.take 2).map fun s => [CT.str s])]), (200, .pool 34 3 [(vp0, [ptRow (roleN 0) (roleN 1) (.val v55)])]), (55, .pool 41 4 [(v55, [[.str go, .int .i64 c, .str ⟨#[]⟩, .int .i64 1], [.str quit, .int .i64 0, .str ⟨#[]⟩, .int .i64 0]])])]) (by exact ⟨⟨_, rfl, .refl _⟩, ⟨_, rfl, .refl _⟩, ⟨_, rfl, .refl _⟩, ⟨_, rfl, .refl _⟩, ⟨_, rfl, .refl _⟩, ⟨_, rfl, .refl _⟩, ⟨_, rfl, .refl _⟩, ⟨_, rfl, .refl _⟩, ⟨_, rfl, .refl _⟩, trivial⟩) (by exact ⟨⟨_, rfl, .refl _⟩, ⟨_, rfl, .refl _⟩, ⟨_, rfl, .refl _⟩, ⟨_, rfl, .refl _⟩, ⟨_, rfl, .refl _⟩, ⟨_, rfl, .refl _⟩, ⟨_, rfl, .refl _⟩, trivial⟩) rfl rfl rfl ?_
  refine g_drawF (ι := PV) [13, 14, 15, 16, 17, 18, 20] [given, 200] (r9ET false 107 108 109 110 111 112 (roleN 1) (roleN 0) ((dataV l k4), ⟨#[]⟩) [.str ⟨#[111, 107]⟩, .int .i64 (dataV l k4), .str ⟨#[]⟩, .int .i64 0]) (r9MM false 109 _ name vr (roleN 1) (roleN 0) [.str ⟨#[111, 107]⟩, .int .i64 (dataV l k4), .str ⟨#[]⟩, .int .i64 0] (diceX l (pkA l k4))) (vr, vr) mix rfl (fun k x hk => by match k, hk with | 0, _ => (refine subG_spec ?_; repeat (first | exact trivial | refine ⟨rfl, ?_⟩)) | 1, _ => (refine subG_spec ?_; repeat (first | exact trivial | refine ⟨rfl, ?_⟩)) | 2, _ => (refine subG_spec ?_; repeat (first | exact trivial | refine ⟨rfl, ?_⟩)) | 3, _ => (refine subG_spec ?_; repeat (first | exact trivial | refine ⟨rfl, ?_⟩)) | 4, _ => (refine subG_spec ?_; repeat (first | exact trivial | refine ⟨rfl, ?_⟩)) | 5, _ => (refine subG_spec ?_; repeat (first | exact trivial | refine ⟨rfl, ?_⟩)) | 6, _ => (refine subG_spec ?_; repeat (first | exact trivial | refine ⟨rfl, ?_⟩))) rfl (fun k x => by match k with | 0 => rfl | 1 => rfl | 2 => rfl | 3 => rfl | 4 => rfl | 5 => rfl | 6 => rfl | 7 => rfl | _ + 8 => rfl) rfl rfl (by simp) rfl rfl ?_
  refine frun_ th rfl ?_
  repeat' (first
    | (refine f_pidx (r := 22) th rfl rfl rfl rfl rfl rfl rfl rfl rfl rfl rfl 0 rfl 0 rfl (by decide) ?_; refine frun_ th rfl ?_)
    | (refine f_pidx (r := 22) th rfl rfl rfl rfl rfl rfl rfl rfl rfl rfl rfl 0 rfl 1 rfl (by decide) ?_; refine frun_ th rfl ?_)
    | (refine f_pidx (r := 22) th rfl rfl rfl rfl rfl rfl rfl rfl rfl rfl rfl 0 rfl 2 rfl (by decide) ?_; refine frun_ th rfl ?_)
    | (refine f_pidx (r := 22) th rfl rfl rfl rfl rfl rfl rfl rfl rfl rfl rfl 0 rfl 3 rfl (by decide) ?_; refine frun_ th rfl ?_)
    | (refine f_pload (r := 22) th rfl rfl rfl rfl rfl rfl rfl rfl rfl 0 rfl rfl rfl ?_; refine frun_ th rfl ?_)
    | (refine f_sub rfl rfl rfl rfl rfl rfl rfl 1 rfl (by decide) ?_; refine frun_ th rfl ?_)
    | (refine FOps.nil ⟨Effs.cons rfl (fun x => ?_) (Effs.cons rfl (fun x => ?_) (Effs.cons rfl (fun x => ?_) (Effs.cons rfl (fun x => ?_) (Effs.cons rfl (fun x => ?_) (Effs.cons rfl (fun x => ?_) (Effs.cons rfl (fun x => ?_) Effs.nil)))))), fun x => ?_⟩)
    | exact ef_call (datax_c l _ hk4) [given] rfl rfl rfl rfl rfl rfl rfl rfl rfl rfl rfl rfl rfl
    | exact ef_eval th rfl rfl rfl rfl rfl rfl rfl
    | exact ef_litP th rfl rfl rfl rfl rfl rfl rfl rfl rfl rfl rfl rfl rfl rfl rfl rfl rfl (fun v => (v, x.2)) (fun _ => rfl) (fun _ => rfl)
    | exact ef_lit th rfl rfl rfl rfl rfl rfl rfl rfl rfl rfl rfl rfl rfl (.nn true 4 _) rfl rfl
    | exact ef_lit th rfl rfl rfl rfl rfl rfl rfl rfl rfl rfl rfl rfl rfl (.refl _) rfl rfl
    | exact ef_append (i := 200) th rfl rfl rfl rfl rfl rfl rfl rfl rfl rfl rfl rfl rfl rfl rfl rfl 0 rfl ⟨(Nat.le_of_ble_eq_true rfl), (Nat.le_of_ble_eq_true rfl)⟩ (fun v' => (x.1, v')) (fun _ => rfl) (fun _ => rfl)
    | exact ef_append (i := 200) th rfl rfl rfl rfl rfl rfl rfl rfl rfl rfl rfl rfl rfl rfl rfl rfl 0 rfl ⟨(Nat.le_of_ble_eq_true rfl), (Nat.le_of_ble_eq_true rfl)⟩ (fun v' => v') (fun _ => rfl) (fun _ => rfl)
    | exact ef_store (i := 9) th rfl rfl rfl rfl rfl rfl rfl rfl rfl rfl rfl rfl)
  obtain ⟨vu, vpb⟩ := x
  refine g_sub (tm' := [(0, .v (.one (.ptr given 0))), (2, .v (C1 (.int .i64 ((2 : Nat) : Int)))), (3, .v (C1 (namesT types))), (8, .v (.one (.ptr 8 0))), (9, .v (.one (.ptr 9 0))), (10, .v (C1 (.str go))), (11, .v (C1 (.str quit))), (12, .v (C1 (.bool true))), (13, .v (.one (.ptr 13 0)))]) (mm' := [(given, .box ((diceX l (pkA l k4)).map SC.c)), (8, .box [.c (.str ⟨#[]⟩), .c .nils, .c .nils]), (9, .box [.c (.str name), .c (.val vr), .c (.val vpb)]), (13, .box [.c (.int .i64 c), .c (.str ⟨#[]⟩)]), (22, .pool 9 1 [(vr, (rolesL.take 2).map fun s => [CT.str s])]), (200, .pool 34 3 [(vpb, [ptRow (roleN 0) (roleN 1) (.val v55), ptRow (roleN 1) (roleN 0) (.slice false 4 [[.str ⟨#[111, 107]⟩, .int .i64 (dataV l k4), .str ⟨#[]⟩, .int .i64 0]])])]), (55, .pool 41 4 [(v55, [[.str go, .int .i64 c, .str ⟨#[]⟩, .int .i64 1], [.str quit, .int .i64 0, .str ⟨#[]⟩, .int .i64 0]])])]) (by exact ⟨⟨_, rfl, .refl _⟩, ⟨_, rfl, .refl _⟩, ⟨_, rfl, .refl _⟩, ⟨_, rfl, .refl _⟩, ⟨_, rfl, .refl _⟩, ⟨_, rfl, .refl _⟩, ⟨_, rfl, .refl _⟩, ⟨_, rfl, .refl _⟩, ⟨_, rfl, .refl _⟩, trivial⟩) (by exact ⟨⟨_, rfl, .refl _⟩, ⟨_, rfl, .refl _⟩, ⟨_, rfl, .refl _⟩, ⟨_, rfl, .refl _⟩, ⟨_, rfl, .refl _⟩, ⟨_, rfl, .refl _⟩, ⟨_, rfl, .refl _⟩, trivial⟩) rfl rfl rfl ?_
  repeat' (first
    | exact no_bool hb
    | exact no_bool' hb
    | refine gc_ rfl ?_
    | refine g_loopU ?_
    | refine g_inLoopU ?_
    | (refine g_region ?_; refine run_ th rfl ?_)
    | refine SOps.nil ?_
    | (refine g_if rfl (fun hb => ?_) (fun hb => ?_) <;> (try simp only [hbL] at hb) <;> (try (exfalso; omega)))
    | (refine s_add rfl rfl rfl rfl rfl rfl (by omega) ?_; refine run_ th rfl ?_)
    | (refine s_plen th 200 0 rfl rfl rfl rfl rfl rfl rfl rfl 2 rfl ?_; refine run_ th rfl ?_)
    | (refine s_subI rfl rfl rfl rfl rfl rfl (by omega) ?_; refine run_ th rfl ?_)
    | (refine s_pidx (r := 200) th rfl rfl rfl rfl rfl rfl rfl rfl rfl rfl 0 rfl 0 rfl (Nat.le_of_ble_eq_true rfl) ?_; refine run_ th rfl ?_)
    | (refine s_pfield (i := 200) th rfl rfl rfl rfl rfl rfl rfl rfl (c := 0) rfl (Nat.le_of_ble_eq_true rfl) ?_; refine run_ th rfl ?_)
    | (refine s_ploadf (i := 200) (k := 0) th rfl rfl rfl rfl rfl rfl rfl rfl rfl rfl rfl ?_; refine run_ th rfl ?_)
    | (refine s_pidx (r := 55) th rfl rfl rfl rfl rfl rfl rfl rfl rfl rfl 0 rfl 0 rfl (Nat.le_of_ble_eq_true rfl) ?_; refine run_ th rfl ?_)
    | (refine s_pidx (r := 55) th rfl rfl rfl rfl rfl rfl rfl rfl rfl rfl 0 rfl 1 rfl (Nat.le_of_ble_eq_true rfl) ?_; refine run_ th rfl ?_)
    | (refine s_pfield (i := 55) th rfl rfl rfl rfl rfl rfl rfl rfl (c := 0) rfl (Nat.le_of_ble_eq_true rfl) ?_; refine run_ th rfl ?_)
    | (refine s_pstoref (i := 55) (k := 0) th _ rfl rfl rfl rfl rfl rfl rfl rfl rfl rfl rfl rfl rfl rfl rfl ?_; refine run_ th rfl ?_))
  repeat' (first
    | exact no_bool hb
    | exact no_bool' hb
    | refine gc_ rfl ?_
    | refine g_loopU ?_
    | refine g_inLoopU ?_
    | (refine g_region ?_; refine run_ th rfl ?_)
    | refine SOps.nil ?_
    | (refine g_if rfl (fun hb => ?_) (fun hb => ?_) <;> (try simp only [hbL] at hb) <;> (try (exfalso; omega)))
    | (refine s_add rfl rfl rfl rfl rfl rfl (by omega) ?_; refine run_ th rfl ?_)
    | (refine s_freeze 170 rfl rfl ?_; refine s_leT 170 (.v (C1 (.slice true 3 [noPnt.cs]))) rfl (.v (.one (.c (le_deep (.cons (.cons (.refl _) (.cons (.refl _) (.cons (.nil 4) .nil))) .nil))))) ?_; refine s_pappend (i := 200) th rfl rfl rfl rfl rfl rfl rfl rfl rfl rfl rfl rfl rfl rfl 0 rfl ⟨(Nat.le_of_ble_eq_true rfl), (Nat.le_of_ble_eq_true rfl)⟩ fun vz => ?_; refine run_ th rfl ?_))
  refine g_freezeQ 55 200 _ rfl rfl rfl rfl rfl rfl (.cons (.cons (.refl _) (.cons (.refl _) (.cons (.row List.mem_cons_self) (.refl _)))) (.refl _)) ?_
  exact g_endM (hd := hd) th Try.func75 (vr, vz) (.inr ⟨_, rfl⟩) rfl rfl rfl rfl ⟨rfl, rfl, rfl, trivial⟩ rfl rfl rfl trivial

set_option maxHeartbeats 64000000 in
theorem rnd2f_c (name : ByteArray) (types : List ByteArray) (ht : types.length ≤ 1000) (l : List Int) (k : Nat) (hk : k ≤ l.length) (hb0 : ¬ pkV l (pkA l (pkA l k)) 2 = 1) :
    ConM Try.prog 75 [(given, .box ((diceX l k).map SC.c))] [.one (.ptr given 0), C1 (.str name), C1 (.int .i64 ((2 : Nat) : Int)), C1 (namesT types)]
      (fun _ : PV => True) (fun v => .v (.agg [.c (.str name), .c (.val v.1), .c (.val v.2)])) (fun v => [(given, .box ((diceX l (rndV name types l 2 k).2).map SC.c)), (22, .pool 9 1 [(v.1, (rolesL.take 2).map fun s => [CT.str s])]), (200, .pool 34 3 [(v.2, (rndV name types l 2 k).1.points.map Pnt.cs)])]) := by
  have hk1 := pkA_le hk
  have hk2 := pkA_le hk1
  have hk3 := pkA_le hk2
  have hk4 : rnd4 l k ≤ l.length := pkA_le hk3
  have hr0 := pk_range l k (n := 2) (by omega) (by omega)
  have hr1 := pk_range l (pkA l k) (n := 2) (by omega) (by omega)
  have hrl : rolesL.length = 5 := rfl
  have hB : rndB l k = false := by unfold rndB; simp [hb0]
  have hres : rndV name types l 2 k = (⟨name, rolesL.take 2, rndP 2 false (rndGo l k) (rndQuit l k) (dataV l (pkA l (pkA l (pkA l k)))) [] (dataV l (rnd4 l k))⟩, (rnd4 l k)) := by unfold rndV; rw [hB]; rfl
  rw [hres]
  refine conM_of (c := _) Try.func75 rfl rfl rfl (by decide) rfl fun w M0 H Z hd => ?_
  repeat' (first
   | (refine g_drawS 12 [given] mix rfl rfl rfl rfl rfl rfl rfl rfl ?_; refine grun_ th rfl ?_)
   | refine gc_ rfl ?_
   | (refine g_region ?_; refine run_ th rfl ?_)
   | refine SOps.nil ?_
   | (refine s_split rfl rfl (fun hb => ?_) (fun hb => ?_) <;> (try simp only [hbL] at hb) <;> first | (exfalso; omega) | refine run_ th rfl ?_)
   | (refine g_if rfl (fun hb => ?_) (fun hb => ?_) <;> (try simp only [hbL] at hb) <;> (try (exfalso; omega)))
   | (refine s_call roles_c [] rfl rfl rfl rfl rfl rfl rfl rfl rfl rfl ?_; refine run_ th rfl ?_)
   | (refine s_step (op_sliceTo (j := 2) th rfl rfl rfl rfl rfl rfl (by decide) rfl rfl).wp rfl ?_; refine run_ th rfl ?_)
   | (refine s_appendN th 22 rfl rfl rfl rfl rfl rfl rfl rfl rfl rfl rfl rfl rfl rfl (by constructor <;> decide) ?_; refine s_toPool 22 rfl rfl fun vr => ?_; refine run_ th rfl ?_)
   | (refine q_eff labels_c [] rfl rfl rfl rfl rfl rfl rfl rfl rfl rfl rfl (outM_sub (ids := [given]) rfl) ?_; refine grun_ th rfl ?_)
   | (refine q_eff (pickx_c l k hk 2 (by omega) (by omega)) [given] rfl rfl rfl rfl rfl rfl rfl rfl rfl rfl rfl (outM_sub (ids := [given]) rfl) ?_; refine grun_ th rfl ?_)
   | (refine q_eff (pickx_c l _ hk1 2 (by omega) (by omega)) [given] rfl rfl rfl rfl rfl rfl rfl rfl rfl rfl rfl (outM_sub (ids := [given]) rfl) ?_; refine grun_ th rfl ?_)
   | (refine q_idx th rfl rfl rfl rfl rfl rfl rfl rfl rfl (pkV l k 2).toNat _ (by omega) (lab_get (by omega)) ?_; refine grun_ th rfl ?_)
   | (refine q_add rfl rfl rfl rfl rfl rfl (by omega) ?_; refine grun_ th rfl ?_)
   | (refine q_idx th rfl rfl rfl rfl rfl rfl rfl rfl rfl (2 + pkV l (pkA l k) 2).toNat _ (by omega) (lab_get (by omega)) ?_; refine grun_ th rfl ?_)
   | (refine GOps.nil ?_; refine run_ th rfl ?_)
   | (refine s_call (pickx_c l _ hk2 2 (by omega) (by omega)) [given] rfl rfl rfl rfl rfl rfl rfl rfl rfl rfl ?_; refine run_ th rfl ?_)
   | (refine s_call (datax_c l _ hk3) [given] rfl rfl rfl rfl rfl rfl rfl rfl rfl rfl ?_; refine run_ th rfl ?_))
  refine g_nilVal 9 2 rfl rfl ?_
  refine g_newPool 200 34 3 rfl rfl ?_
  refine g_nilPool 200 rfl rfl rfl rfl ?_
  rw [show decide (pkV l (pkA l (pkA l k)) 2 = 1) = false from hB]
  obtain ⟨go, hgo⟩ : ∃ x, x = rndGo l k := ⟨_, rfl⟩
  obtain ⟨quit, hqu⟩ : ∃ x, x = rndQuit l k := ⟨_, rfl⟩
  obtain ⟨c, hc⟩ : ∃ x, x = dataV l (pkA l (pkA l (pkA l k))) := ⟨_, rfl⟩
  rw [show labelsL.getD (pkV l k 2).toNat ⟨#[]⟩ = go from hgo.symm, show labelsL.getD (2 + pkV l (pkA l k) 2).toNat ⟨#[]⟩ = quit from hqu.symm, show rndGo l k = go from hgo.symm, show rndQuit l k = quit from hqu.symm, show dataV l (pkA l (pkA l (pkA l k))) = c from hc.symm, show pkA l (pkA l (pkA l (pkA l k))) = rnd4 l k from rfl]
  obtain ⟨k4, hk4e⟩ : ∃ x, x = rnd4 l k := ⟨_, rfl⟩
  rw [← hk4e] at hk4 ⊢
  clear hgo hqu hc hres hB hr0 hr1 hk1 hk2 hk3 hk4e hb0
  refine g_sub (tm' := [(0, .v (.one (.ptr given 0))), (2, .v (C1 (.int .i64 ((2 : Nat) : Int)))), (3, .v (C1 (namesT types))), (8, .v (.one (.ptr 8 0))), (9, .v (.one (.ptr 9 0))), (10, .v (C1 (.str go))), (11, .v (C1 (.str quit))), (12, .v (C1 (.bool false))), (13, .v (.one (.ptr 13 0)))]) (mm' := [(given, .box ((diceX l k4).map SC.c)), (8, .box [.c (.str ⟨#[]⟩), .c .nils, .c .nils]), (9, .box [.c (.str name), .c (.val vr), .c (.val (.slice none 0 0))]), (13, .box [.c (.int .i64 c), .c (.str ⟨#[]⟩)]), (22, .pool 9 1 [(vr, (rolesL.take 2).map fun s => [CT.str s])]), (200, .pool 34 3 [((.slice none 0 0), [])])]) (by exact ⟨⟨_, rfl, .refl _⟩, ⟨_, rfl, .refl _⟩, ⟨_, rfl, .refl _⟩, ⟨_, rfl, .refl _⟩, ⟨_, rfl, .refl _⟩, ⟨_, rfl, .refl _⟩, ⟨_, rfl, .refl _⟩, ⟨_, rfl, .refl _⟩, ⟨_, rfl, .refl _⟩, trivial⟩) (by exact ⟨⟨_, rfl, .refl _⟩, ⟨_, rfl, .refl _⟩, ⟨_, rfl, .refl _⟩, ⟨_, rfl, .refl _⟩, ⟨_, rfl, .refl _⟩, ⟨_, rfl, .refl _⟩, trivial⟩) rfl rfl rfl ?_
  refine g_drawF (ι := PV) [15, 16, 17, 18, 20] [200] (r5ET (roleN 0) (roleN 1)) (r5MM _ name vr [[.str go, .int .i64 c, .str ⟨#[]⟩, .int .i64 1], [.str quit, .int .i64 0, .str ⟨#[]⟩, .int .i64 0]] (roleN 0) (roleN 1)) (vr, vr) mix rfl (fun k x hk => by match k, hk with | 0, _ => (refine subG_spec ?_; repeat (first | exact trivial | refine ⟨rfl, ?_⟩)) | 1, _ => (refine subG_spec ?_; repeat (first | exact trivial | refine ⟨rfl, ?_⟩)) | 2, _ => (refine subG_spec ?_; repeat (first | exact trivial | refine ⟨rfl, ?_⟩)) | 3, _ => (refine subG_spec ?_; repeat (first | exact trivial | refine ⟨rfl, ?_⟩)) | 4, _ => (refine subG_spec ?_; repeat (first | exact trivial | refine ⟨rfl, ?_⟩))) rfl (fun k x => by match k with | 0 => rfl | 1 => rfl | 2 => rfl | 3 => rfl | 4 => rfl | 5 => rfl | _ + 6 => rfl) rfl rfl (by simp) rfl rfl ?_
  refine frun_ th rfl ?_
  repeat' (first
    | (refine f_pidx (r := 22) th rfl rfl rfl rfl rfl rfl rfl rfl rfl rfl rfl 0 rfl 0 rfl (by decide) ?_; refine frun_ th rfl ?_)
    | (refine f_pidx (r := 22) th rfl rfl rfl rfl rfl rfl rfl rfl rfl rfl rfl 0 rfl 1 rfl (by decide) ?_; refine frun_ th rfl ?_)
    | (refine f_pidx (r := 22) th rfl rfl rfl rfl rfl rfl rfl rfl rfl rfl rfl 0 rfl 2 rfl (by decide) ?_; refine frun_ th rfl ?_)
    | (refine f_pidx (r := 22) th rfl rfl rfl rfl rfl rfl rfl rfl rfl rfl rfl 0 rfl 3 rfl (by decide) ?_; refine frun_ th rfl ?_)
    | (refine f_pload (r := 22) th rfl rfl rfl rfl rfl rfl rfl rfl rfl 0 rfl rfl rfl ?_; refine frun_ th rfl ?_)
    | (refine FOps.nil ⟨Effs.cons rfl (fun x => ?_) (Effs.cons rfl (fun x => ?_) (Effs.cons rfl (fun x => ?_) (Effs.cons rfl (fun x => ?_) (Effs.cons rfl (fun x => ?_) Effs.nil)))), fun x => ?_⟩)
    | exact ef_eval th rfl rfl rfl rfl rfl rfl rfl
    | exact ef_litP th rfl rfl rfl rfl rfl rfl rfl rfl rfl rfl rfl rfl rfl rfl rfl rfl rfl (fun v => (v, x.2)) (fun _ => rfl) (fun _ => rfl)
    | exact ef_lit th rfl rfl rfl rfl rfl rfl rfl rfl rfl rfl rfl rfl rfl (.nn true 4 _) rfl rfl
    | exact ef_lit th rfl rfl rfl rfl rfl rfl rfl rfl rfl rfl rfl rfl rfl (.refl _) rfl rfl
    | exact ef_append (i := 200) th rfl rfl rfl rfl rfl rfl rfl rfl rfl rfl rfl rfl rfl rfl rfl rfl 0 rfl ⟨(Nat.le_of_ble_eq_true rfl), (Nat.le_of_ble_eq_true rfl)⟩ (fun v' => (x.1, v')) (fun _ => rfl) (fun _ => rfl)
    | exact ef_append (i := 200) th rfl rfl rfl rfl rfl rfl rfl rfl rfl rfl rfl rfl rfl rfl rfl rfl 0 rfl ⟨(Nat.le_of_ble_eq_true rfl), (Nat.le_of_ble_eq_true rfl)⟩ (fun v' => v') (fun _ => rfl) (fun _ => rfl)
    | exact ef_store (i := 9) th rfl rfl rfl rfl rfl rfl rfl rfl rfl rfl rfl rfl)
  obtain ⟨v55, vp0⟩ := x
  refine g_sub (tm' := [(0, .v (.one (.ptr given 0))), (2, .v (C1 (.int .i64 ((2 : Nat) : Int)))), (3, .v (C1 (namesT types))), (8, .v (.one (.ptr 8 0))), (9, .v (.one (.ptr 9 0))), (10, .v (C1 (.str go))), (11, .v (C1 (.str quit))), (12, .v (C1 (.bool false))), (13, .v (.one (.ptr 13 0)))]) (mm' := [(given, .box ((diceX l k4).map SC.c)), (8, .box [.c (.str ⟨#[]⟩), .c .nils, .c .nils]), (9, .box [.c (.str name), .c (.val vr), .c (.val vp0)]), (13, .box [.c (.int .i64 c), .c (.str ⟨#[]⟩)]), (22, .pool 9 1 [(vr, (rolesL.take 2).map fun s => [CT.str s])]), (200, .pool 34 3 [(vp0, [ptRow (roleN 0) (roleN 1) (.val v55)])]), (55, .pool 41 4 [(v55, [[.str go, .int .i64 c, .str ⟨#[]⟩, .int .i64 1], [.str quit, .int .i64 0, .str ⟨#[]⟩, .int .i64 0]])])]) (by exact ⟨⟨_, rfl, .refl _⟩, ⟨_, rfl, .refl _⟩, ⟨_, rfl, .refl _⟩, ⟨_, rfl, .refl _⟩, ⟨_, rfl, .refl _⟩, ⟨_, rfl, .refl _⟩, ⟨_, rfl, .refl _⟩, ⟨_, rfl, .refl _⟩, ⟨_, rfl, .refl _⟩, trivial⟩) (by exact ⟨⟨_, rfl, .refl _⟩, ⟨_, rfl, .refl _⟩, ⟨_, rfl, .refl _⟩, ⟨_, rfl, .refl _⟩, ⟨_, rfl, .refl _⟩, ⟨_, rfl, .refl _⟩, ⟨_, rfl, .refl _⟩, trivial⟩) rfl rfl rfl ?_
  repeat' (first
    | exact no_bool hb
    | exact no_bool' hb
    | refine gc_ rfl ?_
    | refine g_loopU ?_
    | refine g_inLoopU ?_
    | (refine g_region ?_; refine run_ th rfl ?_)
    | refine SOps.nil ?_
    | (refine g_if rfl (fun hb => ?_) (fun hb => ?_) <;> (try simp only [hbL] at hb) <;> (try (exfalso; omega)))
    | (refine s_add rfl rfl rfl rfl rfl rfl (by omega) ?_; refine run_ th rfl ?_)
    | (refine s_plen th 200 0 rfl rfl rfl rfl rfl rfl rfl rfl 1 rfl ?_; refine run_ th rfl ?_)
    | (refine s_subI rfl rfl rfl rfl rfl rfl (by omega) ?_; refine run_ th rfl ?_)
    | (refine s_pidx (r := 200) th rfl rfl rfl rfl rfl rfl rfl rfl rfl rfl 0 rfl 0 rfl (Nat.le_of_ble_eq_true rfl) ?_; refine run_ th rfl ?_)
    | (refine s_pfield (i := 200) th rfl rfl rfl rfl rfl rfl rfl rfl (c := 0) rfl (Nat.le_of_ble_eq_true rfl) ?_; refine run_ th rfl ?_)
    | (refine s_ploadf (i := 200) (k := 0) th rfl rfl rfl rfl rfl rfl rfl rfl rfl rfl rfl ?_; refine run_ th rfl ?_)
    | (refine s_pidx (r := 55) th rfl rfl rfl rfl rfl rfl rfl rfl rfl rfl 0 rfl 0 rfl (Nat.le_of_ble_eq_true rfl) ?_; refine run_ th rfl ?_)
    | (refine s_pidx (r := 55) th rfl rfl rfl rfl rfl rfl rfl rfl rfl rfl 0 rfl 1 rfl (Nat.le_of_ble_eq_true rfl) ?_; refine run_ th rfl ?_)
    | (refine s_pfield (i := 55) th rfl rfl rfl rfl rfl rfl rfl rfl (c := 0) rfl (Nat.le_of_ble_eq_true rfl) ?_; refine run_ th rfl ?_)
    | (refine s_pstoref (i := 55) (k := 0) th _ rfl rfl rfl rfl rfl rfl rfl rfl rfl rfl rfl rfl rfl rfl rfl ?_; refine run_ th rfl ?_))
  repeat' (first
    | exact no_bool hb
    | exact no_bool' hb
    | refine gc_ rfl ?_
    | refine g_loopU ?_
    | refine g_inLoopU ?_
    | (refine g_region ?_; refine run_ th rfl ?_)
    | refine SOps.nil ?_
    | (refine g_if rfl (fun hb => ?_) (fun hb => ?_) <;> (try simp only [hbL] at hb) <;> (try (exfalso; omega)))
    | (refine s_add rfl rfl rfl rfl rfl rfl (by omega) ?_; refine run_ th rfl ?_)
    | (refine s_freeze 170 rfl rfl ?_; refine s_leT 170 (.v (C1 (.slice true 3 [noPnt.cs]))) rfl (.v (.one (.c (le_deep (.cons (.cons (.refl _) (.cons (.refl _) (.cons (.nil 4) .nil))) .nil))))) ?_; refine s_pappend (i := 200) th rfl rfl rfl rfl rfl rfl rfl rfl rfl rfl rfl rfl rfl rfl 0 rfl ⟨(Nat.le_of_ble_eq_true rfl), (Nat.le_of_ble_eq_true rfl)⟩ fun vz => ?_; refine run_ th rfl ?_))
  refine g_freezeQ 55 200 _ rfl rfl rfl rfl rfl rfl (.cons (.cons (.refl _) (.cons (.refl _) (.cons (.row List.mem_cons_self) (.refl _)))) (.refl _)) ?_
  exact g_endM (hd := hd) th Try.func75 (vr, vz) (.inr ⟨_, rfl⟩) rfl rfl rfl rfl ⟨rfl, rfl, rfl, trivial⟩ rfl rfl rfl trivial

set_option maxHeartbeats 64000000 in
theorem rnd4t_c (name : ByteArray) (types : List ByteArray) (ht : types.length ≤ 1000) (l : List Int) (k : Nat) (hk : k ≤ l.length) (hb0 : pkV l (pkA l (pkA l k)) 2 = 1) :
    ConM Try.prog 75 [(given, .box ((diceX l k).map SC.c))] [.one (.ptr given 0), C1 (.str name), C1 (.int .i64 ((4 : Nat) : Int)), C1 (namesT types)]
      (fun _ : PV => True) (fun v => .v (.agg [.c (.str name), .c (.val v.1), .c (.val v.2)])) (fun v => [(given, .box ((diceX l (rndV name types l 4 k).2).map SC.c)), (22, .pool 9 1 [(v.1, (rolesL.take 4).map fun s => [CT.str s])]), (200, .pool 34 3 [(v.2, (rndV name types l 4 k).1.points.map Pnt.cs)])]) := by
  have hk1 := pkA_le hk
  have hk2 := pkA_le hk1
  have hk3 := pkA_le hk2
  have hk4 : rnd4 l k ≤ l.length := pkA_le hk3
  have hr0 := pk_range l k (n := 2) (by omega) (by omega)
  have hr1 := pk_range l (pkA l k) (n := 2) (by omega) (by omega)
  have hrl : rolesL.length = 5 := rfl
  have hB : rndB l k = true := by unfold rndB; simp [hb0]
  have hres : rndV name types l 4 k = (⟨name, rolesL.take 4, rndP 4 true (rndGo l k) (rndQuit l k) (dataV l (pkA l (pkA l (pkA l k)))) [(carV types l (rnd4 l k)).1, (carV types l (carV types l (rnd4 l k)).2).1] (dataV l (carV types l (carV types l (rnd4 l k)).2).2)⟩, (pkA l (carV types l (carV types l (rnd4 l k)).2).2)) := by unfold rndV; rw [hB]; rfl
  rw [hres]
  refine conM_of (c := _) Try.func75 rfl rfl rfl (by decide) rfl fun w M0 H Z hd => ?_
  repeat' (first
   | (refine g_drawS 12 [given] mix rfl rfl rfl rfl rfl rfl rfl rfl ?_; refine grun_ th rfl ?_)
   | refine gc_ rfl ?_
   | (refine g_region ?_; refine run_ th rfl ?_)
   | refine SOps.nil ?_
   | (refine s_split rfl rfl (fun hb => ?_) (fun hb => ?_) <;> (try simp only [hbL] at hb) <;> first | (exfalso; omega) | refine run_ th rfl ?_)
   | (refine g_if rfl (fun hb => ?_) (fun hb => ?_) <;> (try simp only [hbL] at hb) <;> (try (exfalso; omega)))
   | (refine s_call roles_c [] rfl rfl rfl rfl rfl rfl rfl rfl rfl rfl ?_; refine run_ th rfl ?_)
   | (refine s_step (op_sliceTo (j := 4) th rfl rfl rfl rfl rfl rfl (by decide) rfl rfl).wp rfl ?_; refine run_ th rfl ?_)
   | (refine s_appendN th 22 rfl rfl rfl rfl rfl rfl rfl rfl rfl rfl rfl rfl rfl rfl (by constructor <;> decide) ?_; refine s_toPool 22 rfl rfl fun vr => ?_; refine run_ th rfl ?_)
   | (refine q_eff labels_c [] rfl rfl rfl rfl rfl rfl rfl rfl rfl rfl rfl (outM_sub (ids := [given]) rfl) ?_; refine grun_ th rfl ?_)
   | (refine q_eff (pickx_c l k hk 2 (by omega) (by omega)) [given] rfl rfl rfl rfl rfl rfl rfl rfl rfl rfl rfl (outM_sub (ids := [given]) rfl) ?_; refine grun_ th rfl ?_)
   | (refine q_eff (pickx_c l _ hk1 2 (by omega) (by omega)) [given] rfl rfl rfl rfl rfl rfl rfl rfl rfl rfl rfl (outM_sub (ids := [given]) rfl) ?_; refine grun_ th rfl ?_)
   | (refine q_idx th rfl rfl rfl rfl rfl rfl rfl rfl rfl (pkV l k 2).toNat _ (by omega) (lab_get (by omega)) ?_; refine grun_ th rfl ?_)
   | (refine q_add rfl rfl rfl rfl rfl rfl (by omega) ?_; refine grun_ th rfl ?_)
   | (refine q_idx th rfl rfl rfl rfl rfl rfl rfl rfl rfl (2 + pkV l (pkA l k) 2).toNat _ (by omega) (lab_get (by omega)) ?_; refine grun_ th rfl ?_)
   | (refine GOps.nil ?_; refine run_ th rfl ?_)
   | (refine s_call (pickx_c l _ hk2 2 (by omega) (by omega)) [given] rfl rfl rfl rfl rfl rfl rfl rfl rfl rfl ?_; refine run_ th rfl ?_)
   | (refine s_call (datax_c l _ hk3) [given] rfl rfl rfl rfl rfl rfl rfl rfl rfl rfl ?_; refine run_ th rfl ?_))
  refine g_nilVal 9 2 rfl rfl ?_
  refine g_newPool 200 34 3 rfl rfl ?_
  refine g_nilPool 200 rfl rfl rfl rfl ?_
  rw [show decide (pkV l (pkA l (pkA l k)) 2 = 1) = true from hB]
  obtain ⟨go, hgo⟩ : ∃ x, x = rndGo l k := ⟨_, rfl⟩
  obtain ⟨quit, hqu⟩ : ∃ x, x = rndQuit l k := ⟨_, rfl⟩
  obtain ⟨c, hc⟩ : ∃ x, x = dataV l (pkA l (pkA l (pkA l k))) := ⟨_, rfl⟩
  rw [show labelsL.getD (pkV l k 2).toNat ⟨#[]⟩ = go from hgo.symm, show labelsL.getD (2 + pkV l (pkA l k) 2).toNat ⟨#[]⟩ = quit from hqu.symm, show rndGo l k = go from hgo.symm, show rndQuit l k = quit from hqu.symm, show dataV l (pkA l (pkA l (pkA l k))) = c from hc.symm, show pkA l (pkA l (pkA l (pkA l k))) = rnd4 l k from rfl]
  obtain ⟨k4, hk4e⟩ : ∃ x, x = rnd4 l k := ⟨_, rfl⟩
  rw [← hk4e] at hk4 ⊢
  clear hgo hqu hc hres hB hr0 hr1 hk1 hk2 hk3 hk4e hb0
  refine g_sub (tm' := [(0, .v (.one (.ptr given 0))), (2, .v (C1 (.int .i64 ((4 : Nat) : Int)))), (3, .v (C1 (namesT types))), (8, .v (.one (.ptr 8 0))), (9, .v (.one (.ptr 9 0))), (10, .v (C1 (.str go))), (11, .v (C1 (.str quit))), (12, .v (C1 (.bool true))), (13, .v (.one (.ptr 13 0)))]) (mm' := [(given, .box ((diceX l k4).map SC.c)), (8, .box [.c (.str ⟨#[]⟩), .c .nils, .c .nils]), (9, .box [.c (.str name), .c (.val vr), .c (.val (.slice none 0 0))]), (13, .box [.c (.int .i64 c), .c (.str ⟨#[]⟩)]), (22, .pool 9 1 [(vr, (rolesL.take 4).map fun s => [CT.str s])]), (200, .pool 34 3 [((.slice none 0 0), [])])]) (by exact ⟨⟨_, rfl, .refl _⟩, ⟨_, rfl, .refl _⟩, ⟨_, rfl, .refl _⟩, ⟨_, rfl, .refl _⟩, ⟨_, rfl, .refl _⟩, ⟨_, rfl, .refl _⟩, ⟨_, rfl, .refl _⟩, ⟨_, rfl, .refl _⟩, ⟨_, rfl, .refl _⟩, trivial⟩) (by exact ⟨⟨_, rfl, .refl _⟩, ⟨_, rfl, .refl _⟩, ⟨_, rfl, .refl _⟩, ⟨_, rfl, .refl _⟩, ⟨_, rfl, .refl _⟩, ⟨_, rfl, .refl _⟩, trivial⟩) rfl rfl rfl ?_
  refine g_drawF (ι := PV) [15, 16, 17, 18, 20] [200] (r5ET (roleN 0) (roleN 1)) (r5MM _ name vr [[.str go, .int .i64 c, .str ⟨#[]⟩, .int .i64 1], [.str quit, .int .i64 0, .str ⟨#[]⟩, .int .i64 0]] (roleN 0) (roleN 1)) (vr, vr) mix rfl (fun k x hk => by match k, hk with | 0, _ => (refine subG_spec ?_; repeat (first | exact trivial | refine ⟨rfl, ?_⟩)) | 1, _ => (refine subG_spec ?_; repeat (first | exact trivial | refine ⟨rfl, ?_⟩)) | 2, _ => (refine subG_spec ?_; repeat (first | exact trivial | refine ⟨rfl, ?_⟩)) | 3, _ => (refine subG_spec ?_; repeat (first | exact trivial | refine ⟨rfl, ?_⟩)) | 4, _ => (refine subG_spec ?_; repeat (first | exact trivial | refine ⟨rfl, ?_⟩))) rfl (fun k x => by match k with | 0 => rfl | 1 => rfl | 2 => rfl | 3 => rfl | 4 => rfl | 5 => rfl | _ + 6 => rfl) rfl rfl (by simp) rfl rfl ?_
  refine frun_ th rfl ?_
  repeat' (first
    | (refine f_pidx (r := 22) th rfl rfl rfl rfl rfl rfl rfl rfl rfl rfl rfl 0 rfl 0 rfl (by decide) ?_; refine frun_ th rfl ?_)
    | (refine f_pidx (r := 22) th rfl rfl rfl rfl rfl rfl rfl rfl rfl rfl rfl 0 rfl 1 rfl (by decide) ?_; refine frun_ th rfl ?_)
    | (refine f_pidx (r := 22) th rfl rfl rfl rfl rfl rfl rfl rfl rfl rfl rfl 0 rfl 2 rfl (by decide) ?_; refine frun_ th rfl ?_)
    | (refine f_pidx (r := 22) th rfl rfl rfl rfl rfl rfl rfl rfl rfl rfl rfl 0 rfl 3 rfl (by decide) ?_; refine frun_ th rfl ?_)
    | (refine f_pload (r := 22) th rfl rfl rfl rfl rfl rfl rfl rfl rfl 0 rfl rfl rfl ?_; refine frun_ th rfl ?_)
    | (refine FOps.nil ⟨Effs.cons rfl (fun x => ?_) (Effs.cons rfl (fun x => ?_) (Effs.cons rfl (fun x => ?_) (Effs.cons rfl (fun x => ?_) (Effs.cons rfl (fun x => ?_) Effs.nil)))), fun x => ?_⟩)
    | exact ef_eval th rfl rfl rfl rfl rfl rfl rfl
    | exact ef_litP th rfl rfl rfl rfl rfl rfl rfl rfl rfl rfl rfl rfl rfl rfl rfl rfl rfl (fun v => (v, x.2)) (fun _ => rfl) (fun _ => rfl)
    | exact ef_lit th rfl rfl rfl rfl rfl rfl rfl rfl rfl rfl rfl rfl rfl (.nn true 4 _) rfl rfl
    | exact ef_lit th rfl rfl rfl rfl rfl rfl rfl rfl rfl rfl rfl rfl rfl (.refl _) rfl rfl
    | exact ef_append (i := 200) th rfl rfl rfl rfl rfl rfl rfl rfl rfl rfl rfl rfl rfl rfl rfl rfl 0 rfl ⟨(Nat.le_of_ble_eq_true rfl), (Nat.le_of_ble_eq_true rfl)⟩ (fun v' => (x.1, v')) (fun _ => rfl) (fun _ => rfl)
    | exact ef_append (i := 200) th rfl rfl rfl rfl rfl rfl rfl rfl rfl rfl rfl rfl rfl rfl rfl rfl 0 rfl ⟨(Nat.le_of_ble_eq_true rfl), (Nat.le_of_ble_eq_true rfl)⟩ (fun v' => v') (fun _ => rfl) (fun _ => rfl)
    | exact ef_store (i := 9) th rfl rfl rfl rfl rfl rfl rfl rfl rfl rfl rfl rfl)
  obtain ⟨v55, vp0⟩ := x
  refine g_sub (tm' := [(0, .v (.one (.ptr given 0))), (2, .v (C1 (.int .i64 ((4 : Nat) : Int)))), (3, .v (C1 (namesT types))), (8, .v (.one (.ptr 8 0))), (9, .v (.one (.ptr 9 0))), (10, .v (C1 (.str go))), (11, .v (C1 (.str quit))), (12, .v (C1 (.bool true))), (13, .v (.one (.ptr 13 0)))]) (mm' := [(given, .box ((diceX l k4).map SC.c)), (8, .box [.c (.str ⟨#[]⟩), .c .nils, .c .nils]), (9, .box [.c (.str name), .c (.val vr), .c (.val vp0)]), (13, .box [.c (.int .i64 c), .c (.str ⟨#[]⟩)]), (22, .pool 9 1 [(vr, (rolesL.take 4).map fun s => [CT.str s])]), (200, .pool 34 3 [(vp0, [ptRow (roleN 0) (roleN 1) (.val v55)])]), (55, .pool 41 4 [(v55, [[.str go, .int .i64 c, .str ⟨#[]⟩, .int .i64 1], [.str quit, .int .i64 0, .str ⟨#[]⟩, .int .i64 0]])])]) (by exact ⟨⟨_, rfl, .refl _⟩, ⟨_, rfl, .refl _⟩, ⟨_, rfl, .refl _⟩, ⟨_, rfl, .refl _⟩, ⟨_, rfl, .refl _⟩, ⟨_, rfl, .refl _⟩, ⟨_, rfl, .refl _⟩, ⟨_, rfl, .refl _⟩, ⟨_, rfl, .refl _⟩, trivial⟩) (by exact ⟨⟨_, rfl, .refl _⟩, ⟨_, rfl, .refl _⟩, ⟨_, rfl, .refl _⟩, ⟨_, rfl, .refl _⟩, ⟨_, rfl, .refl _⟩, ⟨_, rfl, .refl _⟩, ⟨_, rfl, .refl _⟩, trivial⟩) rfl rfl rfl ?_
  repeat' (first
    | exact no_bool hb
    | exact no_bool' hb
    | refine gc_ rfl ?_
    | refine g_loopU ?_
    | refine g_inLoopU ?_
    | (refine g_region ?_; refine run_ th rfl ?_)
    | refine SOps.nil ?_
    | (refine g_if rfl (fun hb => ?_) (fun hb => ?_) <;> (try simp only [hbL] at hb) <;> (try (exfalso; omega)))
    | (refine s_add rfl rfl rfl rfl rfl rfl (by omega) ?_; refine run_ th rfl ?_))
  refine g_sub (tm' := [(0, .v (.one (.ptr given 0))), (2, .v (C1 (.int .i64 ((4 : Nat) : Int)))), (3, .v (C1 (namesT types))), (8, .v (.one (.ptr 8 0))), (9, .v (.one (.ptr 9 0))), (10, .v (C1 (.str go))), (11, .v (C1 (.str quit))), (12, .v (C1 (.bool true))), (13, .v (.one (.ptr 13 0))), (14, .v (C1 (.int .i64 1)))]) (mm' := [(given, .box ((diceX l k4).map SC.c)), (8, .box [.c (.str ⟨#[]⟩), .c .nils, .c .nils]), (9, .box [.c (.str name), .c (.val vr), .c (.val vp0)]), (13, .box [.c (.int .i64 c), .c (.str ⟨#[]⟩)]), (22, .pool 9 1 [(vr, (rolesL.take 4).map fun s => [CT.str s])]), (200, .pool 34 3 [(vp0, [ptRow (roleN 0) (roleN 1) (.val v55)])]), (55, .pool 41 4 [(v55, [[.str go, .int .i64 c, .str ⟨#[]⟩, .int .i64 1], [.str quit, .int .i64 0, .str ⟨#[]⟩, .int .i64 0]])])]) (by exact ⟨⟨_, rfl, .refl _⟩, ⟨_, rfl, .refl _⟩, ⟨_, rfl, .refl _⟩, ⟨_, rfl, .refl _⟩, ⟨_, rfl, .refl _⟩, ⟨_, rfl, .refl _⟩, ⟨_, rfl, .refl _⟩, ⟨_, rfl, .refl _⟩, ⟨_, rfl, .refl _⟩, ⟨_, rfl, le_int rfl⟩, trivial⟩) (by exact ⟨⟨_, rfl, .refl _⟩, ⟨_, rfl, .refl _⟩, ⟨_, rfl, .refl _⟩, ⟨_, rfl, .refl _⟩, ⟨_, rfl, .refl _⟩, ⟨_, rfl, .refl _⟩, ⟨_, rfl, .refl _⟩, trivial⟩) rfl rfl rfl ?_
  refine g_drawF3 (ι := PV) 8 5 25 [16, 21, 22, 23, 24, 25, 27] [given, 200, 9] [given] (r9ET false 82 87 88 89 90 91 (roleN 1) (roleN 2) (carV types l k4).1 [.str go, .int .i64 (carV types l k4).1.1, .str (carV types l k4).1.2, .int .i64 2]) (r9MM false 88 _ name vr (roleN 1) (roleN 2) [.str go, .int .i64 (carV types l k4).1.1, .str (carV types l k4).1.2, .int .i64 2] (diceX l (carV types l k4).2)) (vr, vr) mix rfl (fun k x => by match k with | 0 => (refine subG_spec ?_; repeat (first | exact trivial | refine ⟨rfl, ?_⟩)) | 1 => (refine subG_spec ?_; repeat (first | exact trivial | refine ⟨rfl, ?_⟩)) | 2 => (refine subG_spec ?_; repeat (first | exact trivial | refine ⟨rfl, ?_⟩)) | 3 => (refine subG_spec ?_; repeat (first | exact trivial | refine ⟨rfl, ?_⟩)) | 4 => (refine subG_spec ?_; repeat (first | exact trivial | refine ⟨rfl, ?_⟩)) | 5 => (refine subG_spec ?_; repeat (first | exact trivial | refine ⟨rfl, ?_⟩)) | 6 => (refine subG_spec ?_; repeat (first | exact trivial | refine ⟨rfl, ?_⟩)) | _ + 7 => (refine subG_spec ?_; repeat (first | exact trivial | refine ⟨rfl, ?_⟩))) (fun k x hk => by match k, hk with | 0, _ => (refine subG_spec ?_; repeat (first | exact trivial | refine ⟨rfl, ?_⟩)) | 1, _ => (refine subG_spec ?_; repeat (first | exact trivial | refine ⟨rfl, ?_⟩)) | 2, _ => (refine subG_spec ?_; repeat (first | exact trivial | refine ⟨rfl, ?_⟩)) | 3, _ => (refine subG_spec ?_; repeat (first | exact trivial | refine ⟨rfl, ?_⟩)) | 4, _ => (refine subG_spec ?_; repeat (first | exact trivial | refine ⟨rfl, ?_⟩)) | 5, _ => (refine subG_spec ?_; repeat (first | exact trivial | refine ⟨rfl, ?_⟩))) rfl (fun k x => by match k with | 0 => rfl | 1 => rfl | 2 => rfl | 3 => rfl | 4 => rfl | 5 => rfl | 6 => rfl | 7 => rfl | _ + 8 => rfl) rfl rfl (by simp) rfl rfl ?_
  refine frun_ th rfl ?_
  repeat' (first
    | (refine f_pidx (r := 22) th rfl rfl rfl rfl rfl rfl rfl rfl rfl rfl rfl 0 rfl 0 rfl (by decide) ?_; refine frun_ th rfl ?_)
    | (refine f_pidx (r := 22) th rfl rfl rfl rfl rfl rfl rfl rfl rfl rfl rfl 0 rfl 1 rfl (by decide) ?_; refine frun_ th rfl ?_)
    | (refine f_pidx (r := 22) th rfl rfl rfl rfl rfl rfl rfl rfl rfl rfl rfl 0 rfl 2 rfl (by decide) ?_; refine frun_ th rfl ?_)
    | (refine f_pidx (r := 22) th rfl rfl rfl rfl rfl rfl rfl rfl rfl rfl rfl 0 rfl 3 rfl (by decide) ?_; refine frun_ th rfl ?_)
    | (refine f_pload (r := 22) th rfl rfl rfl rfl rfl rfl rfl rfl rfl 0 rfl rfl rfl ?_; refine frun_ th rfl ?_)
    | (refine f_plen th 200 0 rfl rfl rfl rfl rfl rfl rfl rfl rfl 1 rfl ?_; refine frun_ th rfl ?_)
    | (refine f_add rfl rfl rfl rfl rfl rfl rfl 2 rfl (by decide) ?_; refine frun_ th rfl ?_)
    | (refine FOps.nil ⟨Effs.cons rfl (fun x => ?_) (Effs.cons rfl (fun x => ?_) (Effs.cons rfl (fun x => ?_) (Effs.cons rfl (fun x => ?_) (Effs.cons rfl (fun x => ?_) (Effs.cons rfl (fun x => ?_) (Effs.cons rfl (fun x => ?_) Effs.nil)))))), fun x => ?_⟩)
    | exact ef_call (carx_c types ht l _ hk4) [given] rfl rfl rfl rfl rfl rfl rfl rfl rfl rfl rfl rfl rfl
    | exact ef_eval th rfl rfl rfl rfl rfl rfl rfl
    | exact ef_litP th rfl rfl rfl rfl rfl rfl rfl rfl rfl rfl rfl rfl rfl rfl rfl rfl rfl (fun v => (v, x.2)) (fun _ => rfl) (fun _ => rfl)
    | exact ef_lit th rfl rfl rfl rfl rfl rfl rfl rfl rfl rfl rfl rfl rfl (.nn true 4 _) rfl rfl
    | exact ef_lit th rfl rfl rfl rfl rfl rfl rfl rfl rfl rfl rfl rfl rfl (.refl _) rfl rfl
    | exact ef_append (i := 200) th rfl rfl rfl rfl rfl rfl rfl rfl rfl rfl rfl rfl rfl rfl rfl rfl 0 rfl ⟨(Nat.le_of_ble_eq_true rfl), (Nat.le_of_ble_eq_true rfl)⟩ (fun v' => (x.1, v')) (fun _ => rfl) (fun _ => rfl)
    | exact ef_append (i := 200) th rfl rfl rfl rfl rfl rfl rfl rfl rfl rfl rfl rfl rfl rfl rfl rfl 0 rfl ⟨(Nat.le_of_ble_eq_true rfl), (Nat.le_of_ble_eq_true rfl)⟩ (fun v' => v') (fun _ => rfl) (fun _ => rfl)
    | exact ef_store (i := 9) th rfl rfl rfl rfl rfl rfl rfl rfl rfl rfl rfl rfl)
  obtain ⟨v88, vp1⟩ := x
  have hc0 := carV_le (types := types) hk4
  refine g_sub (tm' := [(0, .v (.one (.ptr given 0))), (2, .v (C1 (.int .i64 ((4 : Nat) : Int)))), (3, .v (C1 (namesT types))), (8, .v (.one (.ptr 8 0))), (9, .v (.one (.ptr 9 0))), (10, .v (C1 (.str go))), (11, .v (C1 (.str quit))), (12, .v (C1 (.bool true))), (13, .v (.one (.ptr 13 0))), (14, .v (C1 (.int .i64 1)))]) (mm' := [(given, .box ((diceX l (carV types l k4).2).map SC.c)), (8, .box [.c (.str ⟨#[]⟩), .c .nils, .c .nils]), (9, .box [.c (.str name), .c (.val vr), .c (.val vp1)]), (13, .box [.c (.int .i64 c), .c (.str ⟨#[]⟩)]), (22, .pool 9 1 [(vr, (rolesL.take 4).map fun s => [CT.str s])]), (200, .pool 34 3 [(vp1, [ptRow (roleN 0) (roleN 1) (.val v55), ptRow (roleN 1) (roleN 2) (.slice false 4 [[.str go, .int .i64 (carV types l k4).1.1, .str (carV types l k4).1.2, .int .i64 2]])])]), (55, .pool 41 4 [(v55, [[.str go, .int .i64 c, .str ⟨#[]⟩, .int .i64 1], [.str quit, .int .i64 0, .str ⟨#[]⟩, .int .i64 0]])])]) (by exact ⟨⟨_, rfl, .refl _⟩, ⟨_, rfl, .refl _⟩, ⟨_, rfl, .refl _⟩, ⟨_, rfl, .refl _⟩, ⟨_, rfl, .refl _⟩, ⟨_, rfl, .refl _⟩, ⟨_, rfl, .refl _⟩, ⟨_, rfl, .refl _⟩, ⟨_, rfl, .refl _⟩, ⟨_, rfl, le_int rfl⟩, trivial⟩) (by exact ⟨⟨_, rfl, .refl _⟩, ⟨_, rfl, .refl _⟩, ⟨_, rfl, .refl _⟩, ⟨_, rfl, .refl _⟩, ⟨_, rfl, .refl _⟩, ⟨_, rfl, .refl _⟩, ⟨_, rfl, .refl _⟩, trivial⟩) rfl rfl rfl ?_
  repeat' (first
    | exact no_bool hb
    | exact no_bool' hb
    | refine gc_ rfl ?_
    | refine g_loopU ?_
    | refine g_inLoopU ?_
    | (refine g_region ?_; refine run_ th rfl ?_)
    | refine SOps.nil ?_
    | (refine g_if rfl (fun hb => ?_) (fun hb => ?_) <;> (try simp only [hbL] at hb) <;> (try (exfalso; omega)))
    | (refine s_add rfl rfl rfl rfl rfl rfl (by omega) ?_; refine run_ th rfl ?_))
  refine g_sub (tm' := [(0, .v (.one (.ptr given 0))), (2, .v (C1 (.int .i64 ((4 : Nat) : Int)))), (3, .v (C1 (namesT types))), (8, .v (.one (.ptr 8 0))), (9, .v (.one (.ptr 9 0))), (10, .v (C1 (.str go))), (11, .v (C1 (.str quit))), (12, .v (C1 (.bool true))), (13, .v (.one (.ptr 13 0))), (14, .v (C1 (.int .i64 2)))]) (mm' := [(given, .box ((diceX l (carV types l k4).2).map SC.c)), (8, .box [.c (.str ⟨#[]⟩), .c .nils, .c .nils]), (9, .box [.c (.str name), .c (.val vr), .c (.val vp1)]), (13, .box [.c (.int .i64 c), .c (.str ⟨#[]⟩)]), (22, .pool 9 1 [(vr, (rolesL.take 4).map fun s => [CT.str s])]), (200, .pool 34 3 [(vp1, [ptRow (roleN 0) (roleN 1) (.val v55), ptRow (roleN 1) (roleN 2) (.slice false 4 [[.str go, .int .i64 (carV types l k4).1.1, .str (carV types l k4).1.2, .int .i64 2]])])]), (55, .pool 41 4 [(v55, [[.str go, .int .i64 c, .str ⟨#[]⟩, .int .i64 1], [.str quit, .int .i64 0, .str ⟨#[]⟩, .int .i64 0]])])]) (by exact ⟨⟨_, rfl, .refl _⟩, ⟨_, rfl, .refl _⟩, ⟨_, rfl, .refl _⟩, ⟨_, rfl, .refl _⟩, ⟨_, rfl, .refl _⟩, ⟨_, rfl, .refl _⟩, ⟨_, rfl, .refl _⟩, ⟨_, rfl, .refl _⟩, ⟨_, rfl, .refl _⟩, ⟨_, rfl, le_int rfl⟩, trivial⟩) (by exact ⟨⟨_, rfl, .refl _⟩, ⟨_, rfl, .refl _⟩, ⟨_, rfl, .refl _⟩, ⟨_, rfl, .refl _⟩, ⟨_, rfl, .refl _⟩, ⟨_, rfl, .refl _⟩, ⟨_, rfl, .refl _⟩, trivial⟩) rfl rfl rfl ?_
  refine g_drawF3 (ι := PV) 8 5 25 [16, 21, 22, 23, 24, 25, 27] [given, 200, 9] [given] (r9ET false 82 87 88 89 90 91 (roleN 2) (roleN 3) (carV types l (carV types l k4).2).1 [.str go, .int .i64 (carV types l (carV types l k4).2).1.1, .str (carV types l (carV types l k4).2).1.2, .int .i64 3]) (r9MM false 88 _ name vr (roleN 2) (roleN 3) [.str go, .int .i64 (carV types l (carV types l k4).2).1.1, .str (carV types l (carV types l k4).2).1.2, .int .i64 3] (diceX l (carV types l (carV types l k4).2).2)) (vr, vr) mix rfl (fun k x => by match k with | 0 => (refine subG_spec ?_; repeat (first | exact trivial | refine ⟨rfl, ?_⟩)) | 1 => (refine subG_spec ?_; repeat (first | exact trivial | refine ⟨rfl, ?_⟩)) | 2 => (refine subG_spec ?_; repeat (first | exact trivial | refine ⟨rfl, ?_⟩)) | 3 => (refine subG_spec ?_; repeat (first | exact trivial | refine ⟨rfl, ?_⟩)) | 4 => (refine subG_spec ?_; repeat (first | exact trivial | refine ⟨rfl, ?_⟩)) | 5 => (refine subG_spec ?_; repeat (first | exact trivial | refine ⟨rfl, ?_⟩)) | 6 => (refine subG_spec ?_; repeat (first | exact trivial | refine ⟨rfl, ?_⟩)) | _ + 7 => (refine subG_spec ?_; repeat (first | exact trivial | refine ⟨rfl, ?_⟩))) (fun k x hk => by match k, hk with | 0, _ => (refine subG_spec ?_; repeat (first | exact trivial | refine ⟨rfl, ?_⟩)) | 1, _ => (refine subG_spec ?_; repeat (first | exact trivial | refine ⟨rfl, ?_⟩)) | 2, _ => (refine subG_spec ?_; repeat (first | exact trivial | refine ⟨rfl, ?_⟩)) | 3, _ => (refine subG_spec ?_; repeat (first | exact trivial | refine ⟨rfl, ?_⟩)) | 4, _ => (refine subG_spec ?_; repeat (first | exact trivial | refine ⟨rfl, ?_⟩)) | 5, _ => (refine subG_spec ?_; repeat (first | exact trivial | refine ⟨rfl, ?_⟩))) rfl (fun k x => by match k with | 0 => rfl | 1 => rfl | 2 => rfl | 3 => rfl | 4 => rfl | 5 => rfl | 6 => rfl | 7 => rfl | _ + 8 => rfl) rfl rfl (by simp) rfl rfl ?_
  refine frun_ th rfl ?_
  repeat' (first
    | (refine f_pidx (r := 22) th rfl rfl rfl rfl rfl rfl rfl rfl rfl rfl rfl 0 rfl 0 rfl (by decide) ?_; refine frun_ th rfl ?_)
    | (refine f_pidx (r := 22) th rfl rfl rfl rfl rfl rfl rfl rfl rfl rfl rfl 0 rfl 1 rfl (by decide) ?_; refine frun_ th rfl ?_)
    | (refine f_pidx (r := 22) th rfl rfl rfl rfl rfl rfl rfl rfl rfl rfl rfl 0 rfl 2 rfl (by decide) ?_; refine frun_ th rfl ?_)
    | (refine f_pidx (r := 22) th rfl rfl rfl rfl rfl rfl rfl rfl rfl rfl rfl 0 rfl 3 rfl (by decide) ?_; refine frun_ th rfl ?_)
    | (refine f_pload (r := 22) th rfl rfl rfl rfl rfl rfl rfl rfl rfl 0 rfl rfl rfl ?_; refine frun_ th rfl ?_)
    | (refine f_plen th 200 0 rfl rfl rfl rfl rfl rfl rfl rfl rfl 2 rfl ?_; refine frun_ th rfl ?_)
    | (refine f_add rfl rfl rfl rfl rfl rfl rfl 3 rfl (by decide) ?_; refine frun_ th rfl ?_)
    | (refine FOps.nil ⟨Effs.cons rfl (fun x => ?_) (Effs.cons rfl (fun x => ?_) (Effs.cons rfl (fun x => ?_) (Effs.cons rfl (fun x => ?_) (Effs.cons rfl (fun x => ?_) (Effs.cons rfl (fun x => ?_) (Effs.cons rfl (fun x => ?_) Effs.nil)))))), fun x => ?_⟩)
    | exact ef_call (carx_c types ht l _ hc0) [given] rfl rfl rfl rfl rfl rfl rfl rfl rfl rfl rfl rfl rfl
    | exact ef_eval th rfl rfl rfl rfl rfl rfl rfl
    | exact ef_litP th rfl rfl rfl rfl rfl rfl rfl rfl rfl rfl rfl rfl rfl rfl rfl rfl rfl (fun v => (v, x.2)) (fun _ => rfl) (fun _ => rfl)
    | exact ef_lit th rfl rfl rfl rfl rfl rfl rfl rfl rfl rfl rfl rfl rfl (.nn true 4 _) rfl rfl
    | exact ef_lit th rfl rfl rfl rfl rfl rfl rfl rfl rfl rfl rfl rfl rfl (.refl _) rfl rfl
    | exact ef_append (i := 200) th rfl rfl rfl rfl rfl rfl rfl rfl rfl rfl rfl rfl rfl rfl rfl rfl 0 rfl ⟨(Nat.le_of_ble_eq_true rfl), (Nat.le_of_ble_eq_true rfl)⟩ (fun v' => (x.1, v')) (fun _ => rfl) (fun _ => rfl)
    | exact ef_append (i := 200) th rfl rfl rfl rfl rfl rfl rfl rfl rfl rfl rfl rfl rfl rfl rfl rfl 0 rfl ⟨(Nat.le_of_ble_eq_true rfl), (Nat.le_of_ble_eq_true rfl)⟩ (fun v' => v') (fun _ => rfl) (fun _ => rfl)
    | exact ef_store (i := 9) th rfl rfl rfl rfl rfl rfl rfl rfl rfl rfl rfl rfl)
  obtain ⟨v88, vp2⟩ := x
  have hc1 := carV_le (types := types) hc0
  refine g_sub (tm' := [(0, .v (.one (.ptr given 0))), (2, .v (C1 (.int .i64 ((4 : Nat) : Int)))), (3, .v (C1 (namesT types))), (8, .v (.one (.ptr 8 0))), (9, .v (.one (.ptr 9 0))), (10, .v (C1 (.str go))), (11, .v (C1 (.str quit))), (12, .v (C1 (.bool true))), (13, .v (.one (.ptr 13 0))), (14, .v (C1 (.int .i64 2)))]) (mm' := [(given, .box ((diceX l (carV types l (carV types l k4).2).2).map SC.c)), (8, .box [.c (.str ⟨#[]⟩), .c .nils, .c .nils]), (9, .box [.c (.str name), .c (.val vr), .c (.val vp2)]), (13, .box [.c (.int .i64 c), .c (.str ⟨#[]⟩)]), (22, .pool 9 1 [(vr, (rolesL.take 4).map fun s => [CT.str s])]), (200, .pool 34 3 [(vp2, [ptRow (roleN 0) (roleN 1) (.val v55), ptRow (roleN 1) (roleN 2) (.slice false 4 [[.str go, .int .i64 (carV types l k4).1.1, .str (carV types l k4).1.2, .int .i64 2]]), ptRow (roleN 2) (roleN 3) (.slice false 4 [[.str go, .int .i64 (carV types l (carV types l k4).2).1.1, .str (carV types l (carV types l k4).2).1.2, .int .i64 3]])])]), (55, .pool 41 4 [(v55, [[.str go, .int .i64 c, .str ⟨#[]⟩, .int .i64 1], [.str quit, .int .i64 0, .str ⟨#[]⟩, .int .i64 0]])])]) (by exact ⟨⟨_, rfl, .refl _⟩, ⟨_, rfl, .refl _⟩, ⟨_, rfl, .refl _⟩, ⟨_, rfl, .refl _⟩, ⟨_, rfl, .refl _⟩, ⟨_, rfl, .refl _⟩, ⟨_, rfl, .refl _⟩, ⟨_, rfl, .refl _⟩, ⟨_, rfl, .refl _⟩, ⟨_, rfl, le_int rfl⟩, trivial⟩) (by exact ⟨⟨_, rfl, .refl _⟩, ⟨_, rfl, .refl _⟩, ⟨_, rfl, .refl _⟩, ⟨_, rfl, .refl _⟩, ⟨_, rfl, .refl _⟩, ⟨_, rfl, .refl _⟩, ⟨_, rfl, .refl _⟩, trivial⟩) rfl rfl rfl ?_
  repeat' (first
    | exact no_bool hb
    | exact no_bool' hb
    | refine gc_ rfl ?_
    | refine g_loopU ?_
    | refine g_inLoopU ?_
    | (refine g_region ?_; refine run_ th rfl ?_)
    | refine SOps.nil ?_
    | (refine g_if rfl (fun hb => ?_) (fun hb => ?_) <;> (try simp only [hbL] at hb) <;> (try (exfalso; omega)))
    | (refine s_add rfl rfl rfl rfl rfl rfl (by omega) ?_; refine run_ th rfl ?_))
  refine g_sub (tm' := [(0, .v (.one (.ptr given 0))), (2, .v (C1 (.int .i64 ((4 : Nat) : Int)))), (3, .v (C1 (namesT types))), (8, .v (.one (.ptr 8 0))), (9, .v (.one (.ptr 9 0))), (10, .v (C1 (.str go))), (11, .v (C1 (.str quit))), (12, .v (C1 (.bool true))), (13, .v (.one (.ptr 13 0)))]) (mm' := [(given, .box ((diceX l (carV types l (carV types l k4).2).2).map SC.c)), (8, .box [.c (.str ⟨#[]⟩), .c .nils, .c .nils]), (9, .box [.c (.str name), .c (.val vr), .c (.val vp2)]), (13, .box [.c (.int .i64 c), .c (.str ⟨#[]⟩)]), (22, .pool 9 1 [(vr, (rolesL.take 4).map fun s => [CT.str s])]), (200, .pool 34 3 [(vp2, [ptRow (roleN 0) (roleN 1) (.val v55), ptRow (roleN 1) (roleN 2) (.slice false 4 [[.str go, .int .i64 (carV types l k4).1.1, .str (carV types l k4).1.2, .int .i64 2]]), ptRow (roleN 2) (roleN 3) (.slice false 4 [[.str go, .int .i64 (carV types l (carV types l k4).2).1.1, .str (carV types l (carV types l k4).2).1.2, .int .i64 3]])])]), (55, .pool 41 4 [(v55, [[.str go, .int .i64 c, .str ⟨#[]⟩, .int .i64 1], [.str quit, .int .i64 0, .str ⟨#[]⟩, .int .i64 0]])])]) (by exact ⟨⟨_, rfl, .refl _⟩, ⟨_, rfl, .refl _⟩, ⟨_, rfl, .refl _⟩, ⟨_, rfl, .refl _⟩, ⟨_, rfl, .refl _⟩, ⟨_, rfl, .refl _⟩, ⟨_, rfl, .refl _⟩, ⟨_, rfl, .refl _⟩, ⟨_, rfl, .refl _⟩, trivial⟩) (by exact ⟨⟨_, rfl, .refl _⟩, ⟨_, rfl, .refl _⟩, ⟨_, rfl, .refl _⟩, ⟨_, rfl, .refl _⟩, ⟨_, rfl, .refl _⟩, ⟨_, rfl, .refl _⟩, ⟨_, rfl, .refl _⟩, trivial⟩) rfl rfl rfl ?_
  refine g_drawF (ι := PV) [13, 14, 15, 16, 17, 18, 20] [given, 200] (r9ET false 107 108 109 110 111 112 (roleN 3) (roleN 0) ((dataV l (carV types l (carV types l k4).2).2), ⟨#[]⟩) [.str ⟨#[111, 107]⟩, .int .i64 (dataV l (carV types l (carV types l k4).2).2), .str ⟨#[]⟩, .int .i64 0]) (r9MM false 109 _ name vr (roleN 3) (roleN 0) [.str ⟨#[111, 107]⟩, .int .i64 (dataV l (carV types l (carV types l k4).2).2), .str ⟨#[]⟩, .int .i64 0] (diceX l (pkA l (carV types l (carV types l k4).2).2))) (vr, vr) mix rfl (fun k x hk => by match k, hk with | 0, _ => (refine subG_spec ?_; repeat (first | exact trivial | refine ⟨rfl, ?_⟩)) | 1, _ => (refine subG_spec ?_; repeat (first | exact trivial | refine ⟨rfl, ?_⟩)) | 2, _ => (refine subG_spec ?_; repeat (first | exact trivial | refine ⟨rfl, ?_⟩)) | 3, _ => (refine subG_spec ?_; repeat (first | exact trivial | refine ⟨rfl, ?_⟩)) | 4, _ => (refine subG_spec ?_; repeat (first | exact trivial | refine ⟨rfl, ?_⟩)) | 5, _ => (refine subG_spec ?_; repeat (first | exact trivial | refine ⟨rfl, ?_⟩)) | 6, _ => (refine subG_spec ?_; repeat (first | exact trivial | refine ⟨rfl, ?_⟩))) rfl (fun k x => by match k with | 0 => rfl | 1 => rfl | 2 => rfl | 3 => rfl | 4 => rfl | 5 => rfl | 6 => rfl | 7 => rfl | _ + 8 => rfl) rfl rfl (by simp) rfl rfl ?_
  refine frun_ th rfl ?_
  repeat' (first
    | (refine f_pidx (r := 22) th rfl rfl rfl rfl rfl rfl rfl rfl rfl rfl rfl 0 rfl 0 rfl (by decide) ?_; refine frun_ th rfl ?_)
    | (refine f_pidx (r := 22) th rfl rfl rfl rfl rfl rfl rfl rfl rfl rfl rfl 0 rfl 1 rfl (by decide) ?_; refine frun_ th rfl ?_)
    | (refine f_pidx (r := 22) th rfl rfl rfl rfl rfl rfl rfl rfl rfl rfl rfl 0 rfl 2 rfl (by decide) ?_; refine frun_ th rfl ?_)
    | (refine f_pidx (r := 22) th rfl rfl rfl rfl rfl rfl rfl rfl rfl rfl rfl 0 rfl 3 rfl (by decide) ?_; refine frun_ th rfl ?_)
    | (refine f_pload (r := 22) th rfl rfl rfl rfl rfl rfl rfl rfl rfl 0 rfl rfl rfl ?_; refine frun_ th rfl ?_)
    | (refine f_sub rfl rfl rfl rfl rfl rfl rfl 3 rfl (by decide) ?_; refine frun_ th rfl ?_)
    | (refine FOps.nil ⟨Effs.cons rfl (fun x => ?_) (Effs.cons rfl (fun x => ?_) (Effs.cons rfl (fun x => ?_) (Effs.cons rfl (fun x => ?_) (Effs.cons rfl (fun x => ?_) (Effs.cons rfl (fun x => ?_) (Effs.cons rfl (fun x => ?_) Effs.nil)))))), fun x => ?_⟩)
    | exact ef_call (datax_c l _ hc1) [given] rfl rfl rfl rfl rfl rfl rfl rfl rfl rfl rfl rfl rfl
    | exact ef_eval th rfl rfl rfl rfl rfl rfl rfl
    | exact ef_litP th rfl rfl rfl rfl rfl rfl rfl rfl rfl rfl rfl rfl rfl rfl rfl rfl rfl (fun v => (v, x.2)) (fun _ => rfl) (fun _ => rfl)
    | exact ef_lit th rfl rfl rfl rfl rfl rfl rfl rfl rfl rfl rfl rfl rfl (.nn true 4 _) rfl rfl
    | exact ef_lit th rfl rfl rfl rfl rfl rfl rfl rfl rfl rfl rfl rfl rfl (.refl _) rfl rfl
    | exact ef_append (i := 200) th rfl rfl rfl rfl rfl rfl rfl rfl rfl rfl rfl rfl rfl rfl rfl rfl 0 rfl ⟨(Nat.le_of_ble_eq_true rfl), (Nat.le_of_ble_eq_true rfl)⟩ (fun v' => (x.1, v')) (fun _ => rfl) (fun _ => rfl)
    | exact ef_append (i := 200) th rfl rfl rfl rfl rfl rfl rfl rfl rfl rfl rfl rfl rfl rfl rfl rfl 0 rfl ⟨(Nat.le_of_ble_eq_true rfl), (Nat.le_of_ble_eq_true rfl)⟩ (fun v' => v') (fun _ => rfl) (fun _ => rfl)
    | exact ef_store (i := 9) th rfl rfl rfl rfl rfl rfl rfl rfl rfl rfl rfl rfl)
  obtain ⟨vu, vpb⟩ := x
  refine g_sub (tm' := [(0, .v (.one (.ptr given 0))), (2, .v (C1 (.int .i64 ((4 : Nat) : Int)))), (3, .v (C1 (namesT types))), (8, .v (.one (.ptr 8 0))), (9, .v (.one (.ptr 9 0))), (10, .v (C1 (.str go))), (11, .v (C1 (.str quit))), (12, .v (C1 (.bool true))), (13, .v (.one (.ptr 13 0)))]) (mm' := [(given, .box ((diceX l (pkA l (carV types l (carV types l k4).2).2)).map SC.c)), (8, .box [.c (.str ⟨#[]⟩), .c .nils, .c .nils]), (9, .box [.c (.str name), .c (.val vr), .c (.val vpb)]), (13, .box [.c (.int .i64 c), .c (.str ⟨#[]⟩)]), (22, .pool 9 1 [(vr, (rolesL.take 4).map fun s => [CT.str s])]), (200, .pool 34 3 [(vpb, [ptRow (roleN 0) (roleN 1) (.val v55), ptRow (roleN 1) (roleN 2) (.slice false 4 [[.str go, .int .i64 (carV types l k4).1.1, .str (carV types l k4).1.2, .int .i64 2]]), ptRow (roleN 2) (roleN 3) (.slice false 4 [[.str go, .int .i64 (carV types l (carV types l k4).2).1.1, .str (carV types l (carV types l k4).2).1.2, .int .i64 3]]), ptRow (roleN 3) (roleN 0) (.slice false 4 [[.str ⟨#[111, 107]⟩, .int .i64 (dataV l (carV types l (carV types l k4).2).2), .str ⟨#[]⟩, .int .i64 0]])])]), (55, .pool 41 4 [(v55, [[.str go, .int .i64 c, .str ⟨#[]⟩, .int .i64 1], [.str quit, .int .i64 0, .str ⟨#[]⟩, .int .i64 0]])])]) (by exact ⟨⟨_, rfl, .refl _⟩, ⟨_, rfl, .refl _⟩, ⟨_, rfl, .refl _⟩, ⟨_, rfl, .refl _⟩, ⟨_, rfl, .refl _⟩, ⟨_, rfl, .refl _⟩, ⟨_, rfl, .refl _⟩, ⟨_, rfl, .refl _⟩, ⟨_, rfl, .refl _⟩, trivial⟩) (by exact ⟨⟨_, rfl, .refl _⟩, ⟨_, rfl, .refl _⟩, ⟨_, rfl, .refl _⟩, ⟨_, rfl, .refl _⟩, ⟨_, rfl, .refl _⟩, ⟨_, rfl, .refl _⟩, ⟨_, rfl, .refl _⟩, trivial⟩) rfl rfl rfl ?_
  repeat' (first
    | exact no_bool hb
    | exact no_bool' hb
    | refine gc_ rfl ?_
    | refine g_loopU ?_
    | refine g_inLoopU ?_
    | (refine g_region ?_; refine run_ th rfl ?_)
    | refine SOps.nil ?_
    | (refine g_if rfl (fun hb => ?_) (fun hb => ?_) <;> (try simp only [hbL] at hb) <;> (try (exfalso; omega)))
    | (refine s_add rfl rfl rfl rfl rfl rfl (by omega) ?_; refine run_ th rfl ?_)
    | (refine s_plen th 200 0 rfl rfl rfl rfl rfl rfl rfl rfl 4 rfl ?_; refine run_ th rfl ?_)
    | (refine s_subI rfl rfl rfl rfl rfl rfl (by omega) ?_; refine run_ th rfl ?_)
    | (refine s_pidx (r := 200) th rfl rfl rfl rfl rfl rfl rfl rfl rfl rfl 0 rfl 2 rfl (Nat.le_of_ble_eq_true rfl) ?_; refine run_ th rfl ?_)
    | (refine s_pidx (r := 200) th rfl rfl rfl rfl rfl rfl rfl rfl rfl rfl 0 rfl 0 rfl (Nat.le_of_ble_eq_true rfl) ?_; refine run_ th rfl ?_)
    | (refine s_pfield (i := 200) th rfl rfl rfl rfl rfl rfl rfl rfl (c := 0) rfl (Nat.le_of_ble_eq_true rfl) ?_; refine run_ th rfl ?_)
    | (refine s_ploadf (i := 200) (k := 0) th rfl rfl rfl rfl rfl rfl rfl rfl rfl rfl rfl ?_; refine run_ th rfl ?_)
    | (refine s_pidx (r := 55) th rfl rfl rfl rfl rfl rfl rfl rfl rfl rfl 0 rfl 0 rfl (Nat.le_of_ble_eq_true rfl) ?_; refine run_ th rfl ?_)
    | (refine s_pidx (r := 55) th rfl rfl rfl rfl rfl rfl rfl rfl rfl rfl 0 rfl 1 rfl (Nat.le_of_ble_eq_true rfl) ?_; refine run_ th rfl ?_)
    | (refine s_pfield (i := 55) th rfl rfl rfl rfl rfl rfl rfl rfl (c := 0) rfl (Nat.le_of_ble_eq_true rfl) ?_; refine run_ th rfl ?_)
    | (refine s_pstoref (i := 55) (k := 0) th _ rfl rfl rfl rfl rfl rfl rfl rfl rfl rfl rfl rfl rfl rfl rfl ?_; refine run_ th rfl ?_))
  refine g_sub (tm' := [(0, .v (.one (.ptr given 0))), (2, .v (C1 (.int .i64 ((4 : Nat) : Int)))), (3, .v (C1 (namesT types))), (8, .v (.one (.ptr 8 0))), (9, .v (.one (.ptr 9 0))), (10, .v (C1 (.str go))), (11, .v (C1 (.str quit))), (12, .v (C1 (.bool true))), (13, .v (.one (.ptr 13 0))), (17, .v (C1 (.int .i64 1)))]) (mm' := [(given, .box ((diceX l (pkA l (carV types l (carV types l k4).2).2)).map SC.c)), (8, .box [.c (.str ⟨#[]⟩), .c .nils, .c .nils]), (9, .box [.c (.str name), .c (.val vr), .c (.val vpb)]), (13, .box [.c (.int .i64 c), .c (.str ⟨#[]⟩)]), (22, .pool 9 1 [(vr, (rolesL.take 4).map fun s => [CT.str s])]), (200, .pool 34 3 [(vpb, [ptRow (roleN 0) (roleN 1) (.val v55), ptRow (roleN 1) (roleN 2) (.slice false 4 [[.str go, .int .i64 (carV types l k4).1.1, .str (carV types l k4).1.2, .int .i64 2]]), ptRow (roleN 2) (roleN 3) (.slice false 4 [[.str go, .int .i64 (carV types l (carV types l k4).2).1.1, .str (carV types l (carV types l k4).2).1.2, .int .i64 3]]), ptRow (roleN 3) (roleN 0) (.slice false 4 [[.str ⟨#[111, 107]⟩, .int .i64 (dataV l (carV types l (carV types l k4).2).2), .str ⟨#[]⟩, .int .i64 0]])])]), (55, .pool 41 4 [(v55, [[.str go, .int .i64 c, .str ⟨#[]⟩, .int .i64 1], [.str quit, .int .i64 0, .str ⟨#[]⟩, .int .i64 4]])])]) (by exact ⟨⟨_, rfl, .refl _⟩, ⟨_, rfl, .refl _⟩, ⟨_, rfl, .refl _⟩, ⟨_, rfl, .refl _⟩, ⟨_, rfl, .refl _⟩, ⟨_, rfl, .refl _⟩, ⟨_, rfl, .refl _⟩, ⟨_, rfl, .refl _⟩, ⟨_, rfl, .refl _⟩, ⟨_, rfl, le_int rfl⟩, trivial⟩) (by exact ⟨⟨_, rfl, .refl _⟩, ⟨_, rfl, .refl _⟩, ⟨_, rfl, .refl _⟩, ⟨_, rfl, .refl _⟩, ⟨_, rfl, .refl _⟩, ⟨_, rfl, .refl _⟩, ⟨_, rfl, .refl _⟩, trivial⟩) rfl rfl rfl ?_
  refine g_drawF3 (ι := Value) 8 0 22 [22, 24] [200, 9] [] r19ET (r19MM _ name vr (ptRow (roleN 1) (roleN 2) (.slice false 4 [[.str quit, .int .i64 0, .str ⟨#[]⟩, .int .i64 5]]))) vr mix rfl (fun k x => by match k with | 0 => (refine subG_spec ?_; repeat (first | exact trivial | refine ⟨rfl, ?_⟩)) | 1 => (refine subG_spec ?_; repeat (first | exact trivial | refine ⟨rfl, ?_⟩)) | _ + 2 => (refine subG_spec ?_; repeat (first | exact trivial | refine ⟨rfl, ?_⟩))) (fun k x hk => by match k, hk with | 0, _ => (refine subG_spec ?_; repeat (first | exact trivial | refine ⟨rfl, ?_⟩))) rfl (fun k x => by match k with | 0 => rfl | 1 => rfl | 2 => rfl | _ + 3 => rfl) rfl rfl (by simp) rfl rfl ?_
  refine frun_ th rfl ?_
  repeat' (first
    | (refine f_pidx (r := 22) th rfl rfl rfl rfl rfl rfl rfl rfl rfl rfl rfl 0 rfl 0 rfl (by decide) ?_; refine frun_ th rfl ?_)
    | (refine f_pidx (r := 22) th rfl rfl rfl rfl rfl rfl rfl rfl rfl rfl rfl 0 rfl 1 rfl (by decide) ?_; refine frun_ th rfl ?_)
    | (refine f_pidx (r := 22) th rfl rfl rfl rfl rfl rfl rfl rfl rfl rfl rfl 0 rfl 2 rfl (by decide) ?_; refine frun_ th rfl ?_)
    | (refine f_pidx (r := 22) th rfl rfl rfl rfl rfl rfl rfl rfl rfl rfl rfl 0 rfl 3 rfl (by decide) ?_; refine frun_ th rfl ?_)
    | (refine f_pload (r := 22) th rfl rfl rfl rfl rfl rfl rfl rfl rfl 0 rfl rfl rfl ?_; refine frun_ th rfl ?_)
    | (refine f_plen th 200 0 rfl rfl rfl rfl rfl rfl rfl rfl rfl 4 rfl ?_; refine frun_ th rfl ?_)
    | (refine f_add rfl rfl rfl rfl rfl rfl rfl 2 rfl (by decide) ?_; refine frun_ th rfl ?_)
    | (refine f_add rfl rfl rfl rfl rfl rfl rfl 5 rfl (by decide) ?_; refine frun_ th rfl ?_)
    | (refine f_lit th rfl rfl rfl rfl rfl rfl rfl rfl rfl rfl rfl rfl rfl (.nn true 4 _) ?_; refine frun_ th rfl ?_)
    | (refine f_lit th rfl rfl rfl rfl rfl rfl rfl rfl rfl rfl rfl rfl rfl (.refl _) ?_; refine frun_ th rfl ?_)
    | (refine FOps.nil ⟨Effs.cons rfl (fun x => ?_) (Effs.cons rfl (fun x => ?_) Effs.nil), fun vq0 => ?_⟩)
    | exact ef_eval th rfl rfl rfl rfl rfl rfl rfl
    | exact ef_litP th rfl rfl rfl rfl rfl rfl rfl rfl rfl rfl rfl rfl rfl rfl rfl rfl rfl (fun v => (v, x.2)) (fun _ => rfl) (fun _ => rfl)
    | exact ef_lit th rfl rfl rfl rfl rfl rfl rfl rfl rfl rfl rfl rfl rfl (.nn true 4 _) rfl rfl
    | exact ef_lit th rfl rfl rfl rfl rfl rfl rfl rfl rfl rfl rfl rfl rfl (.refl _) rfl rfl
    | exact ef_append (i := 200) th rfl rfl rfl rfl rfl rfl rfl rfl rfl rfl rfl rfl rfl rfl rfl rfl 0 rfl ⟨(Nat.le_of_ble_eq_true rfl), (Nat.le_of_ble_eq_true rfl)⟩ (fun v' => (x.1, v')) (fun _ => rfl) (fun _ => rfl)
    | exact ef_append (i := 200) th rfl rfl rfl rfl rfl rfl rfl rfl rfl rfl rfl rfl rfl rfl rfl rfl 0 rfl ⟨(Nat.le_of_ble_eq_true rfl), (Nat.le_of_ble_eq_true rfl)⟩ (fun v' => v') (fun _ => rfl) (fun _ => rfl)
    | exact ef_store (i := 9) th rfl rfl rfl rfl rfl rfl rfl rfl rfl rfl rfl rfl)
  refine g_sub (tm' := [(0, .v (.one (.ptr given 0))), (2, .v (C1 (.int .i64 ((4 : Nat) : Int)))), (3, .v (C1 (namesT types))), (8, .v (.one (.ptr 8 0))), (9, .v (.one (.ptr 9 0))), (10, .v (C1 (.str go))), (11, .v (C1 (.str quit))), (12, .v (C1 (.bool true))), (13, .v (.one (.ptr 13 0))), (17, .v (C1 (.int .i64 1)))]) (mm' := [(given, .box ((diceX l (pkA l (carV types l (carV types l k4).2).2)).map SC.c)), (8, .box [.c (.str ⟨#[]⟩), .c .nils, .c .nils]), (9, .box [.c (.str name), .c (.val vr), .c (.val vq0)]), (13, .box [.c (.int .i64 c), .c (.str ⟨#[]⟩)]), (22, .pool 9 1 [(vr, (rolesL.take 4).map fun s => [CT.str s])]), (200, .pool 34 3 [(vq0, [ptRow (roleN 0) (roleN 1) (.val v55), ptRow (roleN 1) (roleN 2) (.slice false 4 [[.str go, .int .i64 (carV types l k4).1.1, .str (carV types l k4).1.2, .int .i64 2]]), ptRow (roleN 2) (roleN 3) (.slice false 4 [[.str go, .int .i64 (carV types l (carV types l k4).2).1.1, .str (carV types l (carV types l k4).2).1.2, .int .i64 3]]), ptRow (roleN 3) (roleN 0) (.slice false 4 [[.str ⟨#[111, 107]⟩, .int .i64 (dataV l (carV types l (carV types l k4).2).2), .str ⟨#[]⟩, .int .i64 0]]), ptRow (roleN 1) (roleN 2) (.slice false 4 [[.str quit, .int .i64 0, .str ⟨#[]⟩, .int .i64 5]])])]), (55, .pool 41 4 [(v55, [[.str go, .int .i64 c, .str ⟨#[]⟩, .int .i64 1], [.str quit, .int .i64 0, .str ⟨#[]⟩, .int .i64 4]])])]) (by exact ⟨⟨_, rfl, .refl _⟩, ⟨_, rfl, .refl _⟩, ⟨_, rfl, .refl _⟩, ⟨_, rfl, .refl _⟩, ⟨_, rfl, .refl _⟩, ⟨_, rfl, .refl _⟩, ⟨_, rfl, .refl _⟩, ⟨_, rfl, .refl _⟩, ⟨_, rfl, .refl _⟩, ⟨_, rfl, le_int rfl⟩, trivial⟩) (by exact ⟨⟨_, rfl, .refl _⟩, ⟨_, rfl, .refl _⟩, ⟨_, rfl, .refl _⟩, ⟨_, rfl, .refl _⟩, ⟨_, rfl, .refl _⟩, ⟨_, rfl, .refl _⟩, ⟨_, rfl, .refl _⟩, trivial⟩) rfl rfl rfl ?_
  repeat' (first
    | exact no_bool hb
    | exact no_bool' hb
    | refine gc_ rfl ?_
    | refine g_loopU ?_
    | refine g_inLoopU ?_
    | (refine g_region ?_; refine run_ th rfl ?_)
    | refine SOps.nil ?_
    | (refine g_if rfl (fun hb => ?_) (fun hb => ?_) <;> (try simp only [hbL] at hb) <;> (try (exfalso; omega)))
    | (refine s_add rfl rfl rfl rfl rfl rfl (by omega) ?_; refine run_ th rfl ?_))
  refine g_sub (tm' := [(0, .v (.one (.ptr given 0))), (2, .v (C1 (.int .i64 ((4 : Nat) : Int)))), (3, .v (C1 (namesT types))), (8, .v (.one (.ptr 8 0))), (9, .v (.one (.ptr 9 0))), (10, .v (C1 (.str go))), (11, .v (C1 (.str quit))), (12, .v (C1 (.bool true))), (13, .v (.one (.ptr 13 0))), (17, .v (C1 (.int .i64 2)))]) (mm' := [(given, .box ((diceX l (pkA l (carV types l (carV types l k4).2).2)).map SC.c)), (8, .box [.c (.str ⟨#[]⟩), .c .nils, .c .nils]), (9, .box [.c (.str name), .c (.val vr), .c (.val vq0)]), (13, .box [.c (.int .i64 c), .c (.str ⟨#[]⟩)]), (22, .pool 9 1 [(vr, (rolesL.take 4).map fun s => [CT.str s])]), (200, .pool 34 3 [(vq0, [ptRow (roleN 0) (roleN 1) (.val v55), ptRow (roleN 1) (roleN 2) (.slice false 4 [[.str go, .int .i64 (carV types l k4).1.1, .str (carV types l k4).1.2, .int .i64 2]]), ptRow (roleN 2) (roleN 3) (.slice false 4 [[.str go, .int .i64 (carV types l (carV types l k4).2).1.1, .str (carV types l (carV types l k4).2).1.2, .int .i64 3]]), ptRow (roleN 3) (roleN 0) (.slice false 4 [[.str ⟨#[111, 107]⟩, .int .i64 (dataV l (carV types l (carV types l k4).2).2), .str ⟨#[]⟩, .int .i64 0]]), ptRow (roleN 1) (roleN 2) (.slice false 4 [[.str quit, .int .i64 0, .str ⟨#[]⟩, .int .i64 5]])])]), (55, .pool 41 4 [(v55, [[.str go, .int .i64 c, .str ⟨#[]⟩, .int .i64 1], [.str quit, .int .i64 0, .str ⟨#[]⟩, .int .i64 4]])])]) (by exact ⟨⟨_, rfl, .refl _⟩, ⟨_, rfl, .refl _⟩, ⟨_, rfl, .refl _⟩, ⟨_, rfl, .refl _⟩, ⟨_, rfl, .refl _⟩, ⟨_, rfl, .refl _⟩, ⟨_, rfl, .refl _⟩, ⟨_, rfl, .refl _⟩, ⟨_, rfl, .refl _⟩, ⟨_, rfl, le_int rfl⟩, trivial⟩) (by exact ⟨⟨_, rfl, .refl _⟩, ⟨_, rfl, .refl _⟩, ⟨_, rfl, .refl _⟩, ⟨_, rfl, .refl _⟩, ⟨_, rfl, .refl _⟩, ⟨_, rfl, .refl _⟩, ⟨_, rfl, .refl _⟩, trivial⟩) rfl rfl rfl ?_
  refine g_drawF3 (ι := Value) 8 0 22 [22, 24] [200, 9] [] r19ET (r19MM _ name vr (ptRow (roleN 2) (roleN 3) (.slice false 4 [[.str quit, .int .i64 0, .str ⟨#[]⟩, .int .i64 6]]))) vr mix rfl (fun k x => by match k with | 0 => (refine subG_spec ?_; repeat (first | exact trivial | refine ⟨rfl, ?_⟩)) | 1 => (refine subG_spec ?_; repeat (first | exact trivial | refine ⟨rfl, ?_⟩)) | _ + 2 => (refine subG_spec ?_; repeat (first | exact trivial | refine ⟨rfl, ?_⟩))) (fun k x hk => by match k, hk with | 0, _ => (refine subG_spec ?_; repeat (first | exact trivial | refine ⟨rfl, ?_⟩))) rfl (fun k x => by match k with | 0 => rfl | 1 => rfl | 2 => rfl | _ + 3 => rfl) rfl rfl (by simp) rfl rfl ?_
  refine frun_ th rfl ?_
  repeat' (first
    | (refine f_pidx (r := 22) th rfl rfl rfl rfl rfl rfl rfl rfl rfl rfl rfl 0 rfl 0 rfl (by decide) ?_; refine frun_ th rfl ?_)
    | (refine f_pidx (r := 22) th rfl rfl rfl rfl rfl rfl rfl rfl rfl rfl rfl 0 rfl 1 rfl (by decide) ?_; refine frun_ th rfl ?_)
    | (refine f_pidx (r := 22) th rfl rfl rfl rfl rfl rfl rfl rfl rfl rfl rfl 0 rfl 2 rfl (by decide) ?_; refine frun_ th rfl ?_)
    | (refine f_pidx (r := 22) th rfl rfl rfl rfl rfl rfl rfl rfl rfl rfl rfl 0 rfl 3 rfl (by decide) ?_; refine frun_ th rfl ?_)
    | (refine f_pload (r := 22) th rfl rfl rfl rfl rfl rfl rfl rfl rfl 0 rfl rfl rfl ?_; refine frun_ th rfl ?_)
    | (refine f_plen th 200 0 rfl rfl rfl rfl rfl rfl rfl rfl rfl 5 rfl ?_; refine frun_ th rfl ?_)
    | (refine f_add rfl rfl rfl rfl rfl rfl rfl 3 rfl (by decide) ?_; refine frun_ th rfl ?_)
    | (refine f_add rfl rfl rfl rfl rfl rfl rfl 6 rfl (by decide) ?_; refine frun_ th rfl ?_)
    | (refine f_lit th rfl rfl rfl rfl rfl rfl rfl rfl rfl rfl rfl rfl rfl (.nn true 4 _) ?_; refine frun_ th rfl ?_)
    | (refine f_lit th rfl rfl rfl rfl rfl rfl rfl rfl rfl rfl rfl rfl rfl (.refl _) ?_; refine frun_ th rfl ?_)
    | (refine FOps.nil ⟨Effs.cons rfl (fun x => ?_) (Effs.cons rfl (fun x => ?_) Effs.nil), fun vq1 => ?_⟩)
    | exact ef_eval th rfl rfl rfl rfl rfl rfl rfl
    | exact ef_litP th rfl rfl rfl rfl rfl rfl rfl rfl rfl rfl rfl rfl rfl rfl rfl rfl rfl (fun v => (v, x.2)) (fun _ => rfl) (fun _ => rfl)
    | exact ef_lit th rfl rfl rfl rfl rfl rfl rfl rfl rfl rfl rfl rfl rfl (.nn true 4 _) rfl rfl
    | exact ef_lit th rfl rfl rfl rfl rfl rfl rfl rfl rfl rfl rfl rfl rfl (.refl _) rfl rfl
    | exact ef_append (i := 200) th rfl rfl rfl rfl rfl rfl rfl rfl rfl rfl rfl rfl rfl rfl rfl rfl 0 rfl ⟨(Nat.le_of_ble_eq_true rfl), (Nat.le_of_ble_eq_true rfl)⟩ (fun v' => (x.1, v')) (fun _ => rfl) (fun _ => rfl)
    | exact ef_append (i := 200) th rfl rfl rfl rfl rfl rfl rfl rfl rfl rfl rfl rfl rfl rfl rfl rfl 0 rfl ⟨(Nat.le_of_ble_eq_true rfl), (Nat.le_of_ble_eq_true rfl)⟩ (fun v' => v') (fun _ => rfl) (fun _ => rfl)
    | exact ef_store (i := 9) th rfl rfl rfl rfl rfl rfl rfl rfl rfl rfl rfl rfl)
  refine g_sub (tm' := [(0, .v (.one (.ptr given 0))), (2, .v (C1 (.int .i64 ((4 : Nat) : Int)))), (3, .v (C1 (namesT types))), (8, .v (.one (.ptr 8 0))), (9, .v (.one (.ptr 9 0))), (10, .v (C1 (.str go))), (11, .v (C1 (.str quit))), (12, .v (C1 (.bool true))), (13, .v (.one (.ptr 13 0))), (17, .v (C1 (.int .i64 2)))]) (mm' := [(given, .box ((diceX l (pkA l (carV types l (carV types l k4).2).2)).map SC.c)), (8, .box [.c (.str ⟨#[]⟩), .c .nils, .c .nils]), (9, .box [.c (.str name), .c (.val vr), .c (.val vq1)]), (13, .box [.c (.int .i64 c), .c (.str ⟨#[]⟩)]), (22, .pool 9 1 [(vr, (rolesL.take 4).map fun s => [CT.str s])]), (200, .pool 34 3 [(vq1, [ptRow (roleN 0) (roleN 1) (.val v55), ptRow (roleN 1) (roleN 2) (.slice false 4 [[.str go, .int .i64 (carV types l k4).1.1, .str (carV types l k4).1.2, .int .i64 2]]), ptRow (roleN 2) (roleN 3) (.slice false 4 [[.str go, .int .i64 (carV types l (carV types l k4).2).1.1, .str (carV types l (carV types l k4).2).1.2, .int .i64 3]]), ptRow (roleN 3) (roleN 0) (.slice false 4 [[.str ⟨#[111, 107]⟩, .int .i64 (dataV l (carV types l (carV types l k4).2).2), .str ⟨#[]⟩, .int .i64 0]]), ptRow (roleN 1) (roleN 2) (.slice false 4 [[.str quit, .int .i64 0, .str ⟨#[]⟩, .int .i64 5]]), ptRow (roleN 2) (roleN 3) (.slice false 4 [[.str quit, .int .i64 0, .str ⟨#[]⟩, .int .i64 6]])])]), (55, .pool 41 4 [(v55, [[.str go, .int .i64 c, .str ⟨#[]⟩, .int .i64 1], [.str quit, .int .i64 0, .str ⟨#[]⟩, .int .i64 4]])])]) (by exact ⟨⟨_, rfl, .refl _⟩, ⟨_, rfl, .refl _⟩, ⟨_, rfl, .refl _⟩, ⟨_, rfl, .refl _⟩, ⟨_, rfl, .refl _⟩, ⟨_, rfl, .refl _⟩, ⟨_, rfl, .refl _⟩, ⟨_, rfl, .refl _⟩, ⟨_, rfl, .refl _⟩, ⟨_, rfl, le_int rfl⟩, trivial⟩) (by exact ⟨⟨_, rfl, .refl _⟩, ⟨_, rfl, .refl _⟩, ⟨_, rfl, .refl _⟩, ⟨_, rfl, .refl _⟩, ⟨_, rfl, .refl _⟩, ⟨_, rfl, .refl _⟩, ⟨_, rfl, .refl _⟩, trivial⟩) rfl rfl rfl ?_
  repeat' (first
    | exact no_bool hb
    | exact no_bool' hb
    | refine gc_ rfl ?_
    | refine g_loopU ?_
    | refine g_inLoopU ?_
    | (refine g_region ?_; refine run_ th rfl ?_)
    | refine SOps.nil ?_
    | (refine g_if rfl (fun hb => ?_) (fun hb => ?_) <;> (try simp only [hbL] at hb) <;> (try (exfalso; omega)))
    | (refine s_add rfl rfl rfl rfl rfl rfl (by omega) ?_; refine run_ th rfl ?_)
    | (refine s_freeze 170 rfl rfl ?_; refine s_leT 170 (.v (C1 (.slice true 3 [noPnt.cs]))) rfl (.v (.one (.c (le_deep (.cons (.cons (.refl _) (.cons (.refl _) (.cons (.nil 4) .nil))) .nil))))) ?_; refine s_pappend (i := 200) th rfl rfl rfl rfl rfl rfl rfl rfl rfl rfl rfl rfl rfl rfl 0 rfl ⟨(Nat.le_of_ble_eq_true rfl), (Nat.le_of_ble_eq_true rfl)⟩ fun vz => ?_; refine run_ th rfl ?_))
  refine g_freezeQ 55 200 _ rfl rfl rfl rfl rfl rfl (.cons (.cons (.refl _) (.cons (.refl _) (.cons (.row List.mem_cons_self) (.refl _)))) (.refl _)) ?_
  exact g_endM (hd := hd) th Try.func75 (vr, vz) (.inr ⟨_, rfl⟩) rfl rfl rfl rfl ⟨rfl, rfl, rfl, trivial⟩ rfl rfl rfl trivial

set_option maxHeartbeats 64000000 in
theorem rnd4f_c (name : ByteArray) (types : List ByteArray) (ht : types.length ≤ 1000) (l : List Int) (k : Nat) (hk : k ≤ l.length) (hb0 : ¬ pkV l (pkA l (pkA l k)) 2 = 1) :
    ConM Try.prog 75 [(given, .box ((diceX l k).map SC.c))] [.one (.ptr given 0), C1 (.str name), C1 (.int .i64 ((4 : Nat) : Int)), C1 (namesT types)]
      (fun _ : PV => True) (fun v => .v (.agg [.c (.str name), .c (.val v.1), .c (.val v.2)])) (fun v => [(given, .box ((diceX l (rndV name types l 4 k).2).map SC.c)), (22, .pool 9 1 [(v.1, (rolesL.take 4).map fun s => [CT.str s])]), (200, .pool 34 3 [(v.2, (rndV name types l 4 k).1.points.map Pnt.cs)])]) := by
  have hk1 := pkA_le hk
  have hk2 := pkA_le hk1
  have hk3 := pkA_le hk2
  have hk4 : rnd4 l k ≤ l.length := pkA_le hk3
  have hr0 := pk_range l k (n := 2) (by omega) (by omega)
  have hr1 := pk_range l (pkA l k) (n := 2) (by omega) (by omega)
  have hrl : rolesL.length = 5 := rfl
  have hB : rndB l k = false := by unfold rndB; simp [hb0]
  have hres : rndV name types l 4 k = (⟨name, rolesL.take 4, rndP 4 false (rndGo l k) (rndQuit l k) (dataV l (pkA l (pkA l (pkA l k)))) [(carV types l (rnd4 l k)).1, (carV types l (carV types l (rnd4 l k)).2).1] (dataV l (carV types l (carV types l (rnd4 l k)).2).2)⟩, (carV types l (carV types l (rnd4 l k)).2).2) := by unfold rndV; rw [hB]; rfl
  rw [hres]
  refine conM_of (c := _) Try.func75 rfl rfl rfl (by decide) rfl fun w M0 H Z hd => ?_
  repeat' (first
   | (refine g_drawS 12 [given] mix rfl rfl rfl rfl rfl rfl rfl rfl ?_; refine grun_ th rfl ?_)
   | refine gc_ rfl ?_
   | (refine g_region ?_; refine run_ th rfl ?_)
   | refine SOps.nil ?_
   | (refine s_split rfl rfl (fun hb => ?_) (fun hb => ?_) <;> (try simp only [hbL] at hb) <;> first | (exfalso; omega) | refine run_ th rfl ?_)
   | (refine g_if rfl (fun hb => ?_) (fun hb => ?_) <;> (try simp only [hbL] at hb) <;> (try (exfalso; omega)))
   | (refine s_call roles_c [] rfl rfl rfl rfl rfl rfl rfl rfl rfl rfl ?_; refine run_ th rfl ?_)
   | (refine s_step (op_sliceTo (j := 4) th rfl rfl rfl rfl rfl rfl (by decide) rfl rfl).wp rfl ?_; refine run_ th rfl ?_)
   | (refine s_appendN th 22 rfl rfl rfl rfl rfl rfl rfl rfl rfl rfl rfl rfl rfl rfl (by constructor <;> decide) ?_; refine s_toPool 22 rfl rfl fun vr => ?_; refine run_ th rfl ?_)
   | (refine q_eff labels_c [] rfl rfl rfl rfl rfl rfl rfl rfl rfl rfl rfl (outM_sub (ids := [given]) rfl) ?_; refine grun_ th rfl ?_)
   | (refine q_eff (pickx_c l k hk 2 (by omega) (by omega)) [given] rfl rfl rfl rfl rfl rfl rfl rfl rfl rfl rfl (outM_sub (ids := [given]) rfl) ?_; refine grun_ th rfl ?_)
   | (refine q_eff (pickx_c l _ hk1 2 (by omega) (by omega)) [given] rfl rfl rfl rfl rfl rfl rfl rfl rfl rfl rfl (outM_sub (ids := [given]) rfl) ?_; refine grun_ th rfl ?_)
   | (refine q_idx th rfl rfl rfl rfl rfl rfl rfl rfl rfl (pkV l k 2).toNat _ (by omega) (lab_get (by omega)) ?_; refine grun_ th rfl ?_)
   | (refine q_add rfl rfl rfl rfl rfl rfl (by omega) ?_; refine grun_ th rfl ?_)
   | (refine q_idx th rfl rfl rfl rfl rfl rfl rfl rfl rfl (2 + pkV l (pkA l k) 2).toNat _ (by omega) (lab_get (by omega)) ?_; refine grun_ th rfl ?_)
   | (refine GOps.nil ?_; refine run_ th rfl ?_)
   | (refine s_call (pickx_c l _ hk2 2 (by omega) (by omega)) [given] rfl rfl rfl rfl rfl rfl rfl rfl rfl rfl ?_; refine run_ th rfl ?_)
   | (refine s_call (datax_c l _ hk3) [given] rfl rfl rfl rfl rfl rfl rfl rfl rfl rfl ?_; refine run_ th rfl ?_))
  refine g_nilVal 9 2 rfl rfl ?_
  refine g_newPool 200 34 3 rfl rfl ?_
  refine g_nilPool 200 rfl rfl rfl rfl ?_
  rw [show decide (pkV l (pkA l (pkA l k)) 2 = 1) = false from hB]
  obtain ⟨go, hgo⟩ : ∃ x, x = rndGo l k := ⟨_, rfl⟩
  obtain ⟨quit, hqu⟩ : ∃ x, x = rndQuit l k := ⟨_, rfl⟩
  obtain ⟨c, hc⟩ : ∃ x, x = dataV l (pkA l (pkA l (pkA l k))) := ⟨_, rfl⟩
  rw [show labelsL.getD (pkV l k 2).toNat ⟨#[]⟩ = go from hgo.symm, show labelsL.getD (2 + pkV l (pkA l k) 2).toNat ⟨#[]⟩ = quit from hqu.symm, show rndGo l k = go from hgo.symm, show rndQuit l k = quit from hqu.symm, show dataV l (pkA l (pkA l (pkA l k))) = c from hc.symm, show pkA l (pkA l (pkA l (pkA l k))) = rnd4 l k from rfl]
  obtain ⟨k4, hk4e⟩ : ∃ x, x = rnd4 l k := ⟨_, rfl⟩
  rw [← hk4e] at hk4 ⊢
  clear hgo hqu hc hres hB hr0 hr1 hk1 hk2 hk3 hk4e hb0
  refine g_sub (tm' := [(0, .v (.one (.ptr given 0))), (2, .v (C1 (.int .i64 ((4 : Nat) : Int)))), (3, .v (C1 (namesT types))), (8, .v (.one (.ptr 8 0))), (9, .v (.one (.ptr 9 0))), (10, .v (C1 (.str go))), (11, .v (C1 (.str quit))), (12, .v (C1 (.bool false))), (13, .v (.one (.ptr 13 0)))]) (mm' := [(given, .box ((diceX l k4).map SC.c)), (8, .box [.c (.str ⟨#[]⟩), .c .nils, .c .nils]), (9, .box [.c (.str name), .c (.val vr), .c (.val (.slice none 0 0))]), (13, .box [.c (.int .i64 c), .c (.str ⟨#[]⟩)]), (22, .pool 9 1 [(vr, (rolesL.take 4).map fun s => [CT.str s])]), (200, .pool 34 3 [((.slice none 0 0), [])])]) (by exact ⟨⟨_, rfl, .refl _⟩, ⟨_, rfl, .refl _⟩, ⟨_, rfl, .refl _⟩, ⟨_, rfl, .refl _⟩, ⟨_, rfl, .refl _⟩, ⟨_, rfl, .refl _⟩, ⟨_, rfl, .refl _⟩, ⟨_, rfl, .refl _⟩, ⟨_, rfl, .refl _⟩, trivial⟩) (by exact ⟨⟨_, rfl, .refl _⟩, ⟨_, rfl, .refl _⟩, ⟨_, rfl, .refl _⟩, ⟨_, rfl, .refl _⟩, ⟨_, rfl, .refl _⟩, ⟨_, rfl, .refl _⟩, trivial⟩) rfl rfl rfl ?_
  refine g_drawF (ι := PV) [15, 16, 17, 18, 20] [200] (r5ET (roleN 0) (roleN 1)) (r5MM _ name vr [[.str go, .int .i64 c, .str ⟨#[]⟩, .int .i64 1], [.str quit, .int .i64 0, .str ⟨#[]⟩, .int .i64 0]] (roleN 0) (roleN 1)) (vr, vr) mix rfl (fun k x hk => by match k, hk with | 0, _ => (refine subG_spec ?_; repeat (first | exact trivial | refine ⟨rfl, ?_⟩)) | 1, _ => (refine subG_spec ?_; repeat (first | exact trivial | refine ⟨rfl, ?_⟩)) | 2, _ => (refine subG_spec ?_; repeat (first | exact trivial | refine ⟨rfl, ?_⟩)) | 3, _ => (refine subG_spec ?_; repeat (first | exact trivial | refine ⟨rfl, ?_⟩)) | 4, _ => (refine subG_spec ?_; repeat (first | exact trivial | refine ⟨rfl, ?_⟩))) rfl (fun k x => by match k with | 0 => rfl | 1 => rfl | 2 => rfl | 3 => rfl | 4 => rfl | 5 => rfl | _ + 6 => rfl) rfl rfl (by simp) rfl rfl ?_
  refine frun_ th rfl ?_
  repeat' (first
    | (refine f_pidx (r := 22) th rfl rfl rfl rfl rfl rfl rfl rfl rfl rfl rfl 0 rfl 0 rfl (by decide) ?_; refine frun_ th rfl ?_)
    | (refine f_pidx (r := 22) th rfl rfl rfl rfl rfl rfl rfl rfl rfl rfl rfl 0 rfl 1 rfl (by decide) ?_; refine frun_ th rfl ?_)
    | (refine f_pidx (r := 22) th rfl rfl rfl rfl rfl rfl rfl rfl rfl rfl rfl 0 rfl 2 rfl (by decide) ?_; refine frun_ th rfl ?_)
    | (refine f_pidx (r := 22) th rfl rfl rfl rfl rfl rfl rfl rfl rfl rfl rfl 0 rfl 3 rfl (by decide) ?_; refine frun_ th rfl ?_)
    | (refine f_pload (r := 22) th rfl rfl rfl rfl rfl rfl rfl rfl rfl 0 rfl rfl rfl ?_; refine frun_ th rfl ?_)
    | (refine FOps.nil ⟨Effs.cons rfl (fun x => ?_) (Effs.cons rfl (fun x => ?_) (Effs.cons rfl (fun x => ?_) (Effs.cons rfl (fun x => ?_) (Effs.cons rfl (fun x => ?_) Effs.nil)))), fun x => ?_⟩)
    | exact ef_eval th rfl rfl rfl rfl rfl rfl rfl
    | exact ef_litP th rfl rfl rfl rfl rfl rfl rfl rfl rfl rfl rfl rfl rfl rfl rfl rfl rfl (fun v => (v, x.2)) (fun _ => rfl) (fun _ => rfl)
    | exact ef_lit th rfl rfl rfl rfl rfl rfl rfl rfl rfl rfl rfl rfl rfl (.nn true 4 _) rfl rfl
    | exact ef_lit th rfl rfl rfl rfl rfl rfl rfl rfl rfl rfl rfl rfl rfl (.refl _) rfl rfl
    | exact ef_append (i := 200) th rfl rfl rfl rfl rfl rfl rfl rfl rfl rfl rfl rfl rfl rfl rfl rfl 0 rfl ⟨(Nat.le_of_ble_eq_true rfl), (Nat.le_of_ble_eq_true rfl)⟩ (fun v' => (x.1, v')) (fun _ => rfl) (fun _ => rfl)
    | exact ef_append (i := 200) th rfl rfl rfl rfl rfl rfl rfl rfl rfl rfl rfl rfl rfl rfl rfl rfl 0 rfl ⟨(Nat.le_of_ble_eq_true rfl), (Nat.le_of_ble_eq_true rfl)⟩ (fun v' => v') (fun _ => rfl) (fun _ => rfl)
    | exact ef_store (i := 9) th rfl rfl rfl rfl rfl rfl rfl rfl rfl rfl rfl rfl)
  obtain ⟨v55, vp0⟩ := x
  refine g_sub (tm' := [(0, .v (.one (.ptr given 0))), (2, .v (C1 (.int .i64 ((4 : Nat) : Int)))), (3, .v (C1 (namesT types))), (8, .v (.one (.ptr 8 0))), (9, .v (.one (.ptr 9 0))), (10, .v (C1 (.str go))), (11, .v (C1 (.str quit))), (12, .v (C1 (.bool false))), (13, .v (.one (.ptr 13 0)))]) (mm' := [(given, .box ((diceX l k4).map SC.c)), (8, .box [.c (.str ⟨#[]⟩), .c .nils, .c .nils]), (9, .box [.c (.str name), .c (.val vr), .c (.val vp0)]), (13, .box [.c (.int .i64 c), .c (.str ⟨#[]⟩)]), (22, .pool 9 1 [(vr, (rolesL.take 4).map fun s => [CT.str s])]), (200, .pool 34 3 [(vp0, [ptRow (roleN 0) (roleN 1) (.val v55)])]), (55, .pool 41 4 [(v55, [[.str go, .int .i64 c, .str ⟨#[]⟩, .int .i64 1], [.str quit, .int .i64 0, .str ⟨#[]⟩, .int .i64 0]])])]) (by exact ⟨⟨_, rfl, .refl _⟩, ⟨_, rfl, .refl _⟩, ⟨_, rfl, .refl _⟩, ⟨_, rfl, .refl _⟩, ⟨_, rfl, .refl _⟩, ⟨_, rfl, .refl _⟩, ⟨_, rfl, .refl _⟩, ⟨_, rfl, .refl _⟩, ⟨_, rfl, .refl _⟩, trivial⟩) (by exact ⟨⟨_, rfl, .refl _⟩, ⟨_, rfl, .refl _⟩, ⟨_, rfl, .refl _⟩, ⟨_, rfl, .refl _⟩, ⟨_, rfl, .refl _⟩, ⟨_, rfl, .refl _⟩, ⟨_, rfl, .refl _⟩, trivial⟩) rfl rfl rfl ?_
  repeat' (first
    | exact no_bool hb
    | exact no_bool' hb
    | refine gc_ rfl ?_
    | refine g_loopU ?_
    | refine g_inLoopU ?_
    | (refine g_region ?_; refine run_ th rfl ?_)
    | refine SOps.nil ?_
    | (refine g_if rfl (fun hb => ?_) (fun hb => ?_) <;> (try simp only [hbL] at hb) <;> (try (exfalso; omega)))
    | (refine s_add rfl rfl rfl rfl rfl rfl (by omega) ?_; refine run_ th rfl ?_))
  refine g_sub (tm' := [(0, .v (.one (.ptr given 0))), (2, .v (C1 (.int .i64 ((4 : Nat) : Int)))), (3, .v (C1 (namesT types))), (8, .v (.one (.ptr 8 0))), (9, .v (.one (.ptr 9 0))), (10, .v (C1 (.str go))), (11, .v (C1 (.str quit))), (12, .v (C1 (.bool false))), (13, .v (.one (.ptr 13 0))), (14, .v (C1 (.int .i64 1)))]) (mm' := [(given, .box ((diceX l k4).map SC.c)), (8, .box [.c (.str ⟨#[]⟩), .c .nils, .c .nils]), (9, .box [.c (.str name), .c (.val vr), .c (.val vp0)]), (13, .box [.c (.int .i64 c), .c (.str ⟨#[]⟩)]), (22, .pool 9 1 [(vr, (rolesL.take 4).map fun s => [CT.str s])]), (200, .pool 34 3 [(vp0, [ptRow (roleN 0) (roleN 1) (.val v55)])]), (55, .pool 41 4 [(v55, [[.str go, .int .i64 c, .str ⟨#[]⟩, .int .i64 1], [.str quit, .int .i64 0, .str ⟨#[]⟩, .int .i64 0]])])]) (by exact ⟨⟨_, rfl, .refl _⟩, ⟨_, rfl, .refl _⟩, ⟨_, rfl, .refl _⟩, ⟨_, rfl, .refl _⟩, ⟨_, rfl, .refl _⟩, ⟨_, rfl, .refl _⟩, ⟨_, rfl, .refl _⟩, ⟨_, rfl, .refl _⟩, ⟨_, rfl, .refl _⟩, ⟨_, rfl, le_int rfl⟩, trivial⟩) (by exact ⟨⟨_, rfl, .refl _⟩, ⟨_, rfl, .refl _⟩, ⟨_, rfl, .refl _⟩, ⟨_, rfl, .refl _⟩, ⟨_, rfl, .refl _⟩, ⟨_, rfl, .refl _⟩, ⟨_, rfl, .refl _⟩, trivial⟩) rfl rfl rfl ?_
  refine g_drawF3 (ι := PV) 8 5 25 [16, 21, 22, 23, 24, 25, 27] [given, 200, 9] [given] (r9ET false 82 87 88 89 90 91 (roleN 1) (roleN 2) (carV types l k4).1 [.str go, .int .i64 (carV types l k4).1.1, .str (carV types l k4).1.2, .int .i64 2]) (r9MM false 88 _ name vr (roleN 1) (roleN 2) [.str go, .int .i64 (carV types l k4).1.1, .str (carV types l k4).1.2, .int .i64 2] (diceX l (carV types l k4).2)) (vr, vr) mix rfl (fun k x => by match k with | 0 => (refine subG_spec ?_; repeat (first | exact trivial | refine ⟨rfl, ?_⟩)) | 1 => (refine subG_spec ?_; repeat (first | exact trivial | refine ⟨rfl, ?_⟩)) | 2 => (refine subG_spec ?_; repeat (first | exact trivial | refine ⟨rfl, ?_⟩)) | 3 => (refine subG_spec ?_; repeat (first | exact trivial | refine ⟨rfl, ?_⟩)) | 4 => (refine subG_spec ?_; repeat (first | exact trivial | refine ⟨rfl, ?_⟩)) | 5 => (refine subG_spec ?_; repeat (first | exact trivial | refine ⟨rfl, ?_⟩)) | 6 => (refine subG_spec ?_; repeat (first | exact trivial | refine ⟨rfl, ?_⟩)) | _ + 7 => (refine subG_spec ?_; repeat (first | exact trivial | refine ⟨rfl, ?_⟩))) (fun k x hk => by match k, hk with | 0, _ => (refine subG_spec ?_; repeat (first | exact trivial | refine ⟨rfl, ?_⟩)) | 1, _ => (refine subG_spec ?_; repeat (first | exact trivial | refine ⟨rfl, ?_⟩)) | 2, _ => (refine subG_spec ?_; repeat (first | exact trivial | refine ⟨rfl, ?_⟩)) | 3, _ => (refine subG_spec ?_; repeat (first | exact trivial | refine ⟨rfl, ?_⟩)) | 4, _ => (refine subG_spec ?_; repeat (first | exact trivial | refine ⟨rfl, ?_⟩)) | 5, _ => (refine subG_spec ?_; repeat (first | exact trivial | refine ⟨rfl, ?_⟩))) rfl (fun k x => by match k with | 0 => rfl | 1 => rfl | 2 => rfl | 3 => rfl | 4 => rfl | 5 => rfl | 6 => rfl | 7 => rfl | _ + 8 => rfl) rfl rfl (by simp) rfl rfl ?_
  refine frun_ th rfl ?_
  repeat' (first
    | (refine f_pidx (r := 22) th rfl rfl rfl rfl rfl rfl rfl rfl rfl rfl rfl 0 rfl 0 rfl (by decide) ?_; refine frun_ th rfl ?_)
    | (refine f_pidx (r := 22) th rfl rfl rfl rfl rfl rfl rfl rfl rfl rfl rfl 0 rfl 1 rfl (by decide) ?_; refine frun_ th rfl ?_)
    | (refine f_pidx (r := 22) th rfl rfl rfl rfl rfl rfl rfl rfl rfl rfl rfl 0 rfl 2 rfl (by decide) ?_; refine frun_ th rfl ?_)
    | (refine f_pidx (r := 22) th rfl rfl rfl rfl rfl rfl rfl rfl rfl rfl rfl 0 rfl 3 rfl (by decide) ?_; refine frun_ th rfl ?_)
    | (refine f_pload (r := 22) th rfl rfl rfl rfl rfl rfl rfl rfl rfl 0 rfl rfl rfl ?_; refine frun_ th rfl ?_)
    | (refine f_plen th 200 0 rfl rfl rfl rfl rfl rfl rfl rfl rfl 1 rfl ?_; refine frun_ th rfl ?_)
    | (refine f_add rfl rfl rfl rfl rfl rfl rfl 2 rfl (by decide) ?_; refine frun_ th rfl ?_)
    | (refine FOps.nil ⟨Effs.cons rfl (fun x => ?_) (Effs.cons rfl (fun x => ?_) (Effs.cons rfl (fun x => ?_) (Effs.cons rfl (fun x => ?_) (Effs.cons rfl (fun x => ?_) (Effs.cons rfl (fun x => ?_) (Effs.cons rfl (fun x => ?_) Effs.nil)))))), fun x => ?_⟩)
    | exact ef_call (carx_c types ht l _ hk4) [given] rfl rfl rfl rfl rfl rfl rfl rfl rfl rfl rfl rfl rfl
    | exact ef_eval th rfl rfl rfl rfl rfl rfl rfl
    | exact ef_litP th rfl rfl rfl rfl rfl rfl rfl rfl rfl rfl rfl rfl rfl rfl rfl rfl rfl (fun v => (v, x.2)) (fun _ => rfl) (fun _ => rfl)
    | exact ef_lit th rfl rfl rfl rfl rfl rfl rfl rfl rfl rfl rfl rfl rfl (.nn true 4 _) rfl rfl
    | exact ef_lit th rfl rfl rfl rfl rfl rfl rfl rfl rfl rfl rfl rfl rfl (.refl _) rfl rfl
    | exact ef_append (i := 200) th rfl rfl rfl rfl rfl rfl rfl rfl rfl rfl rfl rfl rfl rfl rfl rfl 0 rfl ⟨(Nat.le_of_ble_eq_true rfl), (Nat.le_of_ble_eq_true rfl)⟩ (fun v' => (x.1, v')) (fun _ => rfl) (fun _ => rfl)
    | exact ef_append (i := 200) th rfl rfl rfl rfl rfl rfl rfl rfl rfl rfl rfl rfl rfl rfl rfl rfl 0 rfl ⟨(Nat.le_of_ble_eq_true rfl), (Nat.le_of_ble_eq_true rfl)⟩ (fun v' => v') (fun _ => rfl) (fun _ => rfl)
    | exact ef_store (i := 9) th rfl rfl rfl rfl rfl rfl rfl rfl rfl rfl rfl rfl)
  obtain ⟨v88, vp1⟩ := x
  have hc0 := carV_le (types := types) hk4
  refine g_sub (tm' := [(0, .v (.one (.ptr given 0))), (2, .v (C1 (.int .i64 ((4 : Nat) : Int)))), (3, .v (C1 (namesT types))), (8, .v (.one (.ptr 8 0))), (9, .v (.one (.ptr 9 0))), (10, .v (C1 (.str go))), (11, .v (C1 (.str quit))), (12, .v (C1 (.bool false))), (13, .v (.one (.ptr 13 0))), (14, .v (C1 (.int .i64 1)))]) (mm' := [(given, .box ((diceX l (carV types l k4).2).map SC.c)), (8, .box [.c (.str ⟨#[]⟩), .c .nils, .c .nils]), (9, .box [.c (.str name), .c (.val vr), .c (.val vp1)]), (13, .box [.c (.int .i64 c), .c (.str ⟨#[]⟩)]), (22, .pool 9 1 [(vr, (rolesL.take 4).map fun s => [CT.str s])]), (200, .pool 34 3 [(vp1, [ptRow (roleN 0) (roleN 1) (.val v55), ptRow (roleN 1) (roleN 2) (.slice false 4 [[.str go, .int .i64 (carV types l k4).1.1, .str (carV types l k4).1.2, .int .i64 2]])])]), (55, .pool 41 4 [(v55, [[.str go, .int .i64 c, .str ⟨#[]⟩, .int .i64 1], [.str quit, .int .i64 0, .str ⟨#[]⟩, .int .i64 0]])])]) (by exact ⟨⟨_, rfl, .refl _⟩, ⟨_, rfl, .refl _⟩, ⟨_, rfl, .refl _⟩, ⟨_, rfl, .refl _⟩, ⟨_, rfl, .refl _⟩, ⟨_, rfl, .refl _⟩, ⟨_, rfl, .refl _⟩, ⟨_, rfl, .refl _⟩, ⟨_, rfl, .refl _⟩, ⟨_, rfl, le_int rfl⟩, trivial⟩) (by exact ⟨⟨_, rfl, .refl _⟩, ⟨_, rfl, .refl _⟩, ⟨_, rfl, .refl _⟩, ⟨_, rfl, .refl _⟩, ⟨_, rfl, .refl _⟩, ⟨_, rfl, .refl _⟩, ⟨_, rfl, .refl _⟩, trivial⟩) rfl rfl rfl ?_
  repeat' (first
    | exact no_bool hb
    | exact no_bool' hb
    | refine gc_ rfl ?_
    | refine g_loopU ?_
    | refine g_inLoopU ?_
    | (refine g_region ?_; refine run_ th rfl ?_)
    | refine SOps.nil ?_
    | (refine g_if rfl (fun hb => ?_) (fun hb => ?_) <;> (try simp only [hbL] at hb) <;> (try (exfalso; omega)))
    | (refine s_add rfl rfl rfl rfl rfl rfl (by omega) ?_; refine run_ th rfl ?_))
  refine g_sub (tm' := [(0, .v (.one (.ptr given 0))), (2, .v (C1 (.int .i64 ((4 : Nat) : Int)))), (3, .v (C1 (namesT types))), (8, .v (.one (.ptr 8 0))), (9, .v (.one (.ptr 9 0))), (10, .v (C1 (.str go))), (11, .v (C1 (.str quit))), (12, .v (C1 (.bool false))), (13, .v (.one (.ptr 13 0))), (14, .v (C1 (.int .i64 2)))]) (mm' := [(given, .box ((diceX l (carV types l k4).2).map SC.c)), (8, .box [.c (.str ⟨#[]⟩), .c .nils, .c .nils]), (9, .box [.c (.str name), .c (.val vr), .c (.val vp1)]), (13, .box [.c (.int .i64 c), .c (.str ⟨#[]⟩)]), (22, .pool 9 1 [(vr, (rolesL.take 4).map fun s => [CT.str s])]), (200, .pool 34 3 [(vp1, [ptRow (roleN 0) (roleN 1) (.val v55), ptRow (roleN 1) (roleN 2) (.slice false 4 [[.str go, .int .i64 (carV types l k4).1.1, .str (carV types l k4).1.2, .int .i64 2]])])]), (55, .pool 41 4 [(v55, [[.str go, .int .i64 c, .str ⟨#[]⟩, .int .i64 1], [.str quit, .int .i64 0, .str ⟨#[]⟩, .int .i64 0]])])]) (by exact ⟨⟨_, rfl, .refl _⟩, ⟨_, rfl, .refl _⟩, ⟨_, rfl, .refl _⟩, ⟨_, rfl, .refl _⟩, ⟨_, rfl, .refl _⟩, ⟨_, rfl, .refl _⟩, ⟨_, rfl, .refl _⟩, ⟨_, rfl, .refl _⟩, ⟨_, rfl, .refl _⟩, ⟨_, rfl, le_int rfl⟩, trivial⟩) (by exact ⟨⟨_, rfl, .refl _⟩, ⟨_, rfl, .refl _⟩, ⟨_, rfl, .refl _⟩, ⟨_, rfl, .refl _⟩, ⟨_, rfl, .refl _⟩, ⟨_, rfl, .refl _⟩, ⟨_, rfl, .refl _⟩, trivial⟩) rfl rfl rfl ?_
  refine g_drawF3 (ι := PV) 8 5 25 [16, 21, 22, 23, 24, 25, 27] [given, 200, 9] [given] (r9ET true 82 87 88 89 90 91 (roleN 2) (roleN 3) (carV types l (carV types l k4).2).1 [.str go, .int .i64 (carV types l (carV types l k4).2).1.1, .str (carV types l (carV types l k4).2).1.2, .int .i64 3]) (r9MM true 88 _ name vr (roleN 2) (roleN 3) [.str go, .int .i64 (carV types l (carV types l k4).2).1.1, .str (carV types l (carV types l k4).2).1.2, .int .i64 3] (diceX l (carV types l (carV types l k4).2).2)) (vr, vr) mix rfl (fun k x => by match k with | 0 => (refine subG_spec ?_; repeat (first | exact trivial | refine ⟨rfl, ?_⟩)) | 1 => (refine subG_spec ?_; repeat (first | exact trivial | refine ⟨rfl, ?_⟩)) | 2 => (refine subG_spec ?_; repeat (first | exact trivial | refine ⟨rfl, ?_⟩)) | 3 => (refine subG_spec ?_; repeat (first | exact trivial | refine ⟨rfl, ?_⟩)) | 4 => (refine subG_spec ?_; repeat (first | exact trivial | refine ⟨rfl, ?_⟩)) | 5 => (refine subG_spec ?_; repeat (first | exact trivial | refine ⟨rfl, ?_⟩)) | 6 => (refine subG_spec ?_; repeat (first | exact trivial | refine ⟨rfl, ?_⟩)) | _ + 7 => (refine subG_spec ?_; repeat (first | exact trivial | refine ⟨rfl, ?_⟩))) (fun k x hk => by match k, hk with | 0, _ => (refine subG_spec ?_; repeat (first | exact trivial | refine ⟨rfl, ?_⟩)) | 1, _ => (refine subG_spec ?_; repeat (first | exact trivial | refine ⟨rfl, ?_⟩)) | 2, _ => (refine subG_spec ?_; repeat (first | exact trivial | refine ⟨rfl, ?_⟩)) | 3, _ => (refine subG_spec ?_; repeat (first | exact trivial | refine ⟨rfl, ?_⟩)) | 4, _ => (refine subG_spec ?_; repeat (first | exact trivial | refine ⟨rfl, ?_⟩)) | 5, _ => (refine subG_spec ?_; repeat (first | exact trivial | refine ⟨rfl, ?_⟩))) rfl (fun k x => by match k with | 0 => rfl | 1 => rfl | 2 => rfl | 3 => rfl | 4 => rfl | 5 => rfl | 6 => rfl | 7 => rfl | _ + 8 => rfl) rfl rfl (by simp) rfl rfl ?_
  refine frun_ th rfl ?_
  repeat' (first
    | (refine f_pidx (r := 22) th rfl rfl rfl rfl rfl rfl rfl rfl rfl rfl rfl 0 rfl 0 rfl (by decide) ?_; refine frun_ th rfl ?_)
    | (refine f_pidx (r := 22) th rfl rfl rfl rfl rfl rfl rfl rfl rfl rfl rfl 0 rfl 1 rfl (by decide) ?_; refine frun_ th rfl ?_)
    | (refine f_pidx (r := 22) th rfl rfl rfl rfl rfl rfl rfl rfl rfl rfl rfl 0 rfl 2 rfl (by decide) ?_; refine frun_ th rfl ?_)
    | (refine f_pidx (r := 22) th rfl rfl rfl rfl rfl rfl rfl rfl rfl rfl rfl 0 rfl 3 rfl (by decide) ?_; refine frun_ th rfl ?_)
    | (refine f_pload (r := 22) th rfl rfl rfl rfl rfl rfl rfl rfl rfl 0 rfl rfl rfl ?_; refine frun_ th rfl ?_)
    | (refine f_plen th 200 0 rfl rfl rfl rfl rfl rfl rfl rfl rfl 2 rfl ?_; refine frun_ th rfl ?_)
    | (refine f_add rfl rfl rfl rfl rfl rfl rfl 3 rfl (by decide) ?_; refine frun_ th rfl ?_)
    | (refine FOps.nil ⟨Effs.cons rfl (fun x => ?_) (Effs.cons rfl (fun x => ?_) (Effs.cons rfl (fun x => ?_) (Effs.cons rfl (fun x => ?_) (Effs.cons rfl (fun x => ?_) (Effs.cons rfl (fun x => ?_) (Effs.cons rfl (fun x => ?_) Effs.nil)))))), fun x => ?_⟩)
    | exact ef_call (carx_c types ht l _ hc0) [given] rfl rfl rfl rfl rfl rfl rfl rfl rfl rfl rfl rfl rfl
    | exact ef_eval th rfl rfl rfl rfl rfl rfl rfl
    | exact ef_litP th rfl rfl rfl rfl rfl rfl rfl rfl rfl rfl rfl rfl rfl rfl rfl rfl rfl (fun v => (v, x.2)) (fun _ => rfl) (fun _ => rfl)
    | exact ef_lit th rfl rfl rfl rfl rfl rfl rfl rfl rfl rfl rfl rfl rfl (.nn true 4 _) rfl rfl
    | exact ef_lit th rfl rfl rfl rfl rfl rfl rfl rfl rfl rfl rfl rfl rfl (.refl _) rfl rfl
    | exact ef_append (i := 200) th rfl rfl rfl rfl rfl rfl rfl rfl rfl rfl rfl rfl rfl rfl rfl rfl 0 rfl ⟨(Nat.le_of_ble_eq_true rfl), (Nat.le_of_ble_eq_true rfl)⟩ (fun v' => (x.1, v')) (fun _ => rfl) (fun _ => rfl)
    | exact ef_append (i := 200) th rfl rfl rfl rfl rfl rfl rfl rfl rfl rfl rfl rfl rfl rfl rfl rfl 0 rfl ⟨(Nat.le_of_ble_eq_true rfl), (Nat.le_of_ble_eq_true rfl)⟩ (fun v' => v') (fun _ => rfl) (fun _ => rfl)
    | exact ef_store (i := 9) th rfl rfl rfl rfl rfl rfl rfl rfl rfl rfl rfl rfl)
  obtain ⟨v88, vp2⟩ := x
  have hc1 := carV_le (types := types) hc0
  refine g_sub (tm' := [(0, .v (.one (.ptr given 0))), (2, .v (C1 (.int .i64 ((4 : Nat) : Int)))), (3, .v (C1 (namesT types))), (8, .v (.one (.ptr 8 0))), (9, .v (.one (.ptr 9 0))), (10, .v (C1 (.str go))), (11, .v (C1 (.str quit))), (12, .v (C1 (.bool false))), (13, .v (.one (.ptr 13 0))), (14, .v (C1 (.int .i64 2)))]) (mm' := [(given, .box ((diceX l (carV types l (carV types l k4).2).2).map SC.c)), (8, .box [.c (.str ⟨#[]⟩), .c .nils, .c .nils]), (9, .box [.c (.str name), .c (.val vr), .c (.val vp2)]), (13, .box [.c (.int .i64 c), .c (.str ⟨#[]⟩)]), (22, .pool 9 1 [(vr, (rolesL.take 4).map fun s => [CT.str s])]), (200, .pool 34 3 [(vp2, [ptRow (roleN 0) (roleN 1) (.val v55), ptRow (roleN 1) (roleN 2) (.slice false 4 [[.str go, .int .i64 (carV types l k4).1.1, .str (carV types l k4).1.2, .int .i64 2]]), ptRow (roleN 2) (roleN 3) (.val v88)])]), (55, .pool 41 4 [(v55, [[.str go, .int .i64 c, .str ⟨#[]⟩, .int .i64 1], [.str quit, .int .i64 0, .str ⟨#[]⟩, .int .i64 0]])]), (88, .pool 41 4 [(v88, [[.str go, .int .i64 (carV types l (carV types l k4).2).1.1, .str (carV types l (carV types l k4).2).1.2, .int .i64 3]])])]) (by exact ⟨⟨_, rfl, .refl _⟩, ⟨_, rfl, .refl _⟩, ⟨_, rfl, .refl _⟩, ⟨_, rfl, .refl _⟩, ⟨_, rfl, .refl _⟩, ⟨_, rfl, .refl _⟩, ⟨_, rfl, .refl _⟩, ⟨_, rfl, .refl _⟩, ⟨_, rfl, .refl _⟩, ⟨_, rfl, le_int rfl⟩, trivial⟩) (by exact ⟨⟨_, rfl, .refl _⟩, ⟨_, rfl, .refl _⟩, ⟨_, rfl, .refl _⟩, ⟨_, rfl, .refl _⟩, ⟨_, rfl, .refl _⟩, ⟨_, rfl, .refl _⟩, ⟨_, rfl, .refl _⟩, ⟨_, rfl, .refl _⟩, trivial⟩) rfl rfl rfl ?_
  repeat' (first
    | exact no_bool hb
    | exact no_bool' hb
    | refine gc_ rfl ?_
    | refine g_loopU ?_
    | refine g_inLoopU ?_
    | (refine g_region ?_; refine run_ th rfl ?_)
    | refine SOps.nil ?_
    | (refine g_if rfl (fun hb => ?_) (fun hb => ?_) <;> (try simp only [hbL] at hb) <;> (try (exfalso; omega)))
    | (refine s_add rfl rfl rfl rfl rfl rfl (by omega) ?_; refine run_ th rfl ?_)
    | (refine s_plen th 200 0 rfl rfl rfl rfl rfl rfl rfl rfl 3 rfl ?_; refine run_ th rfl ?_)
    | (refine s_subI rfl rfl rfl rfl rfl rfl (by omega) ?_; refine run_ th rfl ?_)
    | (refine s_pidx (r := 200) th rfl rfl rfl rfl rfl rfl rfl rfl rfl rfl 0 rfl 2 rfl (Nat.le_of_ble_eq_true rfl) ?_; refine run_ th rfl ?_)
    | (refine s_pidx (r := 200) th rfl rfl rfl rfl rfl rfl rfl rfl rfl rfl 0 rfl 0 rfl (Nat.le_of_ble_eq_true rfl) ?_; refine run_ th rfl ?_)
    | (refine s_pfield (i := 200) th rfl rfl rfl rfl rfl rfl rfl rfl (c := 0) rfl (Nat.le_of_ble_eq_true rfl) ?_; refine run_ th rfl ?_)
    | (refine s_ploadf (i := 200) (k := 0) th rfl rfl rfl rfl rfl rfl rfl rfl rfl rfl rfl ?_; refine run_ th rfl ?_)
    | (refine s_pidx (r := 55) th rfl rfl rfl rfl rfl rfl rfl rfl rfl rfl 0 rfl 0 rfl (Nat.le_of_ble_eq_true rfl) ?_; refine run_ th rfl ?_)
    | (refine s_pidx (r := 55) th rfl rfl rfl rfl rfl rfl rfl rfl rfl rfl 0 rfl 1 rfl (Nat.le_of_ble_eq_true rfl) ?_; refine run_ th rfl ?_)
    | (refine s_pfield (i := 55) th rfl rfl rfl rfl rfl rfl rfl rfl (c := 0) rfl (Nat.le_of_ble_eq_true rfl) ?_; refine run_ th rfl ?_)
    | (refine s_pstoref (i := 55) (k := 0) th _ rfl rfl rfl rfl rfl rfl rfl rfl rfl rfl rfl rfl rfl rfl rfl ?_; refine run_ th rfl ?_)
    | (refine s_pidx (r := 88) th rfl rfl rfl rfl rfl rfl rfl rfl rfl rfl 0 rfl 0 rfl (Nat.le_of_ble_eq_true rfl) ?_; refine run_ th rfl ?_)
    | (refine s_pfield (i := 88) th rfl rfl rfl rfl rfl rfl rfl rfl (c := 0) rfl (Nat.le_of_ble_eq_true rfl) ?_; refine run_ th rfl ?_)
    | (refine s_pstoref (i := 88) (k := 0) th _ rfl rfl rfl rfl rfl rfl rfl rfl rfl rfl rfl rfl rfl rfl rfl ?_; refine run_ th rfl ?_))
  refine g_sub (tm' := [(0, .v (.one (.ptr given 0))), (2, .v (C1 (.int .i64 ((4 : Nat) : Int)))), (3, .v (C1 (namesT types))), (8, .v (.one (.ptr 8 0))), (9, .v (.one (.ptr 9 0))), (10, .v (C1 (.str go))), (11, .v (C1 (.str quit))), (12, .v (C1 (.bool false))), (13, .v (.one (.ptr 13 0))), (17, .v (C1 (.int .i64 1)))]) (mm' := [(given, .box ((diceX l (carV types l (carV types l k4).2).2).map SC.c)), (8, .box [.c (.str ⟨#[]⟩), .c .nils, .c .nils]), (9, .box [.c (.str name), .c (.val vr), .c (.val vp2)]), (13, .box [.c (.int .i64 c), .c (.str ⟨#[]⟩)]), (22, .pool 9 1 [(vr, (rolesL.take 4).map fun s => [CT.str s])]), (200, .pool 34 3 [(vp2, [ptRow (roleN 0) (roleN 1) (.val v55), ptRow (roleN 1) (roleN 2) (.slice false 4 [[.str go, .int .i64 (carV types l k4).1.1, .str (carV types l k4).1.2, .int .i64 2]]), ptRow (roleN 2) (roleN 3) (.val v88)])]), (55, .pool 41 4 [(v55, [[.str go, .int .i64 c, .str ⟨#[]⟩, .int .i64 1], [.str quit, .int .i64 0, .str ⟨#[]⟩, .int .i64 3]])]), (88, .pool 41 4 [(v88, [[.str go, .int .i64 (carV types l (carV types l k4).2).1.1, .str (carV types l (carV types l k4).2).1.2, .int .i64 0]])])]) (by exact ⟨⟨_, rfl, .refl _⟩, ⟨_, rfl, .refl _⟩, ⟨_, rfl, .refl _⟩, ⟨_, rfl, .refl _⟩, ⟨_, rfl, .refl _⟩, ⟨_, rfl, .refl _⟩, ⟨_, rfl, .refl _⟩, ⟨_, rfl, .refl _⟩, ⟨_, rfl, .refl _⟩, ⟨_, rfl, le_int rfl⟩, trivial⟩) (by exact ⟨⟨_, rfl, .refl _⟩, ⟨_, rfl, .refl _⟩, ⟨_, rfl, .refl _⟩, ⟨_, rfl, .refl _⟩, ⟨_, rfl, .refl _⟩, ⟨_, rfl, .refl _⟩, ⟨_, rfl, .refl _⟩, ⟨_, rfl, .refl _⟩, trivial⟩) rfl rfl rfl ?_
  refine g_drawF3 (ι := Value) 8 0 22 [22, 24] [200, 9] [] r19ET (r19MM _ name vr (ptRow (roleN 1) (roleN 2) (.slice false 4 [[.str quit, .int .i64 0, .str ⟨#[]⟩, .int .i64 4]]))) vr mix rfl (fun k x => by match k with | 0 => (refine subG_spec ?_; repeat (first | exact trivial | refine ⟨rfl, ?_⟩)) | 1 => (refine subG_spec ?_; repeat (first | exact trivial | refine ⟨rfl, ?_⟩)) | _ + 2 => (refine subG_spec ?_; repeat (first | exact trivial | refine ⟨rfl, ?_⟩))) (fun k x hk => by match k, hk with | 0, _ => (refine subG_spec ?_; repeat (first | exact trivial | refine ⟨rfl, ?_⟩))) rfl (fun k x => by match k with | 0 => rfl | 1 => rfl | 2 => rfl | _ + 3 => rfl) rfl rfl (by simp) rfl rfl ?_
  refine frun_ th rfl ?_
  repeat' (first
    | (refine f_pidx (r := 22) th rfl rfl rfl rfl rfl rfl rfl rfl rfl rfl rfl 0 rfl 0 rfl (by decide) ?_; refine frun_ th rfl ?_)
    | (refine f_pidx (r := 22) th rfl rfl rfl rfl rfl rfl rfl rfl rfl rfl rfl 0 rfl 1 rfl (by decide) ?_; refine frun_ th rfl ?_)
    | (refine f_pidx (r := 22) th rfl rfl rfl rfl rfl rfl rfl rfl rfl rfl rfl 0 rfl 2 rfl (by decide) ?_; refine frun_ th rfl ?_)
    | (refine f_pidx (r := 22) th rfl rfl rfl rfl rfl rfl rfl rfl rfl rfl rfl 0 rfl 3 rfl (by decide) ?_; refine frun_ th rfl ?_)
    | (refine f_pload (r := 22) th rfl rfl rfl rfl rfl rfl rfl rfl rfl 0 rfl rfl rfl ?_; refine frun_ th rfl ?_)
    | (refine f_plen th 200 0 rfl rfl rfl rfl rfl rfl rfl rfl rfl 3 rfl ?_; refine frun_ th rfl ?_)
    | (refine f_add rfl rfl rfl rfl rfl rfl rfl 2 rfl (by decide) ?_; refine frun_ th rfl ?_)
    | (refine f_add rfl rfl rfl rfl rfl rfl rfl 4 rfl (by decide) ?_; refine frun_ th rfl ?_)
    | (refine f_lit th rfl rfl rfl rfl rfl rfl rfl rfl rfl rfl rfl rfl rfl (.nn true 4 _) ?_; refine frun_ th rfl ?_)
    | (refine f_lit th rfl rfl rfl rfl rfl rfl rfl rfl rfl rfl rfl rfl rfl (.refl _) ?_; refine frun_ th rfl ?_)
    | (refine FOps.nil ⟨Effs.cons rfl (fun x => ?_) (Effs.cons rfl (fun x => ?_) Effs.nil), fun vq0 => ?_⟩)
    | exact ef_eval th rfl rfl rfl rfl rfl rfl rfl
    | exact ef_litP th rfl rfl rfl rfl rfl rfl rfl rfl rfl rfl rfl rfl rfl rfl rfl rfl rfl (fun v => (v, x.2)) (fun _ => rfl) (fun _ => rfl)
    | exact ef_lit th rfl rfl rfl rfl rfl rfl rfl rfl rfl rfl rfl rfl rfl (.nn true 4 _) rfl rfl
    | exact ef_lit th rfl rfl rfl rfl rfl rfl rfl rfl rfl rfl rfl rfl rfl (.refl _) rfl rfl
    | exact ef_append (i := 200) th rfl rfl rfl rfl rfl rfl rfl rfl rfl rfl rfl rfl rfl rfl rfl rfl 0 rfl ⟨(Nat.le_of_ble_eq_true rfl), (Nat.le_of_ble_eq_true rfl)⟩ (fun v' => (x.1, v')) (fun _ => rfl) (fun _ => rfl)
    | exact ef_append (i := 200) th rfl rfl rfl rfl rfl rfl rfl rfl rfl rfl rfl rfl rfl rfl rfl rfl 0 rfl ⟨(Nat.le_of_ble_eq_true rfl), (Nat.le_of_ble_eq_true rfl)⟩ (fun v' => v') (fun _ => rfl) (fun _ => rfl)
    | exact ef_store (i := 9) th rfl rfl rfl rfl rfl rfl rfl rfl rfl rfl rfl rfl)
  refine g_sub (tm' := [(0, .v (.one (.ptr given 0))), (2, .v (C1 (.int .i64 ((4 : Nat) : Int)))), (3, .v (C1 (namesT types))), (8, .v (.one (.ptr 8 0))), (9, .v (.one (.ptr 9 0))), (10, .v (C1 (.str go))), (11, .v (C1 (.str quit))), (12, .v (C1 (.bool false))), (13, .v (.one (.ptr 13 0))), (17, .v (C1 (.int .i64 1)))]) (mm' := [(given, .box ((diceX l (carV types l (carV types l k4).2).2).map SC.c)), (8, .box [.c (.str ⟨#[]⟩), .c .nils, .c .nils]), (9, .box [.c (.str name), .c (.val vr), .c (.val vq0)]), (13, .box [.c (.int .i64 c), .c (.str ⟨#[]⟩)]), (22, .pool 9 1 [(vr, (rolesL.take 4).map fun s => [CT.str s])]), (200, .pool 34 3 [(vq0, [ptRow (roleN 0) (roleN 1) (.val v55), ptRow (roleN 1) (roleN 2) (.slice false 4 [[.str go, .int .i64 (carV types l k4).1.1, .str (carV types l k4).1.2, .int .i64 2]]), ptRow (roleN 2) (roleN 3) (.val v88), ptRow (roleN 1) (roleN 2) (.slice false 4 [[.str quit, .int .i64 0, .str ⟨#[]⟩, .int .i64 4]])])]), (55, .pool 41 4 [(v55, [[.str go, .int .i64 c, .str ⟨#[]⟩, .int .i64 1], [.str quit, .int .i64 0, .str ⟨#[]⟩, .int .i64 3]])]), (88, .pool 41 4 [(v88, [[.str go, .int .i64 (carV types l (carV types l k4).2).1.1, .str (carV types l (carV types l k4).2).1.2, .int .i64 0]])])]) (by exact ⟨⟨_, rfl, .refl _⟩, ⟨_, rfl, .refl _⟩, ⟨_, rfl, .refl _⟩, ⟨_, rfl, .refl _⟩, ⟨_, rfl, .refl _⟩, ⟨_, rfl, .refl _⟩, ⟨_, rfl, .refl _⟩, ⟨_, rfl, .refl _⟩, ⟨_, rfl, .refl _⟩, ⟨_, rfl, le_int rfl⟩, trivial⟩) (by exact ⟨⟨_, rfl, .refl _⟩, ⟨_, rfl, .refl _⟩, ⟨_, rfl, .refl _⟩, ⟨_, rfl, .refl _⟩, ⟨_, rfl, .refl _⟩, ⟨_, rfl, .refl _⟩, ⟨_, rfl, .refl _⟩, ⟨_, rfl, .refl _⟩, trivial⟩) rfl rfl rfl ?_
  repeat' (first
    | exact no_bool hb
    | exact no_bool' hb
    | refine gc_ rfl ?_
    | refine g_loopU ?_
    | refine g_inLoopU ?_
    | (refine g_region ?_; refine run_ th rfl ?_)
    | refine SOps.nil ?_
    | (refine g_if rfl (fun hb => ?_) (fun hb => ?_) <;> (try simp only [hbL] at hb) <;> (try (exfalso; omega)))
    | (refine s_add rfl rfl rfl rfl rfl rfl (by omega) ?_; refine run_ th rfl ?_))
  refine g_sub (tm' := [(0, .v (.one (.ptr given 0))), (2, .v (C1 (.int .i64 ((4 : Nat) : Int)))), (3, .v (C1 (namesT types))), (8, .v (.one (.ptr 8 0))), (9, .v (.one (.ptr 9 0))), (10, .v (C1 (.str go))), (11, .v (C1 (.str quit))), (12, .v (C1 (.bool false))), (13, .v (.one (.ptr 13 0))), (17, .v (C1 (.int .i64 2)))]) (mm' := [(given, .box ((diceX l (carV types l (carV types l k4).2).2).map SC.c)), (8, .box [.c (.str ⟨#[]⟩), .c .nils, .c .nils]), (9, .box [.c (.str name), .c (.val vr), .c (.val vq0)]), (13, .box [.c (.int .i64 c), .c (.str ⟨#[]⟩)]), (22, .pool 9 1 [(vr, (rolesL.take 4).map fun s => [CT.str s])]), (200, .pool 34 3 [(vq0, [ptRow (roleN 0) (roleN 1) (.val v55), ptRow (roleN 1) (roleN 2) (.slice false 4 [[.str go, .int .i64 (carV types l k4).1.1, .str (carV types l k4).1.2, .int .i64 2]]), ptRow (roleN 2) (roleN 3) (.val v88), ptRow (roleN 1) (roleN 2) (.slice false 4 [[.str quit, .int .i64 0, .str ⟨#[]⟩, .int .i64 4]])])]), (55, .pool 41 4 [(v55, [[.str go, .int .i64 c, .str ⟨#[]⟩, .int .i64 1], [.str quit, .int .i64 0, .str ⟨#[]⟩, .int .i64 3]])]), (88, .pool 41 4 [(v88, [[.str go, .int .i64 (carV types l (carV types l k4).2).1.1, .str (carV types l (carV types l k4).2).1.2, .int .i64 0]])])]) (by exact ⟨⟨_, rfl, .refl _⟩, ⟨_, rfl, .refl _⟩, ⟨_, rfl, .refl _⟩, ⟨_, rfl, .refl _⟩, ⟨_, rfl, .refl _⟩, ⟨_, rfl, .refl _⟩, ⟨_, rfl, .refl _⟩, ⟨_, rfl, .refl _⟩, ⟨_, rfl, .refl _⟩, ⟨_, rfl, le_int rfl⟩, trivial⟩) (by exact ⟨⟨_, rfl, .refl _⟩, ⟨_, rfl, .refl _⟩, ⟨_, rfl, .refl _⟩, ⟨_, rfl, .refl _⟩, ⟨_, rfl, .refl _⟩, ⟨_, rfl, .refl _⟩, ⟨_, rfl, .refl _⟩, ⟨_, rfl, .refl _⟩, trivial⟩) rfl rfl rfl ?_
  refine g_drawF3 (ι := Value) 8 0 22 [22, 24] [200, 9] [] r19ET (r19MM _ name vr (ptRow (roleN 2) (roleN 3) (.slice false 4 [[.str quit, .int .i64 0, .str ⟨#[]⟩, .int .i64 5]]))) vr mix rfl (fun k x => by match k with | 0 => (refine subG_spec ?_; repeat (first | exact trivial | refine ⟨rfl, ?_⟩)) | 1 => (refine subG_spec ?_; repeat (first | exact trivial | refine ⟨rfl, ?_⟩)) | _ + 2 => (refine subG_spec ?_; repeat (first | exact trivial | refine ⟨rfl, ?_⟩))) (fun k x hk => by match k, hk with | 0, _ => (refine subG_spec ?_; repeat (first | exact trivial | refine ⟨rfl, ?_⟩))) rfl (fun k x => by match k with | 0 => rfl | 1 => rfl | 2 => rfl | _ + 3 => rfl) rfl rfl (by simp) rfl rfl ?_
  refine frun_ th rfl ?_
  repeat' (first
    | (refine f_pidx (r := 22) th rfl rfl rfl rfl rfl rfl rfl rfl rfl rfl rfl 0 rfl 0 rfl (by decide) ?_; refine frun_ th rfl ?_)
    | (refine f_pidx (r := 22) th rfl rfl rfl rfl rfl rfl rfl rfl rfl rfl rfl 0 rfl 1 rfl (by decide) ?_; refine frun_ th rfl ?_)
    | (refine f_pidx (r := 22) th rfl rfl rfl rfl rfl rfl rfl rfl rfl rfl rfl 0 rfl 2 rfl (by decide) ?_; refine frun_ th rfl ?_)
    | (refine f_pidx (r := 22) th rfl rfl rfl rfl rfl rfl rfl rfl rfl rfl rfl 0 rfl 3 rfl (by decide) ?_; refine frun_ th rfl ?_)
    | (refine f_pload (r := 22) th rfl rfl rfl rfl rfl rfl rfl rfl rfl 0 rfl rfl rfl ?_; refine frun_ th rfl ?_)
    | (refine f_plen th 200 0 rfl rfl rfl rfl rfl rfl rfl rfl rfl 4 rfl ?_; refine frun_ th rfl ?_)
    | (refine f_add rfl rfl rfl rfl rfl rfl rfl 3 rfl (by decide) ?_; refine frun_ th rfl ?_)
    | (refine f_add rfl rfl rfl rfl rfl rfl rfl 5 rfl (by decide) ?_; refine frun_ th rfl ?_)
    | (refine f_lit th rfl rfl rfl rfl rfl rfl rfl rfl rfl rfl rfl rfl rfl (.nn true 4 _) ?_; refine frun_ th rfl ?_)
    | (refine f_lit th rfl rfl rfl rfl rfl rfl rfl rfl rfl rfl rfl rfl rfl (.refl _) ?_; refine frun_ th rfl ?_)
    | (refine FOps.nil ⟨Effs.cons rfl (fun x => ?_) (Effs.cons rfl (fun x => ?_) Effs.nil), fun vq1 => ?_⟩)
    | exact ef_eval th rfl rfl rfl rfl rfl rfl rfl
    | exact ef_litP th rfl rfl rfl rfl rfl rfl rfl rfl rfl rfl rfl rfl rfl rfl rfl rfl rfl (fun v => (v, x.2)) (fun _ => rfl) (fun _ => rfl)
    | exact ef_lit th rfl rfl rfl rfl rfl rfl rfl rfl rfl rfl rfl rfl rfl (.nn true 4 _) rfl rfl
    | exact ef_lit th rfl rfl rfl rfl rfl rfl rfl rfl rfl rfl rfl rfl rfl (.refl _) rfl rfl
    | exact ef_append (i := 200) th rfl rfl rfl rfl rfl rfl rfl rfl rfl rfl rfl rfl rfl rfl rfl rfl 0 rfl ⟨(Nat.le_of_ble_eq_true rfl), (Nat.le_of_ble_eq_true rfl)⟩ (fun v' => (x.1, v')) (fun _ => rfl) (fun _ => rfl)
    | exact ef_append (i := 200) th rfl rfl rfl rfl rfl rfl rfl rfl rfl rfl rfl rfl rfl rfl rfl rfl 0 rfl ⟨(Nat.le_of_ble_eq_true rfl), (Nat.le_of_ble_eq_true rfl)⟩ (fun v' => v') (fun _ => rfl) (fun _ => rfl)
    | exact ef_store (i := 9) th rfl rfl rfl rfl rfl rfl rfl rfl rfl rfl rfl rfl)
  refine g_sub (tm' := [(0, .v (.one (.ptr given 0))), (2, .v (C1 (.int .i64 ((4 : Nat) : Int)))), (3, .v (C1 (namesT types))), (8, .v (.one (.ptr 8 0))), (9, .v (.one (.ptr 9 0))), (10, .v (C1 (.str go))), (11, .v (C1 (.str quit))), (12, .v (C1 (.bool false))), (13, .v (.one (.ptr 13 0))), (17, .v (C1 (.int .i64 2)))]) (mm' := [(given, .box ((diceX l (carV types l (carV types l k4).2).2).map SC.c)), (8, .box [.c (.str ⟨#[]⟩), .c .nils, .c .nils]), (9, .box [.c (.str name), .c (.val vr), .c (.val vq1)]), (13, .box [.c (.int .i64 c), .c (.str ⟨#[]⟩)]), (22, .pool 9 1 [(vr, (rolesL.take 4).map fun s => [CT.str s])]), (200, .pool 34 3 [(vq1, [ptRow (roleN 0) (roleN 1) (.val v55), ptRow (roleN 1) (roleN 2) (.slice false 4 [[.str go, .int .i64 (carV types l k4).1.1, .str (carV types l k4).1.2, .int .i64 2]]), ptRow (roleN 2) (roleN 3) (.val v88), ptRow (roleN 1) (roleN 2) (.slice false 4 [[.str quit, .int .i64 0, .str ⟨#[]⟩, .int .i64 4]]), ptRow (roleN 2) (roleN 3) (.slice false 4 [[.str quit, .int .i64 0, .str ⟨#[]⟩, .int .i64 5]])])]), (55, .pool 41 4 [(v55, [[.str go, .int .i64 c, .str ⟨#[]⟩, .int .i64 1], [.str quit, .int .i64 0, .str ⟨#[]⟩, .int .i64 3]])]), (88, .pool 41 4 [(v88, [[.str go, .int .i64 (carV types l (carV types l k4).2).1.1, .str (carV types l (carV types l k4).2).1.2, .int .i64 0]])])]) (by exact ⟨⟨_, rfl, .refl _⟩, ⟨_, rfl, .refl _⟩, ⟨_, rfl, .refl _⟩, ⟨_, rfl, .refl _⟩, ⟨_, rfl, .refl _⟩, ⟨_, rfl, .refl _⟩, ⟨_, rfl, .refl _⟩, ⟨_, rfl, .refl _⟩, ⟨_, rfl, .refl _⟩, ⟨_, rfl, le_int rfl⟩, trivial⟩) (by exact ⟨⟨_, rfl, .refl _⟩, ⟨_, rfl, .refl _⟩, ⟨_, rfl, .refl _⟩, ⟨_, rfl, .refl _⟩, ⟨_, rfl, .refl _⟩, ⟨_, rfl, .refl _⟩, ⟨_, rfl, .refl _⟩, ⟨_, rfl, .refl _⟩, trivial⟩) rfl rfl rfl ?_
  repeat' (first
    | exact no_bool hb
    | exact no_bool' hb
    | refine gc_ rfl ?_
    | refine g_loopU ?_
    | refine g_inLoopU ?_
    | (refine g_region ?_; refine run_ th rfl ?_)
    | refine SOps.nil ?_
    | (refine g_if rfl (fun hb => ?_) (fun hb => ?_) <;> (try simp only [hbL] at hb) <;> (try (exfalso; omega)))
    | (refine s_add rfl rfl rfl rfl rfl rfl (by omega) ?_; refine run_ th rfl ?_)
    | (refine s_freeze 170 rfl rfl ?_; refine s_leT 170 (.v (C1 (.slice true 3 [noPnt.cs]))) rfl (.v (.one (.c (le_deep (.cons (.cons (.refl _) (.cons (.refl _) (.cons (.nil 4) .nil))) .nil))))) ?_; refine s_pappend (i := 200) th rfl rfl rfl rfl rfl rfl rfl rfl rfl rfl rfl rfl rfl rfl 0 rfl ⟨(Nat.le_of_ble_eq_true rfl), (Nat.le_of_ble_eq_true rfl)⟩ fun vz => ?_; refine run_ th rfl ?_))
  refine g_freezeQ 55 200 _ rfl rfl rfl rfl rfl rfl (.cons (.cons (.refl _) (.cons (.refl _) (.cons (.row List.mem_cons_self) (.refl _)))) (.refl _)) ?_
  refine g_freezeQ 88 200 _ rfl rfl rfl rfl rfl rfl (.cons (.refl _) (.cons (.refl _) (.cons (.cons (.refl _) (.cons (.refl _) (.cons (.row List.mem_cons_self) (.refl _)))) (.refl _)))) ?_
  exact g_endM (hd := hd) th Try.func75 (vr, vz) (.inr ⟨_, rfl⟩) rfl rfl rfl rfl ⟨rfl, rfl, rfl, trivial⟩ rfl rfl rfl trivial

end Go.Sy
