/- Contracts: reparteemake.rounds, exactly; its rows are of its making. -/
import Derived.Test.YtademmkjmpgplaaGreatDoorBw3
import Derived.Test.YtademmkjmpgplaaGreatDoorBw1
import Derived.Test.YtademmkjmpgplaaGreatDoorSymZs
import Derived.Test.YtademmkjmpgplaaGreatDoorWl
import Derived.Test.YtademmkjmpgplaaGreatDoorJq
import Derived.Test.YtademmkjmpgplaaGreatDoorJr
set_option linter.unusedSimpArgs false
set_option linter.unusedVariables false
set_option linter.unusedSectionVars false
namespace Go.Sy
open Go.Proofs
set_option maxRecDepth 100000
attribute [local irreducible] SOps Goes DOps EOps GOps FOps
def carS (types : List ByteArray) (l : List Int) (k : Nat) : Nat → List (Int × ByteArray) × Nat
  | 0 => ([], k)
  | i + 1 => ((carS types l k i).1 ++ [(carV types l (carS types l k i).2).1], (carV types l (carS types l k i).2).2)
abbrev roleN (i : Nat) : ByteArray := rolesL.getD i ⟨#[]⟩
def rndP (many : Nat) (b : Bool) (go quit : ByteArray) (c : Int) (cs : List (Int × ByteArray)) (d : Int) : List Pnt :=
  ⟨roleN 0, roleN 1, [⟨go, c, ⟨#[]⟩, if b || Nat.blt 2 many then 1 else 0⟩, ⟨quit, 0, ⟨#[]⟩, if b then (many : Int) else ((many - 1 : Nat) : Int)⟩]⟩ ::
  ((List.range (many - 2)).map fun i => ⟨roleN (i + 1), roleN (i + 2), [⟨go, (cs.getD i (0, ⟨#[]⟩)).1, (cs.getD i (0, ⟨#[]⟩)).2, if b || Nat.blt (i + 3) many then ((i + 2 : Nat) : Int) else 0⟩]⟩) ++
  (if b then [⟨roleN (many - 1), roleN 0, [⟨⟨#[111, 107]⟩, d, ⟨#[]⟩, 0⟩]⟩] else []) ++
  ((List.range (many - 2)).map fun i => ⟨roleN (i + 1), roleN (i + 2), [⟨quit, 0, ⟨#[]⟩, if b then ((many + i + 1 : Nat) : Int) else ((many + i : Nat) : Int)⟩]⟩) ++ [noPnt]
def rndB (l : List Int) (k : Nat) : Bool := decide (pkV l (pkA l (pkA l k)) 2 = 1)
def rndGo (l : List Int) (k : Nat) : ByteArray := labelsL.getD (pkV l k 2).toNat ⟨#[]⟩
def rndQuit (l : List Int) (k : Nat) : ByteArray := labelsL.getD (2 + pkV l (pkA l k) 2).toNat ⟨#[]⟩
def rnd4 (l : List Int) (k : Nat) : Nat := pkA l (pkA l (pkA l (pkA l k)))
def rndV (name : ByteArray) (types : List ByteArray) (l : List Int) (many : Nat) (k : Nat) : Prt × Nat :=
  (⟨name, rolesL.take many, rndP many (rndB l k) (rndGo l k) (rndQuit l k) (dataV l (pkA l (pkA l (pkA l k)))) (carS types l (rnd4 l k) (many - 2)).1 (dataV l (carS types l (rnd4 l k) (many - 2)).2)⟩,
    if rndB l k then pkA l (carS types l (rnd4 l k) (many - 2)).2 else (carS types l (rnd4 l k) (many - 2)).2)
abbrev PV := Value × Value
abbrev ptRow (a b : ByteArray) (c : CT) : List CT := [.str a, .str b, c]
def ptStored (mm : MM) (name : ByteArray) (vr : Value) (rows : List (List CT)) (row : List CT) (x : Value) : MM :=
  updM (updM mm 200 (.pool 52 3 [(x, rows ++ [row])])) 9 (.box [.c (.str name), .c (.val vr), .c (.val x)])
def r5ET (a b : ByteArray) : Nat → PV → TM
  | 1, x => [(55, .v (.one (.c (.val x.1))))]
  | 2, x => [(56, .v (.agg [.c (.str a), .c (.str b), .c (.val x.1)]))]
  | 3, x => [(57, .v (.one (.c (.slice true 3 [ptRow a b (.val x.1)]))))]
  | 4, x => [(58, .v (.one (.c (.val x.2))))]
  | _, _ => []
def r5MM (mm : MM) (name : ByteArray) (vr : Value) (arms : List (List CT)) (a b : ByteArray) : Nat → PV → MM
  | 0, _ => mm
  | 1, x => (55, .pool 58 4 [(x.1, arms)]) :: mm
  | 2, x => (55, .pool 58 4 [(x.1, arms)]) :: mm
  | 3, x => (55, .pool 58 4 [(x.1, arms)]) :: mm
  | 4, x => updM ((55, .pool 58 4 [(x.1, arms)]) :: mm) 200 (.pool 52 3 [(x.2, [] ++ [ptRow a b (.val x.1)])])
  | _, x => ptStored ((55, .pool 58 4 [(x.1, arms)]) :: mm) name vr [] (ptRow a b (.val x.1)) x.2
def poolRows (mm : MM) : List (List CT) := match getM mm 200 with
  | some (.pool _ _ ((_, rows) :: _)) => rows
  | _ => []
def r9ET (p : Bool) (t1 t2 t3 t4 t5 t6 : Nat) (a b : ByteArray) (c : Int × ByteArray) (arm : List CT) : Nat → PV → TM
  | 1, x => [(t1, .v (.agg [.c (.int .i64 c.1), .c (.str c.2)]))]
  | 2, x => [(t2, .v (.agg (arm.map SC.c)))]
  | 3, x => match p with | true => [(t3, .v (.one (.c (.val x.1))))] | false => [(t3, .v (.one (.c (.slice false 4 [arm]))))]
  | 4, x => match p with | true => [(t4, .v (.agg [.c (.str a), .c (.str b), .c (.val x.1)]))] | false => [(t4, .v (.agg [.c (.str a), .c (.str b), .c (.slice false 4 [arm])]))]
  | 5, x => match p with | true => [(t5, .v (.one (.c (.slice true 3 [ptRow a b (.val x.1)]))))] | false => [(t5, .v (.one (.c (.slice true 3 [ptRow a b (.slice false 4 [arm])]))))]
  | 6, x => [(t6, .v (.one (.c (.val x.2))))]
  | _, _ => []
def r9P (p : Bool) (t3 : Nat) (arm : List CT) (mm : MM) (x : PV) : MM := match p with | true => (t3, .pool 58 4 [(x.1, [arm])]) :: mm | false => mm
def r9row (p : Bool) (a b : ByteArray) (arm : List CT) (x : PV) : List CT := match p with | true => ptRow a b (.val x.1) | false => ptRow a b (.slice false 4 [arm])
def r9MM (p : Bool) (t3 : Nat) (mm : MM) (name : ByteArray) (vr : Value) (a b : ByteArray) (arm : List CT) (dice : List CT) : Nat → PV → MM
  | 0, _ => mm
  | 1, x => updMs mm [given] [dice]
  | 2, x => updMs mm [given] [dice]
  | 3, x => r9P p t3 arm (updMs mm [given] [dice]) x
  | 4, x => r9P p t3 arm (updMs mm [given] [dice]) x
  | 5, x => r9P p t3 arm (updMs mm [given] [dice]) x
  | 6, x => updM (r9P p t3 arm (updMs mm [given] [dice]) x) 200 (.pool 52 3 [(x.2, poolRows mm ++ [r9row p a b arm x])])
  | _, x => ptStored (r9P p t3 arm (updMs mm [given] [dice]) x) name vr (poolRows mm) (r9row p a b arm x) x.2
def r19ET : Nat → Value → TM
  | 1, x => [(165, .v (.one (.c (.val x))))]
  | _, _ => []
def r19MM (mm : MM) (name : ByteArray) (vr : Value) (row : List CT) : Nat → Value → MM
  | 0, _ => mm
  | 1, x => updM mm 200 (.pool 52 3 [(x, poolRows mm ++ [row])])
  | _, x => ptStored mm name vr (poolRows mm) row x
section
variable {C : Ctx} {n : Nat} {tm : TM} {mm : MM} {f : FuncId} {R : Ending → World → Prop} {k : List Item}
theorem no_bool {α : Prop} (h : true = false) : α := Bool.noConfusion h
theorem no_bool' {α : Prop} (h : false = true) : α := Bool.noConfusion h
end
set_option maxHeartbeats 64000000 in
theorem rnd3t_c (name : ByteArray) (types : List ByteArray) (ht : types.length ≤ 1000) (l : List Int) (k : Nat) (hk : k ≤ l.length) (hb0 : pkV l (pkA l (pkA l k)) 2 = 1) :
    ConM Tryz.prog 68 [(given, .box ((diceX l k).map SC.c))] [.one (.ptr given 0), C1 (.str name), C1 (.int .i64 ((3 : Nat) : Int)), C1 (namesT types)]
      (fun _ : PV => True) (fun v => .v (.agg [.c (.str name), .c (.val v.1), .c (.val v.2)])) (fun v => [(given, .box ((diceX l (rndV name types l 3 k).2).map SC.c)), (22, .pool 9 1 [(v.1, (rolesL.take 3).map fun s => [CT.str s])]), (200, .pool 52 3 [(v.2, (rndV name types l 3 k).1.points.map Pnt.cs)])]) := by
  have hk1 := pkA_le hk
  have hk2 := pkA_le hk1
  have hk3 := pkA_le hk2
  have hk4 : rnd4 l k ≤ l.length := pkA_le hk3
  have hr0 := pk_range l k (n := 2) (by omega) (by omega)
  have hr1 := pk_range l (pkA l k) (n := 2) (by omega) (by omega)
  have hrl : rolesL.length = 5 := rfl
  have hB : rndB l k = true := by unfold rndB; simp [hb0]
  have hres : rndV name types l 3 k = (⟨name, rolesL.take 3, rndP 3 true (rndGo l k) (rndQuit l k) (dataV l (pkA l (pkA l (pkA l k)))) [(carV types l (rnd4 l k)).1] (dataV l (carV types l (rnd4 l k)).2)⟩, (pkA l (carV types l (rnd4 l k)).2)) := by unfold rndV; rw [hB]; rfl
  rw [hres]
  refine conM_of (c := _) Tryz.func68 rfl rfl rfl (by decide) rfl fun w M0 H Z hd => ?_
  repeat' (first
   | (refine g_drawS 12 [given] mix rfl rfl rfl rfl rfl rfl rfl rfl ?_; refine grun_ th rfl ?_)
   | refine gc_ rfl ?_
   | (refine g_region ?_; refine run_ th rfl ?_)
   | refine SOps.nil ?_
   | (refine s_split rfl rfl (fun hb => ?_) (fun hb => ?_) <;> (try simp only [hbL] at hb) <;> first | (exfalso; omega) | refine run_ th rfl ?_)
   | (refine g_if rfl (fun hb => ?_) (fun hb => ?_) <;> (try simp only [hbL] at hb) <;> (try (exfalso; omega)))
   | (refine s_call roles_c [] rfl rfl rfl rfl rfl rfl rfl rfl rfl rfl ?_; refine run_ th rfl ?_)
   | (refine s_step (op_sliceTo (j := 3) th rfl rfl rfl rfl rfl rfl (by decide) rfl rfl).wp rfl ?_; refine run_ th rfl ?_)
   | (refine s_appendN th 22 rfl rfl rfl rfl rfl rfl rfl rfl rfl rfl rfl rfl rfl rfl (by constructor <;> decide) ?_; refine s_toPool 22 rfl rfl fun vr => ?_; refine run_ th rfl ?_)
   | (refine q_eff labels_c [] rfl rfl rfl rfl rfl rfl rfl rfl rfl rfl rfl (outM_sub (ids := [given]) rfl) ?_; refine grun_ th rfl ?_)
   | (refine q_eff (pickx_c l k hk 2 (by omega) (by omega)) [given] rfl rfl rfl rfl rfl rfl rfl rfl rfl rfl rfl (outM_sub (ids := [given]) rfl) ?_; refine grun_ th rfl ?_)
   | (refine q_eff (pickx_c l _ hk1 2 (by omega) (by omega)) [given] rfl rfl rfl rfl rfl rfl rfl rfl rfl rfl rfl (outM_sub (ids := [given]) rfl) ?_; refine grun_ th rfl ?_)
   | (refine q_idx th rfl rfl rfl rfl rfl rfl rfl rfl rfl (pkV l k 2).toNat _ (by omega) (lab_get (by omega)) ?_; refine grun_ th rfl ?_)
   | (refine q_add rfl rfl rfl rfl rfl rfl (by omega) ?_; refine grun_ th rfl ?_)
   | (refine q_idx th rfl rfl rfl rfl rfl rfl rfl rfl rfl (2 + pkV l (pkA l k) 2).toNat _ (by omega) (lab_get (by omega)) ?_; refine grun_ th rfl ?_)
   | (refine GOps.nil ?_; refine run_ th rfl ?_)
   | (refine s_call (pickx_c l _ hk2 2 (by omega) (by omega)) [given] rfl rfl rfl rfl rfl rfl rfl rfl rfl rfl ?_; refine run_ th rfl ?_)
   | (refine s_call (datax_c l _ hk3) [given] rfl rfl rfl rfl rfl rfl rfl rfl rfl rfl ?_; refine run_ th rfl ?_))
  refine g_nilVal 9 2 rfl rfl ?_
  refine g_newPool 200 52 3 rfl rfl ?_
  refine g_nilPool 200 rfl rfl rfl rfl ?_
  rw [show decide (pkV l (pkA l (pkA l k)) 2 = 1) = true from hB]
  obtain ⟨go, hgo⟩ : ∃ x, x = rndGo l k := ⟨_, rfl⟩
  obtain ⟨quit, hqu⟩ : ∃ x, x = rndQuit l k := ⟨_, rfl⟩
  obtain ⟨c, hc⟩ : ∃ x, x = dataV l (pkA l (pkA l (pkA l k))) := ⟨_, rfl⟩
  rw [show labelsL.getD (pkV l k 2).toNat ⟨#[]⟩ = go from hgo.symm, show labelsL.getD (2 + pkV l (pkA l k) 2).toNat ⟨#[]⟩ = quit from hqu.symm, show rndGo l k = go from hgo.symm, show rndQuit l k = quit from hqu.symm, show dataV l (pkA l (pkA l (pkA l k))) = c from hc.symm, show pkA l (pkA l (pkA l (pkA l k))) = rnd4 l k from rfl]
  obtain ⟨k4, hk4e⟩ : ∃ x, x = rnd4 l k := ⟨_, rfl⟩
  rw [← hk4e] at hk4 ⊢
  clear hgo hqu hc hres hB hr0 hr1 hk1 hk2 hk3 hk4e hb0
  refine g_sub (tm' := [(0, .v (.one (.ptr given 0))), (2, .v (C1 (.int .i64 ((3 : Nat) : Int)))), (3, .v (C1 (namesT types))), (8, .v (.one (.ptr 8 0))), (9, .v (.one (.ptr 9 0))), (10, .v (C1 (.str go))), (11, .v (C1 (.str quit))), (12, .v (C1 (.bool true))), (13, .v (.one (.ptr 13 0)))]) (mm' := [(given, .box ((diceX l k4).map SC.c)), (8, .box [.c (.str ⟨#[]⟩), .c .nils, .c .nils]), (9, .box [.c (.str name), .c (.val vr), .c (.val (.slice none 0 0))]), (13, .box [.c (.int .i64 c), .c (.str ⟨#[]⟩)]), (22, .pool 9 1 [(vr, (rolesL.take 3).map fun s => [CT.str s])]), (200, .pool 52 3 [((.slice none 0 0), [])])]) (by exact ⟨⟨_, rfl, .refl _⟩, ⟨_, rfl, .refl _⟩, ⟨_, rfl, .refl _⟩, ⟨_, rfl, .refl _⟩, ⟨_, rfl, .refl _⟩, ⟨_, rfl, .refl _⟩, ⟨_, rfl, .refl _⟩, ⟨_, rfl, .refl _⟩, ⟨_, rfl, .refl _⟩, trivial⟩) (by exact ⟨⟨_, rfl, .refl _⟩, ⟨_, rfl, .refl _⟩, ⟨_, rfl, .refl _⟩, ⟨_, rfl, .refl _⟩, ⟨_, rfl, .refl _⟩, ⟨_, rfl, .refl _⟩, trivial⟩) rfl rfl rfl ?_
  refine g_drawF (ι := PV) [15, 16, 17, 18, 20] [200] (r5ET (roleN 0) (roleN 1)) (r5MM _ name vr [[.str go, .int .i64 c, .str ⟨#[]⟩, .int .i64 1], [.str quit, .int .i64 0, .str ⟨#[]⟩, .int .i64 0]] (roleN 0) (roleN 1)) (vr, vr) mix rfl (fun k x hk => by match k, hk with | 0, _ => (refine subG_spec ?_; repeat (first | exact trivial | refine ⟨rfl, ?_⟩)) | 1, _ => (refine subG_spec ?_; repeat (first | exact trivial | refine ⟨rfl, ?_⟩)) | 2, _ => (refine subG_spec ?_; repeat (first | exact trivial | refine ⟨rfl, ?_⟩)) | 3, _ => (refine subG_spec ?_; repeat (first | exact trivial | refine ⟨rfl, ?_⟩)) | 4, _ => (refine subG_spec ?_; repeat (first | exact trivial | refine ⟨rfl, ?_⟩))) rfl (fun k x => by match k with | 0 => rfl | 1 => rfl | 2 => rfl | 3 => rfl | 4 => rfl | 5 => rfl | _ + 6 => rfl) rfl rfl (by simp) rfl rfl ?_
  refine frun_ th rfl ?_
  repeat' (first
    | (refine f_pidx (r := 22) th rfl rfl rfl rfl rfl rfl rfl rfl rfl rfl rfl 0 rfl 0 rfl (by decide) ?_; refine frun_ th rfl ?_)
    | (refine f_pidx (r := 22) th rfl rfl rfl rfl rfl rfl rfl rfl rfl rfl rfl 0 rfl 1 rfl (by decide) ?_; refine frun_ th rfl ?_)
    | (refine f_pidx (r := 22) th rfl rfl rfl rfl rfl rfl rfl rfl rfl rfl rfl 0 rfl 2 rfl (by decide) ?_; refine frun_ th rfl ?_)
    | (refine f_pidx (r := 22) th rfl rfl rfl rfl rfl rfl rfl rfl rfl rfl rfl 0 rfl 3 rfl (by decide) ?_; refine frun_ th rfl ?_)
    | (refine f_pload (r := 22) th rfl rfl rfl rfl rfl rfl rfl rfl rfl 0 rfl rfl rfl ?_; refine frun_ th rfl ?_)
    | (refine FOps.nil ⟨Effs.cons rfl (fun x => ?_) (Effs.cons rfl (fun x => ?_) (Effs.cons rfl (fun x => ?_) (Effs.cons rfl (fun x => ?_) (Effs.cons rfl (fun x => ?_) Effs.nil)))), fun x => ?_⟩)
    | exact ef_eval th rfl rfl rfl rfl rfl rfl rfl
    | exact ef_litP th rfl rfl rfl rfl rfl rfl rfl rfl rfl rfl rfl rfl rfl rfl rfl rfl rfl (fun v => (v, x.2)) (fun _ => rfl) (fun _ => rfl)
    | exact ef_lit th rfl rfl rfl rfl rfl rfl rfl rfl rfl rfl rfl rfl rfl (.nn true 4 _) rfl rfl
    | exact ef_lit th rfl rfl rfl rfl rfl rfl rfl rfl rfl rfl rfl rfl rfl (.refl _) rfl rfl
    | exact ef_append (i := 200) th rfl rfl rfl rfl rfl rfl rfl rfl rfl rfl rfl rfl rfl rfl rfl rfl 0 rfl ⟨(Nat.le_of_ble_eq_true rfl), (Nat.le_of_ble_eq_true rfl)⟩ (fun v' => (x.1, v')) (fun _ => rfl) (fun _ => rfl)
    | exact ef_append (i := 200) th rfl rfl rfl rfl rfl rfl rfl rfl rfl rfl rfl rfl rfl rfl rfl rfl 0 rfl ⟨(Nat.le_of_ble_eq_true rfl), (Nat.le_of_ble_eq_true rfl)⟩ (fun v' => v') (fun _ => rfl) (fun _ => rfl)
    | exact ef_store (i := 9) th rfl rfl rfl rfl rfl rfl rfl rfl rfl rfl rfl rfl)
  obtain ⟨v55, vp0⟩ := x
  refine g_sub (tm' := [(0, .v (.one (.ptr given 0))), (2, .v (C1 (.int .i64 ((3 : Nat) : Int)))), (3, .v (C1 (namesT types))), (8, .v (.one (.ptr 8 0))), (9, .v (.one (.ptr 9 0))), (10, .v (C1 (.str go))), (11, .v (C1 (.str quit))), (12, .v (C1 (.bool true))), (13, .v (.one (.ptr 13 0)))]) (mm' := [(given, .box ((diceX l k4).map SC.c)), (8, .box [.c (.str ⟨#[]⟩), .c .nils, .c .nils]), (9, .box [.c (.str name), .c (.val vr), .c (.val vp0)]), (13, .box [.c (.int .i64 c), .c (.str ⟨#[]⟩)]), (22, .pool 9 1 [(vr, (rolesL.take 3).map fun s => [CT.str s])]), (200, .pool 52 3 [(vp0, [ptRow (roleN 0) (roleN 1) (.val v55)])]), (55, .pool 58 4 [(v55, [[.str go, .int .i64 c, .str ⟨#[]⟩, .int .i64 1], [.str quit, .int .i64 0, .str ⟨#[]⟩, .int .i64 0]])])]) (by exact ⟨⟨_, rfl, .refl _⟩, ⟨_, rfl, .refl _⟩, ⟨_, rfl, .refl _⟩, ⟨_, rfl, .refl _⟩, ⟨_, rfl, .refl _⟩, ⟨_, rfl, .refl _⟩, ⟨_, rfl, .refl _⟩, ⟨_, rfl, .refl _⟩, ⟨_, rfl, .refl _⟩, trivial⟩) (by exact ⟨⟨_, rfl, .refl _⟩, ⟨_, rfl, .refl _⟩, ⟨_, rfl, .refl _⟩, ⟨_, rfl, .refl _⟩, ⟨_, rfl, .refl _⟩, ⟨_, rfl, .refl _⟩, ⟨_, rfl, .refl _⟩, trivial⟩) rfl rfl rfl ?_
  repeat' (first
    | exact no_bool hb
    | exact no_bool' hb
    | refine gc_ rfl ?_
    | refine g_loopU ?_
    | refine g_inLoopU ?_
    | (refine g_region ?_; refine run_ th rfl ?_)
    | refine SOps.nil ?_
    | (refine g_if rfl (fun hb => ?_) (fun hb => ?_) <;> (try simp only [hbL] at hb) <;> (try (exfalso; omega)))
    | (refine s_add rfl rfl rfl rfl rfl rfl (by omega) ?_; refine run_ th rfl ?_))
  refine g_sub (tm' := [(0, .v (.one (.ptr given 0))), (2, .v (C1 (.int .i64 ((3 : Nat) : Int)))), (3, .v (C1 (namesT types))), (8, .v (.one (.ptr 8 0))), (9, .v (.one (.ptr 9 0))), (10, .v (C1 (.str go))), (11, .v (C1 (.str quit))), (12, .v (C1 (.bool true))), (13, .v (.one (.ptr 13 0))), (14, .v (C1 (.int .i64 1)))]) (mm' := [(given, .box ((diceX l k4).map SC.c)), (8, .box [.c (.str ⟨#[]⟩), .c .nils, .c .nils]), (9, .box [.c (.str name), .c (.val vr), .c (.val vp0)]), (13, .box [.c (.int .i64 c), .c (.str ⟨#[]⟩)]), (22, .pool 9 1 [(vr, (rolesL.take 3).map fun s => [CT.str s])]), (200, .pool 52 3 [(vp0, [ptRow (roleN 0) (roleN 1) (.val v55)])]), (55, .pool 58 4 [(v55, [[.str go, .int .i64 c, .str ⟨#[]⟩, .int .i64 1], [.str quit, .int .i64 0, .str ⟨#[]⟩, .int .i64 0]])])]) (by exact ⟨⟨_, rfl, .refl _⟩, ⟨_, rfl, .refl _⟩, ⟨_, rfl, .refl _⟩, ⟨_, rfl, .refl _⟩, ⟨_, rfl, .refl _⟩, ⟨_, rfl, .refl _⟩, ⟨_, rfl, .refl _⟩, ⟨_, rfl, .refl _⟩, ⟨_, rfl, .refl _⟩, ⟨_, rfl, le_int rfl⟩, trivial⟩) (by exact ⟨⟨_, rfl, .refl _⟩, ⟨_, rfl, .refl _⟩, ⟨_, rfl, .refl _⟩, ⟨_, rfl, .refl _⟩, ⟨_, rfl, .refl _⟩, ⟨_, rfl, .refl _⟩, ⟨_, rfl, .refl _⟩, trivial⟩) rfl rfl rfl ?_
  refine g_drawF3 (ι := PV) 8 5 25 [16, 21, 22, 23, 24, 25, 27] [given, 200, 9] [given] (r9ET false 82 87 88 89 90 91 (roleN 1) (roleN 2) (carV types l k4).1 [.str go, .int .i64 (carV types l k4).1.1, .str (carV types l k4).1.2, .int .i64 2]) (r9MM false 88 _ name vr (roleN 1) (roleN 2) [.str go, .int .i64 (carV types l k4).1.1, .str (carV types l k4).1.2, .int .i64 2] (diceX l (carV types l k4).2)) (vr, vr) mix rfl (fun k x => by match k with | 0 => (refine subG_spec ?_; repeat (first | exact trivial | refine ⟨rfl, ?_⟩)) | 1 => (refine subG_spec ?_; repeat (first | exact trivial | refine ⟨rfl, ?_⟩)) | 2 => (refine subG_spec ?_; repeat (first | exact trivial | refine ⟨rfl, ?_⟩)) | 3 => (refine subG_spec ?_; repeat (first | exact trivial | refine ⟨rfl, ?_⟩)) | 4 => (refine subG_spec ?_; repeat (first | exact trivial | refine ⟨rfl, ?_⟩)) | 5 => (refine subG_spec ?_; repeat (first | exact trivial | refine ⟨rfl, ?_⟩)) | 6 => (refine subG_spec ?_; repeat (first | exact trivial | refine ⟨rfl, ?_⟩)) | _ + 7 => (refine subG_spec ?_; repeat (first | exact trivial | refine ⟨rfl, ?_⟩))) (fun k x hk => by match k, hk with | 0, _ => (refine subG_spec ?_; repeat (first | exact trivial | refine ⟨rfl, ?_⟩)) | 1, _ => (refine subG_spec ?_; repeat (first | exact trivial | refine ⟨rfl, ?_⟩)) | 2, _ => (refine subG_spec ?_; repeat (first | exact trivial | refine ⟨rfl, ?_⟩)) | 3, _ => (refine subG_spec ?_; repeat (first | exact trivial | refine ⟨rfl, ?_⟩)) | 4, _ => (refine subG_spec ?_; repeat (first | exact trivial | refine ⟨rfl, ?_⟩)) | 5, _ => (refine subG_spec ?_; repeat (first | exact trivial | refine ⟨rfl, ?_⟩))) rfl (fun k x => by match k with | 0 => rfl | 1 => rfl | 2 => rfl | 3 => rfl | 4 => rfl | 5 => rfl | 6 => rfl | 7 => rfl | _ + 8 => rfl) rfl rfl (by simp) rfl rfl ?_
  refine frun_ th rfl ?_
  repeat' (first
    | (refine f_pidx (r := 22) th rfl rfl rfl rfl rfl rfl rfl rfl rfl rfl rfl 0 rfl 0 rfl (by decide) ?_; refine frun_ th rfl ?_)
    | (refine f_pidx (r := 22) th rfl rfl rfl rfl rfl rfl rfl rfl rfl rfl rfl 0 rfl 1 rfl (by decide) ?_; refine frun_ th rfl ?_)
    | (refine f_pidx (r := 22) th rfl rfl rfl rfl rfl rfl rfl rfl rfl rfl rfl 0 rfl 2 rfl (by decide) ?_; refine frun_ th rfl ?_)
    | (refine f_pidx (r := 22) th rfl rfl rfl rfl rfl rfl rfl rfl rfl rfl rfl 0 rfl 3 rfl (by decide) ?_; refine frun_ th rfl ?_)
    | (refine f_pload (r := 22) th rfl rfl rfl rfl rfl rfl rfl rfl rfl 0 rfl rfl rfl ?_; refine frun_ th rfl ?_)
    | (refine f_plen th 200 0 rfl rfl rfl rfl rfl rfl rfl rfl rfl 1 rfl ?_; refine frun_ th rfl ?_)
    | (refine f_add rfl rfl rfl rfl rfl rfl rfl 2 rfl (by decide) ?_; refine frun_ th rfl ?_)
    | (refine FOps.nil ⟨Effs.cons rfl (fun x => ?_) (Effs.cons rfl (fun x => ?_) (Effs.cons rfl (fun x => ?_) (Effs.cons rfl (fun x => ?_) (Effs.cons rfl (fun x => ?_) (Effs.cons rfl (fun x => ?_) (Effs.cons rfl (fun x => ?_) Effs.nil)))))), fun x => ?_⟩)
    | exact ef_call (carx_c types ht l _ hk4) [given] rfl rfl rfl rfl rfl rfl rfl rfl rfl rfl rfl rfl rfl
    | exact ef_eval th rfl rfl rfl rfl rfl rfl rfl
    | exact ef_litP th rfl rfl rfl rfl rfl rfl rfl rfl rfl rfl rfl rfl rfl rfl rfl rfl rfl (fun v => (v, x.2)) (fun _ => rfl) (fun _ => rfl)
    | exact ef_lit th rfl rfl rfl rfl rfl rfl rfl rfl rfl rfl rfl rfl rfl (.nn true 4 _) rfl rfl
    | exact ef_lit th rfl rfl rfl rfl rfl rfl rfl rfl rfl rfl rfl rfl rfl (.refl _) rfl rfl
    | exact ef_append (i := 200) th rfl rfl rfl rfl rfl rfl rfl rfl rfl rfl rfl rfl rfl rfl rfl rfl 0 rfl ⟨(Nat.le_of_ble_eq_true rfl), (Nat.le_of_ble_eq_true rfl)⟩ (fun v' => (x.1, v')) (fun _ => rfl) (fun _ => rfl)
    | exact ef_append (i := 200) th rfl rfl rfl rfl rfl rfl rfl rfl rfl rfl rfl rfl rfl rfl rfl rfl 0 rfl ⟨(Nat.le_of_ble_eq_true rfl), (Nat.le_of_ble_eq_true rfl)⟩ (fun v' => v') (fun _ => rfl) (fun _ => rfl)
    | exact ef_store (i := 9) th rfl rfl rfl rfl rfl rfl rfl rfl rfl rfl rfl rfl)
  obtain ⟨v88, vp1⟩ := x
  have hc0 := carV_le (types := types) hk4
  refine g_sub (tm' := [(0, .v (.one (.ptr given 0))), (2, .v (C1 (.int .i64 ((3 : Nat) : Int)))), (3, .v (C1 (namesT types))), (8, .v (.one (.ptr 8 0))), (9, .v (.one (.ptr 9 0))), (10, .v (C1 (.str go))), (11, .v (C1 (.str quit))), (12, .v (C1 (.bool true))), (13, .v (.one (.ptr 13 0))), (14, .v (C1 (.int .i64 1)))]) (mm' := [(given, .box ((diceX l (carV types l k4).2).map SC.c)), (8, .box [.c (.str ⟨#[]⟩), .c .nils, .c .nils]), (9, .box [.c (.str name), .c (.val vr), .c (.val vp1)]), (13, .box [.c (.int .i64 c), .c (.str ⟨#[]⟩)]), (22, .pool 9 1 [(vr, (rolesL.take 3).map fun s => [CT.str s])]), (200, .pool 52 3 [(vp1, [ptRow (roleN 0) (roleN 1) (.val v55), ptRow (roleN 1) (roleN 2) (.slice false 4 [[.str go, .int .i64 (carV types l k4).1.1, .str (carV types l k4).1.2, .int .i64 2]])])]), (55, .pool 58 4 [(v55, [[.str go, .int .i64 c, .str ⟨#[]⟩, .int .i64 1], [.str quit, .int .i64 0, .str ⟨#[]⟩, .int .i64 0]])])]) (by exact ⟨⟨_, rfl, .refl _⟩, ⟨_, rfl, .refl _⟩, ⟨_, rfl, .refl _⟩, ⟨_, rfl, .refl _⟩, ⟨_, rfl, .refl _⟩, ⟨_, rfl, .refl _⟩, ⟨_, rfl, .refl _⟩, ⟨_, rfl, .refl _⟩, ⟨_, rfl, .refl _⟩, ⟨_, rfl, le_int rfl⟩, trivial⟩) (by exact ⟨⟨_, rfl, .refl _⟩, ⟨_, rfl, .refl _⟩, ⟨_, rfl, .refl _⟩, ⟨_, rfl, .refl _⟩, ⟨_, rfl, .refl _⟩, ⟨_, rfl, .refl _⟩, ⟨_, rfl, .refl _⟩, trivial⟩) rfl rfl rfl ?_
  repeat' (first
    | exact no_bool hb
    | exact no_bool' hb
    | refine gc_ rfl ?_
    | refine g_loopU ?_
    | refine g_inLoopU ?_
    | (refine g_region ?_; refine run_ th rfl ?_)
    | refine SOps.nil ?_
    | (refine g_if rfl (fun hb => ?_) (fun hb => ?_) <;> (try simp only [hbL] at hb) <;> (try (exfalso; omega)))
    | (refine s_add rfl rfl rfl rfl rfl rfl (by omega) ?_; refine run_ th rfl ?_))
  refine g_sub (tm' := [(0, .v (.one (.ptr given 0))), (2, .v (C1 (.int .i64 ((3 : Nat) : Int)))), (3, .v (C1 (namesT types))), (8, .v (.one (.ptr 8 0))), (9, .v (.one (.ptr 9 0))), (10, .v (C1 (.str go))), (11, .v (C1 (.str quit))), (12, .v (C1 (.bool true))), (13, .v (.one (.ptr 13 0)))]) (mm' := [(given, .box ((diceX l (carV types l k4).2).map SC.c)), (8, .box [.c (.str ⟨#[]⟩), .c .nils, .c .nils]), (9, .box [.c (.str name), .c (.val vr), .c (.val vp1)]), (13, .box [.c (.int .i64 c), .c (.str ⟨#[]⟩)]), (22, .pool 9 1 [(vr, (rolesL.take 3).map fun s => [CT.str s])]), (200, .pool 52 3 [(vp1, [ptRow (roleN 0) (roleN 1) (.val v55), ptRow (roleN 1) (roleN 2) (.slice false 4 [[.str go, .int .i64 (carV types l k4).1.1, .str (carV types l k4).1.2, .int .i64 2]])])]), (55, .pool 58 4 [(v55, [[.str go, .int .i64 c, .str ⟨#[]⟩, .int .i64 1], [.str quit, .int .i64 0, .str ⟨#[]⟩, .int .i64 0]])])]) (by exact ⟨⟨_, rfl, .refl _⟩, ⟨_, rfl, .refl _⟩, ⟨_, rfl, .refl _⟩, ⟨_, rfl, .refl _⟩, ⟨_, rfl, .refl _⟩, ⟨_, rfl, .refl _⟩, ⟨_, rfl, .refl _⟩, ⟨_, rfl, .refl _⟩, ⟨_, rfl, .refl _⟩, trivial⟩) (by exact ⟨⟨_, rfl, .refl _⟩, ⟨_, rfl, .refl _⟩, ⟨_, rfl, .refl _⟩, ⟨_, rfl, .refl _⟩, ⟨_, rfl, .refl _⟩, ⟨_, rfl, .refl _⟩, ⟨_, rfl, .refl _⟩, trivial⟩) rfl rfl rfl ?_
  refine g_drawF (ι := PV) [13, 14, 15, 16, 17, 18, 20] [given, 200] (r9ET false 107 108 109 110 111 112 (roleN 2) (roleN 0) ((dataV l (carV types l k4).2), ⟨#[]⟩) [.str ⟨#[111, 107]⟩, .int .i64 (dataV l (carV types l k4).2), .str ⟨#[]⟩, .int .i64 0]) (r9MM false 109 _ name vr (roleN 2) (roleN 0) [.str ⟨#[111, 107]⟩, .int .i64 (dataV l (carV types l k4).2), .str ⟨#[]⟩, .int .i64 0] (diceX l (pkA l (carV types l k4).2))) (vr, vr) mix rfl (fun k x hk => by match k, hk with | 0, _ => (refine subG_spec ?_; repeat (first | exact trivial | refine ⟨rfl, ?_⟩)) | 1, _ => (refine subG_spec ?_; repeat (first | exact trivial | refine ⟨rfl, ?_⟩)) | 2, _ => (refine subG_spec ?_; repeat (first | exact trivial | refine ⟨rfl, ?_⟩)) | 3, _ => (refine subG_spec ?_; repeat (first | exact trivial | refine ⟨rfl, ?_⟩)) | 4, _ => (refine subG_spec ?_; repeat (first | exact trivial | refine ⟨rfl, ?_⟩)) | 5, _ => (refine subG_spec ?_; repeat (first | exact trivial | refine ⟨rfl, ?_⟩)) | 6, _ => (refine subG_spec ?_; repeat (first | exact trivial | refine ⟨rfl, ?_⟩))) rfl (fun k x => by match k with | 0 => rfl | 1 => rfl | 2 => rfl | 3 => rfl | 4 => rfl | 5 => rfl | 6 => rfl | 7 => rfl | _ + 8 => rfl) rfl rfl (by simp) rfl rfl ?_
  refine frun_ th rfl ?_
  repeat' (first
    | (refine f_pidx (r := 22) th rfl rfl rfl rfl rfl rfl rfl rfl rfl rfl rfl 0 rfl 0 rfl (by decide) ?_; refine frun_ th rfl ?_)
    | (refine f_pidx (r := 22) th rfl rfl rfl rfl rfl rfl rfl rfl rfl rfl rfl 0 rfl 1 rfl (by decide) ?_; refine frun_ th rfl ?_)
    | (refine f_pidx (r := 22) th rfl rfl rfl rfl rfl rfl rfl rfl rfl rfl rfl 0 rfl 2 rfl (by decide) ?_; refine frun_ th rfl ?_)
    | (refine f_pidx (r := 22) th rfl rfl rfl rfl rfl rfl rfl rfl rfl rfl rfl 0 rfl 3 rfl (by decide) ?_; refine frun_ th rfl ?_)
    | (refine f_pload (r := 22) th rfl rfl rfl rfl rfl rfl rfl rfl rfl 0 rfl rfl rfl ?_; refine frun_ th rfl ?_)
    | (refine f_sub rfl rfl rfl rfl rfl rfl rfl 2 rfl (by decide) ?_; refine frun_ th rfl ?_)
    | (refine FOps.nil ⟨Effs.cons rfl (fun x => ?_) (Effs.cons rfl (fun x => ?_) (Effs.cons rfl (fun x => ?_) (Effs.cons rfl (fun x => ?_) (Effs.cons rfl (fun x => ?_) (Effs.cons rfl (fun x => ?_) (Effs.cons rfl (fun x => ?_) Effs.nil)))))), fun x => ?_⟩)
    | exact ef_call (datax_c l _ hc0) [given] rfl rfl rfl rfl rfl rfl rfl rfl rfl rfl rfl rfl rfl
    | exact ef_eval th rfl rfl rfl rfl rfl rfl rfl
    | exact ef_litP th rfl rfl rfl rfl rfl rfl rfl rfl rfl rfl rfl rfl rfl rfl rfl rfl rfl (fun v => (v, x.2)) (fun _ => rfl) (fun _ => rfl)
    | exact ef_lit th rfl rfl rfl rfl rfl rfl rfl rfl rfl rfl rfl rfl rfl (.nn true 4 _) rfl rfl
    | exact ef_lit th rfl rfl rfl rfl rfl rfl rfl rfl rfl rfl rfl rfl rfl (.refl _) rfl rfl
    | exact ef_append (i := 200) th rfl rfl rfl rfl rfl rfl rfl rfl rfl rfl rfl rfl rfl rfl rfl rfl 0 rfl ⟨(Nat.le_of_ble_eq_true rfl), (Nat.le_of_ble_eq_true rfl)⟩ (fun v' => (x.1, v')) (fun _ => rfl) (fun _ => rfl)
    | exact ef_append (i := 200) th rfl rfl rfl rfl rfl rfl rfl rfl rfl rfl rfl rfl rfl rfl rfl rfl 0 rfl ⟨(Nat.le_of_ble_eq_true rfl), (Nat.le_of_ble_eq_true rfl)⟩ (fun v' => v') (fun _ => rfl) (fun _ => rfl)
    | exact ef_store (i := 9) th rfl rfl rfl rfl rfl rfl rfl rfl rfl rfl rfl rfl)
  obtain ⟨vu, vpb⟩ := x
  refine g_sub (tm' := [(0, .v (.one (.ptr given 0))), (2, .v (C1 (.int .i64 ((3 : Nat) : Int)))), (3, .v (C1 (namesT types))), (8, .v (.one (.ptr 8 0))), (9, .v (.one (.ptr 9 0))), (10, .v (C1 (.str go))), (11, .v (C1 (.str quit))), (12, .v (C1 (.bool true))), (13, .v (.one (.ptr 13 0)))]) (mm' := [(given, .box ((diceX l (pkA l (carV types l k4).2)).map SC.c)), (8, .box [.c (.str ⟨#[]⟩), .c .nils, .c .nils]), (9, .box [.c (.str name), .c (.val vr), .c (.val vpb)]), (13, .box [.c (.int .i64 c), .c (.str ⟨#[]⟩)]), (22, .pool 9 1 [(vr, (rolesL.take 3).map fun s => [CT.str s])]), (200, .pool 52 3 [(vpb, [ptRow (roleN 0) (roleN 1) (.val v55), ptRow (roleN 1) (roleN 2) (.slice false 4 [[.str go, .int .i64 (carV types l k4).1.1, .str (carV types l k4).1.2, .int .i64 2]]), ptRow (roleN 2) (roleN 0) (.slice false 4 [[.str ⟨#[111, 107]⟩, .int .i64 (dataV l (carV types l k4).2), .str ⟨#[]⟩, .int .i64 0]])])]), (55, .pool 58 4 [(v55, [[.str go, .int .i64 c, .str ⟨#[]⟩, .int .i64 1], [.str quit, .int .i64 0, .str ⟨#[]⟩, .int .i64 0]])])]) (by exact ⟨⟨_, rfl, .refl _⟩, ⟨_, rfl, .refl _⟩, ⟨_, rfl, .refl _⟩, ⟨_, rfl, .refl _⟩, ⟨_, rfl, .refl _⟩, ⟨_, rfl, .refl _⟩, ⟨_, rfl, .refl _⟩, ⟨_, rfl, .refl _⟩, ⟨_, rfl, .refl _⟩, trivial⟩) (by exact ⟨⟨_, rfl, .refl _⟩, ⟨_, rfl, .refl _⟩, ⟨_, rfl, .refl _⟩, ⟨_, rfl, .refl _⟩, ⟨_, rfl, .refl _⟩, ⟨_, rfl, .refl _⟩, ⟨_, rfl, .refl _⟩, trivial⟩) rfl rfl rfl ?_
  repeat' (first
    | exact no_bool hb
    | exact no_bool' hb
    | refine gc_ rfl ?_
    | refine g_loopU ?_
    | refine g_inLoopU ?_
    | (refine g_region ?_; refine run_ th rfl ?_)
    | refine SOps.nil ?_
    | (refine g_if rfl (fun hb => ?_) (fun hb => ?_) <;> (try simp only [hbL] at hb) <;> (try (exfalso; omega)))
    | (refine s_add rfl rfl rfl rfl rfl rfl (by omega) ?_; refine run_ th rfl ?_)
    | (refine s_plen th 200 0 rfl rfl rfl rfl rfl rfl rfl rfl 3 rfl ?_; refine run_ th rfl ?_)
    | (refine s_subI rfl rfl rfl rfl rfl rfl (by omega) ?_; refine run_ th rfl ?_)
    | (refine s_pidx (r := 200) th rfl rfl rfl rfl rfl rfl rfl rfl rfl rfl 0 rfl 1 rfl (Nat.le_of_ble_eq_true rfl) ?_; refine run_ th rfl ?_)
    | (refine s_pidx (r := 200) th rfl rfl rfl rfl rfl rfl rfl rfl rfl rfl 0 rfl 0 rfl (Nat.le_of_ble_eq_true rfl) ?_; refine run_ th rfl ?_)
    | (refine s_pfield (i := 200) th rfl rfl rfl rfl rfl rfl rfl rfl (c := 0) rfl (Nat.le_of_ble_eq_true rfl) ?_; refine run_ th rfl ?_)
    | (refine s_ploadf (i := 200) (k := 0) th rfl rfl rfl rfl rfl rfl rfl rfl rfl rfl rfl ?_; refine run_ th rfl ?_)
    | (refine s_pidx (r := 55) th rfl rfl rfl rfl rfl rfl rfl rfl rfl rfl 0 rfl 0 rfl (Nat.le_of_ble_eq_true rfl) ?_; refine run_ th rfl ?_)
    | (refine s_pidx (r := 55) th rfl rfl rfl rfl rfl rfl rfl rfl rfl rfl 0 rfl 1 rfl (Nat.le_of_ble_eq_true rfl) ?_; refine run_ th rfl ?_)
    | (refine s_pfield (i := 55) th rfl rfl rfl rfl rfl rfl rfl rfl (c := 0) rfl (Nat.le_of_ble_eq_true rfl) ?_; refine run_ th rfl ?_)
    | (refine s_pstoref (i := 55) (k := 0) th _ rfl rfl rfl rfl rfl rfl rfl rfl rfl rfl rfl rfl rfl rfl rfl ?_; refine run_ th rfl ?_))
  refine g_sub (tm' := [(0, .v (.one (.ptr given 0))), (2, .v (C1 (.int .i64 ((3 : Nat) : Int)))), (3, .v (C1 (namesT types))), (8, .v (.one (.ptr 8 0))), (9, .v (.one (.ptr 9 0))), (10, .v (C1 (.str go))), (11, .v (C1 (.str quit))), (12, .v (C1 (.bool true))), (13, .v (.one (.ptr 13 0))), (17, .v (C1 (.int .i64 1)))]) (mm' := [(given, .box ((diceX l (pkA l (carV types l k4).2)).map SC.c)), (8, .box [.c (.str ⟨#[]⟩), .c .nils, .c .nils]), (9, .box [.c (.str name), .c (.val vr), .c (.val vpb)]), (13, .box [.c (.int .i64 c), .c (.str ⟨#[]⟩)]), (22, .pool 9 1 [(vr, (rolesL.take 3).map fun s => [CT.str s])]), (200, .pool 52 3 [(vpb, [ptRow (roleN 0) (roleN 1) (.val v55), ptRow (roleN 1) (roleN 2) (.slice false 4 [[.str go, .int .i64 (carV types l k4).1.1, .str (carV types l k4).1.2, .int .i64 2]]), ptRow (roleN 2) (roleN 0) (.slice false 4 [[.str ⟨#[111, 107]⟩, .int .i64 (dataV l (carV types l k4).2), .str ⟨#[]⟩, .int .i64 0]])])]), (55, .pool 58 4 [(v55, [[.str go, .int .i64 c, .str ⟨#[]⟩, .int .i64 1], [.str quit, .int .i64 0, .str ⟨#[]⟩, .int .i64 3]])])]) (by exact ⟨⟨_, rfl, .refl _⟩, ⟨_, rfl, .refl _⟩, ⟨_, rfl, .refl _⟩, ⟨_, rfl, .refl _⟩, ⟨_, rfl, .refl _⟩, ⟨_, rfl, .refl _⟩, ⟨_, rfl, .refl _⟩, ⟨_, rfl, .refl _⟩, ⟨_, rfl, .refl _⟩, ⟨_, rfl, le_int rfl⟩, trivial⟩) (by exact ⟨⟨_, rfl, .refl _⟩, ⟨_, rfl, .refl _⟩, ⟨_, rfl, .refl _⟩, ⟨_, rfl, .refl _⟩, ⟨_, rfl, .refl _⟩, ⟨_, rfl, .refl _⟩, ⟨_, rfl, .refl _⟩, trivial⟩) rfl rfl rfl ?_
  refine g_drawF3 (ι := Value) 8 0 22 [22, 24] [200, 9] [] r19ET (r19MM _ name vr (ptRow (roleN 1) (roleN 2) (.slice false 4 [[.str quit, .int .i64 0, .str ⟨#[]⟩, .int .i64 4]]))) vr mix rfl (fun k x => by match k with | 0 => (refine subG_spec ?_; repeat (first | exact trivial | refine ⟨rfl, ?_⟩)) | 1 => (refine subG_spec ?_; repeat (first | exact trivial | refine ⟨rfl, ?_⟩)) | _ + 2 => (refine subG_spec ?_; repeat (first | exact trivial | refine ⟨rfl, ?_⟩))) (fun k x hk => by match k, hk with | 0, _ => (refine subG_spec ?_; repeat (first | exact trivial | refine ⟨rfl, ?_⟩))) rfl (fun k x => by match k with | 0 => rfl | 1 => rfl | 2 => rfl | _ + 3 => rfl) rfl rfl (by simp) rfl rfl ?_
  refine frun_ th rfl ?_
  repeat' (first
    | (refine f_pidx (r := 22) th rfl rfl rfl rfl rfl rfl rfl rfl rfl rfl rfl 0 rfl 0 rfl (by decide) ?_; refine frun_ th rfl ?_)
    | (refine f_pidx (r := 22) th rfl rfl rfl rfl rfl rfl rfl rfl rfl rfl rfl 0 rfl 1 rfl (by decide) ?_; refine frun_ th rfl ?_)
    | (refine f_pidx (r := 22) th rfl rfl rfl rfl rfl rfl rfl rfl rfl rfl rfl 0 rfl 2 rfl (by decide) ?_; refine frun_ th rfl ?_)
    | (refine f_pidx (r := 22) th rfl rfl rfl rfl rfl rfl rfl rfl rfl rfl rfl 0 rfl 3 rfl (by decide) ?_; refine frun_ th rfl ?_)
    | (refine f_pload (r := 22) th rfl rfl rfl rfl rfl rfl rfl rfl rfl 0 rfl rfl rfl ?_; refine frun_ th rfl ?_)
    | (refine f_plen th 200 0 rfl rfl rfl rfl rfl rfl rfl rfl rfl 3 rfl ?_; refine frun_ th rfl ?_)
    | (refine f_add rfl rfl rfl rfl rfl rfl rfl 2 rfl (by decide) ?_; refine frun_ th rfl ?_)
    | (refine f_add rfl rfl rfl rfl rfl rfl rfl 4 rfl (by decide) ?_; refine frun_ th rfl ?_)
    | (refine f_lit th rfl rfl rfl rfl rfl rfl rfl rfl rfl rfl rfl rfl rfl (.nn true 4 _) ?_; refine frun_ th rfl ?_)
    | (refine f_lit th rfl rfl rfl rfl rfl rfl rfl rfl rfl rfl rfl rfl rfl (.refl _) ?_; refine frun_ th rfl ?_)
    | (refine FOps.nil ⟨Effs.cons rfl (fun x => ?_) (Effs.cons rfl (fun x => ?_) Effs.nil), fun vq0 => ?_⟩)
    | exact ef_eval th rfl rfl rfl rfl rfl rfl rfl
    | exact ef_litP th rfl rfl rfl rfl rfl rfl rfl rfl rfl rfl rfl rfl rfl rfl rfl rfl rfl (fun v => (v, x.2)) (fun _ => rfl) (fun _ => rfl)
    | exact ef_lit th rfl rfl rfl rfl rfl rfl rfl rfl rfl rfl rfl rfl rfl (.nn true 4 _) rfl rfl
    | exact ef_lit th rfl rfl rfl rfl rfl rfl rfl rfl rfl rfl rfl rfl rfl (.refl _) rfl rfl
    | exact ef_append (i := 200) th rfl rfl rfl rfl rfl rfl rfl rfl rfl rfl rfl rfl rfl rfl rfl rfl 0 rfl ⟨(Nat.le_of_ble_eq_true rfl), (Nat.le_of_ble_eq_true rfl)⟩ (fun v' => (x.1, v')) (fun _ => rfl) (fun _ => rfl)
    | exact ef_append (i := 200) th rfl rfl rfl rfl rfl rfl rfl rfl rfl rfl rfl rfl rfl rfl rfl rfl 0 rfl ⟨(Nat.le_of_ble_eq_true rfl), (Nat.le_of_ble_eq_true rfl)⟩ (fun v' => v') (fun _ => rfl) (fun _ => rfl)
    | exact ef_store (i := 9) th rfl rfl rfl rfl rfl rfl rfl rfl rfl rfl rfl rfl)
  refine g_sub (tm' := [(0, .v (.one (.ptr given 0))), (2, .v (C1 (.int .i64 ((3 : Nat) : Int)))), (3, .v (C1 (namesT types))), (8, .v (.one (.ptr 8 0))), (9, .v (.one (.ptr 9 0))), (10, .v (C1 (.str go))), (11, .v (C1 (.str quit))), (12, .v (C1 (.bool true))), (13, .v (.one (.ptr 13 0))), (17, .v (C1 (.int .i64 1)))]) (mm' := [(given, .box ((diceX l (pkA l (carV types l k4).2)).map SC.c)), (8, .box [.c (.str ⟨#[]⟩), .c .nils, .c .nils]), (9, .box [.c (.str name), .c (.val vr), .c (.val vq0)]), (13, .box [.c (.int .i64 c), .c (.str ⟨#[]⟩)]), (22, .pool 9 1 [(vr, (rolesL.take 3).map fun s => [CT.str s])]), (200, .pool 52 3 [(vq0, [ptRow (roleN 0) (roleN 1) (.val v55), ptRow (roleN 1) (roleN 2) (.slice false 4 [[.str go, .int .i64 (carV types l k4).1.1, .str (carV types l k4).1.2, .int .i64 2]]), ptRow (roleN 2) (roleN 0) (.slice false 4 [[.str ⟨#[111, 107]⟩, .int .i64 (dataV l (carV types l k4).2), .str ⟨#[]⟩, .int .i64 0]]), ptRow (roleN 1) (roleN 2) (.slice false 4 [[.str quit, .int .i64 0, .str ⟨#[]⟩, .int .i64 4]])])]), (55, .pool 58 4 [(v55, [[.str go, .int .i64 c, .str ⟨#[]⟩, .int .i64 1], [.str quit, .int .i64 0, .str ⟨#[]⟩, .int .i64 3]])])]) (by exact ⟨⟨_, rfl, .refl _⟩, ⟨_, rfl, .refl _⟩, ⟨_, rfl, .refl _⟩, ⟨_, rfl, .refl _⟩, ⟨_, rfl, .refl _⟩, ⟨_, rfl, .refl _⟩, ⟨_, rfl, .refl _⟩, ⟨_, rfl, .refl _⟩, ⟨_, rfl, .refl _⟩, ⟨_, rfl, le_int rfl⟩, trivial⟩) (by exact ⟨⟨_, rfl, .refl _⟩, ⟨_, rfl, .refl _⟩, ⟨_, rfl, .refl _⟩, ⟨_, rfl, .refl _⟩, ⟨_, rfl, .refl _⟩, ⟨_, rfl, .refl _⟩, ⟨_, rfl, .refl _⟩, trivial⟩) rfl rfl rfl ?_
  repeat' (first
    | exact no_bool hb
    | exact no_bool' hb
    | refine gc_ rfl ?_
    | refine g_loopU ?_
    | refine g_inLoopU ?_
    | (refine g_region ?_; refine run_ th rfl ?_)
    | refine SOps.nil ?_
    | (refine g_if rfl (fun hb => ?_) (fun hb => ?_) <;> (try simp only [hbL] at hb) <;> (try (exfalso; omega)))
    | (refine s_add rfl rfl rfl rfl rfl rfl (by omega) ?_; refine run_ th rfl ?_)
    | (refine s_freeze 170 rfl rfl ?_; refine s_leT 170 (.v (C1 (.slice true 3 [noPnt.cs]))) rfl (.v (.one (.c (le_deep (.cons (.cons (.refl _) (.cons (.refl _) (.cons (.nil 4) .nil))) .nil))))) ?_; refine s_pappend (i := 200) th rfl rfl rfl rfl rfl rfl rfl rfl rfl rfl rfl rfl rfl rfl 0 rfl ⟨(Nat.le_of_ble_eq_true rfl), (Nat.le_of_ble_eq_true rfl)⟩ fun vz => ?_; refine run_ th rfl ?_))
  refine g_freezeQ 55 200 _ rfl rfl rfl rfl rfl rfl (.cons (.cons (.refl _) (.cons (.refl _) (.cons (.row List.mem_cons_self) (.refl _)))) (.refl _)) ?_
  exact g_endM (hd := hd) th Tryz.func68 (vr, vz) (.inr ⟨_, rfl⟩) rfl rfl rfl rfl ⟨rfl, rfl, rfl, trivial⟩ rfl rfl rfl trivial
set_option maxHeartbeats 64000000 in
theorem rnd3f_c (name : ByteArray) (types : List ByteArray) (ht : types.length ≤ 1000) (l : List Int) (k : Nat) (hk : k ≤ l.length) (hb0 : ¬ pkV l (pkA l (pkA l k)) 2 = 1) :
    ConM Tryz.prog 68 [(given, .box ((diceX l k).map SC.c))] [.one (.ptr given 0), C1 (.str name), C1 (.int .i64 ((3 : Nat) : Int)), C1 (namesT types)]
      (fun _ : PV => True) (fun v => .v (.agg [.c (.str name), .c (.val v.1), .c (.val v.2)])) (fun v => [(given, .box ((diceX l (rndV name types l 3 k).2).map SC.c)), (22, .pool 9 1 [(v.1, (rolesL.take 3).map fun s => [CT.str s])]), (200, .pool 52 3 [(v.2, (rndV name types l 3 k).1.points.map Pnt.cs)])]) := by
  have hk1 := pkA_le hk
  have hk2 := pkA_le hk1
  have hk3 := pkA_le hk2
  have hk4 : rnd4 l k ≤ l.length := pkA_le hk3
  have hr0 := pk_range l k (n := 2) (by omega) (by omega)
  have hr1 := pk_range l (pkA l k) (n := 2) (by omega) (by omega)
  have hrl : rolesL.length = 5 := rfl
  have hB : rndB l k = false := by unfold rndB; simp [hb0]
  have hres : rndV name types l 3 k = (⟨name, rolesL.take 3, rndP 3 false (rndGo l k) (rndQuit l k) (dataV l (pkA l (pkA l (pkA l k)))) [(carV types l (rnd4 l k)).1] (dataV l (carV types l (rnd4 l k)).2)⟩, (carV types l (rnd4 l k)).2) := by unfold rndV; rw [hB]; rfl
  rw [hres]
  refine conM_of (c := _) Tryz.func68 rfl rfl rfl (by decide) rfl fun w M0 H Z hd => ?_
  repeat' (first
   | (refine g_drawS 12 [given] mix rfl rfl rfl rfl rfl rfl rfl rfl ?_; refine grun_ th rfl ?_)
   | refine gc_ rfl ?_
   | (refine g_region ?_; refine run_ th rfl ?_)
   | refine SOps.nil ?_
   | (refine s_split rfl rfl (fun hb => ?_) (fun hb => ?_) <;> (try simp only [hbL] at hb) <;> first | (exfalso; omega) | refine run_ th rfl ?_)
   | (refine g_if rfl (fun hb => ?_) (fun hb => ?_) <;> (try simp only [hbL] at hb) <;> (try (exfalso; omega)))
   | (refine s_call roles_c [] rfl rfl rfl rfl rfl rfl rfl rfl rfl rfl ?_; refine run_ th rfl ?_)
   | (refine s_step (op_sliceTo (j := 3) th rfl rfl rfl rfl rfl rfl (by decide) rfl rfl).wp rfl ?_; refine run_ th rfl ?_)
   | (refine s_appendN th 22 rfl rfl rfl rfl rfl rfl rfl rfl rfl rfl rfl rfl rfl rfl (by constructor <;> decide) ?_; refine s_toPool 22 rfl rfl fun vr => ?_; refine run_ th rfl ?_)
   | (refine q_eff labels_c [] rfl rfl rfl rfl rfl rfl rfl rfl rfl rfl rfl (outM_sub (ids := [given]) rfl) ?_; refine grun_ th rfl ?_)
   | (refine q_eff (pickx_c l k hk 2 (by omega) (by omega)) [given] rfl rfl rfl rfl rfl rfl rfl rfl rfl rfl rfl (outM_sub (ids := [given]) rfl) ?_; refine grun_ th rfl ?_)
   | (refine q_eff (pickx_c l _ hk1 2 (by omega) (by omega)) [given] rfl rfl rfl rfl rfl rfl rfl rfl rfl rfl rfl (outM_sub (ids := [given]) rfl) ?_; refine grun_ th rfl ?_)
   | (refine q_idx th rfl rfl rfl rfl rfl rfl rfl rfl rfl (pkV l k 2).toNat _ (by omega) (lab_get (by omega)) ?_; refine grun_ th rfl ?_)
   | (refine q_add rfl rfl rfl rfl rfl rfl (by omega) ?_; refine grun_ th rfl ?_)
   | (refine q_idx th rfl rfl rfl rfl rfl rfl rfl rfl rfl (2 + pkV l (pkA l k) 2).toNat _ (by omega) (lab_get (by omega)) ?_; refine grun_ th rfl ?_)
   | (refine GOps.nil ?_; refine run_ th rfl ?_)
   | (refine s_call (pickx_c l _ hk2 2 (by omega) (by omega)) [given] rfl rfl rfl rfl rfl rfl rfl rfl rfl rfl ?_; refine run_ th rfl ?_)
   | (refine s_call (datax_c l _ hk3) [given] rfl rfl rfl rfl rfl rfl rfl rfl rfl rfl ?_; refine run_ th rfl ?_))
  refine g_nilVal 9 2 rfl rfl ?_
  refine g_newPool 200 52 3 rfl rfl ?_
  refine g_nilPool 200 rfl rfl rfl rfl ?_
  rw [show decide (pkV l (pkA l (pkA l k)) 2 = 1) = false from hB]
  obtain ⟨go, hgo⟩ : ∃ x, x = rndGo l k := ⟨_, rfl⟩
  obtain ⟨quit, hqu⟩ : ∃ x, x = rndQuit l k := ⟨_, rfl⟩
  obtain ⟨c, hc⟩ : ∃ x, x = dataV l (pkA l (pkA l (pkA l k))) := ⟨_, rfl⟩
  rw [show labelsL.getD (pkV l k 2).toNat ⟨#[]⟩ = go from hgo.symm, show labelsL.getD (2 + pkV l (pkA l k) 2).toNat ⟨#[]⟩ = quit from hqu.symm, show rndGo l k = go from hgo.symm, show rndQuit l k = quit from hqu.symm, show dataV l (pkA l (pkA l (pkA l k))) = c from hc.symm, show pkA l (pkA l (pkA l (pkA l k))) = rnd4 l k from rfl]
  obtain ⟨k4, hk4e⟩ : ∃ x, x = rnd4 l k := ⟨_, rfl⟩
  rw [← hk4e] at hk4 ⊢
  clear hgo hqu hc hres hB hr0 hr1 hk1 hk2 hk3 hk4e hb0
  refine g_sub (tm' := [(0, .v (.one (.ptr given 0))), (2, .v (C1 (.int .i64 ((3 : Nat) : Int)))), (3, .v (C1 (namesT types))), (8, .v (.one (.ptr 8 0))), (9, .v (.one (.ptr 9 0))), (10, .v (C1 (.str go))), (11, .v (C1 (.str quit))), (12, .v (C1 (.bool false))), (13, .v (.one (.ptr 13 0)))]) (mm' := [(given, .box ((diceX l k4).map SC.c)), (8, .box [.c (.str ⟨#[]⟩), .c .nils, .c .nils]), (9, .box [.c (.str name), .c (.val vr), .c (.val (.slice none 0 0))]), (13, .box [.c (.int .i64 c), .c (.str ⟨#[]⟩)]), (22, .pool 9 1 [(vr, (rolesL.take 3).map fun s => [CT.str s])]), (200, .pool 52 3 [((.slice none 0 0), [])])]) (by exact ⟨⟨_, rfl, .refl _⟩, ⟨_, rfl, .refl _⟩, ⟨_, rfl, .refl _⟩, ⟨_, rfl, .refl _⟩, ⟨_, rfl, .refl _⟩, ⟨_, rfl, .refl _⟩, ⟨_, rfl, .refl _⟩, ⟨_, rfl, .refl _⟩, ⟨_, rfl, .refl _⟩, trivial⟩) (by exact ⟨⟨_, rfl, .refl _⟩, ⟨_, rfl, .refl _⟩, ⟨_, rfl, .refl _⟩, ⟨_, rfl, .refl _⟩, ⟨_, rfl, .refl _⟩, ⟨_, rfl, .refl _⟩, trivial⟩) rfl rfl rfl ?_
  refine g_drawF (ι := PV) [15, 16, 17, 18, 20] [200] (r5ET (roleN 0) (roleN 1)) (r5MM _ name vr [[.str go, .int .i64 c, .str ⟨#[]⟩, .int .i64 1], [.str quit, .int .i64 0, .str ⟨#[]⟩, .int .i64 0]] (roleN 0) (roleN 1)) (vr, vr) mix rfl (fun k x hk => by match k, hk with | 0, _ => (refine subG_spec ?_; repeat (first | exact trivial | refine ⟨rfl, ?_⟩)) | 1, _ => (refine subG_spec ?_; repeat (first | exact trivial | refine ⟨rfl, ?_⟩)) | 2, _ => (refine subG_spec ?_; repeat (first | exact trivial | refine ⟨rfl, ?_⟩)) | 3, _ => (refine subG_spec ?_; repeat (first | exact trivial | refine ⟨rfl, ?_⟩)) | 4, _ => (refine subG_spec ?_; repeat (first | exact trivial | refine ⟨rfl, ?_⟩))) rfl (fun k x => by match k with | 0 => rfl | 1 => rfl | 2 => rfl | 3 => rfl | 4 => rfl | 5 => rfl | _ + 6 => rfl) rfl rfl (by simp) rfl rfl ?_
  refine frun_ th rfl ?_
  repeat' (first
    | (refine f_pidx (r := 22) th rfl rfl rfl rfl rfl rfl rfl rfl rfl rfl rfl 0 rfl 0 rfl (by decide) ?_; refine frun_ th rfl ?_)
    | (refine f_pidx (r := 22) th rfl rfl rfl rfl rfl rfl rfl rfl rfl rfl rfl 0 rfl 1 rfl (by decide) ?_; refine frun_ th rfl ?_)
    | (refine f_pidx (r := 22) th rfl rfl rfl rfl rfl rfl rfl rfl rfl rfl rfl 0 rfl 2 rfl (by decide) ?_; refine frun_ th rfl ?_)
    | (refine f_pidx (r := 22) th rfl rfl rfl rfl rfl rfl rfl rfl rfl rfl rfl 0 rfl 3 rfl (by decide) ?_; refine frun_ th rfl ?_)
    | (refine f_pload (r := 22) th rfl rfl rfl rfl rfl rfl rfl rfl rfl 0 rfl rfl rfl ?_; refine frun_ th rfl ?_)
    | (refine FOps.nil ⟨Effs.cons rfl (fun x => ?_) (Effs.cons rfl (fun x => ?_) (Effs.cons rfl (fun x => ?_) (Effs.cons rfl (fun x => ?_) (Effs.cons rfl (fun x => ?_) Effs.nil)))), fun x => ?_⟩)
    | exact ef_eval th rfl rfl rfl rfl rfl rfl rfl
    | exact ef_litP th rfl rfl rfl rfl rfl rfl rfl rfl rfl rfl rfl rfl rfl rfl rfl rfl rfl (fun v => (v, x.2)) (fun _ => rfl) (fun _ => rfl)
    | exact ef_lit th rfl rfl rfl rfl rfl rfl rfl rfl rfl rfl rfl rfl rfl (.nn true 4 _) rfl rfl
    | exact ef_lit th rfl rfl rfl rfl rfl rfl rfl rfl rfl rfl rfl rfl rfl (.refl _) rfl rfl
    | exact ef_append (i := 200) th rfl rfl rfl rfl rfl rfl rfl rfl rfl rfl rfl rfl rfl rfl rfl rfl 0 rfl ⟨(Nat.le_of_ble_eq_true rfl), (Nat.le_of_ble_eq_true rfl)⟩ (fun v' => (x.1, v')) (fun _ => rfl) (fun _ => rfl)
    | exact ef_append (i := 200) th rfl rfl rfl rfl rfl rfl rfl rfl rfl rfl rfl rfl rfl rfl rfl rfl 0 rfl ⟨(Nat.le_of_ble_eq_true rfl), (Nat.le_of_ble_eq_true rfl)⟩ (fun v' => v') (fun _ => rfl) (fun _ => rfl)
    | exact ef_store (i := 9) th rfl rfl rfl rfl rfl rfl rfl rfl rfl rfl rfl rfl)
  obtain ⟨v55, vp0⟩ := x
  refine g_sub (tm' := [(0, .v (.one (.ptr given 0))), (2, .v (C1 (.int .i64 ((3 : Nat) : Int)))), (3, .v (C1 (namesT types))), (8, .v (.one (.ptr 8 0))), (9, .v (.one (.ptr 9 0))), (10, .v (C1 (.str go))), (11, .v (C1 (.str quit))), (12, .v (C1 (.bool false))), (13, .v (.one (.ptr 13 0)))]) (mm' := [(given, .box ((diceX l k4).map SC.c)), (8, .box [.c (.str ⟨#[]⟩), .c .nils, .c .nils]), (9, .box [.c (.str name), .c (.val vr), .c (.val vp0)]), (13, .box [.c (.int .i64 c), .c (.str ⟨#[]⟩)]), (22, .pool 9 1 [(vr, (rolesL.take 3).map fun s => [CT.str s])]), (200, .pool 52 3 [(vp0, [ptRow (roleN 0) (roleN 1) (.val v55)])]), (55, .pool 58 4 [(v55, [[.str go, .int .i64 c, .str ⟨#[]⟩, .int .i64 1], [.str quit, .int .i64 0, .str ⟨#[]⟩, .int .i64 0]])])]) (by exact ⟨⟨_, rfl, .refl _⟩, ⟨_, rfl, .refl _⟩, ⟨_, rfl, .refl _⟩, ⟨_, rfl, .refl _⟩, ⟨_, rfl, .refl _⟩, ⟨_, rfl, .refl _⟩, ⟨_, rfl, .refl _⟩, ⟨_, rfl, .refl _⟩, ⟨_, rfl, .refl _⟩, trivial⟩) (by exact ⟨⟨_, rfl, .refl _⟩, ⟨_, rfl, .refl _⟩, ⟨_, rfl, .refl _⟩, ⟨_, rfl, .refl _⟩, ⟨_, rfl, .refl _⟩, ⟨_, rfl, .refl _⟩, ⟨_, rfl, .refl _⟩, trivial⟩) rfl rfl rfl ?_
  repeat' (first
    | exact no_bool hb
    | exact no_bool' hb
    | refine gc_ rfl ?_
    | refine g_loopU ?_
    | refine g_inLoopU ?_
    | (refine g_region ?_; refine run_ th rfl ?_)
    | refine SOps.nil ?_
    | (refine g_if rfl (fun hb => ?_) (fun hb => ?_) <;> (try simp only [hbL] at hb) <;> (try (exfalso; omega)))
    | (refine s_add rfl rfl rfl rfl rfl rfl (by omega) ?_; refine run_ th rfl ?_))
  refine g_sub (tm' := [(0, .v (.one (.ptr given 0))), (2, .v (C1 (.int .i64 ((3 : Nat) : Int)))), (3, .v (C1 (namesT types))), (8, .v (.one (.ptr 8 0))), (9, .v (.one (.ptr 9 0))), (10, .v (C1 (.str go))), (11, .v (C1 (.str quit))), (12, .v (C1 (.bool false))), (13, .v (.one (.ptr 13 0))), (14, .v (C1 (.int .i64 1)))]) (mm' := [(given, .box ((diceX l k4).map SC.c)), (8, .box [.c (.str ⟨#[]⟩), .c .nils, .c .nils]), (9, .box [.c (.str name), .c (.val vr), .c (.val vp0)]), (13, .box [.c (.int .i64 c), .c (.str ⟨#[]⟩)]), (22, .pool 9 1 [(vr, (rolesL.take 3).map fun s => [CT.str s])]), (200, .pool 52 3 [(vp0, [ptRow (roleN 0) (roleN 1) (.val v55)])]), (55, .pool 58 4 [(v55, [[.str go, .int .i64 c, .str ⟨#[]⟩, .int .i64 1], [.str quit, .int .i64 0, .str ⟨#[]⟩, .int .i64 0]])])]) (by exact ⟨⟨_, rfl, .refl _⟩, ⟨_, rfl, .refl _⟩, ⟨_, rfl, .refl _⟩, ⟨_, rfl, .refl _⟩, ⟨_, rfl, .refl _⟩, ⟨_, rfl, .refl _⟩, ⟨_, rfl, .refl _⟩, ⟨_, rfl, .refl _⟩, ⟨_, rfl, .refl _⟩, ⟨_, rfl, le_int rfl⟩, trivial⟩) (by exact ⟨⟨_, rfl, .refl _⟩, ⟨_, rfl, .refl _⟩, ⟨_, rfl, .refl _⟩, ⟨_, rfl, .refl _⟩, ⟨_, rfl, .refl _⟩, ⟨_, rfl, .refl _⟩, ⟨_, rfl, .refl _⟩, trivial⟩) rfl rfl rfl ?_
  refine g_drawF3 (ι := PV) 8 5 25 [16, 21, 22, 23, 24, 25, 27] [given, 200, 9] [given] (r9ET true 82 87 88 89 90 91 (roleN 1) (roleN 2) (carV types l k4).1 [.str go, .int .i64 (carV types l k4).1.1, .str (carV types l k4).1.2, .int .i64 2]) (r9MM true 88 _ name vr (roleN 1) (roleN 2) [.str go, .int .i64 (carV types l k4).1.1, .str (carV types l k4).1.2, .int .i64 2] (diceX l (carV types l k4).2)) (vr, vr) mix rfl (fun k x => by match k with | 0 => (refine subG_spec ?_; repeat (first | exact trivial | refine ⟨rfl, ?_⟩)) | 1 => (refine subG_spec ?_; repeat (first | exact trivial | refine ⟨rfl, ?_⟩)) | 2 => (refine subG_spec ?_; repeat (first | exact trivial | refine ⟨rfl, ?_⟩)) | 3 => (refine subG_spec ?_; repeat (first | exact trivial | refine ⟨rfl, ?_⟩)) | 4 => (refine subG_spec ?_; repeat (first | exact trivial | refine ⟨rfl, ?_⟩)) | 5 => (refine subG_spec ?_; repeat (first | exact trivial | refine ⟨rfl, ?_⟩)) | 6 => (refine subG_spec ?_; repeat (first | exact trivial | refine ⟨rfl, ?_⟩)) | _ + 7 => (refine subG_spec ?_; repeat (first | exact trivial | refine ⟨rfl, ?_⟩))) (fun k x hk => by match k, hk with | 0, _ => (refine subG_spec ?_; repeat (first | exact trivial | refine ⟨rfl, ?_⟩)) | 1, _ => (refine subG_spec ?_; repeat (first | exact trivial | refine ⟨rfl, ?_⟩)) | 2, _ => (refine subG_spec ?_; repeat (first | exact trivial | refine ⟨rfl, ?_⟩)) | 3, _ => (refine subG_spec ?_; repeat (first | exact trivial | refine ⟨rfl, ?_⟩)) | 4, _ => (refine subG_spec ?_; repeat (first | exact trivial | refine ⟨rfl, ?_⟩)) | 5, _ => (refine subG_spec ?_; repeat (first | exact trivial | refine ⟨rfl, ?_⟩))) rfl (fun k x => by match k with | 0 => rfl | 1 => rfl | 2 => rfl | 3 => rfl | 4 => rfl | 5 => rfl | 6 => rfl | 7 => rfl | _ + 8 => rfl) rfl rfl (by simp) rfl rfl ?_
  refine frun_ th rfl ?_
  repeat' (first
    | (refine f_pidx (r := 22) th rfl rfl rfl rfl rfl rfl rfl rfl rfl rfl rfl 0 rfl 0 rfl (by decide) ?_; refine frun_ th rfl ?_)
    | (refine f_pidx (r := 22) th rfl rfl rfl rfl rfl rfl rfl rfl rfl rfl rfl 0 rfl 1 rfl (by decide) ?_; refine frun_ th rfl ?_)
    | (refine f_pidx (r := 22) th rfl rfl rfl rfl rfl rfl rfl rfl rfl rfl rfl 0 rfl 2 rfl (by decide) ?_; refine frun_ th rfl ?_)
    | (refine f_pidx (r := 22) th rfl rfl rfl rfl rfl rfl rfl rfl rfl rfl rfl 0 rfl 3 rfl (by decide) ?_; refine frun_ th rfl ?_)
    | (refine f_pload (r := 22) th rfl rfl rfl rfl rfl rfl rfl rfl rfl 0 rfl rfl rfl ?_; refine frun_ th rfl ?_)
    | (refine f_plen th 200 0 rfl rfl rfl rfl rfl rfl rfl rfl rfl 1 rfl ?_; refine frun_ th rfl ?_)
    | (refine f_add rfl rfl rfl rfl rfl rfl rfl 2 rfl (by decide) ?_; refine frun_ th rfl ?_)
    | (refine FOps.nil ⟨Effs.cons rfl (fun x => ?_) (Effs.cons rfl (fun x => ?_) (Effs.cons rfl (fun x => ?_) (Effs.cons rfl (fun x => ?_) (Effs.cons rfl (fun x => ?_) (Effs.cons rfl (fun x => ?_) (Effs.cons rfl (fun x => ?_) Effs.nil)))))), fun x => ?_⟩)
    | exact ef_call (carx_c types ht l _ hk4) [given] rfl rfl rfl rfl rfl rfl rfl rfl rfl rfl rfl rfl rfl
    | exact ef_eval th rfl rfl rfl rfl rfl rfl rfl
    | exact ef_litP th rfl rfl rfl rfl rfl rfl rfl rfl rfl rfl rfl rfl rfl rfl rfl rfl rfl (fun v => (v, x.2)) (fun _ => rfl) (fun _ => rfl)
    | exact ef_lit th rfl rfl rfl rfl rfl rfl rfl rfl rfl rfl rfl rfl rfl (.nn true 4 _) rfl rfl
    | exact ef_lit th rfl rfl rfl rfl rfl rfl rfl rfl rfl rfl rfl rfl rfl (.refl _) rfl rfl
    | exact ef_append (i := 200) th rfl rfl rfl rfl rfl rfl rfl rfl rfl rfl rfl rfl rfl rfl rfl rfl 0 rfl ⟨(Nat.le_of_ble_eq_true rfl), (Nat.le_of_ble_eq_true rfl)⟩ (fun v' => (x.1, v')) (fun _ => rfl) (fun _ => rfl)
    | exact ef_append (i := 200) th rfl rfl rfl rfl rfl rfl rfl rfl rfl rfl rfl rfl rfl rfl rfl rfl 0 rfl ⟨(Nat.le_of_ble_eq_true rfl), (Nat.le_of_ble_eq_true rfl)⟩ (fun v' => v') (fun _ => rfl) (fun _ => rfl)
    | exact ef_store (i := 9) th rfl rfl rfl rfl rfl rfl rfl rfl rfl rfl rfl rfl)
  obtain ⟨v88, vp1⟩ := x
  have hc0 := carV_le (types := types) hk4
  refine g_sub (tm' := [(0, .v (.one (.ptr given 0))), (2, .v (C1 (.int .i64 ((3 : Nat) : Int)))), (3, .v (C1 (namesT types))), (8, .v (.one (.ptr 8 0))), (9, .v (.one (.ptr 9 0))), (10, .v (C1 (.str go))), (11, .v (C1 (.str quit))), (12, .v (C1 (.bool false))), (13, .v (.one (.ptr 13 0))), (14, .v (C1 (.int .i64 1)))]) (mm' := [(given, .box ((diceX l (carV types l k4).2).map SC.c)), (8, .box [.c (.str ⟨#[]⟩), .c .nils, .c .nils]), (9, .box [.c (.str name), .c (.val vr), .c (.val vp1)]), (13, .box [.c (.int .i64 c), .c (.str ⟨#[]⟩)]), (22, .pool 9 1 [(vr, (rolesL.take 3).map fun s => [CT.str s])]), (200, .pool 52 3 [(vp1, [ptRow (roleN 0) (roleN 1) (.val v55), ptRow (roleN 1) (roleN 2) (.val v88)])]), (55, .pool 58 4 [(v55, [[.str go, .int .i64 c, .str ⟨#[]⟩, .int .i64 1], [.str quit, .int .i64 0, .str ⟨#[]⟩, .int .i64 0]])]), (88, .pool 58 4 [(v88, [[.str go, .int .i64 (carV types l k4).1.1, .str (carV types l k4).1.2, .int .i64 2]])])]) (by exact ⟨⟨_, rfl, .refl _⟩, ⟨_, rfl, .refl _⟩, ⟨_, rfl, .refl _⟩, ⟨_, rfl, .refl _⟩, ⟨_, rfl, .refl _⟩, ⟨_, rfl, .refl _⟩, ⟨_, rfl, .refl _⟩, ⟨_, rfl, .refl _⟩, ⟨_, rfl, .refl _⟩, ⟨_, rfl, le_int rfl⟩, trivial⟩) (by exact ⟨⟨_, rfl, .refl _⟩, ⟨_, rfl, .refl _⟩, ⟨_, rfl, .refl _⟩, ⟨_, rfl, .refl _⟩, ⟨_, rfl, .refl _⟩, ⟨_, rfl, .refl _⟩, ⟨_, rfl, .refl _⟩, ⟨_, rfl, .refl _⟩, trivial⟩) rfl rfl rfl ?_
  repeat' (first
    | exact no_bool hb
    | exact no_bool' hb
    | refine gc_ rfl ?_
    | refine g_loopU ?_
    | refine g_inLoopU ?_
    | (refine g_region ?_; refine run_ th rfl ?_)
    | refine SOps.nil ?_
    | (refine g_if rfl (fun hb => ?_) (fun hb => ?_) <;> (try simp only [hbL] at hb) <;> (try (exfalso; omega)))
    | (refine s_add rfl rfl rfl rfl rfl rfl (by omega) ?_; refine run_ th rfl ?_)
    | (refine s_plen th 200 0 rfl rfl rfl rfl rfl rfl rfl rfl 2 rfl ?_; refine run_ th rfl ?_)
    | (refine s_subI rfl rfl rfl rfl rfl rfl (by omega) ?_; refine run_ th rfl ?_)
    | (refine s_pidx (r := 200) th rfl rfl rfl rfl rfl rfl rfl rfl rfl rfl 0 rfl 1 rfl (Nat.le_of_ble_eq_true rfl) ?_; refine run_ th rfl ?_)
    | (refine s_pidx (r := 200) th rfl rfl rfl rfl rfl rfl rfl rfl rfl rfl 0 rfl 0 rfl (Nat.le_of_ble_eq_true rfl) ?_; refine run_ th rfl ?_)
    | (refine s_pfield (i := 200) th rfl rfl rfl rfl rfl rfl rfl rfl (c := 0) rfl (Nat.le_of_ble_eq_true rfl) ?_; refine run_ th rfl ?_)
    | (refine s_ploadf (i := 200) (k := 0) th rfl rfl rfl rfl rfl rfl rfl rfl rfl rfl rfl ?_; refine run_ th rfl ?_)
    | (refine s_pidx (r := 55) th rfl rfl rfl rfl rfl rfl rfl rfl rfl rfl 0 rfl 0 rfl (Nat.le_of_ble_eq_true rfl) ?_; refine run_ th rfl ?_)
    | (refine s_pidx (r := 55) th rfl rfl rfl rfl rfl rfl rfl rfl rfl rfl 0 rfl 1 rfl (Nat.le_of_ble_eq_true rfl) ?_; refine run_ th rfl ?_)
    | (refine s_pfield (i := 55) th rfl rfl rfl rfl rfl rfl rfl rfl (c := 0) rfl (Nat.le_of_ble_eq_true rfl) ?_; refine run_ th rfl ?_)
    | (refine s_pstoref (i := 55) (k := 0) th _ rfl rfl rfl rfl rfl rfl rfl rfl rfl rfl rfl rfl rfl rfl rfl ?_; refine run_ th rfl ?_)
    | (refine s_pidx (r := 88) th rfl rfl rfl rfl rfl rfl rfl rfl rfl rfl 0 rfl 0 rfl (Nat.le_of_ble_eq_true rfl) ?_; refine run_ th rfl ?_)
    | (refine s_pfield (i := 88) th rfl rfl rfl rfl rfl rfl rfl rfl (c := 0) rfl (Nat.le_of_ble_eq_true rfl) ?_; refine run_ th rfl ?_)
    | (refine s_pstoref (i := 88) (k := 0) th _ rfl rfl rfl rfl rfl rfl rfl rfl rfl rfl rfl rfl rfl rfl rfl ?_; refine run_ th rfl ?_))
  refine g_sub (tm' := [(0, .v (.one (.ptr given 0))), (2, .v (C1 (.int .i64 ((3 : Nat) : Int)))), (3, .v (C1 (namesT types))), (8, .v (.one (.ptr 8 0))), (9, .v (.one (.ptr 9 0))), (10, .v (C1 (.str go))), (11, .v (C1 (.str quit))), (12, .v (C1 (.bool false))), (13, .v (.one (.ptr 13 0))), (17, .v (C1 (.int .i64 1)))]) (mm' := [(given, .box ((diceX l (carV types l k4).2).map SC.c)), (8, .box [.c (.str ⟨#[]⟩), .c .nils, .c .nils]), (9, .box [.c (.str name), .c (.val vr), .c (.val vp1)]), (13, .box [.c (.int .i64 c), .c (.str ⟨#[]⟩)]), (22, .pool 9 1 [(vr, (rolesL.take 3).map fun s => [CT.str s])]), (200, .pool 52 3 [(vp1, [ptRow (roleN 0) (roleN 1) (.val v55), ptRow (roleN 1) (roleN 2) (.val v88)])]), (55, .pool 58 4 [(v55, [[.str go, .int .i64 c, .str ⟨#[]⟩, .int .i64 1], [.str quit, .int .i64 0, .str ⟨#[]⟩, .int .i64 2]])]), (88, .pool 58 4 [(v88, [[.str go, .int .i64 (carV types l k4).1.1, .str (carV types l k4).1.2, .int .i64 0]])])]) (by exact ⟨⟨_, rfl, .refl _⟩, ⟨_, rfl, .refl _⟩, ⟨_, rfl, .refl _⟩, ⟨_, rfl, .refl _⟩, ⟨_, rfl, .refl _⟩, ⟨_, rfl, .refl _⟩, ⟨_, rfl, .refl _⟩, ⟨_, rfl, .refl _⟩, ⟨_, rfl, .refl _⟩, ⟨_, rfl, le_int rfl⟩, trivial⟩) (by exact ⟨⟨_, rfl, .refl _⟩, ⟨_, rfl, .refl _⟩, ⟨_, rfl, .refl _⟩, ⟨_, rfl, .refl _⟩, ⟨_, rfl, .refl _⟩, ⟨_, rfl, .refl _⟩, ⟨_, rfl, .refl _⟩, ⟨_, rfl, .refl _⟩, trivial⟩) rfl rfl rfl ?_
  refine g_drawF3 (ι := Value) 8 0 22 [22, 24] [200, 9] [] r19ET (r19MM _ name vr (ptRow (roleN 1) (roleN 2) (.slice false 4 [[.str quit, .int .i64 0, .str ⟨#[]⟩, .int .i64 3]]))) vr mix rfl (fun k x => by match k with | 0 => (refine subG_spec ?_; repeat (first | exact trivial | refine ⟨rfl, ?_⟩)) | 1 => (refine subG_spec ?_; repeat (first | exact trivial | refine ⟨rfl, ?_⟩)) | _ + 2 => (refine subG_spec ?_; repeat (first | exact trivial | refine ⟨rfl, ?_⟩))) (fun k x hk => by match k, hk with | 0, _ => (refine subG_spec ?_; repeat (first | exact trivial | refine ⟨rfl, ?_⟩))) rfl (fun k x => by match k with | 0 => rfl | 1 => rfl | 2 => rfl | _ + 3 => rfl) rfl rfl (by simp) rfl rfl ?_
  refine frun_ th rfl ?_
  repeat' (first
    | (refine f_pidx (r := 22) th rfl rfl rfl rfl rfl rfl rfl rfl rfl rfl rfl 0 rfl 0 rfl (by decide) ?_; refine frun_ th rfl ?_)
    | (refine f_pidx (r := 22) th rfl rfl rfl rfl rfl rfl rfl rfl rfl rfl rfl 0 rfl 1 rfl (by decide) ?_; refine frun_ th rfl ?_)
    | (refine f_pidx (r := 22) th rfl rfl rfl rfl rfl rfl rfl rfl rfl rfl rfl 0 rfl 2 rfl (by decide) ?_; refine frun_ th rfl ?_)
    | (refine f_pidx (r := 22) th rfl rfl rfl rfl rfl rfl rfl rfl rfl rfl rfl 0 rfl 3 rfl (by decide) ?_; refine frun_ th rfl ?_)
    | (refine f_pload (r := 22) th rfl rfl rfl rfl rfl rfl rfl rfl rfl 0 rfl rfl rfl ?_; refine frun_ th rfl ?_)
    | (refine f_plen th 200 0 rfl rfl rfl rfl rfl rfl rfl rfl rfl 2 rfl ?_; refine frun_ th rfl ?_)
    | (refine f_add rfl rfl rfl rfl rfl rfl rfl 2 rfl (by decide) ?_; refine frun_ th rfl ?_)
    | (refine f_add rfl rfl rfl rfl rfl rfl rfl 3 rfl (by decide) ?_; refine frun_ th rfl ?_)
    | (refine f_lit th rfl rfl rfl rfl rfl rfl rfl rfl rfl rfl rfl rfl rfl (.nn true 4 _) ?_; refine frun_ th rfl ?_)
    | (refine f_lit th rfl rfl rfl rfl rfl rfl rfl rfl rfl rfl rfl rfl rfl (.refl _) ?_; refine frun_ th rfl ?_)
    | (refine FOps.nil ⟨Effs.cons rfl (fun x => ?_) (Effs.cons rfl (fun x => ?_) Effs.nil), fun vq0 => ?_⟩)
    | exact ef_eval th rfl rfl rfl rfl rfl rfl rfl
    | exact ef_litP th rfl rfl rfl rfl rfl rfl rfl rfl rfl rfl rfl rfl rfl rfl rfl rfl rfl (fun v => (v, x.2)) (fun _ => rfl) (fun _ => rfl)
    | exact ef_lit th rfl rfl rfl rfl rfl rfl rfl rfl rfl rfl rfl rfl rfl (.nn true 4 _) rfl rfl
    | exact ef_lit th rfl rfl rfl rfl rfl rfl rfl rfl rfl rfl rfl rfl rfl (.refl _) rfl rfl
    | exact ef_append (i := 200) th rfl rfl rfl rfl rfl rfl rfl rfl rfl rfl rfl rfl rfl rfl rfl rfl 0 rfl ⟨(Nat.le_of_ble_eq_true rfl), (Nat.le_of_ble_eq_true rfl)⟩ (fun v' => (x.1, v')) (fun _ => rfl) (fun _ => rfl)
    | exact ef_append (i := 200) th rfl rfl rfl rfl rfl rfl rfl rfl rfl rfl rfl rfl rfl rfl rfl rfl 0 rfl ⟨(Nat.le_of_ble_eq_true rfl), (Nat.le_of_ble_eq_true rfl)⟩ (fun v' => v') (fun _ => rfl) (fun _ => rfl)
    | exact ef_store (i := 9) th rfl rfl rfl rfl rfl rfl rfl rfl rfl rfl rfl rfl)
  refine g_sub (tm' := [(0, .v (.one (.ptr given 0))), (2, .v (C1 (.int .i64 ((3 : Nat) : Int)))), (3, .v (C1 (namesT types))), (8, .v (.one (.ptr 8 0))), (9, .v (.one (.ptr 9 0))), (10, .v (C1 (.str go))), (11, .v (C1 (.str quit))), (12, .v (C1 (.bool false))), (13, .v (.one (.ptr 13 0))), (17, .v (C1 (.int .i64 1)))]) (mm' := [(given, .box ((diceX l (carV types l k4).2).map SC.c)), (8, .box [.c (.str ⟨#[]⟩), .c .nils, .c .nils]), (9, .box [.c (.str name), .c (.val vr), .c (.val vq0)]), (13, .box [.c (.int .i64 c), .c (.str ⟨#[]⟩)]), (22, .pool 9 1 [(vr, (rolesL.take 3).map fun s => [CT.str s])]), (200, .pool 52 3 [(vq0, [ptRow (roleN 0) (roleN 1) (.val v55), ptRow (roleN 1) (roleN 2) (.val v88), ptRow (roleN 1) (roleN 2) (.slice false 4 [[.str quit, .int .i64 0, .str ⟨#[]⟩, .int .i64 3]])])]), (55, .pool 58 4 [(v55, [[.str go, .int .i64 c, .str ⟨#[]⟩, .int .i64 1], [.str quit, .int .i64 0, .str ⟨#[]⟩, .int .i64 2]])]), (88, .pool 58 4 [(v88, [[.str go, .int .i64 (carV types l k4).1.1, .str (carV types l k4).1.2, .int .i64 0]])])]) (by exact ⟨⟨_, rfl, .refl _⟩, ⟨_, rfl, .refl _⟩, ⟨_, rfl, .refl _⟩, ⟨_, rfl, .refl _⟩, ⟨_, rfl, .refl _⟩, ⟨_, rfl, .refl _⟩, ⟨_, rfl, .refl _⟩, ⟨_, rfl, .refl _⟩, ⟨_, rfl, .refl _⟩, ⟨_, rfl, le_int rfl⟩, trivial⟩) (by exact ⟨⟨_, rfl, .refl _⟩, ⟨_, rfl, .refl _⟩, ⟨_, rfl, .refl _⟩, ⟨_, rfl, .refl _⟩, ⟨_, rfl, .refl _⟩, ⟨_, rfl, .refl _⟩, ⟨_, rfl, .refl _⟩, ⟨_, rfl, .refl _⟩, trivial⟩) rfl rfl rfl ?_
  repeat' (first
    | exact no_bool hb
    | exact no_bool' hb
    | refine gc_ rfl ?_
    | refine g_loopU ?_
    | refine g_inLoopU ?_
    | (refine g_region ?_; refine run_ th rfl ?_)
    | refine SOps.nil ?_
    | (refine g_if rfl (fun hb => ?_) (fun hb => ?_) <;> (try simp only [hbL] at hb) <;> (try (exfalso; omega)))
    | (refine s_add rfl rfl rfl rfl rfl rfl (by omega) ?_; refine run_ th rfl ?_)
    | (refine s_freeze 170 rfl rfl ?_; refine s_leT 170 (.v (C1 (.slice true 3 [noPnt.cs]))) rfl (.v (.one (.c (le_deep (.cons (.cons (.refl _) (.cons (.refl _) (.cons (.nil 4) .nil))) .nil))))) ?_; refine s_pappend (i := 200) th rfl rfl rfl rfl rfl rfl rfl rfl rfl rfl rfl rfl rfl rfl 0 rfl ⟨(Nat.le_of_ble_eq_true rfl), (Nat.le_of_ble_eq_true rfl)⟩ fun vz => ?_; refine run_ th rfl ?_))
  refine g_freezeQ 55 200 _ rfl rfl rfl rfl rfl rfl (.cons (.cons (.refl _) (.cons (.refl _) (.cons (.row List.mem_cons_self) (.refl _)))) (.refl _)) ?_
  refine g_freezeQ 88 200 _ rfl rfl rfl rfl rfl rfl (.cons (.refl _) (.cons (.cons (.refl _) (.cons (.refl _) (.cons (.row List.mem_cons_self) (.refl _)))) (.refl _))) ?_
  exact g_endM (hd := hd) th Tryz.func68 (vr, vz) (.inr ⟨_, rfl⟩) rfl rfl rfl rfl ⟨rfl, rfl, rfl, trivial⟩ rfl rfl rfl trivial
theorem one_arm {n kd nx : Int} {s nm : ByteArray} (hs : nameB s = true) (hc : carB kd nm = true) (h : 0 ≤ nx ∧ nx < n) : armsOK n [⟨s, kd, nm, nx⟩] = true := by
  unfold armsOK armB
  simp [hs, hc, h]
theorem two_arms {n kd nx kd' nx' : Int} {s nm s' nm' : ByteArray} (hne : s ≠ s') (hs : nameB s = true) (hc : carB kd nm = true) (h : 0 ≤ nx ∧ nx < n) (hs' : nameB s' = true) (hc' : carB kd' nm' = true) (h' : 0 ≤ nx' ∧ nx' < n) :
    armsOK n [⟨s, kd, nm, nx⟩, ⟨s', kd', nm', nx'⟩] = true := by
  unfold armsOK armB
  simp [hs, hc, h, hs', hc', h', hne]
theorem pnt_of {many : Nat} (hm : 2 ≤ many ∧ many ≤ 5) {n : Int} {a b : Nat} (ha : a < many) (hb : b < many) (hne : a ≠ b) {arms : List Arm} (h : armsOK n arms = true) : pntB (rolesL.take many) n ⟨roleN a, roleN b, arms⟩ = true := by
  unfold pntB
  simp only
  rw [roleN_place hm _ ha, roleN_place hm _ hb, h, decide_eq_true (show (0 : Int) ≤ (a : Int) by omega), decide_eq_true (show (0 : Int) ≤ (b : Int) by omega), decide_eq_true (show roleN a ≠ roleN b from fun e => hne (roleN_inj hm _ _ ha hb e))]
  simp
theorem rndP_len {many : Nat} (hm : 2 ≤ many) (b : Bool) (go quit : ByteArray) (c : Int) (cs : List (Int × ByteArray)) (d : Int) : (rndP many b go quit c cs d).length = if b then 2 * many - 1 else 2 * many - 2 := by
  unfold rndP
  cases b <;> simp <;> omega
theorem rndP_ok {many : Nat} (hm : 2 ≤ many ∧ many ≤ 5) (b : Bool) {go quit : ByteArray} {c d : Int} {cs : List (Int × ByteArray)} (hg : nameB go = true) (hq : nameB quit = true) (hgq : go ≠ quit) (hc : carB c ⟨#[]⟩ = true) (hd : carB d ⟨#[]⟩ = true)
    (hcs : ∀ i, carB (cs.getD i (0, ⟨#[]⟩)).1 (cs.getD i (0, ⟨#[]⟩)).2 = true ∧ (cs.getD i (0, ⟨#[]⟩)).2.size ≤ 1000) {n : Int} (hn : n = ((if b then 2 * many - 1 else 2 * many - 2 : Nat) : Int)) :
    ∀ x ∈ rndP many b go quit c cs d, pntB (rolesL.take many) n x = true ∧ ∀ a ∈ x.arms, a.name.size ≤ 1000 := by
  intro x hx
  have h0 : carB 0 ⟨#[]⟩ = true := rfl
  have hz : (⟨#[]⟩ : ByteArray).size ≤ 1000 := by decide
  have h2 : 2 * (many : Int) - 2 ≤ n := by cases b <;> simp at hn <;> omega
  have h2t : b = true → 2 * (many : Int) - 1 ≤ n := fun e => by subst e; simp at hn; omega
  unfold rndP at hx
  rcases List.mem_append.1 hx with hx | hx
  · rcases List.mem_append.1 hx with hx | hx
    · rcases List.mem_append.1 hx with hx | hx
      · rcases List.mem_cons.1 hx with rfl | hx
        · refine ⟨pnt_of hm (by omega) (by omega) (by omega) (two_arms hgq hg hc ?_ hq h0 ?_), fun a ha => ?_⟩
          · cases b
            · simp only [Bool.false_or]
              cases hb : Nat.blt 2 many
              · simp; omega
              · have := Nat.blt_eq.mp hb; simp; omega
            · simp; omega
          · cases b
            · simp; omega
            · have := h2t rfl; simp; omega
          · simp at ha
            rcases ha with rfl | rfl <;> exact hz
        · obtain ⟨i, hi, rfl⟩ := List.mem_map.1 hx
          have hi := List.mem_range.1 hi
          refine ⟨pnt_of hm (by omega) (by omega) (by omega) (one_arm hg (hcs i).1 ?_), fun a ha => ?_⟩
          · cases b
            · simp only [Bool.false_or]
              cases hb : Nat.blt (i + 3) many
              · simp; omega
              · have := Nat.blt_eq.mp hb; simp; omega
            · simp; omega
          · simp at ha
            subst ha; exact (hcs i).2
      · cases b with
        | false => simp at hx
        | true =>
          simp at hx
          subst hx
          refine ⟨pnt_of hm (by omega) (by omega) (by omega) (one_arm (by decide) hd ?_), fun a ha => ?_⟩
          · simp; omega
          · simp at ha; subst ha; exact hz
    · obtain ⟨i, hi, rfl⟩ := List.mem_map.1 hx
      have hi := List.mem_range.1 hi
      refine ⟨pnt_of hm (by omega) (by omega) (by omega) (one_arm hq h0 ?_), fun a ha => ?_⟩
      · cases b
        · simp; omega
        · have := h2t rfl; simp; omega
      · simp at ha; subst ha; exact hz
  · rw [List.mem_singleton] at hx
    subst hx
    exact ⟨rfl, fun a ha => by cases ha⟩
theorem rndGo_or (l : List Int) (k : Nat) : rndGo l k = ⟨#[119]⟩ ∨ rndGo l k = ⟨#[120]⟩ := by
  have h := pk_range l k (n := 2) (by omega) (by omega)
  unfold rndGo
  have : (pkV l k 2).toNat = 0 ∨ (pkV l k 2).toNat = 1 := by omega
  rcases this with e | e <;> rw [e]
  · exact .inl rfl
  · exact .inr rfl
theorem rndQuit_or (l : List Int) (k : Nat) : rndQuit l k = ⟨#[121]⟩ ∨ rndQuit l k = ⟨#[122]⟩ := by
  have h := pk_range l (pkA l k) (n := 2) (by omega) (by omega)
  unfold rndQuit
  have : (2 + pkV l (pkA l k) 2).toNat = 2 ∨ (2 + pkV l (pkA l k) 2).toNat = 3 := by omega
  rcases this with e | e <;> rw [e]
  · exact .inl rfl
  · exact .inr rfl
theorem data_car (l : List Int) (k : Nat) : carB (dataV l k) ⟨#[]⟩ = true := by
  have := data_range l k
  rw [carB_data _ this.1 this.2]; rfl
theorem carS_ok {types : List ByteArray} (ht : TypesOK types) (hl : types.length ≤ 1000) (l : List Int) (k : Nat) : ∀ i, ∀ x ∈ (carS types l k i).1, carB x.1 x.2 = true ∧ x.2.size ≤ 1000
  | 0, x, h => by cases h
  | i + 1, x, h => by
    rw [carS] at h
    rcases List.mem_append.1 h with h | h
    · exact carS_ok ht hl l k i x h
    · rw [List.mem_singleton] at h; subst h; exact carV_ok ht hl l _
theorem rndV_ok {name : ByteArray} (hn : nameB name = true) {types : List ByteArray} (ht : TypesOK types) (hl : types.length ≤ 1000) (l : List Int) (k : Nat) {many : Nat} (hm : 2 ≤ many ∧ many ≤ 5) : prtB (rndV name types l many k).1 = true ∧ PrtBig (rndV name types l many k).1 := by
  have hlen : (rndV name types l many k).1.points.length = if rndB l k then 2 * many - 1 else 2 * many - 2 := rndP_len hm.1 _ _ _ _ _ _
  have hcs : ∀ i, carB ((carS types l (rnd4 l k) (many - 2)).1.getD i (0, ⟨#[]⟩)).1 ((carS types l (rnd4 l k) (many - 2)).1.getD i (0, ⟨#[]⟩)).2 = true ∧ ((carS types l (rnd4 l k) (many - 2)).1.getD i (0, ⟨#[]⟩)).2.size ≤ 1000 := fun i => by
    rw [List.getD_eq_getElem?_getD]
    cases hx : (carS types l (rnd4 l k) (many - 2)).1[i]? with
    | none => exact ⟨rfl, by decide⟩
    | some x => exact carS_ok ht hl l _ _ x (List.mem_of_getElem? hx)
  have hall := rndP_ok hm (rndB l k) (go := rndGo l k) (quit := rndQuit l k) (c := dataV l (pkA l (pkA l (pkA l k)))) (d := dataV l (carS types l (rnd4 l k) (many - 2)).2) (cs := (carS types l (rnd4 l k) (many - 2)).1)
    (by rcases rndGo_or l k with e | e <;> rw [e] <;> decide) (by rcases rndQuit_or l k with e | e <;> rw [e] <;> decide)
    (by rcases rndGo_or l k with e | e <;> rcases rndQuit_or l k with e' | e' <;> rw [e, e'] <;> decide) (data_car l _) (data_car l _) hcs rfl
  obtain ⟨ho, hnm, hrl⟩ := roleN_once hm
  have h24 : 1 ≤ (if rndB l k then 2 * many - 1 else 2 * many - 2) ∧ (if rndB l k then 2 * many - 1 else 2 * many - 2) ≤ 24 := by cases rndB l k <;> simp <;> omega
  refine ⟨?_, fun x hx a ha => Nat.le_trans ((hall x hx).2 a ha) (by decide)⟩
  unfold prtB
  rw [hlen, show (rndV name types l many k).1.roles = rolesL.take many from rfl, hrl]
  rw [show nameB (rndV name types l many k).1.name = true from hn, decide_eq_true hm.1, decide_eq_true hm.2, ho, hnm, decide_eq_true h24.1, decide_eq_true h24.2]
  simp only [Bool.true_and, List.all_eq_true]
  exact fun x hx => (hall x hx).1
theorem ConM.args {P : Program} {f : FuncId} {pre : MM} {args args' : List SV} {ι : Type} {Q : ι → Prop} {res : ι → ST} {post : ι → MM} (h : ConM P f pre args Q res post) (hl : LeVs args' args) : ConM P f pre args' Q res post :=
  ⟨h.ok, fun w M0 H Z vs hpre hp => h.calls w M0 H Z vs hpre (LeVs.rep hl hp)⟩
theorem rnd3_c (name : ByteArray) (types : List ByteArray) (ht : types.length ≤ 1000) (l : List Int) (k : Nat) (hk : k ≤ l.length) :
    ConM Tryz.prog 68 [(given, .box ((diceX l k).map SC.c))] [.one (.ptr given 0), C1 (.str name), C1 (.int .i64 ((3 : Nat) : Int)), C1 (namesT types)]
      (fun _ : PV => True) (fun v => .v (.agg [.c (.str name), .c (.val v.1), .c (.val v.2)])) (fun v => [(given, .box ((diceX l (rndV name types l 3 k).2).map SC.c)), (22, .pool 9 1 [(v.1, (rolesL.take 3).map fun s => [CT.str s])]), (200, .pool 52 3 [(v.2, (rndV name types l 3 k).1.points.map Pnt.cs)])]) := by
  by_cases hb : pkV l (pkA l (pkA l k)) 2 = 1
  · exact rnd3t_c name types ht l k hk hb
  · exact rnd3f_c name types ht l k hk hb
end Go.Sy

/- Contracts: own, its outcome as a row of one's own. -/
set_option linter.unusedSimpArgs false
set_option linter.unusedVariables false
set_option linter.unusedSectionVars false
namespace Go.Sy
open Go.Proofs
set_option maxRecDepth 100000
attribute [local irreducible] SOps Goes DOps EOps GOps
set_option maxHeartbeats 8000000 in
theorem own_cO (p : Prt) (hv : prtB p = true) (role : ByteArray) (way : List ByteArray) (hwl : way.length ≤ 1000) {got : List ByteArray} (hgot : ownL p role 0 way = some got) :
    ConO Tryz.prog 22 [Ag p.cs, C1 (.str role), C1 (namesT way)] (fun _ : Value => True) (fun v => .tup [C1 (.val v), C1 (.bool true)]) (fun v => [(9, 1, [(v, got.map fun s => [CT.str s])])]) := by
  have hpl := prt_len hv
  have hpin := prt_in hv
  refine conO_of (c := _) Tryz.func22 rfl rfl rfl (by decide) fun w M0 H => ?_
  repeat' (first
   | refine gc_ rfl ?_
   | (refine g_region ?_; refine run_ th rfl ?_)
   | (refine g_drawC mix rfl rfl ?_; refine drun_ th rfl ?_)
   | (refine g_drawEC mix rfl rfl ?_; refine erun_ th rfl ?_)
   | refine SOps.nil ?_
   | refine DOps.nil ?_
   | refine EOps.nil ?_ rfl rfl
   | (refine s_split rfl rfl (fun hb => ?_) (fun hb => ?_) <;> (try simp only [hbL] at hb) <;> first | (exfalso; omega) | refine run_ th rfl ?_)
   | (refine d_split rfl rfl rfl (fun hb => ?_) (fun hb => ?_) <;> (try simp only [hbL] at hb) <;> first | (exfalso; omega) | refine drun_ th rfl ?_)
   | (refine g_if rfl (fun hb => ?_) (fun hb => ?_) <;> (try simp only [hbL] at hb) <;> (try (exfalso; omega))))
  refine g_adopt 9 290 9 1 rfl rfl rfl ?_
  refine g_loop2 (fun (i : Nat) (s : Int × List ByteArray) => i ≤ way.length ∧ (0 ≤ s.1 ∧ s.1 < (p.points.length : Int)) ∧ s.2.length ≤ i ∧ ownL p role 0 way = (ownL p role s.1 (way.drop i)).map (s.2 ++ ·))
    (fun i s => [(1, .v (C1 (.str role))), (2, .v (C1 (namesT way))), (3, .v (.one (.ptr 3 0))), (8, .v (C1 (.int .i64 s.1))), (9, .v (.one (.own 290))), (10, .v (C1 (.int .i64 (i : Int))))])
    (fun i s => [(3, .box (p.cs.map SC.c)), (290, .arr false 9 1 (s.2.map fun s => [CT.str s]))])
    (fun i _ => way.length - i) 0 (0, []) ⟨Nat.zero_le _, ⟨Int.le_refl _, by simp only; omega⟩, Nat.le_refl _, by simp⟩
    (fun a w h => h.sub (by exact ⟨⟨_, rfl, .refl _⟩, ⟨_, rfl, .refl _⟩, ⟨_, rfl, .refl _⟩, ⟨_, rfl, le_int rfl⟩, ⟨_, rfl, .refl _⟩, ⟨_, rfl, le_int rfl⟩, trivial⟩) (by exact ⟨⟨_, rfl, .refl _⟩, ⟨_, rfl, le_arr rfl⟩, trivial⟩) rfl rfl rfl) (fun i s hi ih => ?_)
  obtain ⟨x, mine⟩ := s
  obtain ⟨hi, hxr, hml, hst⟩ := hi
  simp only at hxr hml hst ⊢
  by_cases hlt : i < way.length
  · have hxp := pntAt_get hxr
    have hxw : (way.map fun s => [CT.str s])[i]? = some [.str way[i]] := by simp [hlt]
    obtain ⟨h6, hnd⟩ := pnt_arms6 hv x
    have hnx : ∀ a ∈ (pntAt p x).arms, 0 ≤ a.next ∧ a.next < (p.points.length : Int) := fun a ha => hpin x a ha
    rw [List.drop_eq_getElem_cons hlt, ownL, armsAt_prt] at hst
    have hlf := last_find way[i] (pntAt p x).arms (-1) hnd
    have hih := fun x2 m2 h => ih (i + 1) (x2, m2) ⟨hlt, h⟩ (by omega)
    obtain ⟨y, hy⟩ : ∃ y, y = pntAt p x := ⟨_, rfl⟩
    obtain ⟨z, hz⟩ : ∃ z, z = way[i] := ⟨_, rfl⟩
    rw [← hy] at hxp h6 hnx hst hlf
    rw [← hz] at hxw hst hlf
    clear hy hz hnd ih hpin
    repeat' (first
     | refine gc_ rfl ?_
     | (refine g_region ?_; refine run_ th rfl ?_)
     | (refine g_drawC mix rfl rfl ?_; refine drun_ th rfl ?_)
     | (refine g_drawEC mix rfl rfl ?_; refine erun_ th rfl ?_)
     | refine SOps.nil ?_
     | refine DOps.nil ?_
     | refine EOps.nil ?_ rfl rfl
     | (refine s_split rfl rfl (fun hb => ?_) (fun hb => ?_) <;> (try simp only [hbL] at hb) <;> first | (exfalso; omega) | refine run_ th rfl ?_)
     | (refine d_split rfl rfl rfl (fun hb => ?_) (fun hb => ?_) <;> (try simp only [hbL] at hb) <;> first | (exfalso; omega) | refine drun_ th rfl ?_)
     | (refine g_if rfl (fun hb => ?_) (fun hb => ?_) <;> (try simp only [hbL] at hb) <;> (try (exfalso; omega)))
     | (refine s_idx th rfl rfl rfl rfl rfl rfl rfl rfl rfl x.toNat _ (by omega) hxp ?_; refine run_ th rfl ?_))
    refine g_loop1 (fun k : Nat => k ≤ y.arms.length)
      (fun k => [(1, .v (C1 (.str role))), (2, .v (C1 (namesT way))), (3, .v (.one (.ptr 3 0))), (8, .v (C1 (.int .i64 x))), (9, .v (.one (.own 290))), (10, .v (C1 (.int .i64 (i : Int)))), (11, .v (C1 (.int .i64 (lastN (y.arms.take k) z (-1))))), (12, .v (.one (.ptr 12 0))), (13, .v (C1 (.int .i64 (k : Int))))])
      (fun _ => [(3, .box (p.cs.map SC.c)), (12, .box (y.cs.map SC.c)), (290, .arr false 9 1 (mine.map fun s => [CT.str s]))])
      (fun k => y.arms.length - k) 0 (Nat.zero_le _)
      (fun a w h => h.sub (by exact ⟨⟨_, rfl, .refl _⟩, ⟨_, rfl, .refl _⟩, ⟨_, rfl, .refl _⟩, ⟨_, rfl, .refl _⟩, ⟨_, rfl, .refl _⟩, ⟨_, rfl, .refl _⟩, ⟨_, rfl, le_int rfl⟩, ⟨_, rfl, .refl _⟩, ⟨_, rfl, le_int rfl⟩, trivial⟩) (by exact ⟨⟨_, rfl, .refl _⟩, ⟨_, rfl, .refl _⟩, ⟨_, rfl, .refl _⟩, trivial⟩) rfl rfl rfl) (fun k hk ihk => ?_)
    by_cases hkl : k < y.arms.length
    · have hxk : (y.arms.map Arm.cs)[k]? = some (y.arms[k]).cs := by simp [hkl]
      have hihk := ihk (k + 1) hkl (by omega)
      rw [lastN_snoc hkl] at hihk
      obtain ⟨b1, hb1⟩ : ∃ b, b = y.arms[k] := ⟨_, rfl⟩
      rw [← hb1] at hxk hihk
      clear hb1 ihk hih hst
      by_cases hbl : b1.label = z
      · rw [if_pos hbl] at hihk
        repeat' (first
         | refine gc_ rfl ?_
         | (refine g_region ?_; refine run_ th rfl ?_)
         | (refine g_drawC mix rfl rfl ?_; refine drun_ th rfl ?_)
         | (refine g_drawEC mix rfl rfl ?_; refine erun_ th rfl ?_)
         | refine SOps.nil ?_
         | refine DOps.nil ?_
         | refine EOps.nil ?_ rfl rfl
         | (refine s_split rfl rfl (fun hb => ?_) (fun hb => ?_) <;> (try simp only [hbL] at hb) <;> first | (exfalso; omega) | refine run_ th rfl ?_)
         | (refine d_split rfl rfl rfl (fun hb => ?_) (fun hb => ?_) <;> (try simp only [hbL] at hb) <;> first | (exfalso; omega) | refine drun_ th rfl ?_)
         | (refine g_if rfl (fun hb => ?_) (fun hb => ?_) <;> (try simp only [hbL] at hb) <;> (try (exfalso; omega)))
         | (refine d_idx th rfl rfl rfl rfl rfl rfl rfl rfl rfl k _ rfl hxk ?_; refine drun_ th rfl ?_)
         | (refine d_idx th rfl rfl rfl rfl rfl rfl rfl rfl rfl i _ rfl hxw ?_; refine drun_ th rfl ?_)
         | (refine s_idx th rfl rfl rfl rfl rfl rfl rfl rfl rfl k _ rfl hxk ?_; refine run_ th rfl ?_)
         | (refine s_add rfl rfl rfl rfl rfl rfl (by omega) ?_; refine run_ th rfl ?_))
        all_goals first
          | (exfalso; contradiction)
          | (exfalso; simp only [List.length_map] at hb; omega)
          | exact g_sub (by exact ⟨⟨_, rfl, .refl _⟩, ⟨_, rfl, .refl _⟩, ⟨_, rfl, .refl _⟩, ⟨_, rfl, .refl _⟩, ⟨_, rfl, .refl _⟩, ⟨_, rfl, .refl _⟩, ⟨_, rfl, .refl _⟩, ⟨_, rfl, .refl _⟩, ⟨_, rfl, le_int (by omega)⟩, trivial⟩) (by exact ⟨⟨_, rfl, .refl _⟩, ⟨_, rfl, .refl _⟩, ⟨_, rfl, .refl _⟩, trivial⟩) rfl rfl rfl hihk
      · rw [if_neg hbl] at hihk
        repeat' (first
         | refine gc_ rfl ?_
         | (refine g_region ?_; refine run_ th rfl ?_)
         | (refine g_drawC mix rfl rfl ?_; refine drun_ th rfl ?_)
         | (refine g_drawEC mix rfl rfl ?_; refine erun_ th rfl ?_)
         | refine SOps.nil ?_
         | refine DOps.nil ?_
         | refine EOps.nil ?_ rfl rfl
         | (refine s_split rfl rfl (fun hb => ?_) (fun hb => ?_) <;> (try simp only [hbL] at hb) <;> first | (exfalso; omega) | refine run_ th rfl ?_)
         | (refine d_split rfl rfl rfl (fun hb => ?_) (fun hb => ?_) <;> (try simp only [hbL] at hb) <;> first | (exfalso; omega) | refine drun_ th rfl ?_)
         | (refine g_if rfl (fun hb => ?_) (fun hb => ?_) <;> (try simp only [hbL] at hb) <;> (try (exfalso; omega)))
         | (refine d_idx th rfl rfl rfl rfl rfl rfl rfl rfl rfl k _ rfl hxk ?_; refine drun_ th rfl ?_)
         | (refine d_idx th rfl rfl rfl rfl rfl rfl rfl rfl rfl i _ rfl hxw ?_; refine drun_ th rfl ?_)
         | (refine s_idx th rfl rfl rfl rfl rfl rfl rfl rfl rfl k _ rfl hxk ?_; refine run_ th rfl ?_)
         | (refine s_add rfl rfl rfl rfl rfl rfl (by omega) ?_; refine run_ th rfl ?_))
        all_goals first
          | (exfalso; contradiction)
          | (exfalso; simp only [List.length_map] at hb; omega)
          | exact g_sub (by exact ⟨⟨_, rfl, .refl _⟩, ⟨_, rfl, .refl _⟩, ⟨_, rfl, .refl _⟩, ⟨_, rfl, .refl _⟩, ⟨_, rfl, .refl _⟩, ⟨_, rfl, .refl _⟩, ⟨_, rfl, .refl _⟩, ⟨_, rfl, .refl _⟩, ⟨_, rfl, le_int (by omega)⟩, trivial⟩) (by exact ⟨⟨_, rfl, .refl _⟩, ⟨_, rfl, .refl _⟩, ⟨_, rfl, .refl _⟩, trivial⟩) rfl rfl rfl hihk
    · rw [List.take_of_length_le (by omega), hlf]
      cases hf : y.arms.find? (fun a => decide (a.label = z)) with
      | none =>
        rw [hf] at hst
        simp only [Option.map_none] at hst
        rw [hst] at hgot; cases hgot
      | some a =>
        rw [hf] at hst
        simp only at hst ⊢
        have hax := hnx a (List.mem_of_find?_eq_some hf)
        clear hf hlf hnx
        cases hin : inP y role with
        | true =>
          rw [hin] at hst
          have hih2 := hih a.next (mine ++ [z]) ⟨hax, by simp; omega, by rw [hst, Option.map_map]; congr 1; funext r; simp⟩
          rw [show ((a.next, mine ++ [z]) : Int × List ByteArray).2.map (fun s => [CT.str s]) = mine.map (fun s => [CT.str s]) ++ [[.str z]] by simp] at hih2
          clear hih hst
          unfold inP at hin
          simp only [Bool.or_eq_true, decide_eq_true_eq] at hin
          repeat' (first
           | refine gc_ rfl ?_
           | (refine g_region ?_; refine run_ th rfl ?_)
           | (refine g_drawC mix rfl rfl ?_; refine drun_ th rfl ?_)
           | (refine g_drawEC mix rfl rfl ?_; refine erun_ th rfl ?_)
           | refine SOps.nil ?_
           | refine DOps.nil ?_
           | refine EOps.nil ?_ rfl rfl
           | (refine s_split rfl rfl (fun hb => ?_) (fun hb => ?_) <;> (try simp only [hbL] at hb) <;> first | (exfalso; omega) | refine run_ th rfl ?_)
           | (refine d_split rfl rfl rfl (fun hb => ?_) (fun hb => ?_) <;> (try simp only [hbL] at hb) <;> first | (exfalso; omega) | refine drun_ th rfl ?_)
           | (refine g_if rfl (fun hb => ?_) (fun hb => ?_) <;> (try simp only [hbL] at hb) <;> (try (exfalso; omega)))
           | (refine s_idx th rfl rfl rfl rfl rfl rfl rfl rfl rfl i _ rfl hxw ?_; refine run_ th rfl ?_)
           | (refine s_append th rfl rfl rfl rfl rfl rfl rfl rfl rfl rfl rfl rfl rfl rfl rfl (by constructor <;> simp <;> omega) ?_; refine run_ th rfl ?_)
           | (refine s_add rfl rfl rfl rfl rfl rfl (by omega) ?_; refine run_ th rfl ?_))
          all_goals first
            | (exfalso; omega)
            | (exfalso; exact hin.elim (by assumption) (by assumption))
            | (exfalso; simp only [List.length_map] at hb; omega)
            | exact g_sub (by exact ⟨⟨_, rfl, .refl _⟩, ⟨_, rfl, .refl _⟩, ⟨_, rfl, .refl _⟩, ⟨_, rfl, .refl _⟩, ⟨_, rfl, .refl _⟩, ⟨_, rfl, le_int (by omega)⟩, trivial⟩) (by exact ⟨⟨_, rfl, .refl _⟩, ⟨_, rfl, .refl _⟩, trivial⟩) rfl rfl rfl hih2
        | false =>
          rw [hin] at hst
          have hih2 := hih a.next mine ⟨hax, (show mine.length ≤ i + 1 by omega), by rw [hst, Option.map_map]; first | rfl | (congr 1; funext r; simp)⟩
          clear hih hst
          unfold inP at hin
          simp only [Bool.or_eq_false_iff, decide_eq_false_iff_not] at hin
          obtain ⟨hin1, hin2⟩ := hin
          repeat' (first
           | refine gc_ rfl ?_
           | (refine g_region ?_; refine run_ th rfl ?_)
           | (refine g_drawC mix rfl rfl ?_; refine drun_ th rfl ?_)
           | (refine g_drawEC mix rfl rfl ?_; refine erun_ th rfl ?_)
           | refine SOps.nil ?_
           | refine DOps.nil ?_
           | refine EOps.nil ?_ rfl rfl
           | (refine s_split rfl rfl (fun hb => ?_) (fun hb => ?_) <;> (try simp only [hbL] at hb) <;> first | (exfalso; omega) | refine run_ th rfl ?_)
           | (refine d_split rfl rfl rfl (fun hb => ?_) (fun hb => ?_) <;> (try simp only [hbL] at hb) <;> first | (exfalso; omega) | refine drun_ th rfl ?_)
           | (refine g_if rfl (fun hb => ?_) (fun hb => ?_) <;> (try simp only [hbL] at hb) <;> (try (exfalso; omega)))
           | (refine s_idx th rfl rfl rfl rfl rfl rfl rfl rfl rfl i _ rfl hxw ?_; refine run_ th rfl ?_)
           | (refine s_append th rfl rfl rfl rfl rfl rfl rfl rfl rfl rfl rfl rfl rfl rfl rfl (by constructor <;> simp <;> omega) ?_; refine run_ th rfl ?_)
           | (refine s_add rfl rfl rfl rfl rfl rfl (by omega) ?_; refine run_ th rfl ?_))
          all_goals first
            | (exfalso; omega)
            | (exfalso; contradiction)
            | (exfalso; simp only [List.length_map] at hb; omega)
            | exact g_sub (by exact ⟨⟨_, rfl, .refl _⟩, ⟨_, rfl, .refl _⟩, ⟨_, rfl, .refl _⟩, ⟨_, rfl, .refl _⟩, ⟨_, rfl, .refl _⟩, ⟨_, rfl, le_int (by omega)⟩, trivial⟩) (by exact ⟨⟨_, rfl, .refl _⟩, ⟨_, rfl, .refl _⟩, trivial⟩) rfl rfl rfl hih2
  · rw [List.drop_eq_nil_of_le (by omega), ownL, Option.map_some, List.append_nil] at hst
    rw [hst] at hgot
    injection hgot with hgot
    rw [← hgot]
    clear ih hst
    repeat' (first
     | (refine g_atR 18 rfl ?_; refine g_toPool 290 rfl rfl fun v => ?_)
     | refine gc_ rfl ?_
     | (refine g_region ?_; refine run_ th rfl ?_)
     | (refine g_drawC mix rfl rfl ?_; refine drun_ th rfl ?_)
     | (refine g_drawEC mix rfl rfl ?_; refine erun_ th rfl ?_)
     | refine SOps.nil ?_
     | refine DOps.nil ?_
     | refine EOps.nil ?_ rfl rfl
     | (refine s_split rfl rfl (fun hb => ?_) (fun hb => ?_) <;> (try simp only [hbL] at hb) <;> first | (exfalso; omega) | refine run_ th rfl ?_)
     | (refine d_split rfl rfl rfl (fun hb => ?_) (fun hb => ?_) <;> (try simp only [hbL] at hb) <;> first | (exfalso; omega) | refine drun_ th rfl ?_)
     | (refine g_if rfl (fun hb => ?_) (fun hb => ?_) <;> (try simp only [hbL] at hb) <;> (try (exfalso; omega))))
    all_goals first
      | exact g_endO th Tryz.func22 [290] v (.inr ⟨_, rfl⟩) rfl rfl rfl rfl rfl rfl trivial
      | (exfalso; simp only [List.length_map] at hb; omega)
set_option maxHeartbeats 16000000 in
theorem prot13_c (name : ByteArray) (types : List ByteArray) (ht : types.length ≤ 1000) (l : List Int) (k : Nat) (hk : k ≤ l.length) (h1 : pkV l k 4 = 1) (h2 : pkV l (pkA l k) 3 = 1) :
    ConM Tryz.prog 34 [(given, .box ((diceX l k).map SC.c))] [.one (.ptr given 0), C1 (.str name), C1 (namesT types)]
      (fun _ : PV => True) (fun v => .v (.agg [.c (.str name), .c (.val v.1), .c (.val v.2)])) (fun v => [(given, .box ((diceX l (rndV name types l 3 (pkA l (pkA l k))).2).map SC.c)), (22, .pool 9 1 [(v.1, (rolesL.take 3).map fun s => [CT.str s])]), (200, .pool 52 3 [(v.2, (rndV name types l 3 (pkA l (pkA l k))).1.points.map Pnt.cs)])]) := by
  have hp := pickx_c l k hk 4 (by omega) (by omega)
  rw [h1] at hp
  have hp2 := pickx_c l (pkA l k) (pkA_le hk) 3 (by omega) (by omega)
  rw [h2] at hp2
  have hr := rnd3_c name types ht l (pkA l (pkA l k)) (pkA_le (pkA_le hk))
  refine conM_of (c := _) Tryz.func34 rfl rfl rfl (by decide) rfl fun w M0 H Z hd => ?_
  obtain ⟨q, hq⟩ : ∃ q, q = rndV name types l 3 (pkA l (pkA l k)) := ⟨_, rfl⟩
  rw [← hq] at hr ⊢
  repeat' (first
   | refine gc_ rfl ?_
   | (refine g_region ?_; refine run_ th rfl ?_)
   | (refine g_drawC mix rfl rfl ?_; refine drun_ th rfl ?_)
   | (refine g_drawEC mix rfl rfl ?_; refine erun_ th rfl ?_)
   | refine SOps.nil ?_
   | refine DOps.nil ?_
   | refine EOps.nil ?_ rfl rfl
   | (refine s_split rfl rfl (fun hb => ?_) (fun hb => ?_) <;> (try simp only [hbL] at hb) <;> first | (exfalso; omega) | refine run_ th rfl ?_)
   | (refine d_split rfl rfl rfl (fun hb => ?_) (fun hb => ?_) <;> (try simp only [hbL] at hb) <;> first | (exfalso; omega) | refine drun_ th rfl ?_)
   | (refine g_if rfl (fun hb => ?_) (fun hb => ?_) <;> (try simp only [hbL] at hb) <;> (try (exfalso; omega)))
   | (refine s_call hp [given] rfl rfl rfl rfl rfl rfl rfl rfl rfl rfl ?_; refine run_ th rfl ?_)
   | (refine s_call hp2 [given] rfl rfl rfl rfl rfl rfl rfl rfl rfl rfl ?_; refine run_ th rfl ?_)
   | (refine s_add rfl rfl rfl rfl rfl rfl (by omega) ?_; rw [show (2 + 1 : Int) = ((3 : Nat) : Int) from rfl]; refine run_ th rfl ?_)
   | (refine s_callM hr [(given, given)] rfl rfl rfl rfl ⟨rfl, trivial⟩ ⟨rfl, rfl, rfl, rfl, rfl⟩ (fun _ => ⟨rfl, rfl, rfl, rfl, rfl, rfl, rfl⟩) (fun _ => rfl) (fun _ => rfl) rfl rfl rfl (fun v _ => ?_); refine run_ th rfl ?_))
  all_goals first
    | (exfalso; revert hb; simp; done)
    | exact g_endM (hd := hd) th Tryz.func34 v (.inr ⟨_, rfl⟩) rfl rfl rfl rfl ⟨rfl, rfl, rfl, trivial⟩ rfl rfl rfl trivial
def pr11 (made : List Int) : Prt := (rndV ⟨#[112]⟩ types8 (1 :: 1 :: made) 3 (pkA (1 :: 1 :: made) (pkA (1 :: 1 :: made) 0))).1
theorem pick11a (made : List Int) : pkV (1 :: 1 :: made) 0 4 = 1 := by
  show IntKind.i64.wrap ((IntKind.u64.wrap 1).tmod (IntKind.u64.wrap 4)) = 1
  decide
theorem pick11b (made : List Int) : pkV (1 :: 1 :: made) (pkA (1 :: 1 :: made) 0) 3 = 1 := by
  rw [show pkA (1 :: 1 :: made) 0 = 1 by unfold pkA; rw [if_pos (by simp)]]
  show IntKind.i64.wrap ((IntKind.u64.wrap 1).tmod (IntKind.u64.wrap 3)) = 1
  decide
theorem pr11_ok (made : List Int) : prtB (pr11 made) = true ∧ PrtBig (pr11 made) := rndV_ok (by decide) types8_ok (by decide) _ _ (by omega)
set_option maxHeartbeats 16000000 in
theorem prot811_c (p0 : Prt) (made : List Int) (hbig : (made.length + 2) * 8 ≤ 140737488355328) : Con Tryz.prog 12 [] [Ag p0.cs, C1 (intsT (1 :: 1 :: made))] (.v (Ag (pr11 made).cs)) [] := by
  have hp := prot13_c ⟨#[112]⟩ types8 (by decide) (1 :: 1 :: made) 0 (Nat.zero_le _) (pick11a made) (pick11b made)
  have hnm : (pr11 made).name = ⟨#[112]⟩ := rfl
  have hro : (pr11 made).roles = rolesL.take 3 := rfl
  rw [show (rndV ⟨#[112]⟩ types8 (1 :: 1 :: made) 3 (pkA (1 :: 1 :: made) (pkA (1 :: 1 :: made) 0))).1 = pr11 made from rfl] at hp
  rw [← hro] at hp
  rw [show (pr11 made).cs = [.str ⟨#[112]⟩, namesT (pr11 made).roles, pointsC (pr11 made).points] from rfl]
  generalize (rndV ⟨#[112]⟩ types8 (1 :: 1 :: made) 3 (pkA (1 :: 1 :: made) (pkA (1 :: 1 :: made) 0))).2 = q at hp
  generalize pr11 made = p at hp ⊢
  refine con_of (c := _) Tryz.func12 rfl rfl rfl (by decide) fun w M0 H Z => ?_
  refine g_len 1 rfl fun hll => ?_
  simp only [List.length_map] at hll
  repeat' (first
   | refine gc_ rfl ?_
   | (refine g_region ?_; refine run_ th rfl ?_)
   | (refine g_drawC mix rfl rfl ?_; refine drun_ th rfl ?_)
   | (refine g_drawEC mix rfl rfl ?_; refine erun_ th rfl ?_)
   | refine SOps.nil ?_
   | refine DOps.nil ?_
   | refine EOps.nil ?_ rfl rfl
   | (refine s_split rfl rfl (fun hb => ?_) (fun hb => ?_) <;> (try simp only [hbL] at hb) <;> first | (exfalso; omega) | refine run_ th rfl ?_)
   | (refine d_split rfl rfl rfl (fun hb => ?_) (fun hb => ?_) <;> (try simp only [hbL] at hb) <;> first | (exfalso; omega) | refine drun_ th rfl ?_)
   | (refine g_if rfl (fun hb => ?_) (fun hb => ?_) <;> (try simp only [hbL] at hb) <;> (try (exfalso; omega)))
   | (refine s_callN (new_c (1 :: 1 :: made) (by simpa using hbig)) rfl rfl rfl rfl rfl rfl rfl ?_; refine run_ th rfl ?_)
   | (refine s_freeze 10 rfl rfl ?_; refine s_leT 10 (.v (C1 (namesT types8))) rfl (.v (.one (.c (.nn true 1 _)))) ?_; refine run_ th rfl ?_)
   | (refine s_callM hp [(given, 9)] rfl rfl rfl rfl ⟨rfl, trivial⟩ ⟨rfl, rfl, rfl, rfl, rfl⟩ (fun _ => ⟨rfl, rfl, rfl, rfl, rfl, rfl, rfl⟩) (fun _ => rfl) (fun _ => rfl) rfl rfl rfl (fun v _ => ?_); refine run_ th rfl ?_))
  all_goals first
    | (exfalso; simp only [List.length_map, List.length_cons] at hb; omega)
    | (refine g_freezeB 22 4 1 rfl rfl rfl rfl rfl rfl rfl ?_
       refine g_freezeB 200 4 2 rfl rfl rfl rfl rfl rfl rfl ?_
       refine g_endL th Tryz.func12 (.inr ⟨_, rfl⟩) rfl rfl rfl ?_ rfl
       exact .refl _)
theorem turn_from {p : Prt} {role : ByteArray} {S : List (List Int)} {l : Loc} (h : Proj p role S l) {y t : Int} (ha : AtT p role S y t) :
    ((pntAt p y).from_ = role → (trnAt l t).kind = 1 ∧ (trnAt l t).peer = (pntAt p y).to ∧ (trnAt l t).arms.length = (pntAt p y).arms.length) ∧
    ((pntAt p y).to = role → (trnAt l t).kind = 2 ∧ (trnAt l t).peer = (pntAt p y).from_ ∧ (pntAt p y).arms.length ≤ (trnAt l t).arms.length) := by
  obtain ⟨h6, hnd⟩ := pnt_arms6 h.may y
  have hc := labsL_count hnd
  constructor
  · intro hf
    have hin : inP (pntAt p y) role = true := by unfold inP; rw [decide_eq_true hf]; rfl
    obtain ⟨m, _, hy, ha⟩ := at_near h ha hin
    have hs := ha.side y hy
    unfold sideAt sideL at hs
    rw [if_pos hf] at hs
    injection hs with h1 h2
    have hk : (trnAt l t).kind = 1 := of_decide_eq_true h1.symm
    refine ⟨hk, h2.symm, ?_⟩
    have hl : (trnAt l t).arms.length = (allL p m).length := by rw [← ha.labs, List.length_map]
    rw [hl, ← ha.says hk y hy, hc]
  · intro ht
    have hin : inP (pntAt p y) role = true := by unfold inP; rw [decide_eq_true ht]; simp
    have hne := (in_pnt h.may h.has hin).ne
    obtain ⟨m, _, hy, ha⟩ := at_near h ha hin
    have hs := ha.side y hy
    unfold sideAt sideL at hs
    rw [if_neg (fun e => hne (e.trans ht.symm))] at hs
    injection hs with h1 h2
    have hk : ¬ (trnAt l t).kind = 1 := of_decide_eq_false h1.symm
    refine ⟨ha.kind.resolve_left hk, h2.symm, ?_⟩
    have hl : (trnAt l t).arms.length = (allL p m).length := by rw [← ha.labs, List.length_map]
    rw [hl, ← hc]
    exact labs_sub hy
set_option maxHeartbeats 32000000 in
theorem projectSteps_c (made labels : List Int) (who : Int) (hbig : (made.length + 2) * 8 ≤ 140737488355328) : Con Tryz.prog 5 [] [C1 (intsT made), C1 (intsT labels), C1 (.int .i64 who)] (Rv (.bool true)) [] := by
  obtain ⟨hv, hB⟩ := pr11_ok made
  have hpr := prot811_c giv8 made hbig
  obtain ⟨p, hp⟩ : ∃ p, p = pr11 made := ⟨_, rfl⟩
  rw [← hp] at hv hB hpr
  have hpl := prt_len hv
  obtain ⟨nr, hnr⟩ : ∃ nr, nr = p.roles.length := ⟨_, rfl⟩
  have hw := pick_v (x := who) (n := (nr : Int)) (by omega) (by omega)
  have hwr : IntKind.u64.wrap ((p.roles.map fun s => [CT.str s]).length : Int) ≠ 0 := by rw [List.length_map, ← hnr, wrapU_id (by omega) (by omega)]; omega
  have hrr : ((p.roles.map fun s => [CT.str s]).length : Int) = (nr : Int) := by rw [List.length_map, hnr]
  obtain ⟨wi, hwi⟩ : ∃ wi : Nat, IntKind.i64.wrap ((IntKind.u64.wrap who).tmod (IntKind.u64.wrap ((p.roles.map fun s => [CT.str s]).length : Int))) = (wi : Int) := by
    rw [hrr]; exact ⟨_, (Int.toNat_of_nonneg hw.1).symm⟩
  have hwl : wi < p.roles.length := by rw [hrr] at hwi; omega
  have hxw : (p.roles.map fun s => [CT.str s])[wi]? = some [.str p.roles[wi]] := by simp [hwl]
  have hmem : p.roles[wi] ∈ p.roles := List.getElem_mem hwl
  obtain ⟨role, hrole⟩ : ∃ r, r = p.roles[wi] := ⟨_, rfl⟩
  rw [← hrole] at hxw hmem
  have hhas := hasB_iff.2 hmem
  have hr1 := role_c p hB role
  have hpj : (roleE p role).2 = 0 → ∃ S, Proj p role S (roleE p role).1 := roleE_ok
  generalize roleE p role = E at hr1 hpj
  obtain ⟨l, e⟩ := E
  simp only at hpj
  clear hp
  refine con_of (c := _) Tryz.func5 rfl rfl rfl (by decide) fun w M0 H Z => ?_
  refine g_len 0 rfl fun hll => ?_
  simp only [List.length_map] at hll
  refine g_len 1 rfl fun hll2 => ?_
  simp only [List.length_map] at hll2
  repeat' (first
   | refine gc_ rfl ?_
   | (refine g_region ?_; refine run_ th rfl ?_)
   | (refine g_drawC mix rfl rfl ?_; refine drun_ th rfl ?_)
   | (refine g_drawEC mix rfl rfl ?_; refine erun_ th rfl ?_)
   | refine SOps.nil ?_
   | refine DOps.nil ?_
   | refine EOps.nil ?_ rfl rfl
   | (refine s_split rfl rfl (fun hb => ?_) (fun hb => ?_) <;> (try simp only [hbL] at hb) <;> first | (exfalso; omega) | refine run_ th rfl ?_)
   | (refine d_split rfl rfl rfl (fun hb => ?_) (fun hb => ?_) <;> (try simp only [hbL] at hb) <;> first | (exfalso; omega) | refine drun_ th rfl ?_)
   | (refine g_if rfl (fun hb => ?_) (fun hb => ?_) <;> (try simp only [hbL] at hb) <;> (try (exfalso; omega)))
   | (refine s_call first8_c [] rfl rfl rfl rfl rfl rfl rfl rfl rfl rfl ?_; refine run_ th rfl ?_)
   | (refine s_call givR_c [] rfl rfl rfl rfl rfl rfl rfl rfl rfl rfl ?_; refine run_ th rfl ?_)
   | (refine s_appendF th rfl rfl rfl rfl rfl rfl rfl rfl rfl rfl rfl rfl rfl rfl (by constructor <;> simp <;> omega) ?_; refine s_freeze 23 rfl rfl ?_; refine run_ th rfl ?_)
   | (refine s_call hpr [] rfl rfl rfl rfl rfl rfl rfl rfl rfl rfl ?_; refine run_ th rfl ?_)
   | (refine d_rem rfl rfl rfl rfl rfl rfl hwr ?_; refine drun_ th rfl ?_)
   | (refine d_idx th rfl rfl rfl rfl rfl rfl rfl rfl rfl wi _ hwi hxw ?_; refine drun_ th rfl ?_)
   | (refine s_call hr1 [] rfl rfl rfl rfl rfl rfl rfl rfl rfl rfl ?_; refine run_ th rfl ?_))
  all_goals first
    | (exfalso; revert hb; simp; done)
    | (refine g_endL th Tryz.func5 (.inr ⟨_, rfl⟩) rfl rfl rfl ?_ rfl
       exact .refl _)
    | skip
  have he : e = 0 := by simpa using hb
  obtain ⟨S, hP⟩ := hpj he
  have hlB := proj_big hP hB
  have hlv := proj_may hP
  clear hpj
  refine g_adopt 11 290 9 1 rfl rfl rfl ?_
  refine g_loop2 (fun (i : Nat) (s : List ByteArray × Int) => (i ≤ labels.length ∧ i ≤ 30) ∧ s.1.length ≤ i ∧ walkG p.g 0 s.1 = some s.2)
    (fun i s => [(1, .v (C1 (intsT labels))), (7, .v (.one (.ptr 7 0))), (8, .v (C1 (.str role))), (9, .v (.one (.ptr 9 0))), (11, .v (.one (.own 290))), (12, .v (C1 (.int .i64 (i : Int))))])
    (fun i s => [(7, .box (p.cs.map SC.c)), (9, .box (l.cs.map SC.c)), (290, .arr false 9 1 (s.1.map fun s => [CT.str s]))])
    (fun i _ => labels.length - i) 0 ([], 0) ⟨⟨Nat.zero_le _, by omega⟩, Nat.le_refl _, rfl⟩
    (fun a w h => h.sub (by exact ⟨⟨_, rfl, .refl _⟩, ⟨_, rfl, .refl _⟩, ⟨_, rfl, .refl _⟩, ⟨_, rfl, .refl _⟩, ⟨_, rfl, .refl _⟩, ⟨_, rfl, le_int rfl⟩, trivial⟩) (by exact ⟨⟨_, rfl, .refl _⟩, ⟨_, rfl, .refl _⟩, ⟨_, rfl, le_arr rfl⟩, trivial⟩) rfl rfl rfl) (fun i s hi ih => ?_)
  obtain ⟨W, y⟩ := s
  obtain ⟨⟨hi1, hi2⟩, hWl, hWk⟩ := hi
  simp only at hWl hWk ⊢
  by_cases hlt : i < labels.length ∧ i < 30
  · obtain ⟨hlt1, hlt2⟩ := hlt
    have hyr := gwalk_rng hv W (x := 0) ⟨by omega, by omega⟩ hWk
    have hgw := gwalk_c p hB W
    rw [show walkP p W = .tup [C1 (.int .i64 y), C1 (.bool true)] by unfold walkP; rw [if_pos hv, hWk]] at hgw
    have hxp := pntAt_get hyr
    obtain ⟨mine, t, hm1, hm2, hm3⟩ := walk_own hP W (at_zero hP) hWk
    have hown := own_cO p hv role W (by omega) hm1
    have htw := twalk_c l hlB mine
    rw [show walkR l mine = .tup [C1 (.int .i64 t), C1 (.bool true)] by unfold walkR; rw [if_pos hlv, hm2]] at htw
    obtain ⟨_, ht0, htl⟩ := at_end hP hm3
    obtain ⟨hF, hT⟩ := turn_from hP hm3
    have hxt : (l.turns.map Trn.cs)[t.toNat]? = some (trnAt l t).cs := by
      have : t.toNat < l.turns.length := by omega
      rw [List.getElem?_map, List.getElem?_eq_getElem this]
      unfold trnAt
      rw [List.getD_eq_getElem?_getD, List.getElem?_eq_getElem this]; rfl
    generalize trnAt l t = T at hF hT hxt
    obtain ⟨h6, hnd⟩ := pnt_arms6 hv y
    obtain ⟨q, hq⟩ : ∃ q, q = pntAt p y := ⟨_, rfl⟩
    rw [← hq] at hxp h6 hnd hF hT
    by_cases hqa : q.arms.length = 0
    · clear ih hnd hq hm1 hm2 hm3
      repeat' (first
       | (refine g_atR 15 rfl ?_; refine g_freezeT 300 16 rfl rfl rfl rfl rfl ?_)
       | refine gc_ rfl ?_
       | (refine g_region ?_; refine run_ th rfl ?_)
       | (refine g_drawC mix rfl rfl ?_; refine drun_ th rfl ?_)
       | (refine g_drawEC mix rfl rfl ?_; refine erun_ th rfl ?_)
       | refine SOps.nil ?_
       | refine DOps.nil ?_
       | refine EOps.nil ?_ rfl rfl
       | (refine s_split rfl rfl (fun hb => ?_) (fun hb => ?_) <;> (try simp only [hbL] at hb) <;> first | (exfalso; omega) | refine run_ th rfl ?_)
       | (refine d_split rfl rfl rfl (fun hb => ?_) (fun hb => ?_) <;> (try simp only [hbL] at hb) <;> first | (exfalso; omega) | refine drun_ th rfl ?_)
       | (refine g_if rfl (fun hb => ?_) (fun hb => ?_) <;> (try simp only [hbL] at hb) <;> (try (exfalso; omega)))
       | (refine s_callL hgw rfl rfl rfl rfl rfl rfl rfl rfl rfl ?_; refine run_ th rfl ?_)
       | (refine s_idx th rfl rfl rfl rfl rfl rfl rfl rfl rfl y.toNat _ (by omega) hxp ?_; refine run_ th rfl ?_)
       | (refine s_callOL hown [300] rfl rfl rfl rfl rfl rfl rfl rfl rfl rfl (fun _ => rfl) (fun _ => rfl) (fun v p hp q hq r hr c hc => by simp at hp; subst hp; simp at hq; subst hq; simp at hr; obtain ⟨z, _, rfl⟩ := hr; simp at hc; subst hc; rfl) (fun v _ => ?_); refine run_ th rfl ?_)
       | (refine s_call htw [] rfl rfl rfl rfl rfl rfl rfl rfl rfl rfl ?_; refine run_ th rfl ?_)
       | (refine d_idx th rfl rfl rfl rfl rfl rfl rfl rfl rfl t.toNat _ (by omega) hxt ?_; refine drun_ th rfl ?_))
      all_goals first
        | (exfalso; revert hb; simp; done)
        | (refine g_endL th Tryz.func5 (.inr ⟨_, rfl⟩) rfl rfl rfl ?_ rfl
           exact .refl _)
        | (exfalso
           first
             | (have hFF := hF (by assumption); first | exact hb hFF.1 | exact hb hFF.2.1 | (have h3 := hFF.2.2; omega))
             | (have hTT := hT (by assumption); first | exact hb hTT.1 | exact hb hTT.2.1 | (have h3 := hTT.2.2; omega)))
    · have hU := pick_v (x := labels[i]) (n := (q.arms.length : Int)) (by omega) (by omega)
      have hUl : ((q.arms.map Arm.cs).length : Int) = (q.arms.length : Int) := by simp
      have hUn : IntKind.u64.wrap ((q.arms.map Arm.cs).length : Int) ≠ 0 := by rw [hUl, wrapU_id (by omega) (by omega)]; omega
      obtain ⟨j, hj⟩ : ∃ j : Nat, IntKind.i64.wrap ((IntKind.u64.wrap labels[i]).tmod (IntKind.u64.wrap ((q.arms.map Arm.cs).length : Int))) = (j : Int) := by
        rw [hUl]; exact ⟨_, (Int.toNat_of_nonneg hU.1).symm⟩
      have hjl : j < q.arms.length := by rw [hUl] at hj; omega
      have hxj : (q.arms.map Arm.cs)[j]? = some (q.arms[j]).cs := by simp [hjl]
      have hxi : (labels.map fun r => [CT.int .i64 r])[i]? = some [.int .i64 labels[i]] := by simp [hlt1]
      have hfn := find_label hnd (List.getElem_mem hjl)
      have hsn := walkG_snoc (z := (q.arms[j]).label) W hWk (by rw [armsAt_prt, ← hq]; exact hfn)
      have hih := ih (i + 1) (W ++ [(q.arms[j]).label], (q.arms[j]).next) ⟨⟨hlt1, hlt2⟩, (show (W ++ [(q.arms[j]).label]).length ≤ i + 1 by rw [List.length_append, List.length_singleton]; omega), hsn⟩ (by omega)
      rw [show ((W ++ [(q.arms[j]).label], (q.arms[j]).next) : List ByteArray × Int).1.map (fun s => [CT.str s]) = W.map (fun s => [CT.str s]) ++ [[.str (q.arms[j]).label]] by simp] at hih
      obtain ⟨b1, hb1⟩ : ∃ b, b = q.arms[j] := ⟨_, rfl⟩
      rw [← hb1] at hxj hih
      clear hb1 hsn hfn ih hnd hq hm1 hm2 hm3
      repeat' (first
       | (refine g_atR 15 rfl ?_; refine g_freezeT 300 16 rfl rfl rfl rfl rfl ?_)
       | (refine g_atR 22 rfl ?_; refine g_drawS 18 [] mix rfl rfl rfl rfl rfl rfl rfl rfl ?_; refine grun_ th rfl ?_)
       | refine gc_ rfl ?_
       | (refine g_region ?_; refine run_ th rfl ?_)
       | (refine g_drawC mix rfl rfl ?_; refine drun_ th rfl ?_)
       | (refine g_drawEC mix rfl rfl ?_; refine erun_ th rfl ?_)
       | refine SOps.nil ?_
       | refine DOps.nil ?_
       | refine EOps.nil ?_ rfl rfl
       | (refine s_split rfl rfl (fun hb => ?_) (fun hb => ?_) <;> (try simp only [hbL] at hb) <;> first | (exfalso; omega) | refine run_ th rfl ?_)
       | (refine d_split rfl rfl rfl (fun hb => ?_) (fun hb => ?_) <;> (try simp only [hbL] at hb) <;> first | (exfalso; omega) | refine drun_ th rfl ?_)
       | (refine g_if rfl (fun hb => ?_) (fun hb => ?_) <;> (try simp only [hbL] at hb) <;> (try (exfalso; omega)))
       | (refine s_callL hgw rfl rfl rfl rfl rfl rfl rfl rfl rfl ?_; refine run_ th rfl ?_)
       | (refine s_idx th rfl rfl rfl rfl rfl rfl rfl rfl rfl y.toNat _ (by omega) hxp ?_; refine run_ th rfl ?_)
       | (refine s_callOL hown [300] rfl rfl rfl rfl rfl rfl rfl rfl rfl rfl (fun _ => rfl) (fun _ => rfl) (fun v p hp q hq r hr c hc => by simp at hp; subst hp; simp at hq; subst hq; simp at hr; obtain ⟨z, _, rfl⟩ := hr; simp at hc; subst hc; rfl) (fun v _ => ?_); refine run_ th rfl ?_)
       | (refine s_call htw [] rfl rfl rfl rfl rfl rfl rfl rfl rfl rfl ?_; refine run_ th rfl ?_)
       | (refine d_idx th rfl rfl rfl rfl rfl rfl rfl rfl rfl t.toNat _ (by omega) hxt ?_; refine drun_ th rfl ?_)
       | (refine q_idx th rfl rfl rfl rfl rfl rfl rfl rfl rfl i _ rfl hxi ?_; refine grun_ th rfl ?_)
       | (refine q_rem rfl rfl rfl rfl rfl rfl hUn ?_; refine grun_ th rfl ?_)
       | (refine q_idx th rfl rfl rfl rfl rfl rfl rfl rfl rfl j _ hj hxj ?_; refine grun_ th rfl ?_)
       | (refine q_lit th rfl rfl rfl rfl rfl rfl rfl rfl rfl rfl rfl rfl (.refl _) ?_; refine grun_ th rfl ?_)
       | refine GOps.nil ?_
       | (refine s_appendF th rfl rfl rfl rfl rfl rfl rfl rfl rfl rfl rfl rfl rfl rfl (by constructor <;> simp <;> omega) ?_; refine run_ th rfl ?_)
       | (refine s_add rfl rfl rfl rfl rfl rfl (by omega) ?_; refine run_ th rfl ?_))
      all_goals first
        | (exfalso; simp only [List.length_map] at hb; omega)
        | exact g_sub (by exact ⟨⟨_, rfl, .refl _⟩, ⟨_, rfl, .refl _⟩, ⟨_, rfl, .refl _⟩, ⟨_, rfl, .refl _⟩, ⟨_, rfl, .refl _⟩, ⟨_, rfl, le_int (by omega)⟩, trivial⟩) (by exact ⟨⟨_, rfl, .refl _⟩, ⟨_, rfl, .refl _⟩, ⟨_, rfl, .refl _⟩, trivial⟩) rfl rfl rfl hih
        | (exfalso
           first
             | (have hFF := hF (by assumption); first | exact hb hFF.1 | exact hb hFF.2.1 | (have h3 := hFF.2.2; omega))
             | (have hTT := hT (by assumption); first | exact hb hTT.1 | exact hb hTT.2.1 | (have h3 := hTT.2.2; omega)))
  · clear ih
    repeat' (first
     | refine gc_ rfl ?_
     | (refine g_region ?_; refine run_ th rfl ?_)
     | (refine g_drawC mix rfl rfl ?_; refine drun_ th rfl ?_)
     | (refine g_drawEC mix rfl rfl ?_; refine erun_ th rfl ?_)
     | refine SOps.nil ?_
     | refine DOps.nil ?_
     | refine EOps.nil ?_ rfl rfl
     | (refine s_split rfl rfl (fun hb => ?_) (fun hb => ?_) <;> (try simp only [hbL] at hb) <;> first | (exfalso; omega) | refine run_ th rfl ?_)
     | (refine d_split rfl rfl rfl (fun hb => ?_) (fun hb => ?_) <;> (try simp only [hbL] at hb) <;> first | (exfalso; omega) | refine drun_ th rfl ?_)
     | (refine g_if rfl (fun hb => ?_) (fun hb => ?_) <;> (try simp only [hbL] at hb) <;> (try (exfalso; omega)))
     | refine g_endL th Tryz.func5 (.inr ⟨_, rfl⟩) rfl rfl rfl ?_ rfl)
    all_goals first
      | exact .refl _
      | (exfalso; simp only [List.length_map] at *; omega)
end Go.Sy
