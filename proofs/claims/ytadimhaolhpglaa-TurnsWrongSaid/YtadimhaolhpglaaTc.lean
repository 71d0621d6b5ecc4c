/- The law TurnsWrong. -/
import Derived.Test.YtadimhaolhpglaaTb
set_option linter.unusedSimpArgs false
set_option linter.unusedVariables false
set_option linter.unusedSectionVars false
namespace Go.Sy
open Go.Proofs
set_option maxRecDepth 100000
attribute [local irreducible] SOps Goes DOps EOps GOps FOps

theorem ConM.argsT {P : Program} {f : FuncId} {pre : MM} {args args' : List SV} {ι : Type} {Q : ι → Prop} {res : ι → ST} {post : ι → MM} (h : ConM P f pre args Q res post) (hl : LeVs args' args) : ConM P f pre args' Q res post :=
  ⟨h.ok, fun w M0 H Z vs hpre hp => h.calls w M0 H Z vs hpre (LeVs.rep hl hp)⟩
theorem FzX.set {sz : Nat} {qs : PQ} {a b : List CT} (h : FzCs sz qs a b) : ∀ (l : List (List CT)) (k : Nat), FzX sz qs (l.set k a) (l.set k b)
  | [], _ => .refl _
  | x :: l, 0 => .cons h (.refl _)
  | x :: l, k + 1 => .cons (.refl x) (FzX.set h l k)
theorem LeX.repT {a b : List CT} (h : LeCs a b) : ∀ n, LeX (List.replicate n a) (List.replicate n b)
  | 0 => .refl _
  | n + 1 => .cons h (LeX.repT h n)
theorem setN_row {n : Int} {a b : List CT} (h : LeCs a b) : ∀ {l : List Trn} (k : Nat), (∀ t ∈ l, trnB n t = true) → LeX ((l.map csN).set k a) ((l.map Trn.cs).set k b)
  | [], _, _ => .refl _
  | t :: l, 0, hl => .cons h (csN_row fun s hs => hl s (List.mem_cons_of_mem _ hs))
  | t :: l, k + 1, hl => .cons (csN_le (hl t List.mem_cons_self)) (setN_row h k fun s hs => hl s (List.mem_cons_of_mem _ hs))
theorem at_set {α : Type} {l : List α} {k : Nat} (h : k < l.length) (r : α) : (l.set k r)[k]? = some r := by simp [h]
theorem setL_big {l : Loc} (h : LocBig l) (k : Nat) {nm : ByteArray} {t : Trn} (ht : ∀ a ∈ t.arms, a.name.size ≤ bigS) : LocBig ⟨nm, l.turns.set k t⟩ := fun s hs a ha => by
  rcases List.mem_or_eq_of_mem_set hs with hs | rfl
  · exact h s hs a ha
  · exact ht a ha
theorem arms_bad {n : Int} {xs ys : List Arm} {a : Arm} (ha : a ∈ ys) (h : armB n a = false) : armsOK n (xs ++ ys) = false := by
  cases hb : armsOK n (xs ++ ys) with
  | false => rfl
  | true =>
    have := (arms_all hb).2.1 a (List.mem_append_right _ ha)
    rw [h] at this; cases this
theorem arms_dup {n : Int} {xs : List Arm} {a b : Arm} (h : a.label = b.label) : armsOK n (xs ++ [a, b]) = false := by
  cases hb : armsOK n (xs ++ [a, b]) with
  | false => rfl
  | true =>
    have := (arms_all hb).2.2
    rw [List.map_append] at this
    have := (List.nodup_append.1 this).2.1
    simp [h] at this
/-- A turn with arms that are none is none. -/
theorem trn_badA {n k : Int} {p : ByteArray} {A : List Arm} (h : armsOK n A = false) (hne : A ≠ []) : trnB n ⟨k, p, A⟩ = false := by
  unfold trnB
  simp only
  split
  · cases A with
    | nil => exact absurd rfl hne
    | cons a l => simp
  · split
    · rw [h]; simp
    · rfl
section
variable {C : Ctx} {n : Nat} {L l : List Oper} {tm tm0 : TM} {E : List Nat} {i : Nat} {mmf : Nat → MM} {TF : TM → Prop} {o : Oper} {d : Nat} {x y : Operand}
theorem f_appendNF {Θ : Tab} (hΘ : tabOK C.P Θ) {t : TypeId} {z bts e : Nat} {ag : Bool} {zt : Option (List CT)} {ei : TyI} {zr : List CT} {nn' : Bool} {sz : Nat} {ys : List (List CT)}
    (ho : o.op = .call { callee := .builtin .append, args := ⟨[x, y]⟩, argTypes := ⟨[t, t]⟩ }) (ht : tyGet Θ t = some ⟨z, bts, ag, zt, .slice e⟩) (hei : tyGet Θ e = some ei) (hz : ei.zero = some zr)
    (hsz : Nat.beq ei.size sz = true) (hs0 : Nat.blt 0 ei.size = true) (hx : evalC (onlyE (looksE L o) tm) x = some (.c .nils)) (hy : evalC (onlyE (looksE L o) tm) y = some (.c (.slice nn' sz ys)))
    (hd : o.dst = some d) (hn : Nat.blt d n = true) (hg : guardL L (onlyE (looksE L o) tm) o = some true) (hiE : memN E i = false)
    (hbig : ys.length ≤ 9223372036854775807 ∧ ys.length * ei.bytes ≤ 140737488355328)
    (k : FOps C n mmf L tm0 E (i + 1) l ((d, .v (.one (.c (.slice false sz ys)))) :: delL tm d) TF) : FOps C n mmf L tm0 E i (o :: l) tm TF :=
  FOps.step hiE hg (fun _ _ _ => op_appendNF hΘ ho ht hei hz hsz hs0 hx hy hd hn hbig) hd k
end
def twMM (mm : MM) (arms : List (List CT)) (r : Value → List (List CT)) : Nat → Value → MM
  | 0, _ => mm
  | 1, x => updM mm 50 (.pool 41 4 [(x, arms)])
  | _, x => updM (updM mm 50 (.pool 41 4 [(x, arms)])) 201 (.arr false 56 3 (r x))
def twET : Nat → Value → TM
  | 1, x => [(61, .v (.one (.c (.val x))))]
  | _, _ => []
def twEM (mm : MM) (rows : List (List CT)) : Nat → Unit → MM
  | 0, _ => mm
  | _, _ => updM mm 201 (.arr false 56 3 rows)

set_option maxHeartbeats 64000000 in
theorem turnsWrong_k (made : List Int) (what at_ : Int) (hbig : made.length * 8 ≤ 140737488355328) (kN : Nat) (t : Trn) (hkt : (locV ⟨#[116]⟩ [] made 0).1.turns[kN]? = some t) (htk : t.kind ≠ 0)
    (hkN : IntKind.i64.wrap ((IntKind.u64.wrap at_).tmod (IntKind.u64.wrap ((locV ⟨#[116]⟩ [] made 0).1.turns.length : Int))) = (kN : Int)) :
    Con Try.prog 8 [] [C1 (intsT made), C1 (.int .i64 what), C1 (.int .i64 at_)] (Rv (.bool true)) [] := by
  obtain ⟨hv, hB⟩ := loc_ok made ⟨#[116]⟩
  have hloc := (locK_c ⟨#[116]⟩ [] (by simp) made 0 (Nat.zero_le _) kN t hkt htk).argsT (args' := [.one (.ptr given 0), C1 (.str ⟨#[116]⟩), C1 .nils]) (.cons (.one (.refl _)) (.cons (.one (.refl _)) (.cons (.one (.c (.nil 1))) .nil)))
  have hnm : (locV ⟨#[116]⟩ [] made 0).1.name = ⟨#[116]⟩ := rfl
  generalize (locV ⟨#[116]⟩ [] made 0).2 = q at hloc
  generalize (locV ⟨#[116]⟩ [] made 0).1 = A at hloc hv hB hkt hkN hnm
  have hln := loc_len hv
  have hkl := (List.getElem?_eq_some_iff.1 hkt).1
  obtain ⟨n, hn⟩ : ∃ n, n = A.turns.length := ⟨_, rfl⟩
  have htm : t ∈ A.turns := List.mem_of_getElem? hkt
  have hw8 := remU (x := what) (n := 8) (by omega) (by omega)
  have hu := pick_v (x := at_) (n := 5) (by omega) (by omega)
  obtain ⟨u, hue⟩ : ∃ u, u = IntKind.i64.wrap ((IntKind.u64.wrap at_).tmod 5) := ⟨_, rfl⟩
  rw [show IntKind.u64.wrap (5 : Int) = 5 from rfl, ← hue] at hu
  have hwn : IntKind.u64.wrap (A.turns.length : Int) ≠ 0 := by rw [wrapU_id (by omega) (by omega)]; omega
  have hrlen : ∀ v, ((((A.turns.map Trn.cs).set kN (lkRow t v)).length : Nat) : Int) = (A.turns.length : Int) := fun v => by simp
  have hkm : kN < (A.turns.map Trn.cs).length := by simpa using hkl
  have hks : ∀ v, kN < ((A.turns.map Trn.cs).set kN (lkRow t v)).length := fun v => by simpa using hkl
  have ha6 : t.arms.length ≤ 6 := by
    rcases trn_arms (trn_ok hv t htm) with h | h
    · rw [h]; simp
    · exact (arms_all h).1.2
  refine con_of (c := _) Try.func8 rfl rfl rfl (by decide) fun w M0 H Z => ?_
  refine g_len 0 rfl fun hll => ?_
  simp only [List.length_map] at hll
  repeat' (first
    | (refine g_atR 4 rfl ?_; refine g_ownB 200 201 7 1 rfl rfl rfl rfl rfl rfl rfl rfl ?_)
    | refine gc_ rfl ?_
    | ((fail_if_success refine g_atR 6 rfl ?_); refine g_region ?_; refine run_ th rfl ?_)
    | refine SOps.nil ?_
    | (refine g_if rfl (fun hb => ?_) (fun hb => ?_) <;> (try simp only [hbL] at hb) <;> (try (exfalso; omega)))
    | (refine s_call first6_c [] rfl rfl rfl rfl rfl rfl rfl rfl rfl rfl ?_; refine run_ th rfl ?_)
    | (refine s_callN (new_c made (by omega)) rfl rfl rfl rfl rfl rfl rfl ?_; refine run_ th rfl ?_)
    | (refine s_callM hloc [(given, 15)] rfl rfl rfl rfl ⟨rfl, trivial⟩ ⟨rfl, rfl, rfl, rfl, rfl⟩ (fun _ => ⟨rfl, rfl, rfl, rfl, rfl, rfl, rfl⟩) (fun _ => rfl) (fun _ => rfl) rfl rfl rfl (fun v _ => ?_); refine run_ th rfl ?_)
    | (refine s_rem rfl rfl rfl rfl rfl rfl (by rw [hrlen v.1]; exact hwn) ?_; rw [hrlen v.1]; refine run_ th rfl ?_; rw [hkN])
    | (refine s_idxo th rfl rfl rfl rfl rfl rfl rfl rfl rfl rfl kN rfl (hks v.1) ?_; refine run_ th rfl ?_))
  all_goals first
    | (exfalso; revert hb; simp; done)
    | skip
  refine g_sub (tm' := [(1, .v (C1 (.int .i64 what))), (2, .v (C1 (.int .i64 at_))), (7, .v (.one (.ptr 7 0))), (9, .v (.one (.aptr 201 kN 0)))]) (mm' := [(7, .box [.c (.str ⟨#[116]⟩), .own 201]), (201, .arr false 56 3 ((A.turns.map Trn.cs).set kN (lkRow t v.1))), (50, .pool 41 4 [(v.1, t.arms.map Arm.cs)])]) (by exact ⟨⟨_, rfl, .refl _⟩, ⟨_, rfl, .refl _⟩, ⟨_, rfl, .refl _⟩, ⟨_, rfl, .refl _⟩, trivial⟩) (by exact ⟨⟨_, rfl, .refl _⟩, ⟨_, rfl, .refl _⟩, ⟨_, rfl, .refl _⟩, trivial⟩) rfl rfl rfl ?_
  have hwc : (IntKind.u64.wrap what).tmod 8 = 0 ∨ (IntKind.u64.wrap what).tmod 8 = 1 ∨ (IntKind.u64.wrap what).tmod 8 = 2 ∨ (IntKind.u64.wrap what).tmod 8 = 3 ∨ (IntKind.u64.wrap what).tmod 8 = 4 ∨ (IntKind.u64.wrap what).tmod 8 = 5 ∨ (IntKind.u64.wrap what).tmod 8 = 6 ∨ (IntKind.u64.wrap what).tmod 8 = 7 := by omega
  rcases hwc with hw | hw | hw | hw | hw | hw | hw | hw
  · skip
    repeat' (first
      | (refine s_storef th _ rfl rfl rfl rfl (at_set hkm _) rfl rfl rfl rfl rfl rfl rfl ?_; refine run_ th rfl ?_)
      | (refine s_rem rfl rfl rfl rfl rfl rfl (by decide) ?_; refine run_ th rfl ?_; rw [← hue])
      | (refine s_add rfl rfl rfl rfl rfl rfl (by omega) ?_; refine run_ th rfl ?_)
      | refine gc_ rfl ?_
      | ((fail_if_success refine g_atR 22 rfl ?_); refine g_region ?_; refine run_ th rfl ?_)
      | refine SOps.nil ?_
      | (refine g_if rfl (fun hb => ?_) (fun hb => ?_) <;> (try simp only [hbL] at hb) <;> (try (exfalso; omega)))
      | (refine s_rem rfl rfl rfl rfl rfl rfl (by decide) ?_; rw [hw]; refine run_ th rfl ?_))
    refine g_sub (tm' := [(7, .v (.one (.ptr 7 0)))]) (mm' := [(7, .box [.c (.str ⟨#[116]⟩), .own 201]), (201, .arr false 56 3 ((A.turns.map Trn.cs).set kN [.int .i64 (3 + u), .str t.peer, .val v.1])), (50, .pool 41 4 [(v.1, t.arms.map Arm.cs)])]) (by exact ⟨⟨_, rfl, .refl _⟩, trivial⟩) (by exact ⟨⟨_, rfl, .refl _⟩, ⟨_, rfl, .arr (by first | (rw [List.set_set]; exact .refl _) | (dsimp only; rw [List.set_set]; exact .refl _))⟩, ⟨_, rfl, .refl _⟩, trivial⟩) rfl rfl rfl ?_
    refine g_freezeA 50 201 ((A.turns.set kN (⟨3 + u, t.peer, t.arms⟩ : Trn)).map Trn.cs) rfl rfl rfl rfl rfl rfl (by rw [List.map_set]; exact FzX.set (.cons (.refl _) (.cons (.refl _) (.cons (.row List.mem_cons_self) (.refl _)))) _ _) ?_
    refine g_freeze 201 rfl rfl ?_
    have hbad : locB (⟨⟨#[116]⟩, A.turns.set kN (⟨3 + u, t.peer, t.arms⟩ : Trn)⟩ : Loc) = false := loc_noT (l := (⟨⟨#[116]⟩, A.turns.set kN (⟨3 + u, t.peer, t.arms⟩ : Trn)⟩ : Loc)) (List.mem_set hkl _) (by rw [show ((⟨⟨#[116]⟩, A.turns.set kN (⟨3 + u, t.peer, t.arms⟩ : Trn)⟩ : Loc)).turns.length = A.turns.length by simp]; unfold trnB; rw [if_neg (by show ¬ (3 + u : Int) = 0; omega), if_neg (by show ¬ ((3 + u : Int) = 1 ∨ (3 + u : Int) = 2); omega)])
    have hbig2 : LocBig (⟨⟨#[116]⟩, A.turns.set kN (⟨3 + u, t.peer, t.arms⟩ : Trn)⟩ : Loc) := setL_big hB kN (fun a ha => hB t htm a ha)
    obtain ⟨c1, c2, c3, c4, c5, c6⟩ := badL_c _ hbad hbig2
    repeat' (first
      | refine gc_ rfl ?_
      | (refine g_region ?_; refine run_ th rfl ?_)
      | refine SOps.nil ?_
      | (refine s_call c1 [] rfl rfl rfl rfl rfl rfl rfl rfl rfl rfl ?_; refine run_ th rfl ?_)
      | (refine s_call c2 [] rfl rfl rfl rfl rfl rfl rfl rfl rfl rfl ?_; refine run_ th rfl ?_)
      | (refine s_call c3 [] rfl rfl rfl rfl rfl rfl rfl rfl rfl rfl ?_; refine run_ th rfl ?_)
      | (refine s_call c4 [] rfl rfl rfl rfl rfl rfl rfl rfl rfl rfl ?_; refine run_ th rfl ?_)
      | (refine s_call c5 [] rfl rfl rfl rfl rfl rfl rfl rfl rfl rfl ?_; refine run_ th rfl ?_)
      | (refine s_call c6 [] rfl rfl rfl rfl rfl rfl rfl rfl rfl rfl ?_; refine run_ th rfl ?_)
      | (refine s_split rfl rfl (fun hb => ?_) (fun hb => ?_) <;> (try simp only [hbL] at hb) <;> first | (exfalso; omega) | refine run_ th rfl ?_)
      | (refine s_step (op_field1 th rfl rfl rfl rfl rfl rfl rfl rfl rfl).wp rfl ?_; refine run_ th rfl ?_))
    all_goals first
      | (exfalso; revert hb; simp; done)
      | (exfalso; exact hb rfl)
      | (refine g_endL th Try.func8 (.inr ⟨_, rfl⟩) rfl rfl rfl ?_ rfl
         first | exact .refl _ | exact le_ct rfl | exact le_ct (by simp))
  · skip
    repeat' (first
      | (refine s_storef th _ rfl rfl rfl rfl (at_set hkm _) rfl rfl rfl rfl rfl rfl rfl ?_; refine run_ th rfl ?_)
      | refine gc_ rfl ?_
      | ((fail_if_success refine g_atR 22 rfl ?_); refine g_region ?_; refine run_ th rfl ?_)
      | refine SOps.nil ?_
      | (refine g_if rfl (fun hb => ?_) (fun hb => ?_) <;> (try simp only [hbL] at hb) <;> (try (exfalso; omega)))
      | (refine s_rem rfl rfl rfl rfl rfl rfl (by decide) ?_; rw [hw]; refine run_ th rfl ?_))
    refine g_sub (tm' := [(7, .v (.one (.ptr 7 0)))]) (mm' := [(7, .box [.c (.str ⟨#[116]⟩), .own 201]), (201, .arr false 56 3 ((A.turns.map Trn.cs).set kN [.int .i64 (t.kind), .str ⟨#[101, 110, 100]⟩, .val v.1])), (50, .pool 41 4 [(v.1, t.arms.map Arm.cs)])]) (by exact ⟨⟨_, rfl, .refl _⟩, trivial⟩) (by exact ⟨⟨_, rfl, .refl _⟩, ⟨_, rfl, .arr (by first | (rw [List.set_set]; exact .refl _) | (dsimp only; rw [List.set_set]; exact .refl _))⟩, ⟨_, rfl, .refl _⟩, trivial⟩) rfl rfl rfl ?_
    refine g_freezeA 50 201 ((A.turns.set kN (⟨t.kind, ⟨#[101, 110, 100]⟩, t.arms⟩ : Trn)).map Trn.cs) rfl rfl rfl rfl rfl rfl (by rw [List.map_set]; exact FzX.set (.cons (.refl _) (.cons (.refl _) (.cons (.row List.mem_cons_self) (.refl _)))) _ _) ?_
    refine g_freeze 201 rfl rfl ?_
    have hbad : locB (⟨⟨#[116]⟩, A.turns.set kN (⟨t.kind, ⟨#[101, 110, 100]⟩, t.arms⟩ : Trn)⟩ : Loc) = false := loc_noT (l := (⟨⟨#[116]⟩, A.turns.set kN (⟨t.kind, ⟨#[101, 110, 100]⟩, t.arms⟩ : Trn)⟩ : Loc)) (List.mem_set hkl _) (by rw [show ((⟨⟨#[116]⟩, A.turns.set kN (⟨t.kind, ⟨#[101, 110, 100]⟩, t.arms⟩ : Trn)⟩ : Loc)).turns.length = A.turns.length by simp]; unfold trnB; simp only; split <;> first | rfl | decide | (split <;> first | rfl | simp [show nameB ⟨#[101, 110, 100]⟩ = false by decide]))
    have hbig2 : LocBig (⟨⟨#[116]⟩, A.turns.set kN (⟨t.kind, ⟨#[101, 110, 100]⟩, t.arms⟩ : Trn)⟩ : Loc) := setL_big hB kN (fun a ha => hB t htm a ha)
    obtain ⟨c1, c2, c3, c4, c5, c6⟩ := badL_c _ hbad hbig2
    repeat' (first
      | refine gc_ rfl ?_
      | (refine g_region ?_; refine run_ th rfl ?_)
      | refine SOps.nil ?_
      | (refine s_call c1 [] rfl rfl rfl rfl rfl rfl rfl rfl rfl rfl ?_; refine run_ th rfl ?_)
      | (refine s_call c2 [] rfl rfl rfl rfl rfl rfl rfl rfl rfl rfl ?_; refine run_ th rfl ?_)
      | (refine s_call c3 [] rfl rfl rfl rfl rfl rfl rfl rfl rfl rfl ?_; refine run_ th rfl ?_)
      | (refine s_call c4 [] rfl rfl rfl rfl rfl rfl rfl rfl rfl rfl ?_; refine run_ th rfl ?_)
      | (refine s_call c5 [] rfl rfl rfl rfl rfl rfl rfl rfl rfl rfl ?_; refine run_ th rfl ?_)
      | (refine s_call c6 [] rfl rfl rfl rfl rfl rfl rfl rfl rfl rfl ?_; refine run_ th rfl ?_)
      | (refine s_split rfl rfl (fun hb => ?_) (fun hb => ?_) <;> (try simp only [hbL] at hb) <;> first | (exfalso; omega) | refine run_ th rfl ?_)
      | (refine s_step (op_field1 th rfl rfl rfl rfl rfl rfl rfl rfl rfl).wp rfl ?_; refine run_ th rfl ?_))
    all_goals first
      | (exfalso; revert hb; simp; done)
      | (exfalso; exact hb rfl)
      | (refine g_endL th Try.func8 (.inr ⟨_, rfl⟩) rfl rfl rfl ?_ rfl
         first | exact .refl _ | exact le_ct rfl | exact le_ct (by simp))
  · skip
    repeat' (first
      | (refine g_atR 13 rfl ?_; refine g_drawF3 (ι := Value) 8 0 10 [10, 13] [50, 201] [] twET (twMM _ (t.arms.map Arm.cs ++ [[.str ⟨#[119]⟩, .int .i64 0, .str ⟨#[]⟩, .int .i64 ((((A.turns.map Trn.cs).set kN (lkRow t v.1)).length : Nat) : Int)]]) (fun x => ((A.turns.map Trn.cs).set kN (lkRow t v.1)).set kN (lkRow t x))) v.1 mix rfl (fun k x => by match k with | 0 => (refine subG_spec ?_; repeat (first | exact trivial | refine ⟨rfl, ?_⟩)) | 1 => (refine subG_spec ?_; repeat (first | exact trivial | refine ⟨rfl, ?_⟩)) | _ + 2 => (refine subG_spec ?_; repeat (first | exact trivial | refine ⟨rfl, ?_⟩))) (fun k x hk => by match k, hk with | 0, _ => (refine subG_spec ?_; repeat (first | exact trivial | refine ⟨rfl, ?_⟩))) rfl (fun k x => by match k with | 0 => rfl | 1 => rfl | _ + 2 => rfl) rfl rfl (by simp) rfl rfl ?_; refine frun_ th rfl ?_)
      | (refine f_loada th _ rfl rfl rfl rfl (at_set hkm _) rfl rfl rfl rfl rfl rfl ?_; refine frun_ th rfl ?_)
      | (refine FOps.nil ⟨Effs.cons rfl (fun x => ?_) (Effs.cons rfl (fun x => ?_) Effs.nil), fun vz => ?_⟩)
      | exact ef_append (i := 50) th rfl rfl rfl rfl rfl rfl rfl rfl rfl rfl rfl rfl rfl rfl rfl rfl 0 rfl (by constructor <;> simp <;> omega) (fun v' => v') (fun _ => rfl) (fun _ => rfl)
      | exact ef_storef (i := 201) th _ rfl rfl rfl rfl (at_set hkm _) rfl rfl rfl rfl rfl rfl rfl rfl rfl
      | (refine f_lit th rfl rfl rfl rfl rfl rfl rfl rfl rfl rfl rfl rfl rfl (.refl _) ?_; refine frun_ th rfl ?_)
      | refine gc_ rfl ?_
      | ((fail_if_success refine g_atR 22 rfl ?_); refine g_region ?_; refine run_ th rfl ?_)
      | refine SOps.nil ?_
      | (refine g_if rfl (fun hb => ?_) (fun hb => ?_) <;> (try simp only [hbL] at hb) <;> (try (exfalso; omega)))
      | (refine s_rem rfl rfl rfl rfl rfl rfl (by decide) ?_; rw [hw]; refine run_ th rfl ?_))
    rw [hrlen v.1, ← hn]
    refine g_sub (tm' := [(7, .v (.one (.ptr 7 0)))]) (mm' := [(7, .box [.c (.str ⟨#[116]⟩), .own 201]), (201, .arr false 56 3 ((A.turns.map Trn.cs).set kN [.int .i64 (t.kind), .str t.peer, .val vz])), (50, .pool 41 4 [(vz, t.arms.map Arm.cs ++ ([⟨⟨#[119]⟩, 0, ⟨#[]⟩, (n : Int)⟩] : List Arm).map Arm.cs)])]) (by exact ⟨⟨_, rfl, .refl _⟩, trivial⟩) (by exact ⟨⟨_, rfl, .refl _⟩, ⟨_, rfl, .arr (by first | (rw [List.set_set]; exact .refl _) | (dsimp only; rw [List.set_set]; exact .refl _))⟩, ⟨_, rfl, .refl _⟩, trivial⟩) rfl rfl rfl ?_
    refine g_freezeA 50 201 ((A.turns.set kN (⟨t.kind, t.peer, t.arms ++ ([⟨⟨#[119]⟩, 0, ⟨#[]⟩, (n : Int)⟩] : List Arm)⟩ : Trn)).map Trn.cs) rfl rfl rfl rfl rfl rfl (by rw [List.map_set]; exact FzX.set (.cons (.refl _) (.cons (.refl _) (.cons (.row (by rw [List.map_append]; exact List.mem_cons_self)) (.refl _)))) _ _) ?_
    refine g_freeze 201 rfl rfl ?_
    have hbad : locB (⟨⟨#[116]⟩, A.turns.set kN (⟨t.kind, t.peer, t.arms ++ ([⟨⟨#[119]⟩, 0, ⟨#[]⟩, (n : Int)⟩] : List Arm)⟩ : Trn)⟩ : Loc) = false := loc_noT (l := (⟨⟨#[116]⟩, A.turns.set kN (⟨t.kind, t.peer, t.arms ++ ([⟨⟨#[119]⟩, 0, ⟨#[]⟩, (n : Int)⟩] : List Arm)⟩ : Trn)⟩ : Loc)) (List.mem_set hkl _) (by rw [show ((⟨⟨#[116]⟩, A.turns.set kN (⟨t.kind, t.peer, t.arms ++ ([⟨⟨#[119]⟩, 0, ⟨#[]⟩, (n : Int)⟩] : List Arm)⟩ : Trn)⟩ : Loc)).turns.length = A.turns.length by simp]; exact trn_badA (arms_bad (a := ⟨⟨#[119]⟩, 0, ⟨#[]⟩, (n : Int)⟩) (by simp) (by unfold armB; rw [hn]; simp)) (by simp))
    have hbig2 : LocBig (⟨⟨#[116]⟩, A.turns.set kN (⟨t.kind, t.peer, t.arms ++ ([⟨⟨#[119]⟩, 0, ⟨#[]⟩, (n : Int)⟩] : List Arm)⟩ : Trn)⟩ : Loc) := setL_big hB kN (fun a ha => by
      rcases List.mem_append.1 ha with h | h
      · exact hB t htm a h
      · simp at h
        subst h; show (⟨#[]⟩ : ByteArray).size ≤ bigS; decide)
    obtain ⟨c1, c2, c3, c4, c5, c6⟩ := badL_c _ hbad hbig2
    repeat' (first
      | refine gc_ rfl ?_
      | (refine g_region ?_; refine run_ th rfl ?_)
      | refine SOps.nil ?_
      | (refine s_call c1 [] rfl rfl rfl rfl rfl rfl rfl rfl rfl rfl ?_; refine run_ th rfl ?_)
      | (refine s_call c2 [] rfl rfl rfl rfl rfl rfl rfl rfl rfl rfl ?_; refine run_ th rfl ?_)
      | (refine s_call c3 [] rfl rfl rfl rfl rfl rfl rfl rfl rfl rfl ?_; refine run_ th rfl ?_)
      | (refine s_call c4 [] rfl rfl rfl rfl rfl rfl rfl rfl rfl rfl ?_; refine run_ th rfl ?_)
      | (refine s_call c5 [] rfl rfl rfl rfl rfl rfl rfl rfl rfl rfl ?_; refine run_ th rfl ?_)
      | (refine s_call c6 [] rfl rfl rfl rfl rfl rfl rfl rfl rfl rfl ?_; refine run_ th rfl ?_)
      | (refine s_split rfl rfl (fun hb => ?_) (fun hb => ?_) <;> (try simp only [hbL] at hb) <;> first | (exfalso; omega) | refine run_ th rfl ?_)
      | (refine s_step (op_field1 th rfl rfl rfl rfl rfl rfl rfl rfl rfl).wp rfl ?_; refine run_ th rfl ?_))
    all_goals first
      | (exfalso; revert hb; simp; done)
      | (exfalso; exact hb rfl)
      | (refine g_endL th Try.func8 (.inr ⟨_, rfl⟩) rfl rfl rfl ?_ rfl
         first | exact .refl _ | exact le_ct rfl | exact le_ct (by simp))
  · skip
    repeat' (first
      | (refine s_storef th _ rfl rfl rfl rfl (at_set hkm _) rfl rfl rfl rfl rfl rfl rfl ?_; refine run_ th rfl ?_)
      | (refine s_loada th _ rfl rfl rfl rfl (at_set hkm _) rfl rfl rfl rfl rfl ?_; refine run_ th rfl ?_)
      | (refine s_freeze 73 rfl rfl ?_; refine s_pappend (i := 50) th rfl rfl rfl rfl rfl rfl rfl rfl rfl rfl rfl rfl rfl rfl 0 rfl (by constructor <;> simp <;> omega) fun vz => ?_; refine run_ th rfl ?_)
      | refine gc_ rfl ?_
      | ((fail_if_success refine g_atR 22 rfl ?_); refine g_region ?_; refine run_ th rfl ?_)
      | refine SOps.nil ?_
      | (refine g_if rfl (fun hb => ?_) (fun hb => ?_) <;> (try simp only [hbL] at hb) <;> (try (exfalso; omega)))
      | (refine s_rem rfl rfl rfl rfl rfl rfl (by decide) ?_; rw [hw]; refine run_ th rfl ?_))
    refine g_sub (tm' := [(7, .v (.one (.ptr 7 0)))]) (mm' := [(7, .box [.c (.str ⟨#[116]⟩), .own 201]), (201, .arr false 56 3 ((A.turns.map Trn.cs).set kN [.int .i64 (t.kind), .str t.peer, .val vz])), (50, .pool 41 4 [(vz, t.arms.map Arm.cs ++ ([⟨⟨#[119]⟩, 5, ⟨#[]⟩, 0⟩] : List Arm).map Arm.cs)])]) (by exact ⟨⟨_, rfl, .refl _⟩, trivial⟩) (by exact ⟨⟨_, rfl, .refl _⟩, ⟨_, rfl, .arr (by first | (rw [List.set_set]; exact .refl _) | (dsimp only; rw [List.set_set]; exact .refl _))⟩, ⟨_, rfl, .refl _⟩, trivial⟩) rfl rfl rfl ?_
    refine g_freezeA 50 201 ((A.turns.set kN (⟨t.kind, t.peer, t.arms ++ ([⟨⟨#[119]⟩, 5, ⟨#[]⟩, 0⟩] : List Arm)⟩ : Trn)).map Trn.cs) rfl rfl rfl rfl rfl rfl (by rw [List.map_set]; exact FzX.set (.cons (.refl _) (.cons (.refl _) (.cons (.row (by rw [List.map_append]; exact List.mem_cons_self)) (.refl _)))) _ _) ?_
    refine g_freeze 201 rfl rfl ?_
    have hbad : locB (⟨⟨#[116]⟩, A.turns.set kN (⟨t.kind, t.peer, t.arms ++ ([⟨⟨#[119]⟩, 5, ⟨#[]⟩, 0⟩] : List Arm)⟩ : Trn)⟩ : Loc) = false := loc_noT (l := (⟨⟨#[116]⟩, A.turns.set kN (⟨t.kind, t.peer, t.arms ++ ([⟨⟨#[119]⟩, 5, ⟨#[]⟩, 0⟩] : List Arm)⟩ : Trn)⟩ : Loc)) (List.mem_set hkl _) (by rw [show ((⟨⟨#[116]⟩, A.turns.set kN (⟨t.kind, t.peer, t.arms ++ ([⟨⟨#[119]⟩, 5, ⟨#[]⟩, 0⟩] : List Arm)⟩ : Trn)⟩ : Loc)).turns.length = A.turns.length by simp]; exact trn_badA (arms_bad (a := ⟨⟨#[119]⟩, 5, ⟨#[]⟩, 0⟩) (by simp) (by unfold armB; rw [show carB 5 ⟨#[]⟩ = false by decide]; simp)) (by simp))
    have hbig2 : LocBig (⟨⟨#[116]⟩, A.turns.set kN (⟨t.kind, t.peer, t.arms ++ ([⟨⟨#[119]⟩, 5, ⟨#[]⟩, 0⟩] : List Arm)⟩ : Trn)⟩ : Loc) := setL_big hB kN (fun a ha => by
      rcases List.mem_append.1 ha with h | h
      · exact hB t htm a h
      · simp at h
        subst h; show (⟨#[]⟩ : ByteArray).size ≤ bigS; decide)
    obtain ⟨c1, c2, c3, c4, c5, c6⟩ := badL_c _ hbad hbig2
    repeat' (first
      | refine gc_ rfl ?_
      | (refine g_region ?_; refine run_ th rfl ?_)
      | refine SOps.nil ?_
      | (refine s_call c1 [] rfl rfl rfl rfl rfl rfl rfl rfl rfl rfl ?_; refine run_ th rfl ?_)
      | (refine s_call c2 [] rfl rfl rfl rfl rfl rfl rfl rfl rfl rfl ?_; refine run_ th rfl ?_)
      | (refine s_call c3 [] rfl rfl rfl rfl rfl rfl rfl rfl rfl rfl ?_; refine run_ th rfl ?_)
      | (refine s_call c4 [] rfl rfl rfl rfl rfl rfl rfl rfl rfl rfl ?_; refine run_ th rfl ?_)
      | (refine s_call c5 [] rfl rfl rfl rfl rfl rfl rfl rfl rfl rfl ?_; refine run_ th rfl ?_)
      | (refine s_call c6 [] rfl rfl rfl rfl rfl rfl rfl rfl rfl rfl ?_; refine run_ th rfl ?_)
      | (refine s_split rfl rfl (fun hb => ?_) (fun hb => ?_) <;> (try simp only [hbL] at hb) <;> first | (exfalso; omega) | refine run_ th rfl ?_)
      | (refine s_step (op_field1 th rfl rfl rfl rfl rfl rfl rfl rfl rfl).wp rfl ?_; refine run_ th rfl ?_))
    all_goals first
      | (exfalso; revert hb; simp; done)
      | (exfalso; exact hb rfl)
      | (refine g_endL th Try.func8 (.inr ⟨_, rfl⟩) rfl rfl rfl ?_ rfl
         first | exact .refl _ | exact le_ct rfl | exact le_ct (by simp))
  · skip
    repeat' (first
      | (refine s_storef th _ rfl rfl rfl rfl (at_set hkm _) rfl rfl rfl rfl rfl rfl rfl ?_; refine run_ th rfl ?_)
      | (refine s_loada th _ rfl rfl rfl rfl (at_set hkm _) rfl rfl rfl rfl rfl ?_; refine run_ th rfl ?_)
      | (refine s_freeze 86 rfl rfl ?_; refine s_pappend (i := 50) th rfl rfl rfl rfl rfl rfl rfl rfl rfl rfl rfl rfl rfl rfl 0 rfl (by constructor <;> simp <;> omega) fun vz => ?_; refine run_ th rfl ?_)
      | refine gc_ rfl ?_
      | ((fail_if_success refine g_atR 22 rfl ?_); refine g_region ?_; refine run_ th rfl ?_)
      | refine SOps.nil ?_
      | (refine g_if rfl (fun hb => ?_) (fun hb => ?_) <;> (try simp only [hbL] at hb) <;> (try (exfalso; omega)))
      | (refine s_rem rfl rfl rfl rfl rfl rfl (by decide) ?_; rw [hw]; refine run_ th rfl ?_))
    refine g_sub (tm' := [(7, .v (.one (.ptr 7 0)))]) (mm' := [(7, .box [.c (.str ⟨#[116]⟩), .own 201]), (201, .arr false 56 3 ((A.turns.map Trn.cs).set kN [.int .i64 (t.kind), .str t.peer, .val vz])), (50, .pool 41 4 [(vz, t.arms.map Arm.cs ++ ([⟨⟨#[118]⟩, 0, ⟨#[]⟩, 0⟩, ⟨⟨#[118]⟩, 0, ⟨#[]⟩, 0⟩] : List Arm).map Arm.cs)])]) (by exact ⟨⟨_, rfl, .refl _⟩, trivial⟩) (by exact ⟨⟨_, rfl, .refl _⟩, ⟨_, rfl, .arr (by first | (rw [List.set_set]; exact .refl _) | (dsimp only; rw [List.set_set]; exact .refl _))⟩, ⟨_, rfl, .refl _⟩, trivial⟩) rfl rfl rfl ?_
    refine g_freezeA 50 201 ((A.turns.set kN (⟨t.kind, t.peer, t.arms ++ ([⟨⟨#[118]⟩, 0, ⟨#[]⟩, 0⟩, ⟨⟨#[118]⟩, 0, ⟨#[]⟩, 0⟩] : List Arm)⟩ : Trn)).map Trn.cs) rfl rfl rfl rfl rfl rfl (by rw [List.map_set]; exact FzX.set (.cons (.refl _) (.cons (.refl _) (.cons (.row (by rw [List.map_append]; exact List.mem_cons_self)) (.refl _)))) _ _) ?_
    refine g_freeze 201 rfl rfl ?_
    have hbad : locB (⟨⟨#[116]⟩, A.turns.set kN (⟨t.kind, t.peer, t.arms ++ ([⟨⟨#[118]⟩, 0, ⟨#[]⟩, 0⟩, ⟨⟨#[118]⟩, 0, ⟨#[]⟩, 0⟩] : List Arm)⟩ : Trn)⟩ : Loc) = false := loc_noT (l := (⟨⟨#[116]⟩, A.turns.set kN (⟨t.kind, t.peer, t.arms ++ ([⟨⟨#[118]⟩, 0, ⟨#[]⟩, 0⟩, ⟨⟨#[118]⟩, 0, ⟨#[]⟩, 0⟩] : List Arm)⟩ : Trn)⟩ : Loc)) (List.mem_set hkl _) (by rw [show ((⟨⟨#[116]⟩, A.turns.set kN (⟨t.kind, t.peer, t.arms ++ ([⟨⟨#[118]⟩, 0, ⟨#[]⟩, 0⟩, ⟨⟨#[118]⟩, 0, ⟨#[]⟩, 0⟩] : List Arm)⟩ : Trn)⟩ : Loc)).turns.length = A.turns.length by simp]; exact trn_badA (arms_dup rfl) (by simp))
    have hbig2 : LocBig (⟨⟨#[116]⟩, A.turns.set kN (⟨t.kind, t.peer, t.arms ++ ([⟨⟨#[118]⟩, 0, ⟨#[]⟩, 0⟩, ⟨⟨#[118]⟩, 0, ⟨#[]⟩, 0⟩] : List Arm)⟩ : Trn)⟩ : Loc) := setL_big hB kN (fun a ha => by
      rcases List.mem_append.1 ha with h | h
      · exact hB t htm a h
      · simp at h
        subst h; show (⟨#[]⟩ : ByteArray).size ≤ bigS; decide)
    obtain ⟨c1, c2, c3, c4, c5, c6⟩ := badL_c _ hbad hbig2
    repeat' (first
      | refine gc_ rfl ?_
      | (refine g_region ?_; refine run_ th rfl ?_)
      | refine SOps.nil ?_
      | (refine s_call c1 [] rfl rfl rfl rfl rfl rfl rfl rfl rfl rfl ?_; refine run_ th rfl ?_)
      | (refine s_call c2 [] rfl rfl rfl rfl rfl rfl rfl rfl rfl rfl ?_; refine run_ th rfl ?_)
      | (refine s_call c3 [] rfl rfl rfl rfl rfl rfl rfl rfl rfl rfl ?_; refine run_ th rfl ?_)
      | (refine s_call c4 [] rfl rfl rfl rfl rfl rfl rfl rfl rfl rfl ?_; refine run_ th rfl ?_)
      | (refine s_call c5 [] rfl rfl rfl rfl rfl rfl rfl rfl rfl rfl ?_; refine run_ th rfl ?_)
      | (refine s_call c6 [] rfl rfl rfl rfl rfl rfl rfl rfl rfl rfl ?_; refine run_ th rfl ?_)
      | (refine s_split rfl rfl (fun hb => ?_) (fun hb => ?_) <;> (try simp only [hbL] at hb) <;> first | (exfalso; omega) | refine run_ th rfl ?_)
      | (refine s_step (op_field1 th rfl rfl rfl rfl rfl rfl rfl rfl rfl).wp rfl ?_; refine run_ th rfl ?_))
    all_goals first
      | (exfalso; revert hb; simp; done)
      | (exfalso; exact hb rfl)
      | (refine g_endL th Try.func8 (.inr ⟨_, rfl⟩) rfl rfl rfl ?_ rfl
         first | exact .refl _ | exact le_ct rfl | exact le_ct (by simp))
  · skip
    repeat' (first
      | (refine s_storef th _ rfl rfl rfl rfl (at_set hkm _) rfl rfl rfl rfl rfl rfl rfl ?_; refine run_ th rfl ?_)
      | (refine s_loada th _ rfl rfl rfl rfl (at_set hkm _) rfl rfl rfl rfl rfl ?_; refine run_ th rfl ?_)
      | (refine s_freeze 99 rfl rfl ?_; refine s_pappend (i := 50) th rfl rfl rfl rfl rfl rfl rfl rfl rfl rfl rfl rfl rfl rfl 0 rfl (by constructor <;> simp <;> omega) fun vz => ?_; refine run_ th rfl ?_)
      | refine gc_ rfl ?_
      | ((fail_if_success refine g_atR 22 rfl ?_); refine g_region ?_; refine run_ th rfl ?_)
      | refine SOps.nil ?_
      | (refine g_if rfl (fun hb => ?_) (fun hb => ?_) <;> (try simp only [hbL] at hb) <;> (try (exfalso; omega)))
      | (refine s_rem rfl rfl rfl rfl rfl rfl (by decide) ?_; rw [hw]; refine run_ th rfl ?_))
    refine g_sub (tm' := [(7, .v (.one (.ptr 7 0)))]) (mm' := [(7, .box [.c (.str ⟨#[116]⟩), .own 201]), (201, .arr false 56 3 ((A.turns.map Trn.cs).set kN [.int .i64 (t.kind), .str t.peer, .val vz])), (50, .pool 41 4 [(vz, t.arms.map Arm.cs ++ ([⟨⟨#[118]⟩, 1, ⟨#[116]⟩, 0⟩] : List Arm).map Arm.cs)])]) (by exact ⟨⟨_, rfl, .refl _⟩, trivial⟩) (by exact ⟨⟨_, rfl, .refl _⟩, ⟨_, rfl, .arr (by first | (rw [List.set_set]; exact .refl _) | (dsimp only; rw [List.set_set]; exact .refl _))⟩, ⟨_, rfl, .refl _⟩, trivial⟩) rfl rfl rfl ?_
    refine g_freezeA 50 201 ((A.turns.set kN (⟨t.kind, t.peer, t.arms ++ ([⟨⟨#[118]⟩, 1, ⟨#[116]⟩, 0⟩] : List Arm)⟩ : Trn)).map Trn.cs) rfl rfl rfl rfl rfl rfl (by rw [List.map_set]; exact FzX.set (.cons (.refl _) (.cons (.refl _) (.cons (.row (by rw [List.map_append]; exact List.mem_cons_self)) (.refl _)))) _ _) ?_
    refine g_freeze 201 rfl rfl ?_
    have hbad : locB (⟨⟨#[116]⟩, A.turns.set kN (⟨t.kind, t.peer, t.arms ++ ([⟨⟨#[118]⟩, 1, ⟨#[116]⟩, 0⟩] : List Arm)⟩ : Trn)⟩ : Loc) = false := loc_noT (l := (⟨⟨#[116]⟩, A.turns.set kN (⟨t.kind, t.peer, t.arms ++ ([⟨⟨#[118]⟩, 1, ⟨#[116]⟩, 0⟩] : List Arm)⟩ : Trn)⟩ : Loc)) (List.mem_set hkl _) (by rw [show ((⟨⟨#[116]⟩, A.turns.set kN (⟨t.kind, t.peer, t.arms ++ ([⟨⟨#[118]⟩, 1, ⟨#[116]⟩, 0⟩] : List Arm)⟩ : Trn)⟩ : Loc)).turns.length = A.turns.length by simp]; exact trn_badA (arms_bad (a := ⟨⟨#[118]⟩, 1, ⟨#[116]⟩, 0⟩) (by simp) (by unfold armB; rw [show carB 1 ⟨#[116]⟩ = false by decide]; simp)) (by simp))
    have hbig2 : LocBig (⟨⟨#[116]⟩, A.turns.set kN (⟨t.kind, t.peer, t.arms ++ ([⟨⟨#[118]⟩, 1, ⟨#[116]⟩, 0⟩] : List Arm)⟩ : Trn)⟩ : Loc) := setL_big hB kN (fun a ha => by
      rcases List.mem_append.1 ha with h | h
      · exact hB t htm a h
      · simp at h
        subst h; show (⟨#[116]⟩ : ByteArray).size ≤ bigS; decide)
    obtain ⟨c1, c2, c3, c4, c5, c6⟩ := badL_c _ hbad hbig2
    repeat' (first
      | refine gc_ rfl ?_
      | (refine g_region ?_; refine run_ th rfl ?_)
      | refine SOps.nil ?_
      | (refine s_call c1 [] rfl rfl rfl rfl rfl rfl rfl rfl rfl rfl ?_; refine run_ th rfl ?_)
      | (refine s_call c2 [] rfl rfl rfl rfl rfl rfl rfl rfl rfl rfl ?_; refine run_ th rfl ?_)
      | (refine s_call c3 [] rfl rfl rfl rfl rfl rfl rfl rfl rfl rfl ?_; refine run_ th rfl ?_)
      | (refine s_call c4 [] rfl rfl rfl rfl rfl rfl rfl rfl rfl rfl ?_; refine run_ th rfl ?_)
      | (refine s_call c5 [] rfl rfl rfl rfl rfl rfl rfl rfl rfl rfl ?_; refine run_ th rfl ?_)
      | (refine s_call c6 [] rfl rfl rfl rfl rfl rfl rfl rfl rfl rfl ?_; refine run_ th rfl ?_)
      | (refine s_split rfl rfl (fun hb => ?_) (fun hb => ?_) <;> (try simp only [hbL] at hb) <;> first | (exfalso; omega) | refine run_ th rfl ?_)
      | (refine s_step (op_field1 th rfl rfl rfl rfl rfl rfl rfl rfl rfl).wp rfl ?_; refine run_ th rfl ?_))
    all_goals first
      | (exfalso; revert hb; simp; done)
      | (exfalso; exact hb rfl)
      | (refine g_endL th Try.func8 (.inr ⟨_, rfl⟩) rfl rfl rfl ?_ rfl
         first | exact .refl _ | exact le_ct rfl | exact le_ct (by simp))
  · skip
    repeat' (first
      | (refine s_storef th _ rfl rfl rfl rfl (at_set hkm _) rfl rfl rfl rfl rfl rfl rfl ?_; refine run_ th rfl ?_)
      | (refine s_loada th _ rfl rfl rfl rfl (at_set hkm _) rfl rfl rfl rfl rfl ?_; refine run_ th rfl ?_)
      | (refine s_freeze 111 rfl rfl ?_; refine s_pappend (i := 50) th rfl rfl rfl rfl rfl rfl rfl rfl rfl rfl rfl rfl rfl rfl 0 rfl (by constructor <;> simp <;> omega) fun vz => ?_; refine run_ th rfl ?_)
      | refine gc_ rfl ?_
      | ((fail_if_success refine g_atR 22 rfl ?_); refine g_region ?_; refine run_ th rfl ?_)
      | refine SOps.nil ?_
      | (refine g_if rfl (fun hb => ?_) (fun hb => ?_) <;> (try simp only [hbL] at hb) <;> (try (exfalso; omega)))
      | (refine s_rem rfl rfl rfl rfl rfl rfl (by decide) ?_; rw [hw]; refine run_ th rfl ?_))
    refine g_sub (tm' := [(7, .v (.one (.ptr 7 0)))]) (mm' := [(7, .box [.c (.str ⟨#[116]⟩), .own 201]), (201, .arr false 56 3 ((A.turns.map Trn.cs).set kN [.int .i64 (t.kind), .str t.peer, .val vz])), (50, .pool 41 4 [(vz, t.arms.map Arm.cs ++ ([⟨⟨#[86]⟩, 0, ⟨#[]⟩, 0⟩] : List Arm).map Arm.cs)])]) (by exact ⟨⟨_, rfl, .refl _⟩, trivial⟩) (by exact ⟨⟨_, rfl, .refl _⟩, ⟨_, rfl, .arr (by first | (rw [List.set_set]; exact .refl _) | (dsimp only; rw [List.set_set]; exact .refl _))⟩, ⟨_, rfl, .refl _⟩, trivial⟩) rfl rfl rfl ?_
    refine g_freezeA 50 201 ((A.turns.set kN (⟨t.kind, t.peer, t.arms ++ ([⟨⟨#[86]⟩, 0, ⟨#[]⟩, 0⟩] : List Arm)⟩ : Trn)).map Trn.cs) rfl rfl rfl rfl rfl rfl (by rw [List.map_set]; exact FzX.set (.cons (.refl _) (.cons (.refl _) (.cons (.row (by rw [List.map_append]; exact List.mem_cons_self)) (.refl _)))) _ _) ?_
    refine g_freeze 201 rfl rfl ?_
    have hbad : locB (⟨⟨#[116]⟩, A.turns.set kN (⟨t.kind, t.peer, t.arms ++ ([⟨⟨#[86]⟩, 0, ⟨#[]⟩, 0⟩] : List Arm)⟩ : Trn)⟩ : Loc) = false := loc_noT (l := (⟨⟨#[116]⟩, A.turns.set kN (⟨t.kind, t.peer, t.arms ++ ([⟨⟨#[86]⟩, 0, ⟨#[]⟩, 0⟩] : List Arm)⟩ : Trn)⟩ : Loc)) (List.mem_set hkl _) (by rw [show ((⟨⟨#[116]⟩, A.turns.set kN (⟨t.kind, t.peer, t.arms ++ ([⟨⟨#[86]⟩, 0, ⟨#[]⟩, 0⟩] : List Arm)⟩ : Trn)⟩ : Loc)).turns.length = A.turns.length by simp]; exact trn_badA (arms_bad (a := ⟨⟨#[86]⟩, 0, ⟨#[]⟩, 0⟩) (by simp) (by unfold armB; rw [show nameB ⟨#[86]⟩ = false by decide]; simp)) (by simp))
    have hbig2 : LocBig (⟨⟨#[116]⟩, A.turns.set kN (⟨t.kind, t.peer, t.arms ++ ([⟨⟨#[86]⟩, 0, ⟨#[]⟩, 0⟩] : List Arm)⟩ : Trn)⟩ : Loc) := setL_big hB kN (fun a ha => by
      rcases List.mem_append.1 ha with h | h
      · exact hB t htm a h
      · simp at h
        subst h; show (⟨#[]⟩ : ByteArray).size ≤ bigS; decide)
    obtain ⟨c1, c2, c3, c4, c5, c6⟩ := badL_c _ hbad hbig2
    repeat' (first
      | refine gc_ rfl ?_
      | (refine g_region ?_; refine run_ th rfl ?_)
      | refine SOps.nil ?_
      | (refine s_call c1 [] rfl rfl rfl rfl rfl rfl rfl rfl rfl rfl ?_; refine run_ th rfl ?_)
      | (refine s_call c2 [] rfl rfl rfl rfl rfl rfl rfl rfl rfl rfl ?_; refine run_ th rfl ?_)
      | (refine s_call c3 [] rfl rfl rfl rfl rfl rfl rfl rfl rfl rfl ?_; refine run_ th rfl ?_)
      | (refine s_call c4 [] rfl rfl rfl rfl rfl rfl rfl rfl rfl rfl ?_; refine run_ th rfl ?_)
      | (refine s_call c5 [] rfl rfl rfl rfl rfl rfl rfl rfl rfl rfl ?_; refine run_ th rfl ?_)
      | (refine s_call c6 [] rfl rfl rfl rfl rfl rfl rfl rfl rfl rfl ?_; refine run_ th rfl ?_)
      | (refine s_split rfl rfl (fun hb => ?_) (fun hb => ?_) <;> (try simp only [hbL] at hb) <;> first | (exfalso; omega) | refine run_ th rfl ?_)
      | (refine s_step (op_field1 th rfl rfl rfl rfl rfl rfl rfl rfl rfl).wp rfl ?_; refine run_ th rfl ?_))
    all_goals first
      | (exfalso; revert hb; simp; done)
      | (exfalso; exact hb rfl)
      | (refine g_endL th Try.func8 (.inr ⟨_, rfl⟩) rfl rfl rfl ?_ rfl
         first | exact .refl _ | exact le_ct rfl | exact le_ct (by simp))
  · skip
    repeat' (first
      | (refine s_makeW th rfl rfl rfl rfl rfl rfl rfl rfl rfl rfl rfl rfl 41 rfl rfl (by constructor <;> decide) ?_; refine run_ th rfl ?_)
      | refine gc_ rfl ?_
      | ((fail_if_success refine g_atR 22 rfl ?_); refine g_region ?_; refine run_ th rfl ?_)
      | refine SOps.nil ?_
      | (refine g_if rfl (fun hb => ?_) (fun hb => ?_) <;> (try simp only [hbL] at hb) <;> (try (exfalso; omega)))
      | (refine s_rem rfl rfl rfl rfl rfl rfl (by decide) ?_; rw [hw]; refine run_ th rfl ?_))
    refine g_sub (tm' := [(7, .v (.one (.ptr 7 0)))]) (mm' := [(7, .box [.c (.str ⟨#[116]⟩), .own 32]), (32, .arr false 56 3 ((List.replicate 41 noTrn).map Trn.cs))]) (by exact ⟨⟨_, rfl, .refl _⟩, trivial⟩) (by exact ⟨⟨_, rfl, .refl _⟩, ⟨_, rfl, .nn (by rw [List.map_replicate]; exact LeX.repT (.cons (.refl _) (.cons (.refl _) (.cons (.nil 4) .nil))) 41)⟩, trivial⟩) rfl rfl rfl ?_
    refine g_freeze 32 rfl rfl ?_
    have hbad : locB (⟨⟨#[116]⟩, List.replicate 41 noTrn⟩ : Loc) = false := loc_no fun h => by
      simp only [locB, Bool.and_eq_true, decide_eq_true_eq, List.length_replicate] at h
      omega
    have hbig2 : LocBig (⟨⟨#[116]⟩, List.replicate 41 noTrn⟩ : Loc) := fun s hs a ha => by rw [(List.mem_replicate.1 hs).2] at ha; cases ha
    obtain ⟨c1, c2, c3, c4, c5, c6⟩ := badL_c _ hbad hbig2
    repeat' (first
      | refine gc_ rfl ?_
      | (refine g_region ?_; refine run_ th rfl ?_)
      | refine SOps.nil ?_
      | (refine s_call c1 [] rfl rfl rfl rfl rfl rfl rfl rfl rfl rfl ?_; refine run_ th rfl ?_)
      | (refine s_call c2 [] rfl rfl rfl rfl rfl rfl rfl rfl rfl rfl ?_; refine run_ th rfl ?_)
      | (refine s_call c3 [] rfl rfl rfl rfl rfl rfl rfl rfl rfl rfl ?_; refine run_ th rfl ?_)
      | (refine s_call c4 [] rfl rfl rfl rfl rfl rfl rfl rfl rfl rfl ?_; refine run_ th rfl ?_)
      | (refine s_call c5 [] rfl rfl rfl rfl rfl rfl rfl rfl rfl rfl ?_; refine run_ th rfl ?_)
      | (refine s_call c6 [] rfl rfl rfl rfl rfl rfl rfl rfl rfl rfl ?_; refine run_ th rfl ?_)
      | (refine s_split rfl rfl (fun hb => ?_) (fun hb => ?_) <;> (try simp only [hbL] at hb) <;> first | (exfalso; omega) | refine run_ th rfl ?_)
      | (refine s_step (op_field1 th rfl rfl rfl rfl rfl rfl rfl rfl rfl).wp rfl ?_; refine run_ th rfl ?_))
    all_goals first
      | (exfalso; revert hb; simp; done)
      | (exfalso; exact hb rfl)
      | (refine g_endL th Try.func8 (.inr ⟨_, rfl⟩) rfl rfl rfl ?_ rfl
         first | exact .refl _ | exact le_ct rfl | exact le_ct (by simp))
end Go.Sy
