/- Contracts: reparteemake.Local, its turns as a row of one's own; layer 12's pair. -/
import Derived.Test.YtademmkjmpgplaaGreatDoorBd1
import Derived.Test.YtademmkjmpgplaaGreatDoorBu1
import Derived.Test.YtademmkjmpgplaaGreatDoorMj4
set_option linter.unusedSimpArgs false
set_option linter.unusedVariables false
set_option linter.unusedSectionVars false
namespace Go.Sy
open Go.Proofs
set_option maxRecDepth 100000
attribute [local irreducible] SOps Goes DOps EOps GOps
set_option maxHeartbeats 8000000 in
theorem locM_c (name : ByteArray) (types : List ByteArray) (ht : types.length ≤ 1000) (l : List Int) (k : Nat) (hk : k ≤ l.length) :
    ConM Tryz.prog 25 [(given, .box ((diceX l k).map SC.c))] [.one (.ptr given 0), C1 (.str name), C1 (namesT types)]
      (fun _ : Value => True) (fun v => .v (.agg [.c (.str name), .c (.val v)])) (fun v => [(given, .box ((diceX l (locV name types l k).2).map SC.c)), (200, .pool 48 3 [(v, (locV name types l k).1.turns.map Trn.cs)])]) := by
  have hk1 := pkA_le hk
  have hk2 := pkA_le hk1
  have hr1 := pk_range l k (n := 6) (by omega) (by omega)
  have hr2 := pk_range l (pkA l k) (n := 2) (by omega) (by omega)
  refine conM_of (c := _) Tryz.func25 rfl rfl rfl (by decide) rfl fun w M0 H Z hd => ?_
  repeat' (first
   | refine gc_ rfl ?_
   | (refine g_region ?_; refine run_ th rfl ?_)
   | (refine g_drawC mix rfl rfl ?_; refine drun_ th rfl ?_)
   | (refine g_drawEC mix rfl rfl ?_; refine erun_ th rfl ?_)
   | refine SOps.nil ?_
   | refine DOps.nil ?_
   | refine EOps.nil ?_ rfl rfl
   | (refine s_split rfl rfl (fun hb => ?_) (fun hb => ?_) <;> (try simp only [hbL] at hb) <;> first | (exfalso; omega) | refine run_ th rfl ?_)
   | (refine d_split rfl rfl rfl (fun hb => ?_) (fun hb => ?_) <;> (try simp only [hbL] at hb) <;> first | (exfalso; omega) | refine drun_ th rfl ?_)
   | (refine g_if rfl (fun hb => ?_) (fun hb => ?_) <;> (try simp only [hbL] at hb) <;> (try (exfalso; omega)))
   | (refine s_call (pickx_c l k hk 6 (by omega) (by omega)) [given] rfl rfl rfl rfl rfl rfl rfl rfl rfl rfl ?_; refine run_ th rfl ?_)
   | (refine s_call (pickx_c l (pkA l k) hk1 2 (by omega) (by omega)) [given] rfl rfl rfl rfl rfl rfl rfl rfl rfl rfl ?_; refine run_ th rfl ?_)
   | (refine s_add rfl rfl rfl rfl rfl rfl (by omega) ?_; refine run_ th rfl ?_))
  obtain ⟨pe, hpe⟩ : ∃ pe, pe = 1 + pkV l (pkA l k) 2 := ⟨_, rfl⟩
  obtain ⟨k0, hk0⟩ : ∃ k0, k0 = pkA l (pkA l k) := ⟨_, rfl⟩
  obtain ⟨cnt, hcnt⟩ : ∃ cnt : Nat, cnt = (1 + pkV l k 6).toNat := ⟨_, rfl⟩
  have hcI : (1 + pkV l k 6 : Int) = (cnt : Int) := by omega
  have hc3 : 1 ≤ cnt ∧ cnt ≤ 6 := by omega
  have hpr : 1 ≤ pe ∧ pe ≤ 2 := by omega
  have hres : locV name types l k = (⟨name, (trnS types l cnt pe k0 cnt).1⟩, (trnS types l cnt pe k0 cnt).2) := by rw [hpe, hk0, ← hcI, hcnt]; rfl
  rw [hres]
  rw [← hpe, ← hk0, hcI]
  rw [← hk0] at hk2
  refine g_adoptB 9 1 200 48 3 rfl rfl rfl rfl ?_
  refine g_loop1 (fun i : Nat => i ≤ cnt)
    (fun i => [(0, .v (.one (.ptr given 0))), (2, .v (C1 (namesT types))), (6, .v (.one (.ptr 6 0))), (7, .v (C1 (.int .i64 (cnt : Int)))), (8, .v (C1 (.int .i64 pe))), (9, .v (.one (.ptr 9 0))), (10, .v (C1 (.int .i64 (i : Int))))])
    (fun i => [(given, .box ((diceX l (trnS types l cnt pe k0 i).2).map SC.c)), (6, .box [.c (.str ⟨#[]⟩), .c .nils]), (9, .box [.c (.str name), .own 200]), (200, .arr false 48 3 ((trnS types l cnt pe k0 i).1.map Trn.cs))])
    (fun i => cnt - i) 0 (Nat.zero_le _)
    (fun a w h => h.sub (by exact ⟨⟨_, rfl, .refl _⟩, ⟨_, rfl, .refl _⟩, ⟨_, rfl, .refl _⟩, ⟨_, rfl, .refl _⟩, ⟨_, rfl, .refl _⟩, ⟨_, rfl, .refl _⟩, ⟨_, rfl, le_int rfl⟩, trivial⟩) (by exact ⟨⟨_, rfl, .refl _⟩, ⟨_, rfl, .refl _⟩, ⟨_, rfl, .refl _⟩, ⟨_, rfl, le_arr rfl⟩, trivial⟩) rfl rfl rfl) (fun i hi ih => ?_)
  have hle := trnS_le (types := types) (n := (cnt : Int)) (q := pe) hk2 i
  have hle1 := pkA_le hle
  have hle2 := pkA_le hle1
  have htl := trnS_len (types := types) (l := l) (n := (cnt : Int)) (q := pe) (k := k0) i
  by_cases hlt : i < cnt
  · have hq5 := pk_range l (trnS types l cnt pe k0 i).2 (n := 5) (by omega) (by omega)
    have hqp := pk_range l (pkA l (trnS types l cnt pe k0 i).2) (n := pe) (by omega) (by omega)
    have hm2 : 0 ≤ (pkV l (trnS types l cnt pe k0 i).2 5).tmod 2 ∧ (pkV l (trnS types l cnt pe k0 i).2 5).tmod 2 < 2 := ⟨Int.tmod_nonneg _ hq5.1, Int.tmod_lt_of_pos _ (by omega)⟩
    repeat' (first
     | (refine g_drawS 17 [given] mix rfl rfl rfl rfl rfl rfl rfl rfl ?_; refine grun_ th rfl ?_)
     | refine gc_ rfl ?_
     | (refine g_region ?_; refine run_ th rfl ?_)
     | (refine g_drawC mix rfl rfl ?_; refine drun_ th rfl ?_)
     | (refine g_drawEC mix rfl rfl ?_; refine erun_ th rfl ?_)
     | refine SOps.nil ?_
     | refine DOps.nil ?_
     | refine EOps.nil ?_ rfl rfl
     | (refine s_split rfl rfl (fun hb => ?_) (fun hb => ?_) <;> (try simp only [hbL] at hb) <;> first | (exfalso; omega) | refine run_ th rfl ?_)
     | (refine d_split rfl rfl rfl (fun hb => ?_) (fun hb => ?_) <;> (try simp only [hbL] at hb) <;> first | (exfalso; omega) | refine drun_ th rfl ?_)
     | (refine g_if rfl (fun hb => ?_) (fun hb => ?_) <;> (try simp only [hbL] at hb) <;> (try (exfalso; omega)))
     | (refine s_call (pickx_c l _ hle 5 (by omega) (by omega)) [given] rfl rfl rfl rfl rfl rfl rfl rfl rfl rfl ?_; refine run_ th rfl ?_)
     | (refine s_anyB 9 1 rfl ?_; refine s_append th rfl rfl rfl rfl rfl rfl rfl rfl rfl rfl rfl rfl rfl rfl rfl (by constructor <;> simp [htl] <;> omega) ?_; refine run_ th rfl ?_)
     | (refine s_anyB 9 1 rfl ?_; refine s_appendF th rfl rfl rfl rfl rfl rfl rfl rfl rfl rfl rfl rfl rfl rfl (by constructor <;> simp [htl] <;> omega) ?_; refine run_ th rfl ?_)
     | (refine q_call roles_c rfl rfl rfl rfl rfl rfl rfl ?_; refine grun_ th rfl ?_)
     | (refine q_add rfl rfl rfl rfl rfl rfl (by omega) ?_; refine grun_ th rfl ?_)
     | (refine q_rem rfl rfl rfl rfl rfl rfl (by decide) ?_; refine grun_ th rfl ?_)
     | (refine q_idx th rfl rfl rfl rfl rfl rfl rfl rfl rfl (pkV l (pkA l (trnS types l cnt pe k0 i).2) pe).toNat _ (by omega) (role_get (by omega)) ?_; refine grun_ th rfl ?_)
     | (refine q_eff (pickx_c l _ hle1 pe (by omega) (by omega)) [given] rfl rfl rfl rfl rfl rfl rfl rfl rfl rfl rfl (outM_sub (ids := [given]) rfl) ?_; refine grun_ th rfl ?_)
     | (refine q_eff (armx_c types ht l _ hle2 (cnt : Int) (by omega) (by omega)) [given] rfl rfl rfl rfl rfl rfl rfl rfl rfl rfl rfl (outM_sub (ids := [given]) rfl) ?_; refine grun_ th rfl ?_)
     | (refine q_lit th rfl rfl rfl rfl rfl rfl rfl rfl rfl rfl rfl rfl (.refl _) ?_; refine grun_ th rfl ?_)
     | refine GOps.nil ?_
     | (refine s_add rfl rfl rfl rfl rfl rfl (by omega) ?_; refine run_ th rfl ?_))
    · have hih := ih (i + 1) hlt (by omega)
      rw [show trnS types l cnt pe k0 (i + 1) = ((trnS types l cnt pe k0 i).1 ++ [noTrn], pkA l (trnS types l cnt pe k0 i).2) by rw [trnS, if_pos hb]] at hih
      refine g_sub (by exact ⟨⟨_, rfl, .refl _⟩, ⟨_, rfl, .refl _⟩, ⟨_, rfl, .refl _⟩, ⟨_, rfl, .refl _⟩, ⟨_, rfl, .refl _⟩, ⟨_, rfl, .refl _⟩, ⟨_, rfl, le_int (by omega)⟩, trivial⟩) ?_ rfl rfl rfl hih
      refine ⟨⟨_, rfl, .refl _⟩, ⟨_, rfl, .refl _⟩, ⟨_, rfl, .refl _⟩, ⟨_, rfl, ?_⟩, trivial⟩
      rw [List.map_append]
      exact .arr (.append (.refl _) (.cons (.cons (.refl _) (.cons (.refl _) (.cons (.nil 4) .nil))) .nil))
    · have hih := ih (i + 1) hlt (by omega)
      rw [show trnS types l cnt pe k0 (i + 1) = ((trnS types l cnt pe k0 i).1 ++ [⟨1 + (pkV l (trnS types l cnt pe k0 i).2 5).tmod 2, rolesL.getD (pkV l (pkA l (trnS types l cnt pe k0 i).2) pe).toNat ⟨#[]⟩, (armV types l (pkA l (pkA l (trnS types l cnt pe k0 i).2)) cnt).1⟩], (armV types l (pkA l (pkA l (trnS types l cnt pe k0 i).2)) cnt).2) by rw [trnS, if_neg hb]] at hih
      refine g_sub (by exact ⟨⟨_, rfl, .refl _⟩, ⟨_, rfl, .refl _⟩, ⟨_, rfl, .refl _⟩, ⟨_, rfl, .refl _⟩, ⟨_, rfl, .refl _⟩, ⟨_, rfl, .refl _⟩, ⟨_, rfl, le_int (by omega)⟩, trivial⟩) ?_ rfl rfl rfl hih
      exact ⟨⟨_, rfl, .refl _⟩, ⟨_, rfl, .refl _⟩, ⟨_, rfl, .refl _⟩, ⟨_, rfl, le_arr (by rw [List.map_append]; rfl)⟩, trivial⟩
  · have hie : i = cnt := by omega
    subst hie
    repeat' (first
     | refine gc_ rfl ?_
     | (refine g_region ?_; refine run_ th rfl ?_)
     | (refine g_drawC mix rfl rfl ?_; refine drun_ th rfl ?_)
     | (refine g_drawEC mix rfl rfl ?_; refine erun_ th rfl ?_)
     | refine SOps.nil ?_
     | refine DOps.nil ?_
     | refine EOps.nil ?_ rfl rfl
     | (refine s_split rfl rfl (fun hb => ?_) (fun hb => ?_) <;> (try simp only [hbL] at hb) <;> first | (exfalso; omega) | refine run_ th rfl ?_)
     | (refine d_split rfl rfl rfl (fun hb => ?_) (fun hb => ?_) <;> (try simp only [hbL] at hb) <;> first | (exfalso; omega) | refine drun_ th rfl ?_)
     | (refine g_if rfl (fun hb => ?_) (fun hb => ?_) <;> (try simp only [hbL] at hb) <;> (try (exfalso; omega))))
    refine g_toPool 200 rfl rfl fun v => ?_
    exact g_endM (hd := hd) th Tryz.func25 v (.inr ⟨_, rfl⟩) rfl rfl rfl rfl ⟨rfl, rfl, trivial⟩ rfl rfl rfl trivial
def pairT (t : Trn) : Trn := if t.kind = 0 then t else ⟨t.kind, ⟨#[97]⟩, t.arms⟩
def pairL (l : Loc) : Loc := ⟨l.name, l.turns.map pairT⟩
def pa1 : List ByteArray := [⟨#[112, 46, 97]⟩]
def onepV (made : List Int) : Loc := pairL (locV ⟨#[116]⟩ pa1 made 0).1
theorem set_mid' {α β : Type} (f : α → α) (g : α → β) (l : List α) (m : Nat) (hm : m < l.length) :
    (((l.take m).map f ++ l.drop m).map g).set m (g (f l[m])) = ((l.take (m + 1)).map f ++ l.drop (m + 1)).map g := by
  rw [← List.map_set]
  congr 1
  rw [List.set_append_right _ _ (by simp; omega), List.take_succ_eq_append_getElem hm, List.map_append, List.append_assoc]
  congr 1
  have : m - ((l.take m).map f).length = 0 := by simp; omega
  rw [this, List.drop_eq_getElem_cons hm]
  rfl
theorem mid_get' {α β : Type} (f : α → α) (g : α → β) (l : List α) (m : Nat) (hm : m < l.length) : (((l.take m).map f ++ l.drop m).map g)[m]? = some (g l[m]) := by
  rw [List.getElem?_map, List.getElem?_append_right (by simp; omega), List.getElem?_drop]
  have : m + (m - ((l.take m).map f).length) = m := by simp; omega
  rw [this, List.getElem?_eq_getElem hm]; rfl
theorem set_same {α : Type} {l : List α} {i : Nat} {x : α} (h : l[i]? = some x) : l.set i x = l := by
  obtain ⟨h1, rfl⟩ := List.getElem?_eq_some_iff.1 h
  exact List.set_getElem_self h1
theorem pa1_ok : TypesOK pa1 := fun t h => by
  have : t = ⟨#[112, 46, 97]⟩ := List.mem_singleton.1 h
  subst this
  exact ⟨by decide, by decide⟩
theorem pair_set {l : List Trn} {i : Nat} (h : i < l.length) (g : Trn) (hg : pairT l[i] = g) : (((l.take i).map pairT ++ l.drop i).map Trn.cs).set i g.cs = ((l.take (i + 1)).map pairT ++ l.drop (i + 1)).map Trn.cs := by
  subst hg; exact set_mid' pairT Trn.cs l i h
set_option maxHeartbeats 8000000 in
theorem pair_c (made : List Int) (hbig : made.length * 8 ≤ 140737488355328) : Con Tryz.prog 36 [] [C1 (intsT made)] (.v (Ag (onepV made).cs)) [] := by
  have hloc := locM_c ⟨#[116]⟩ pa1 (by decide) made 0 (Nat.zero_le _)
  have hlen := (locV_ok (name := ⟨#[116]⟩) (types := pa1) pa1_ok (by decide) made 0).2.2
  unfold onepV
  obtain ⟨q, hq⟩ : ∃ q, q = (locV ⟨#[116]⟩ pa1 made 0).2 := ⟨_, rfl⟩
  rw [← hq] at hloc
  obtain ⟨a, ha⟩ : ∃ a, a = (locV ⟨#[116]⟩ pa1 made 0).1 := ⟨_, rfl⟩
  have han : a.name = ⟨#[116]⟩ := by rw [ha]; rfl
  rw [← ha] at hloc hlen ⊢
  rw [show pairL a = ⟨⟨#[116]⟩, a.turns.map pairT⟩ by unfold pairL; rw [han]]
  clear han ha
  refine con_of (c := _) Tryz.func36 rfl rfl rfl (by decide) fun w M0 H Z => ?_
  repeat' (first
   | refine gc_ rfl ?_
   | (refine g_region ?_; refine run_ th rfl ?_)
   | (refine g_drawC mix rfl rfl ?_; refine drun_ th rfl ?_)
   | (refine g_drawEC mix rfl rfl ?_; refine erun_ th rfl ?_)
   | refine SOps.nil ?_
   | refine DOps.nil ?_
   | refine EOps.nil ?_ rfl rfl
   | (refine s_split rfl rfl (fun hb => ?_) (fun hb => ?_) <;> (try simp only [hbL] at hb) <;> first | (exfalso; omega) | refine run_ th rfl ?_)
   | (refine d_split rfl rfl rfl (fun hb => ?_) (fun hb => ?_) <;> (try simp only [hbL] at hb) <;> first | (exfalso; omega) | refine drun_ th rfl ?_)
   | (refine g_if rfl (fun hb => ?_) (fun hb => ?_) <;> (try simp only [hbL] at hb) <;> (try (exfalso; omega)))
   | (refine s_callN (new_c made (by omega)) rfl rfl rfl rfl rfl rfl rfl ?_; refine run_ th rfl ?_)
   | (refine s_freeze 7 rfl rfl ?_; refine s_leT 7 (.v (C1 (namesT pa1))) rfl (.v (.one (.c (.nn true 1 _)))) ?_; refine s_callM hloc [(given, 6)] rfl rfl rfl rfl ⟨rfl, trivial⟩ ⟨rfl, rfl, rfl, rfl, rfl⟩ (fun _ => ⟨rfl, rfl, rfl, rfl, rfl, rfl, rfl⟩) (fun _ => rfl) (fun _ => rfl) rfl rfl rfl (fun v _ => ?_); refine run_ th rfl ?_))
  refine g_ownB 200 201 3 1 rfl rfl rfl rfl rfl rfl rfl rfl ?_
  refine g_loop1 (fun i : Nat => i ≤ a.turns.length)
    (fun i => [(2, .v (.one (.ptr 2 0))), (3, .v (.one (.ptr 3 0))), (4, .v (C1 (.int .i64 (i : Int))))])
    (fun i => [(2, .box [.c (.str ⟨#[]⟩), .c .nils]), (3, .box [.c (.str ⟨#[116]⟩), .own 201]), (201, .arr false 48 3 (((a.turns.take i).map pairT ++ a.turns.drop i).map Trn.cs))])
    (fun i => a.turns.length - i) 0 (Nat.zero_le _)
    (fun a w h => h.sub (by exact ⟨⟨_, rfl, .refl _⟩, ⟨_, rfl, .refl _⟩, ⟨_, rfl, le_int rfl⟩, trivial⟩) (by exact ⟨⟨_, rfl, .refl _⟩, ⟨_, rfl, .refl _⟩, ⟨_, rfl, le_arr rfl⟩, trivial⟩) rfl rfl rfl) (fun i hi ih => ?_)
  by_cases hlt : i < a.turns.length
  · have hx := mid_get' pairT Trn.cs a.turns i hlt
    have hll : ((((a.turns.take i).map pairT ++ a.turns.drop i).map Trn.cs).length : Int) = (a.turns.length : Int) := by simp; omega
    have hll2 : ((((a.turns.take i).map pairT ++ a.turns.drop i)).length : Int) = (a.turns.length : Int) := by simp; omega
    have hih := ih (i + 1) hlt (by omega)
    obtain ⟨t, ht⟩ : ∃ t, t = a.turns[i] := ⟨_, rfl⟩
    have hset := fun g => pair_set hlt g
    rw [← ht] at hx hset
    clear ht
    repeat' (first
     | refine gc_ rfl ?_
     | (refine g_region ?_; refine run_ th rfl ?_)
     | (refine g_drawC mix rfl rfl ?_; refine drun_ th rfl ?_)
     | (refine g_drawEC mix rfl rfl ?_; refine erun_ th rfl ?_)
     | refine SOps.nil ?_
     | refine DOps.nil ?_
     | refine EOps.nil ?_ rfl rfl
     | (refine s_split rfl rfl (fun hb => ?_) (fun hb => ?_) <;> (try simp only [hbL] at hb) <;> first | (exfalso; omega) | refine run_ th rfl ?_)
     | (refine d_split rfl rfl rfl (fun hb => ?_) (fun hb => ?_) <;> (try simp only [hbL] at hb) <;> first | (exfalso; omega) | refine drun_ th rfl ?_)
     | (refine g_if rfl (fun hb => ?_) (fun hb => ?_) <;> (try simp only [hbL] at hb) <;> (try (exfalso; omega)))
     | (refine s_idxo th rfl rfl rfl rfl rfl rfl rfl rfl rfl rfl i rfl (by simp; omega) ?_; refine run_ th rfl ?_)
     | (refine s_loada th _ rfl rfl rfl rfl hx rfl rfl rfl rfl rfl ?_; refine run_ th rfl ?_)
     | (refine s_storef th _ rfl rfl rfl rfl hx rfl rfl rfl rfl rfl rfl rfl ?_; refine run_ th rfl ?_)
     | (refine s_add rfl rfl rfl rfl rfl rfl (by omega) ?_; refine run_ th rfl ?_))
    all_goals first
      | exact g_sub (by exact ⟨⟨_, rfl, .refl _⟩, ⟨_, rfl, .refl _⟩, ⟨_, rfl, le_int (by omega)⟩, trivial⟩) (by exact ⟨⟨_, rfl, .refl _⟩, ⟨_, rfl, .refl _⟩, ⟨_, rfl, le_arr (hset ⟨t.kind, ⟨#[97]⟩, t.arms⟩ (by unfold pairT; rw [if_neg (by assumption)]))⟩, trivial⟩) rfl rfl rfl hih
      | exact g_sub (by exact ⟨⟨_, rfl, .refl _⟩, ⟨_, rfl, .refl _⟩, ⟨_, rfl, le_int (by omega)⟩, trivial⟩) (by exact ⟨⟨_, rfl, .refl _⟩, ⟨_, rfl, .refl _⟩, ⟨_, rfl, le_arr ((set_same hx).symm.trans (hset t (by unfold pairT; rw [if_pos (by assumption)])))⟩, trivial⟩) rfl rfl rfl hih
  · rw [List.take_of_length_le (by omega), List.drop_of_length_le (by omega), List.append_nil]
    repeat' (first
     | refine gc_ rfl ?_
     | (refine g_region ?_; refine run_ th rfl ?_)
     | (refine g_drawC mix rfl rfl ?_; refine drun_ th rfl ?_)
     | (refine g_drawEC mix rfl rfl ?_; refine erun_ th rfl ?_)
     | refine SOps.nil ?_
     | refine DOps.nil ?_
     | refine EOps.nil ?_ rfl rfl
     | (refine s_split rfl rfl (fun hb => ?_) (fun hb => ?_) <;> (try simp only [hbL] at hb) <;> first | (exfalso; omega) | refine run_ th rfl ?_)
     | (refine d_split rfl rfl rfl (fun hb => ?_) (fun hb => ?_) <;> (try simp only [hbL] at hb) <;> first | (exfalso; omega) | refine drun_ th rfl ?_)
     | (refine g_if rfl (fun hb => ?_) (fun hb => ?_) <;> (try simp only [hbL] at hb) <;> (try (exfalso; omega))))
    refine g_freeze 201 rfl rfl ?_
    refine g_endL th Tryz.func36 (.inr ⟨_, rfl⟩) rfl rfl rfl ?_ rfl
    exact .refl _
end Go.Sy
