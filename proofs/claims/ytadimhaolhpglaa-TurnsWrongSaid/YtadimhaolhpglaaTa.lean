/- Contracts: reparteemake.arms as a row of one's own; reparteemake.Local of which one turn's arms are a row of one's own. -/
import Derived.Test.YtadimhaolhpglaaXa
import Derived.Test.YtadimhaolhpglaaBw1
import Derived.Test.YtadimhaolhpglaaSymZs
set_option linter.unusedSimpArgs false
set_option linter.unusedVariables false
set_option linter.unusedSectionVars false
namespace Go.Sy
open Go.Proofs
set_option maxRecDepth 100000
attribute [local irreducible] SOps Goes DOps EOps GOps FOps

set_option maxHeartbeats 8000000 in
theorem armM_c (types : List ByteArray) (ht : types.length ≤ 1000) (l : List Int) (k : Nat) (hk : k ≤ l.length) (p : Int) (hp : 1 ≤ p) (hp2 : p ≤ 1000) :
    ConM Try.prog 51 [(given, .box ((diceX l k).map SC.c))] [.one (.ptr given 0), C1 (namesT types), C1 (.int .i64 p)]
      (fun _ : Value => True) (fun v => .v (.one (.c (.val v)))) (fun v => [(given, .box ((diceX l (armV types l k p).2).map SC.c)), (50, .pool 41 4 [(v, (armV types l k p).1.map Arm.cs)])]) := by
  have hk1 := pkA_le hk
  have hk2 := pkA_le hk1
  have hr1 := pk_range l k (n := 3) (by omega) (by omega)
  have hr2 := pk_range l (pkA l k) (n := 4) (by omega) (by omega)
  refine conM_of (c := _) Try.func51 rfl rfl rfl (by decide) rfl fun w M0 H Z hd => ?_
  repeat' (first
   | refine gc_ rfl ?_
   | (refine g_region ?_; refine run_ th rfl ?_)
   | (refine g_drawC mix rfl rfl ?_; refine drun_ th rfl ?_)
   | (refine g_drawEC mix rfl rfl ?_; refine erun_ th rfl ?_)
   | refine SOps.nil ?_
   | refine DOps.nil ?_
   | refine EOps.nil ?_ rfl rfl
   | (refine s_split rfl rfl (fun hb => ?_) (fun hb => ?_) <;> (try simp only [hbL] at hb) <;> first | (exfalso; omega) | refine run_ th rfl ?_)
   | (refine d_split rfl rfl rfl (fun hb => ?_) (fun hb => ?_) <;> (try simp only [hbL] at hb) <;> first | (exfalso; omega) | refine drun_ th rfl ?_)
   | (refine g_if rfl (fun hb => ?_) (fun hb => ?_) <;> (try simp only [hbL] at hb) <;> (try (exfalso; omega)))
   | (refine s_call (pickx_c l k hk 3 (by omega) (by omega)) [given] rfl rfl rfl rfl rfl rfl rfl rfl rfl rfl ?_; refine run_ th rfl ?_)
   | (refine s_call (pickx_c l (pkA l k) hk1 4 (by omega) (by omega)) [given] rfl rfl rfl rfl rfl rfl rfl rfl rfl rfl ?_; refine run_ th rfl ?_)
   | (refine s_add rfl rfl rfl rfl rfl rfl (by omega) ?_; refine run_ th rfl ?_))
  obtain ⟨fr, hfr⟩ : ∃ fr, fr = pkV l (pkA l k) 4 := ⟨_, rfl⟩
  obtain ⟨k0, hk0⟩ : ∃ k0, k0 = pkA l (pkA l k) := ⟨_, rfl⟩
  obtain ⟨cnt, hcnt⟩ : ∃ cnt : Nat, cnt = (1 + pkV l k 3).toNat := ⟨_, rfl⟩
  have hres : armV types l k p = armS types l fr p k0 cnt := by rw [hfr, hk0, hcnt]; rfl
  rw [hres]
  rw [← hfr] at hr2 ⊢
  rw [← hk0] at hk2 ⊢
  have hcI : (1 + pkV l k 3 : Int) = (cnt : Int) := by omega
  have hc3 : cnt ≤ 3 := by omega
  refine g_adopt 7 50 41 4 rfl rfl rfl ?_
  refine g_loop1 (fun i : Nat => i ≤ cnt)
    (fun i => [(0, .v (.one (.ptr given 0))), (1, .v (C1 (namesT types))), (2, .v (C1 (.int .i64 p))), (7, .v (.one (.own 50))), (8, .v (C1 (.int .i64 (cnt : Int)))), (9, .v (C1 (.int .i64 fr))), (10, .v (C1 (.int .i64 (i : Int))))])
    (fun i => [(given, .box ((diceX l (armS types l fr p k0 i).2).map SC.c)), (50, .arr false 41 4 ((armS types l fr p k0 i).1.map Arm.cs))])
    (fun i => cnt - i) 0 (Nat.zero_le _)
    (fun a w h => h.sub (by exact ⟨⟨_, rfl, .refl _⟩, ⟨_, rfl, .refl _⟩, ⟨_, rfl, .refl _⟩, ⟨_, rfl, .refl _⟩, ⟨_, rfl, le_int hcI⟩, ⟨_, rfl, .refl _⟩, ⟨_, rfl, le_int rfl⟩, trivial⟩) (by exact ⟨⟨_, rfl, .refl _⟩, ⟨_, rfl, le_arr rfl⟩, trivial⟩) rfl rfl rfl) (fun i hi ih => ?_)
  have hle := armS_le (types := types) (f := fr) (p := p) hk2 i
  have hcl := carV_le (types := types) hle
  have hal := armS_len (types := types) (l := l) (f := fr) (p := p) (k := k0) i
  by_cases hlt : i < cnt
  · have hm4 := tmod4 (m := fr + (i : Int)) (by omega)
    repeat' (first
     | (refine g_drawS 16 [given] mix rfl rfl rfl rfl rfl rfl rfl rfl ?_; refine grun_ th rfl ?_)
     | refine gc_ rfl ?_
     | (refine g_region ?_; refine run_ th rfl ?_)
     | (refine g_drawC mix rfl rfl ?_; refine drun_ th rfl ?_)
     | (refine g_drawEC mix rfl rfl ?_; refine erun_ th rfl ?_)
     | refine SOps.nil ?_
     | refine DOps.nil ?_
     | refine EOps.nil ?_ rfl rfl
     | (refine s_split rfl rfl (fun hb => ?_) (fun hb => ?_) <;> (try simp only [hbL] at hb) <;> first | (exfalso; omega) | refine run_ th rfl ?_)
     | (refine d_split rfl rfl rfl (fun hb => ?_) (fun hb => ?_) <;> (try simp only [hbL] at hb) <;> first | (exfalso; omega) | refine drun_ th rfl ?_)
     | (refine g_if rfl (fun hb => ?_) (fun hb => ?_) <;> (try simp only [hbL] at hb) <;> (try (exfalso; omega)))
     | (refine q_call labels_c rfl rfl rfl rfl rfl rfl rfl ?_; refine grun_ th rfl ?_)
     | (refine q_add rfl rfl rfl rfl rfl rfl (by omega) ?_; refine grun_ th rfl ?_)
     | (refine q_rem rfl rfl rfl rfl rfl rfl (by decide) ?_; refine grun_ th rfl ?_)
     | (refine q_idx th rfl rfl rfl rfl rfl rfl rfl rfl rfl ((fr + (i : Int)).tmod 4).toNat _ (by omega) (lab_get hm4) ?_; refine grun_ th rfl ?_)
     | (refine q_eff (carx_c types ht l _ hle) [given] rfl rfl rfl rfl rfl rfl rfl rfl rfl rfl rfl (outM_sub (ids := [given]) rfl) ?_; refine grun_ th rfl ?_)
     | (refine q_eff (pickx_c l _ hcl p (by omega) (by omega)) [given] rfl rfl rfl rfl rfl rfl rfl rfl rfl rfl rfl (outM_sub (ids := [given]) rfl) ?_; refine grun_ th rfl ?_)
     | (refine q_lit th rfl rfl rfl rfl rfl rfl rfl rfl rfl rfl rfl (.refl _) ?_; refine grun_ th rfl ?_)
     | (refine q_lit th rfl rfl rfl rfl rfl rfl rfl rfl rfl rfl rfl rfl (.refl _) ?_; refine grun_ th rfl ?_)
     | refine GOps.nil ?_
     | (refine s_appendF th rfl rfl rfl rfl rfl rfl rfl rfl rfl rfl rfl rfl rfl rfl (by constructor <;> simp [hal] <;> omega) ?_; refine run_ th rfl ?_)
     | (refine s_add rfl rfl rfl rfl rfl rfl (by omega) ?_; refine run_ th rfl ?_))
    have hih := ih (i + 1) hlt (by omega)
    exact g_sub (by exact ⟨⟨_, rfl, .refl _⟩, ⟨_, rfl, .refl _⟩, ⟨_, rfl, .refl _⟩, ⟨_, rfl, .refl _⟩, ⟨_, rfl, .refl _⟩, ⟨_, rfl, .refl _⟩, ⟨_, rfl, le_int (by omega)⟩, trivial⟩)
      (by exact ⟨⟨_, rfl, .refl _⟩, ⟨_, rfl, le_arr (by rw [armS, List.map_append]; rfl)⟩, trivial⟩) rfl rfl rfl hih
  · have hie : i = cnt := by omega
    subst hie
    repeat' (first
     | refine gc_ rfl ?_
     | (refine g_region ?_; refine run_ th rfl ?_)
     | (refine g_drawC mix rfl rfl ?_; refine drun_ th rfl ?_)
     | (refine g_drawEC mix rfl rfl ?_; refine erun_ th rfl ?_)
     | refine SOps.nil ?_
     | refine DOps.nil ?_
     | refine EOps.nil ?_ rfl rfl
     | (refine s_split rfl rfl (fun hb => ?_) (fun hb => ?_) <;> (try simp only [hbL] at hb) <;> first | (exfalso; omega) | refine run_ th rfl ?_)
     | (refine d_split rfl rfl rfl (fun hb => ?_) (fun hb => ?_) <;> (try simp only [hbL] at hb) <;> first | (exfalso; omega) | refine drun_ th rfl ?_)
     | (refine g_if rfl (fun hb => ?_) (fun hb => ?_) <;> (try simp only [hbL] at hb) <;> (try (exfalso; omega))))
    refine g_toPool 50 rfl rfl fun v => ?_
    exact g_endM (hd := hd) th Try.func51 v (.inr ⟨_, rfl⟩) rfl rfl rfl rfl ⟨rfl, rfl, trivial⟩ rfl rfl rfl trivial


/-! ### A type of which one turn's arms are kept -/
def lkRow (t : Trn) (v : Value) : List CT := [.int .i64 t.kind, .str t.peer, .val v]
def lkRows (l : List Trn) (kk : Nat) (t : Trn) : Option Value → List (List CT)
  | none => l.map Trn.cs
  | some v => (l.map Trn.cs).set kk (lkRow t v)
def lkPool (t : Trn) : Option Value → MM
  | none => []
  | some v => [(50, .pool 41 4 [(v, t.arms.map Arm.cs)])]
theorem lkRows_snoc {l : List Trn} {kk : Nat} {t y : Trn} {o : Option Value} (h : o.isSome = true → kk < l.length) : lkRows (l ++ [y]) kk t o = lkRows l kk t o ++ [y.cs] := by
  cases o with
  | none => simp [lkRows]
  | some v =>
    simp only [lkRows, List.map_append, List.map_cons, List.map_nil]
    rw [List.set_append_left _ _ (by simpa using h rfl)]
theorem lkRows_len {l : List Trn} {kk : Nat} {t : Trn} {o : Option Value} : (lkRows l kk t o).length = l.length := by
  cases o <;> simp [lkRows]
abbrev AV := Value × Value
def lkET (roles : CT) (q : Int) (t : Trn) : Nat → AV → TM
  | 1, _ => [(40, .v (C1 roles))]
  | 2, _ => [(43, .v (C1 (.int .i64 q)))]
  | 3, x => [(49, .v (.one (.c (.val x.1))))]
  | 4, x => [(50, .v (.agg [.c (.int .i64 t.kind), .c (.str t.peer), .c (.val x.1)]))]
  | 5, x => [(51, .v (.one (.c (.slice true 3 [lkRow t x.1]))))]
  | 6, x => [(52, .v (.one (.c (.val x.2))))]
  | _, _ => []
def lk3 (mm : MM) (d1 d2 : List CT) (t : Trn) (x : AV) : MM := aftM [(given, given)] (updMs mm [given] [d1]) [(given, .box (d1.map SC.c))] [(given, .box (d2.map SC.c)), (50, .pool 41 4 [(x.1, t.arms.map Arm.cs)])]
def lkMM (mm : MM) (name : ByteArray) (d1 d2 : List CT) (rows : List (List CT)) (t : Trn) : Nat → AV → MM
  | 0, _ => mm
  | 1, _ => mm
  | 2, _ => updMs mm [given] [d1]
  | 3, x => lk3 mm d1 d2 t x
  | 4, x => lk3 mm d1 d2 t x
  | 5, x => lk3 mm d1 d2 t x
  | 6, x => updM (lk3 mm d1 d2 t x) 200 (.pool 56 3 [(x.2, rows ++ [lkRow t x.1])])
  | _, x => updM (updM (lk3 mm d1 d2 t x) 200 (.pool 56 3 [(x.2, rows ++ [lkRow t x.1])])) 9 (.box [.c (.str name), .c (.val x.2)])
theorem trnS_get {types : List ByteArray} {l : List Int} {n q : Int} {k : Nat} (kk : Nat) (t : Trn) (h : (trnS types l n q k (kk + 1)).1 = (trnS types l n q k kk).1 ++ [t]) : ∀ i, kk < i → (trnS types l n q k i).1[kk]? = some t
  | 0, hi => by omega
  | i + 1, hi => by
    by_cases hik : i = kk
    · subst hik
      rw [h, List.getElem?_append_right (by rw [trnS_len]; omega), trnS_len]; simp
    · have hr := trnS_get kk t h i (by omega)
      have hp : ∃ y, (trnS types l n q k (i + 1)).1 = (trnS types l n q k i).1 ++ [y] := by
        rw [trnS]; split <;> exact ⟨_, rfl⟩
      obtain ⟨y, hy⟩ := hp
      rw [hy, List.getElem?_append_left (by rw [trnS_len]; omega)]; exact hr

set_option maxHeartbeats 32000000 in
theorem locK_c (name : ByteArray) (types : List ByteArray) (ht : types.length ≤ 1000) (l : List Int) (k : Nat) (hk : k ≤ l.length) (kk : Nat) (t : Trn) (hkk : (locV name types l k).1.turns[kk]? = some t) (htk : t.kind ≠ 0) :
    ConM Try.prog 21 [(given, .box ((diceX l k).map SC.c))] [.one (.ptr given 0), C1 (.str name), C1 (namesT types)]
      (fun _ : AV => True) (fun v => .v (.agg [.c (.str name), .c (.val v.2)])) (fun v => [(given, .box ((diceX l (locV name types l k).2).map SC.c)), (200, .pool 56 3 [(v.2, ((locV name types l k).1.turns.map Trn.cs).set kk (lkRow t v.1))]), (50, .pool 41 4 [(v.1, t.arms.map Arm.cs)])]) := by
  have hk1 := pkA_le hk
  have hk2 := pkA_le hk1
  have hr1 := pk_range l k (n := 6) (by omega) (by omega)
  have hr2 := pk_range l (pkA l k) (n := 2) (by omega) (by omega)
  refine conM_of (c := _) Try.func21 rfl rfl rfl (by decide) rfl fun w M0 H Z hd => ?_
  repeat' (first
   | refine gc_ rfl ?_
   | (refine g_region ?_; refine run_ th rfl ?_)
   | (refine g_drawC mix rfl rfl ?_; refine drun_ th rfl ?_)
   | (refine g_drawEC mix rfl rfl ?_; refine erun_ th rfl ?_)
   | refine SOps.nil ?_
   | refine DOps.nil ?_
   | refine EOps.nil ?_ rfl rfl
   | (refine s_split rfl rfl (fun hb => ?_) (fun hb => ?_) <;> (try simp only [hbL] at hb) <;> first | (exfalso; omega) | refine run_ th rfl ?_)
   | (refine d_split rfl rfl rfl (fun hb => ?_) (fun hb => ?_) <;> (try simp only [hbL] at hb) <;> first | (exfalso; omega) | refine drun_ th rfl ?_)
   | (refine g_if rfl (fun hb => ?_) (fun hb => ?_) <;> (try simp only [hbL] at hb) <;> (try (exfalso; omega)))
   | (refine s_call (pickx_c l k hk 6 (by omega) (by omega)) [given] rfl rfl rfl rfl rfl rfl rfl rfl rfl rfl ?_; refine run_ th rfl ?_)
   | (refine s_call (pickx_c l (pkA l k) hk1 2 (by omega) (by omega)) [given] rfl rfl rfl rfl rfl rfl rfl rfl rfl rfl ?_; refine run_ th rfl ?_)
   | (refine s_add rfl rfl rfl rfl rfl rfl (by omega) ?_; refine run_ th rfl ?_))
  obtain ⟨pe, hpe⟩ : ∃ pe, pe = 1 + pkV l (pkA l k) 2 := ⟨_, rfl⟩
  obtain ⟨k0, hk0⟩ : ∃ k0, k0 = pkA l (pkA l k) := ⟨_, rfl⟩
  obtain ⟨cnt, hcnt⟩ : ∃ cnt : Nat, cnt = (1 + pkV l k 6).toNat := ⟨_, rfl⟩
  have hcI : (1 + pkV l k 6 : Int) = (cnt : Int) := by omega
  have hc3 : 1 ≤ cnt ∧ cnt ≤ 6 := by omega
  have hpr : 1 ≤ pe ∧ pe ≤ 2 := by omega
  have hres : locV name types l k = (⟨name, (trnS types l cnt pe k0 cnt).1⟩, (trnS types l cnt pe k0 cnt).2) := by rw [hpe, hk0, ← hcI, hcnt]; rfl
  rw [hres] at hkk ⊢
  rw [← hpe, ← hk0, hcI]
  rw [← hk0] at hk2
  simp only at hkk
  have hkc : kk < cnt := by
    have := (List.getElem?_eq_some_iff.1 hkk).1
    rwa [trnS_len] at this
  -- what the turn kk is
  have htt : (trnS types l cnt pe k0 (kk + 1)).1 = (trnS types l cnt pe k0 kk).1 ++ [t] := by
    have hp : ∃ y, (trnS types l cnt pe k0 (kk + 1)).1 = (trnS types l cnt pe k0 kk).1 ++ [y] := by
      rw [trnS]; split <;> exact ⟨_, rfl⟩
    obtain ⟨y, hy⟩ := hp
    have := trnS_get kk y hy cnt hkc
    rw [hkk] at this
    injection this with this
    rw [hy, this]
  refine g_nilVal 9 1 rfl rfl ?_
  refine g_newPool 200 56 3 rfl rfl ?_
  refine g_nilPool 200 rfl rfl rfl rfl ?_
  refine g_loop3 (fun (i : Nat) (_ : Value) (o : Option Value) => i ≤ cnt ∧ (o = none → i ≤ kk) ∧ (o.isSome = true → kk < i))
    (fun i _ _ => [(0, .v (.one (.ptr given 0))), (2, .v (C1 (namesT types))), (6, .v (.one (.ptr 6 0))), (7, .v (C1 (.int .i64 (cnt : Int)))), (8, .v (C1 (.int .i64 pe))), (9, .v (.one (.ptr 9 0))), (10, .v (C1 (.int .i64 (i : Int))))])
    (fun i vT o => (given, .box ((diceX l (trnS types l cnt pe k0 i).2).map SC.c)) :: (6, .box [.c (.str ⟨#[]⟩), .c .nils]) :: (9, .box [.c (.str name), .c (.val vT)]) :: (200, .pool 56 3 [(vT, lkRows (trnS types l cnt pe k0 i).1 kk t o)]) :: lkPool t o)
    (fun i _ _ => cnt - i) 0 (.slice none 0 0) none ⟨Nat.zero_le _, fun _ => Nat.zero_le _, fun h => by cases h⟩
    (fun a w h => h.sub (by exact ⟨⟨_, rfl, .refl _⟩, ⟨_, rfl, .refl _⟩, ⟨_, rfl, .refl _⟩, ⟨_, rfl, .refl _⟩, ⟨_, rfl, .refl _⟩, ⟨_, rfl, .refl _⟩, ⟨_, rfl, le_int rfl⟩, trivial⟩) (by exact ⟨⟨_, rfl, .refl _⟩, ⟨_, rfl, .refl _⟩, ⟨_, rfl, .refl _⟩, ⟨_, rfl, .refl _⟩, trivial⟩) rfl rfl rfl) (fun i vT o hi ih => ?_)
  obtain ⟨hi, ho1, ho2⟩ := hi
  have hle := trnS_le (types := types) (n := (cnt : Int)) (q := pe) hk2 i
  have hle1 := pkA_le hle
  have hle2 := pkA_le hle1
  have htl := trnS_len (types := types) (l := l) (n := (cnt : Int)) (q := pe) (k := k0) i
  by_cases hlt : i < cnt
  · have hq5 := pk_range l (trnS types l cnt pe k0 i).2 (n := 5) (by omega) (by omega)
    have hqp := pk_range l (pkA l (trnS types l cnt pe k0 i).2) (n := pe) (by omega) (by omega)
    have hm2 : 0 ≤ (pkV l (trnS types l cnt pe k0 i).2 5).tmod 2 ∧ (pkV l (trnS types l cnt pe k0 i).2 5).tmod 2 < 2 := ⟨Int.tmod_nonneg _ hq5.1, Int.tmod_lt_of_pos _ (by omega)⟩
    have hrl := lkRows_len (l := (trnS types l cnt pe k0 i).1) (kk := kk) (t := t) (o := o)
    rw [htl] at hrl
    by_cases hik : i = kk
    · have hon : o = none := by
        cases o with
        | none => rfl
        | some v => have := ho2 rfl; omega
      subst hon
      have hst : trnS types l cnt pe k0 (i + 1) = if pkV l (trnS types l cnt pe k0 i).2 5 = 0 then _ else _ := rfl
      rw [← hik] at htt
      by_cases h5 : pkV l (trnS types l cnt pe k0 i).2 5 = 0
      · exfalso
        rw [trnS, if_pos h5] at htt
        have := List.append_cancel_left htt
        injection this with this
        exact htk (by rw [← this]; rfl)
      · have hst : trnS types l cnt pe k0 (i + 1) = ((trnS types l cnt pe k0 i).1 ++ [⟨1 + (pkV l (trnS types l cnt pe k0 i).2 5).tmod 2, rolesL.getD (pkV l (pkA l (trnS types l cnt pe k0 i).2) pe).toNat ⟨#[]⟩, (armV types l (pkA l (pkA l (trnS types l cnt pe k0 i).2)) cnt).1⟩], (armV types l (pkA l (pkA l (trnS types l cnt pe k0 i).2)) cnt).2) := by rw [trnS, if_neg h5]
        have hte : t = ⟨1 + (pkV l (trnS types l cnt pe k0 i).2 5).tmod 2, rolesL.getD (pkV l (pkA l (trnS types l cnt pe k0 i).2) pe).toNat ⟨#[]⟩, (armV types l (pkA l (pkA l (trnS types l cnt pe k0 i).2)) cnt).1⟩ := by
          rw [hst] at htt
          have := List.append_cancel_left htt
          injection this with this
          exact this.symm
        have hih := fun v vt => ih (i + 1) vt (some v) ⟨hlt, fun h => (by cases h), fun _ => by omega⟩ (by omega)
        have hset : ∀ v, lkRows (trnS types l cnt pe k0 (i + 1)).1 kk t (some v) = lkRows (trnS types l cnt pe k0 i).1 kk t none ++ [lkRow t v] := fun v => by
          rw [htt]
          simp only [lkRows, List.map_append, List.map_cons, List.map_nil]
          rw [List.set_append_right _ _ (by simp [htl]; omega)]
          rw [show kk - (List.map Trn.cs (trnS types l cnt pe k0 i).1).length = 0 by rw [List.length_map, htl]; omega]
          rfl
        simp only [hset] at hih
        rw [hst] at hih
        simp only at hih
        clear hset hst htt ih
        subst hte
        have harm := armM_c types ht l _ hle2 (cnt : Int) (by omega) (by omega)
        obtain ⟨rows, hrows⟩ : ∃ r, r = lkRows (trnS types l cnt pe k0 i).1 kk ⟨1 + (pkV l (trnS types l cnt pe k0 i).2 5).tmod 2, rolesL.getD (pkV l (pkA l (trnS types l cnt pe k0 i).2) pe).toNat ⟨#[]⟩, (armV types l (pkA l (pkA l (trnS types l cnt pe k0 i).2)) cnt).1⟩ none := ⟨_, rfl⟩
        rw [← hrows] at hrl hih ⊢
        clear hrows
        repeat' (first
         | refine gc_ rfl ?_
         | (refine g_region ?_; refine run_ th rfl ?_)
         | refine SOps.nil ?_
         | (refine s_split rfl rfl (fun hb => ?_) (fun hb => ?_) <;> (try simp only [hbL] at hb) <;> first | (exfalso; omega) | refine run_ th rfl ?_)
         | (refine g_if rfl (fun hb => ?_) (fun hb => ?_) <;> (try simp only [hbL] at hb) <;> (try (exfalso; omega)))
         | (refine s_call (pickx_c l _ hle 5 (by omega) (by omega)) [given] rfl rfl rfl rfl rfl rfl rfl rfl rfl rfl ?_; refine run_ th rfl ?_))
        refine g_drawFS (ι := AV) [(40, .v (C1 (.slice true 1 (rolesL.map fun s => [CT.str s])))), (43, .v (C1 (.int .i64 (pkV l (pkA l (trnS types l cnt pe k0 i).2) pe))))] [5, 8, 14, 15, 16, 17, 19] [given, 200]
          (lkET (.slice true 1 (rolesL.map fun s => [CT.str s])) (pkV l (pkA l (trnS types l cnt pe k0 i).2) pe) ⟨1 + (pkV l (trnS types l cnt pe k0 i).2 5).tmod 2, rolesL.getD (pkV l (pkA l (trnS types l cnt pe k0 i).2) pe).toNat ⟨#[]⟩, (armV types l (pkA l (pkA l (trnS types l cnt pe k0 i).2)) cnt).1⟩)
          (lkMM _ name (diceX l (pkA l (pkA l (trnS types l cnt pe k0 i).2))) (diceX l (armV types l (pkA l (pkA l (trnS types l cnt pe k0 i).2)) cnt).2) rows ⟨1 + (pkV l (trnS types l cnt pe k0 i).2 5).tmod 2, rolesL.getD (pkV l (pkA l (trnS types l cnt pe k0 i).2) pe).toNat ⟨#[]⟩, (armV types l (pkA l (pkA l (trnS types l cnt pe k0 i).2)) cnt).1⟩)
          (vT, vT) mix rfl (fun k x hk => by match k, hk with | 0, _ => (refine subG_spec ?_; repeat (first | exact trivial | refine ⟨rfl, ?_⟩)) | 1, _ => (refine subG_spec ?_; repeat (first | exact trivial | refine ⟨rfl, ?_⟩)) | 2, _ => (refine subG_spec ?_; repeat (first | exact trivial | refine ⟨rfl, ?_⟩)) | 3, _ => (refine subG_spec ?_; repeat (first | exact trivial | refine ⟨rfl, ?_⟩)) | 4, _ => (refine subG_spec ?_; repeat (first | exact trivial | refine ⟨rfl, ?_⟩)) | 5, _ => (refine subG_spec ?_; repeat (first | exact trivial | refine ⟨rfl, ?_⟩)) | 6, _ => (refine subG_spec ?_; repeat (first | exact trivial | refine ⟨rfl, ?_⟩))) rfl (fun k x => by match k with | 0 => rfl | 1 => rfl | 2 => rfl | 3 => rfl | 4 => rfl | 5 => rfl | 6 => rfl | 7 => rfl | _ + 8 => rfl) rfl rfl rfl rfl (by simp) rfl rfl ?_
        refine frun_ th rfl ?_
        repeat' (first
          | (refine f_rem rfl rfl rfl rfl rfl rfl rfl (by decide) ?_; refine frun_ th rfl ?_)
          | (refine f_add rfl rfl rfl rfl rfl rfl rfl _ rfl (by omega) ?_; refine frun_ th rfl ?_)
          | (refine f_idx th rfl rfl rfl rfl rfl rfl rfl rfl rfl rfl (pkV l (pkA l (trnS types l cnt pe k0 i).2) pe).toNat _ (by omega) (role_get (by omega)) ?_; refine frun_ th rfl ?_)
          | (refine FOps.nil (fun hku => ⟨Effs.cons rfl (fun x => ?_) (Effs.cons rfl (fun x => ?_) (Effs.cons rfl (fun x => ?_) (Effs.cons rfl (fun x => ?_) (Effs.cons rfl (fun x => ?_) (Effs.cons rfl (fun x => ?_) (Effs.cons rfl (fun x => ?_) Effs.nil)))))), StatE.stat rfl rfl rfl (fun _ => rfl) (StatE.stat rfl rfl rfl (fun _ => rfl) (StatE.dyn rfl (fun d h => by cases h <;> rfl) (StatE.dyn rfl (fun d h => by cases h <;> rfl) (StatE.dyn rfl (fun d h => by cases h <;> rfl) (StatE.dyn rfl (fun d h => by cases h <;> rfl) (StatE.dyn rfl (fun d h => by cases h <;> rfl) StatE.nil)))))), fun x => ?_⟩))
          | exact ef_callS roles_c [] rfl rfl rfl rfl rfl rfl rfl rfl rfl rfl hku rfl rfl rfl
          | exact ef_callS (pickx_c l _ hle1 pe (by omega) (by omega)) [given] rfl rfl rfl rfl rfl rfl rfl rfl rfl rfl hku rfl rfl rfl
          | exact ef_callM harm [(given, given)] rfl rfl rfl rfl ⟨rfl, trivial⟩ ⟨rfl, rfl, rfl, rfl, rfl⟩ rfl (fun _ => ⟨rfl, rfl, rfl, rfl, rfl, rfl, rfl⟩) (fun _ => rfl) (fun _ => rfl) rfl rfl rfl rfl (fun v => (v, x.2)) (fun _ => rfl) (fun _ _ => rfl)
          | exact ef_eval th rfl rfl rfl rfl rfl rfl rfl
          | exact ef_lit th rfl rfl rfl rfl rfl rfl rfl rfl rfl rfl rfl rfl rfl (.refl _) rfl rfl
          | exact ef_append (i := 200) th rfl rfl rfl rfl rfl rfl rfl rfl rfl rfl rfl rfl rfl rfl rfl rfl 0 rfl (by constructor <;> simp [hrl] <;> omega) (fun v' => (x.1, v')) (fun _ => rfl) (fun _ => rfl)
          | exact ef_store (i := 9) th rfl rfl rfl rfl rfl rfl rfl rfl rfl rfl rfl rfl)
        repeat' (first
         | refine gc_ rfl ?_
         | (refine g_region ?_; refine run_ th rfl ?_)
         | refine SOps.nil ?_
         | (refine s_split rfl rfl (fun hb => ?_) (fun hb => ?_) <;> (try simp only [hbL] at hb) <;> first | (exfalso; omega) | refine run_ th rfl ?_)
         | (refine g_if rfl (fun hb => ?_) (fun hb => ?_) <;> (try simp only [hbL] at hb) <;> (try (exfalso; omega)))
         | (refine s_add rfl rfl rfl rfl rfl rfl (by omega) ?_; refine run_ th rfl ?_))
        all_goals exact g_sub (by exact ⟨⟨_, rfl, .refl _⟩, ⟨_, rfl, .refl _⟩, ⟨_, rfl, .refl _⟩, ⟨_, rfl, .refl _⟩, ⟨_, rfl, .refl _⟩, ⟨_, rfl, .refl _⟩, ⟨_, rfl, le_int (by omega)⟩, trivial⟩) (by exact ⟨⟨_, rfl, .refl _⟩, ⟨_, rfl, .refl _⟩, ⟨_, rfl, .refl _⟩, ⟨_, rfl, .refl _⟩, ⟨_, rfl, .refl _⟩, trivial⟩) rfl rfl rfl (hih x.1 x.2)
    · have hrow : ∀ y : Trn, lkRows ((trnS types l cnt pe k0 i).1 ++ [y]) kk t o = lkRows (trnS types l cnt pe k0 i).1 kk t o ++ [y.cs] := fun y => lkRows_snoc (fun h => by rw [htl]; exact ho2 h)
      have hih := fun vt => ih (i + 1) vt o ⟨hlt, fun h => (by have := ho1 h; omega), fun h => (by have := ho2 h; omega)⟩ (by omega)
      have hz : pkV l (trnS types l cnt pe k0 i).2 5 = 0 → trnS types l cnt pe k0 (i + 1) = ((trnS types l cnt pe k0 i).1 ++ [noTrn], pkA l (trnS types l cnt pe k0 i).2) := fun h => by rw [trnS, if_pos h]
      have hnz : ¬ pkV l (trnS types l cnt pe k0 i).2 5 = 0 → trnS types l cnt pe k0 (i + 1) = ((trnS types l cnt pe k0 i).1 ++ [⟨1 + (pkV l (trnS types l cnt pe k0 i).2 5).tmod 2, rolesL.getD (pkV l (pkA l (trnS types l cnt pe k0 i).2) pe).toNat ⟨#[]⟩, (armV types l (pkA l (pkA l (trnS types l cnt pe k0 i).2)) cnt).1⟩], (armV types l (pkA l (pkA l (trnS types l cnt pe k0 i).2)) cnt).2) := fun h => by rw [trnS, if_neg h]
      clear ih
      obtain ⟨rows, hrows⟩ : ∃ r, r = lkRows (trnS types l cnt pe k0 i).1 kk t o := ⟨_, rfl⟩
      rw [← hrows] at hrl ⊢
      simp only [← hrows] at hrow
      clear hrows
      cases o
      all_goals
        by_cases h5 : pkV l (trnS types l cnt pe k0 i).2 5 = 0
        · rw [hz h5] at hih
          simp only [hrow] at hih
          repeat' (first
           | refine gc_ rfl ?_
           | (refine g_region ?_; refine run_ th rfl ?_)
           | (refine g_drawC mix rfl rfl ?_; refine drun_ th rfl ?_)
           | (refine g_drawEC mix rfl rfl ?_; refine erun_ th rfl ?_)
           | refine SOps.nil ?_
           | refine DOps.nil ?_
           | refine EOps.nil ?_ rfl rfl
           | (refine s_split rfl rfl (fun hb => ?_) (fun hb => ?_) <;> (try simp only [hbL] at hb) <;> first | (exfalso; omega) | refine run_ th rfl ?_)
           | (refine d_split rfl rfl rfl (fun hb => ?_) (fun hb => ?_) <;> (try simp only [hbL] at hb) <;> first | (exfalso; omega) | refine drun_ th rfl ?_)
           | (refine g_if rfl (fun hb => ?_) (fun hb => ?_) <;> (try simp only [hbL] at hb) <;> (try (exfalso; omega)))
           | (refine s_call (pickx_c l _ hle 5 (by omega) (by omega)) [given] rfl rfl rfl rfl rfl rfl rfl rfl rfl rfl ?_; refine run_ th rfl ?_)
           | (refine s_freeze 32 rfl rfl ?_; refine s_leT 32 (.v (C1 (.slice true 3 [noTrn.cs]))) rfl (.v (.one (.c (le_deep (.cons (.cons (.refl _) (.cons (.refl _) (.cons (.nil 4) .nil))) .nil))))) ?_; refine s_pappend (i := 200) th rfl rfl rfl rfl rfl rfl rfl rfl rfl rfl rfl rfl rfl rfl 0 rfl (by constructor <;> simp [hrl] <;> omega) fun vt => ?_; refine run_ th rfl ?_)
           | (refine s_add rfl rfl rfl rfl rfl rfl (by omega) ?_; refine run_ th rfl ?_))
          all_goals first
            | (exfalso; exact hb h5)
            | exact g_sub (by exact ⟨⟨_, rfl, .refl _⟩, ⟨_, rfl, .refl _⟩, ⟨_, rfl, .refl _⟩, ⟨_, rfl, .refl _⟩, ⟨_, rfl, .refl _⟩, ⟨_, rfl, .refl _⟩, ⟨_, rfl, le_int (by omega)⟩, trivial⟩) (by exact ⟨⟨_, rfl, .refl _⟩, ⟨_, rfl, .refl _⟩, ⟨_, rfl, .refl _⟩, ⟨_, rfl, .refl _⟩, trivial⟩) rfl rfl rfl (hih vt)
            | exact g_sub (by exact ⟨⟨_, rfl, .refl _⟩, ⟨_, rfl, .refl _⟩, ⟨_, rfl, .refl _⟩, ⟨_, rfl, .refl _⟩, ⟨_, rfl, .refl _⟩, ⟨_, rfl, .refl _⟩, ⟨_, rfl, le_int (by omega)⟩, trivial⟩) (by exact ⟨⟨_, rfl, .refl _⟩, ⟨_, rfl, .refl _⟩, ⟨_, rfl, .refl _⟩, ⟨_, rfl, .refl _⟩, ⟨_, rfl, .refl _⟩, trivial⟩) rfl rfl rfl (hih vt)
        · rw [hnz h5] at hih
          simp only [hrow] at hih
          repeat' (first
           | (refine g_drawS 17 [given] mix rfl rfl rfl rfl rfl rfl rfl rfl ?_; refine grun_ th rfl ?_)
           | refine gc_ rfl ?_
           | (refine g_region ?_; refine run_ th rfl ?_)
           | (refine g_drawC mix rfl rfl ?_; refine drun_ th rfl ?_)
           | (refine g_drawEC mix rfl rfl ?_; refine erun_ th rfl ?_)
           | refine SOps.nil ?_
           | refine DOps.nil ?_
           | refine EOps.nil ?_ rfl rfl
           | (refine s_split rfl rfl (fun hb => ?_) (fun hb => ?_) <;> (try simp only [hbL] at hb) <;> first | (exfalso; omega) | refine run_ th rfl ?_)
           | (refine d_split rfl rfl rfl (fun hb => ?_) (fun hb => ?_) <;> (try simp only [hbL] at hb) <;> first | (exfalso; omega) | refine drun_ th rfl ?_)
           | (refine g_if rfl (fun hb => ?_) (fun hb => ?_) <;> (try simp only [hbL] at hb) <;> (try (exfalso; omega)))
           | (refine s_call (pickx_c l _ hle 5 (by omega) (by omega)) [given] rfl rfl rfl rfl rfl rfl rfl rfl rfl rfl ?_; refine run_ th rfl ?_)
           | (refine q_call roles_c rfl rfl rfl rfl rfl rfl rfl ?_; refine grun_ th rfl ?_)
           | (refine q_add rfl rfl rfl rfl rfl rfl (by omega) ?_; refine grun_ th rfl ?_)
           | (refine q_rem rfl rfl rfl rfl rfl rfl (by decide) ?_; refine grun_ th rfl ?_)
           | (refine q_idx th rfl rfl rfl rfl rfl rfl rfl rfl rfl (pkV l (pkA l (trnS types l cnt pe k0 i).2) pe).toNat _ (by omega) (role_get (by omega)) ?_; refine grun_ th rfl ?_)
           | (refine q_eff (pickx_c l _ hle1 pe (by omega) (by omega)) [given] rfl rfl rfl rfl rfl rfl rfl rfl rfl rfl rfl (outM_sub (ids := [given]) rfl) ?_; refine grun_ th rfl ?_)
           | (refine q_eff (armx_c types ht l _ hle2 (cnt : Int) (by omega) (by omega)) [given] rfl rfl rfl rfl rfl rfl rfl rfl rfl rfl rfl (outM_sub (ids := [given]) rfl) ?_; refine grun_ th rfl ?_)
           | (refine q_lit th rfl rfl rfl rfl rfl rfl rfl rfl rfl rfl rfl rfl (.refl _) ?_; refine grun_ th rfl ?_)
           | (refine GOps.nil ?_; refine run_ th rfl ?_)
           | (refine s_pappend (i := 200) th rfl rfl rfl rfl rfl rfl rfl rfl rfl rfl rfl rfl rfl rfl 0 rfl (by constructor <;> simp [hrl] <;> omega) fun vt => ?_; refine run_ th rfl ?_)
           | (refine s_add rfl rfl rfl rfl rfl rfl (by omega) ?_; refine run_ th rfl ?_))
          all_goals first
            | (exfalso; exact h5 hb)
            | exact g_sub (by exact ⟨⟨_, rfl, .refl _⟩, ⟨_, rfl, .refl _⟩, ⟨_, rfl, .refl _⟩, ⟨_, rfl, .refl _⟩, ⟨_, rfl, .refl _⟩, ⟨_, rfl, .refl _⟩, ⟨_, rfl, le_int (by omega)⟩, trivial⟩) (by exact ⟨⟨_, rfl, .refl _⟩, ⟨_, rfl, .refl _⟩, ⟨_, rfl, .refl _⟩, ⟨_, rfl, .refl _⟩, trivial⟩) rfl rfl rfl (hih vt)
            | exact g_sub (by exact ⟨⟨_, rfl, .refl _⟩, ⟨_, rfl, .refl _⟩, ⟨_, rfl, .refl _⟩, ⟨_, rfl, .refl _⟩, ⟨_, rfl, .refl _⟩, ⟨_, rfl, .refl _⟩, ⟨_, rfl, le_int (by omega)⟩, trivial⟩) (by exact ⟨⟨_, rfl, .refl _⟩, ⟨_, rfl, .refl _⟩, ⟨_, rfl, .refl _⟩, ⟨_, rfl, .refl _⟩, ⟨_, rfl, .refl _⟩, trivial⟩) rfl rfl rfl (hih vt)
  · have hie : i = cnt := by omega
    subst hie
    have hos : ∃ v, o = some v := by
      cases o with
      | none => have := ho1 rfl; omega
      | some v => exact ⟨v, rfl⟩
    obtain ⟨v, rfl⟩ := hos
    repeat' (first
     | refine gc_ rfl ?_
     | (refine g_region ?_; refine run_ th rfl ?_)
     | (refine g_drawC mix rfl rfl ?_; refine drun_ th rfl ?_)
     | (refine g_drawEC mix rfl rfl ?_; refine erun_ th rfl ?_)
     | refine SOps.nil ?_
     | refine DOps.nil ?_
     | refine EOps.nil ?_ rfl rfl
     | (refine s_split rfl rfl (fun hb => ?_) (fun hb => ?_) <;> (try simp only [hbL] at hb) <;> first | (exfalso; omega) | refine run_ th rfl ?_)
     | (refine d_split rfl rfl rfl (fun hb => ?_) (fun hb => ?_) <;> (try simp only [hbL] at hb) <;> first | (exfalso; omega) | refine drun_ th rfl ?_)
     | (refine g_if rfl (fun hb => ?_) (fun hb => ?_) <;> (try simp only [hbL] at hb) <;> (try (exfalso; omega))))
    exact g_endM (hd := hd) th Try.func21 (v, vT) (.inr ⟨_, rfl⟩) rfl rfl rfl rfl ⟨rfl, rfl, rfl, trivial⟩ rfl rfl rfl trivial
end Go.Sy
