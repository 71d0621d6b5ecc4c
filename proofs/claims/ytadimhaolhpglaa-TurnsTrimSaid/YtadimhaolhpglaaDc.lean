/- Contracts: reparteemake.Local. -/
import Derived.Test.YtadimhaolhpglaaDb
import Derived.Test.YtadimhaolhpglaaUc
set_option linter.unusedSimpArgs false
set_option linter.unusedVariables false
set_option linter.unusedSectionVars false
namespace Go.Sy
open Go.Proofs
set_option maxRecDepth 100000
attribute [local irreducible] SOps Goes DOps EOps GOps

/-- The turns that come, and where the dice stand then. -/
def trnS (types : List ByteArray) (l : List Int) (n peers : Int) (k : Nat) : Nat → List Trn × Nat
  | 0 => ([], k)
  | i + 1 =>
    if pkV l (trnS types l n peers k i).2 5 = 0 then ((trnS types l n peers k i).1 ++ [noTrn], pkA l (trnS types l n peers k i).2)
    else ((trnS types l n peers k i).1 ++ [⟨1 + (pkV l (trnS types l n peers k i).2 5).tmod 2, rolesL.getD (pkV l (pkA l (trnS types l n peers k i).2) peers).toNat ⟨#[]⟩, (armV types l (pkA l (pkA l (trnS types l n peers k i).2)) n).1⟩],
      (armV types l (pkA l (pkA l (trnS types l n peers k i).2)) n).2)
def locV (name : ByteArray) (types : List ByteArray) (l : List Int) (k : Nat) : Loc × Nat :=
  (⟨name, (trnS types l (1 + pkV l k 6) (1 + pkV l (pkA l k) 2) (pkA l (pkA l k)) (1 + pkV l k 6).toNat).1⟩, (trnS types l (1 + pkV l k 6) (1 + pkV l (pkA l k) 2) (pkA l (pkA l k)) (1 + pkV l k 6).toNat).2)
theorem trnS_le {types : List ByteArray} {l : List Int} {n q : Int} {k : Nat} (hk : k ≤ l.length) : ∀ i, (trnS types l n q k i).2 ≤ l.length
  | 0 => hk
  | i + 1 => by
    have ih := trnS_le (types := types) (n := n) (q := q) hk i
    rw [trnS]
    split
    · exact pkA_le ih
    · exact armV_le (pkA_le (pkA_le ih))
theorem trnS_len {types : List ByteArray} {l : List Int} {n q : Int} {k : Nat} : ∀ i, (trnS types l n q k i).1.length = i
  | 0 => rfl
  | i + 1 => by
    rw [trnS]
    split <;> simp [trnS_len i]
theorem role_get {m : Int} (h : 0 ≤ m ∧ m < 5) : (rolesL.map fun s => [CT.str s])[m.toNat]? = some [.str (rolesL.getD m.toNat ⟨#[]⟩)] := by
  have hk : m.toNat < rolesL.length := by show m.toNat < 5; omega
  rw [List.getElem?_map, List.getD_eq_getElem?_getD, List.getElem?_eq_getElem hk]
  rfl

set_option maxHeartbeats 8000000 in
theorem locx_c (name : ByteArray) (types : List ByteArray) (ht : types.length ≤ 1000) (l : List Int) (k : Nat) (hk : k ≤ l.length) :
    Con Try.prog 21 [diceX l k] [.one (.ptr given 0), C1 (.str name), C1 (namesT types)] (.v (Ag (locV name types l k).1.cs)) [diceX l (locV name types l k).2] := by
  have hk1 := pkA_le hk
  have hk2 := pkA_le hk1
  have hr1 := pk_range l k (n := 6) (by omega) (by omega)
  have hr2 := pk_range l (pkA l k) (n := 2) (by omega) (by omega)
  refine con_of (c := _) Try.func21 rfl rfl rfl (by decide) fun w M0 H Z => ?_
  repeat' (first
   | refine gc_ rfl ?_
   | (refine g_region ?_; refine run_ th rfl ?_)
   | (refine g_drawC mix rfl rfl ?_; refine drun_ th rfl ?_)
   | (refine g_drawEC mix rfl rfl ?_; refine erun_ th rfl ?_)
   | refine SOps.nil ?_
   | refine DOps.nil ?_
   | refine EOps.nil ?_ rfl rfl
   | (refine s_split rfl rfl (fun hb => ?_) (fun hb => ?_) <;> (try simp only [hbL] at hb) <;> first | (exfalso; omega) | refine run_ th rfl ?_)
   | (refine d_split rfl rfl rfl (fun hb => ?_) (fun hb => ?_) <;> (try simp only [hbL] at hb) <;> first | (exfalso; omega) | refine drun_ th rfl ?_)
   | (refine g_if rfl (fun hb => ?_) (fun hb => ?_) <;> (try simp only [hbL] at hb) <;> (try (exfalso; omega)))
   | (refine s_call (pickx_c l k hk 6 (by omega) (by omega)) [given] rfl rfl rfl rfl rfl rfl rfl rfl rfl rfl ?_; refine run_ th rfl ?_)
   | (refine s_call (pickx_c l (pkA l k) hk1 2 (by omega) (by omega)) [given] rfl rfl rfl rfl rfl rfl rfl rfl rfl rfl ?_; refine run_ th rfl ?_)
   | (refine s_add rfl rfl rfl rfl rfl rfl (by omega) ?_; refine run_ th rfl ?_))
  obtain ⟨pe, hpe⟩ : ∃ pe, pe = 1 + pkV l (pkA l k) 2 := ⟨_, rfl⟩
  obtain ⟨k0, hk0⟩ : ∃ k0, k0 = pkA l (pkA l k) := ⟨_, rfl⟩
  obtain ⟨cnt, hcnt⟩ : ∃ cnt : Nat, cnt = (1 + pkV l k 6).toNat := ⟨_, rfl⟩
  have hcI : (1 + pkV l k 6 : Int) = (cnt : Int) := by omega
  have hc3 : 1 ≤ cnt ∧ cnt ≤ 6 := by omega
  have hpr : 1 ≤ pe ∧ pe ≤ 2 := by omega
  have hres : locV name types l k = (⟨name, (trnS types l cnt pe k0 cnt).1⟩, (trnS types l cnt pe k0 cnt).2) := by rw [hpe, hk0, ← hcI, hcnt]; rfl
  rw [hres]
  rw [← hpe, ← hk0, hcI]
  rw [← hk0] at hk2
  refine g_adoptB 9 1 200 56 3 rfl rfl rfl rfl ?_
  refine g_loop1 (fun i : Nat => i ≤ cnt)
    (fun i => [(0, .v (.one (.ptr given 0))), (2, .v (C1 (namesT types))), (6, .v (.one (.ptr 6 0))), (7, .v (C1 (.int .i64 (cnt : Int)))), (8, .v (C1 (.int .i64 pe))), (9, .v (.one (.ptr 9 0))), (10, .v (C1 (.int .i64 (i : Int))))])
    (fun i => [(given, .box ((diceX l (trnS types l cnt pe k0 i).2).map SC.c)), (6, .box [.c (.str ⟨#[]⟩), .c .nils]), (9, .box [.c (.str name), .own 200]), (200, .arr false 56 3 ((trnS types l cnt pe k0 i).1.map Trn.cs))])
    (fun i => cnt - i) 0 (Nat.zero_le _)
    (fun a w h => h.sub (by exact ⟨⟨_, rfl, .refl _⟩, ⟨_, rfl, .refl _⟩, ⟨_, rfl, .refl _⟩, ⟨_, rfl, .refl _⟩, ⟨_, rfl, .refl _⟩, ⟨_, rfl, .refl _⟩, ⟨_, rfl, le_int rfl⟩, trivial⟩) (by exact ⟨⟨_, rfl, .refl _⟩, ⟨_, rfl, .refl _⟩, ⟨_, rfl, .refl _⟩, ⟨_, rfl, le_arr rfl⟩, trivial⟩) rfl rfl rfl) (fun i hi ih => ?_)
  have hle := trnS_le (types := types) (n := (cnt : Int)) (q := pe) hk2 i
  have hle1 := pkA_le hle
  have hle2 := pkA_le hle1
  have htl := trnS_len (types := types) (l := l) (n := (cnt : Int)) (q := pe) (k := k0) i
  by_cases hlt : i < cnt
  · have hq5 := pk_range l (trnS types l cnt pe k0 i).2 (n := 5) (by omega) (by omega)
    have hqp := pk_range l (pkA l (trnS types l cnt pe k0 i).2) (n := pe) (by omega) (by omega)
    have hm2 : 0 ≤ (pkV l (trnS types l cnt pe k0 i).2 5).tmod 2 ∧ (pkV l (trnS types l cnt pe k0 i).2 5).tmod 2 < 2 := ⟨Int.tmod_nonneg _ hq5.1, Int.tmod_lt_of_pos _ (by omega)⟩
    repeat' (first
     | (refine g_drawS 17 [given] mix rfl rfl rfl rfl rfl rfl rfl rfl ?_; refine grun_ th rfl ?_)
     | refine gc_ rfl ?_
     | (refine g_region ?_; refine run_ th rfl ?_)
     | (refine g_drawC mix rfl rfl ?_; refine drun_ th rfl ?_)
     | (refine g_drawEC mix rfl rfl ?_; refine erun_ th rfl ?_)
     | refine SOps.nil ?_
     | refine DOps.nil ?_
     | refine EOps.nil ?_ rfl rfl
     | (refine s_split rfl rfl (fun hb => ?_) (fun hb => ?_) <;> (try simp only [hbL] at hb) <;> first | (exfalso; omega) | refine run_ th rfl ?_)
     | (refine d_split rfl rfl rfl (fun hb => ?_) (fun hb => ?_) <;> (try simp only [hbL] at hb) <;> first | (exfalso; omega) | refine drun_ th rfl ?_)
     | (refine g_if rfl (fun hb => ?_) (fun hb => ?_) <;> (try simp only [hbL] at hb) <;> (try (exfalso; omega)))
     | (refine s_call (pickx_c l _ hle 5 (by omega) (by omega)) [given] rfl rfl rfl rfl rfl rfl rfl rfl rfl rfl ?_; refine run_ th rfl ?_)
     | (refine s_anyB 9 1 rfl ?_; refine s_append th rfl rfl rfl rfl rfl rfl rfl rfl rfl rfl rfl rfl rfl rfl rfl (by constructor <;> simp [htl] <;> omega) ?_; refine run_ th rfl ?_)
     | (refine s_anyB 9 1 rfl ?_; refine s_appendF th rfl rfl rfl rfl rfl rfl rfl rfl rfl rfl rfl rfl rfl rfl (by constructor <;> simp [htl] <;> omega) ?_; refine run_ th rfl ?_)
     | (refine q_call roles_c rfl rfl rfl rfl rfl rfl rfl ?_; refine grun_ th rfl ?_)
     | (refine q_add rfl rfl rfl rfl rfl rfl (by omega) ?_; refine grun_ th rfl ?_)
     | (refine q_rem rfl rfl rfl rfl rfl rfl (by decide) ?_; refine grun_ th rfl ?_)
     | (refine q_idx th rfl rfl rfl rfl rfl rfl rfl rfl rfl (pkV l (pkA l (trnS types l cnt pe k0 i).2) pe).toNat _ (by omega) (role_get (by omega)) ?_; refine grun_ th rfl ?_)
     | (refine q_eff (pickx_c l _ hle1 pe (by omega) (by omega)) [given] rfl rfl rfl rfl rfl rfl rfl rfl rfl rfl rfl (outM_sub (ids := [given]) rfl) ?_; refine grun_ th rfl ?_)
     | (refine q_eff (armx_c types ht l _ hle2 (cnt : Int) (by omega) (by omega)) [given] rfl rfl rfl rfl rfl rfl rfl rfl rfl rfl rfl (outM_sub (ids := [given]) rfl) ?_; refine grun_ th rfl ?_)
     | (refine q_lit th rfl rfl rfl rfl rfl rfl rfl rfl rfl rfl rfl rfl (.refl _) ?_; refine grun_ th rfl ?_)
     | refine GOps.nil ?_
     | (refine s_add rfl rfl rfl rfl rfl rfl (by omega) ?_; refine run_ th rfl ?_))
    · have hih := ih (i + 1) hlt (by omega)
      rw [show trnS types l cnt pe k0 (i + 1) = ((trnS types l cnt pe k0 i).1 ++ [noTrn], pkA l (trnS types l cnt pe k0 i).2) by rw [trnS, if_pos hb]] at hih
      refine g_sub (by exact ⟨⟨_, rfl, .refl _⟩, ⟨_, rfl, .refl _⟩, ⟨_, rfl, .refl _⟩, ⟨_, rfl, .refl _⟩, ⟨_, rfl, .refl _⟩, ⟨_, rfl, .refl _⟩, ⟨_, rfl, le_int (by omega)⟩, trivial⟩) ?_ rfl rfl rfl hih
      refine ⟨⟨_, rfl, .refl _⟩, ⟨_, rfl, .refl _⟩, ⟨_, rfl, .refl _⟩, ⟨_, rfl, ?_⟩, trivial⟩
      rw [List.map_append]
      exact .arr (.append (.refl _) (.cons (.cons (.refl _) (.cons (.refl _) (.cons (.nil 4) .nil))) .nil))
    · have hih := ih (i + 1) hlt (by omega)
      rw [show trnS types l cnt pe k0 (i + 1) = ((trnS types l cnt pe k0 i).1 ++ [⟨1 + (pkV l (trnS types l cnt pe k0 i).2 5).tmod 2, rolesL.getD (pkV l (pkA l (trnS types l cnt pe k0 i).2) pe).toNat ⟨#[]⟩, (armV types l (pkA l (pkA l (trnS types l cnt pe k0 i).2)) cnt).1⟩], (armV types l (pkA l (pkA l (trnS types l cnt pe k0 i).2)) cnt).2) by rw [trnS, if_neg hb]] at hih
      refine g_sub (by exact ⟨⟨_, rfl, .refl _⟩, ⟨_, rfl, .refl _⟩, ⟨_, rfl, .refl _⟩, ⟨_, rfl, .refl _⟩, ⟨_, rfl, .refl _⟩, ⟨_, rfl, .refl _⟩, ⟨_, rfl, le_int (by omega)⟩, trivial⟩) ?_ rfl rfl rfl hih
      exact ⟨⟨_, rfl, .refl _⟩, ⟨_, rfl, .refl _⟩, ⟨_, rfl, .refl _⟩, ⟨_, rfl, le_arr (by rw [List.map_append]; rfl)⟩, trivial⟩
  · have hie : i = cnt := by omega
    subst hie
    repeat' (first
     | refine gc_ rfl ?_
     | (refine g_region ?_; refine run_ th rfl ?_)
     | (refine g_drawC mix rfl rfl ?_; refine drun_ th rfl ?_)
     | (refine g_drawEC mix rfl rfl ?_; refine erun_ th rfl ?_)
     | refine SOps.nil ?_
     | refine DOps.nil ?_
     | refine EOps.nil ?_ rfl rfl
     | (refine s_split rfl rfl (fun hb => ?_) (fun hb => ?_) <;> (try simp only [hbL] at hb) <;> first | (exfalso; omega) | refine run_ th rfl ?_)
     | (refine d_split rfl rfl rfl (fun hb => ?_) (fun hb => ?_) <;> (try simp only [hbL] at hb) <;> first | (exfalso; omega) | refine drun_ th rfl ?_)
     | (refine g_if rfl (fun hb => ?_) (fun hb => ?_) <;> (try simp only [hbL] at hb) <;> (try (exfalso; omega))))
    refine g_freeze 200 rfl rfl ?_
    refine g_endL th Try.func21 (.inr ⟨_, rfl⟩) rfl rfl rfl ?_ rfl
    exact .refl _

/-! ### What comes is a valid type -/
theorem roleN_name : ∀ m : Int, 0 ≤ m → m < 5 → nameB (rolesL.getD m.toNat ⟨#[]⟩) = true := fun m h0 h5 => by
  have : m.toNat = 0 ∨ m.toNat = 1 ∨ m.toNat = 2 ∨ m.toNat = 3 ∨ m.toNat = 4 := by omega
  rcases this with h | h | h | h | h <;> rw [h] <;> decide
theorem labN_name : ∀ m : Int, 0 ≤ m → m < 4 → nameB (labelsL.getD m.toNat ⟨#[]⟩) = true := fun m h0 h5 => by
  have : m.toNat = 0 ∨ m.toNat = 1 ∨ m.toNat = 2 ∨ m.toNat = 3 := by omega
  rcases this with h | h | h | h <;> rw [h] <;> decide
theorem lab_inj : ∀ a b : Nat, a < 4 → b < 4 → labelsL.getD a ⟨#[]⟩ = labelsL.getD b ⟨#[]⟩ → a = b := by
  intro a b ha hb h
  have h1 : a = 0 ∨ a = 1 ∨ a = 2 ∨ a = 3 := by omega
  have h2 : b = 0 ∨ b = 1 ∨ b = 2 ∨ b = 3 := by omega
  rcases h1 with rfl | rfl | rfl | rfl <;> rcases h2 with rfl | rfl | rfl | rfl <;> first | rfl | (exfalso; revert h; decide)
/-- Types that may be carried. -/
def TypesOK (types : List ByteArray) : Prop := ∀ t ∈ types, typeB t = true ∧ t.size ≤ 1000
theorem carV_ok {types : List ByteArray} (ht : TypesOK types) (hl : types.length ≤ 1000) (l : List Int) (k : Nat) : carB (carV types l k).1.1 (carV types l k).1.2 = true ∧ (carV types l k).1.2.size ≤ 1000 := by
  have hd : ∀ k, carB (dataV l k) ⟨#[]⟩ = true := fun k => by
    have := data_range l k
    rw [carB_data _ this.1 this.2]; rfl
  unfold carV
  split
  · rename_i h0
    split
    · have hr := pk_range l (pkA l k) (n := (types.length : Int)) (by omega) (by omega)
      have hk : (pkV l (pkA l k) types.length).toNat < types.length := by omega
      have hm : types.getD (pkV l (pkA l k) types.length).toNat ⟨#[]⟩ ∈ types := by
        rw [List.getD_eq_getElem?_getD, List.getElem?_eq_getElem hk]
        exact List.getElem_mem hk
      exact ⟨by rw [carB_chan]; exact (ht _ hm).1, (ht _ hm).2⟩
    · exact ⟨hd _, Nat.zero_le _⟩
  · exact ⟨hd _, Nat.zero_le _⟩
theorem armS_lab {types : List ByteArray} {l : List Int} {f p : Int} {k : Nat} : ∀ (i j : Nat), j < i → ((armS types l f p k i).1[j]?).map Arm.label = some (labelsL.getD ((f + (j : Int)).tmod 4).toNat ⟨#[]⟩)
  | 0, j, h => by omega
  | i + 1, j, h => by
    rw [armS]
    by_cases hj : j < i
    · rw [List.getElem?_append_left (by rw [armS_len]; exact hj)]
      exact armS_lab i j hj
    · have : j = i := by omega
      subst this
      rw [List.getElem?_append_right (by rw [armS_len]; omega), armS_len]
      simp
theorem armS_all {types : List ByteArray} (ht : TypesOK types) (hl : types.length ≤ 1000) {l : List Int} {f p : Int} {k : Nat} (hf : 0 ≤ f) (hp : 1 ≤ p ∧ p ≤ 1000) : ∀ i, ∀ a ∈ (armS types l f p k i).1, armB p a = true ∧ a.name.size ≤ 1000
  | 0, a, h => by cases h
  | i + 1, a, h => by
    rw [armS] at h
    rcases List.mem_append.1 h with h | h
    · exact armS_all ht hl hf hp i a h
    · rw [List.mem_singleton] at h
      subst h
      have h4 := tmod4 (m := f + (i : Int)) (by omega)
      have hc := carV_ok ht hl l (armS types l f p k i).2
      have hn := pk_range l (carV types l (armS types l f p k i).2).2 (n := p) hp.1 (by omega)
      exact ⟨by unfold armB; simp only; rw [labN_name _ h4.1 h4.2, hc.1, decide_eq_true hn.1, decide_eq_true hn.2]; rfl, hc.2⟩
theorem armS_nodup {types : List ByteArray} {l : List Int} {f p : Int} {k : Nat} (hf : 0 ≤ f ∧ f < 4) {i : Nat} (hi : i ≤ 4) : ((armS types l f p k i).1.map Arm.label).Nodup := by
  rw [List.nodup_iff_pairwise_ne, List.pairwise_iff_getElem]
  intro a b ha hb hab e
  simp only [List.length_map, armS_len] at ha hb
  have h1 := armS_lab (types := types) (l := l) (f := f) (p := p) (k := k) i a ha
  have h2 := armS_lab (types := types) (l := l) (f := f) (p := p) (k := k) i b hb
  rw [← List.getElem?_map, List.getElem?_eq_getElem (by simpa [armS_len] using ha)] at h1
  rw [← List.getElem?_map, List.getElem?_eq_getElem (by simpa [armS_len] using hb)] at h2
  injection h1 with h1
  injection h2 with h2
  rw [h1, h2] at e
  have q1 := tmod4 (m := f + (a : Int)) (by omega)
  have q2 := tmod4 (m := f + (b : Int)) (by omega)
  have := lab_inj _ _ (by omega) (by omega) e
  have t1 : (f + (a : Int)).tmod 4 = (f + a) % 4 := Int.tmod_eq_emod_of_nonneg (by omega)
  have t2 : (f + (b : Int)).tmod 4 = (f + b) % 4 := Int.tmod_eq_emod_of_nonneg (by omega)
  omega
theorem armV_ok {types : List ByteArray} (ht : TypesOK types) (hl : types.length ≤ 1000) (l : List Int) (k : Nat) {p : Int} (hp : 1 ≤ p ∧ p ≤ 1000) : armsOK p (armV types l k p).1 = true ∧ ∀ a ∈ (armV types l k p).1, a.name.size ≤ 1000 := by
  have hr1 := pk_range l k (n := 3) (by omega) (by omega)
  have hr2 := pk_range l (pkA l k) (n := 4) (by omega) (by omega)
  have ha := armS_all (l := l) (k := pkA l (pkA l k)) ht hl hr2.1 hp (1 + pkV l k 3).toNat
  have hn := armS_nodup (types := types) (l := l) (k := pkA l (pkA l k)) (p := p) hr2 (i := (1 + pkV l k 3).toNat) (by omega)
  refine ⟨?_, fun a h => (ha a h).2⟩
  unfold armsOK armV
  rw [armS_len, decide_eq_true (show 1 ≤ (1 + pkV l k 3).toNat by omega), decide_eq_true (show (1 + pkV l k 3).toNat ≤ 6 by omega), decide_eq_true hn, Bool.true_and, Bool.true_and, Bool.and_true, List.all_eq_true]
  exact fun a h => (ha a h).1
theorem trnS_ok {types : List ByteArray} (ht : TypesOK types) (hl : types.length ≤ 1000) {l : List Int} {n q : Int} {k : Nat} (hn : 1 ≤ n ∧ n ≤ 1000) (hq : 1 ≤ q ∧ q ≤ 2) : ∀ i, ∀ t ∈ (trnS types l n q k i).1, trnB n t = true ∧ ∀ a ∈ t.arms, a.name.size ≤ 1000
  | 0, t, h => by cases h
  | i + 1, t, h => by
    rw [trnS] at h
    split at h
    · rcases List.mem_append.1 h with h | h
      · exact trnS_ok ht hl hn hq i t h
      · rw [List.mem_singleton] at h; subst h
        exact ⟨by rw [trn_end rfl]; rfl, fun a ha => by cases ha⟩
    · rename_i hne
      rcases List.mem_append.1 h with h | h
      · exact trnS_ok ht hl hn hq i t h
      · rw [List.mem_singleton] at h; subst h
        have hq5 := pk_range l (trnS types l n q k i).2 (n := 5) (by omega) (by omega)
        have hqp := pk_range l (pkA l (trnS types l n q k i).2) (n := q) (by omega) (by omega)
        have hm2 : 0 ≤ (pkV l (trnS types l n q k i).2 5).tmod 2 ∧ (pkV l (trnS types l n q k i).2 5).tmod 2 < 2 := ⟨Int.tmod_nonneg _ hq5.1, Int.tmod_lt_of_pos _ (by omega)⟩
        have ha := armV_ok ht hl l (pkA l (pkA l (trnS types l n q k i).2)) hn
        refine ⟨?_, ha.2⟩
        rw [trn_act (by simp only; omega) (by simp only; omega)]
        simp only
        rw [roleN_name _ hqp.1 (by omega), ha.1]; rfl
theorem locV_ok {name : ByteArray} {types : List ByteArray} (ht : TypesOK types) (hl : types.length ≤ 1000) (l : List Int) (k : Nat) : locB (locV name types l k).1 = true ∧ LocBig (locV name types l k).1 ∧ (locV name types l k).1.turns.length ≤ 6 := by
  have hr1 := pk_range l k (n := 6) (by omega) (by omega)
  have hr2 := pk_range l (pkA l k) (n := 2) (by omega) (by omega)
  have hlen : (locV name types l k).1.turns.length = (1 + pkV l k 6).toNat := trnS_len _
  have hI : ((1 + pkV l k 6).toNat : Int) = 1 + pkV l k 6 := by omega
  have hall := trnS_ok (l := l) (k := pkA l (pkA l k)) ht hl (n := 1 + pkV l k 6) (q := 1 + pkV l (pkA l k) 2) (by omega) (by omega) (1 + pkV l k 6).toNat
  refine ⟨?_, fun t h a ha => Nat.le_trans ((hall t h).2 a ha) (by decide), by omega⟩
  rw [locB_M, hlen, hI, decide_eq_true (show 1 ≤ (1 + pkV l k 6).toNat by omega), decide_eq_true (show (1 + pkV l k 6).toNat ≤ 40 by omega), Bool.true_and, Bool.true_and]
  exact List.all_eq_true.2 fun t h => (hall t h).1
end Go.Sy
