/- Contracts of the reference, bundle Bd1. -/
import Derived.Test.YtdjocfajcbhmgaaDoorBn1
import Derived.Test.YtdjocfajcbhmgaaDoorBl1
import Derived.Test.YtdjocfajcbhmgaaDoorSymZp
import Derived.Test.YtdjocfajcbhmgaaDoorBu2
import Derived.Test.YtdjocfajcbhmgaaDoorBu4
set_option linter.unusedSimpArgs false
set_option linter.unusedVariables false
set_option linter.unusedSectionVars false
namespace Go.Sy
open Go.Proofs
set_option maxRecDepth 100000
attribute [local irreducible] SOps Goes DOps EOps GOps
def pkV (l : List Int) (k : Nat) (n : Int) : Int := match l[k]? with
  | some x => IntKind.i64.wrap ((IntKind.u64.wrap x).tmod (IntKind.u64.wrap n))
  | none => 0
def pkA (l : List Int) (k : Nat) : Nat := if k < l.length then k + 1 else k
abbrev diceX (l : List Int) (k : Nat) : List CT := [intsT l, .int .i64 (k : Int)]
theorem pk_range (l : List Int) (k : Nat) {n : Int} (h0 : 1 ≤ n) (h1 : n ≤ 9223372036854775807) : 0 ≤ pkV l k n ∧ pkV l k n < n := by
  unfold pkV
  cases l[k]? with
  | none => simp; omega
  | some x => exact pick_v h0 h1
theorem pkA_le {l : List Int} {k : Nat} (h : k ≤ l.length) : pkA l k ≤ l.length := by unfold pkA; split <;> omega
set_option maxHeartbeats 4000000 in
theorem pickx_c (l : List Int) (k : Nat) (hk : k ≤ l.length) (n : Int) (hn1 : 1 ≤ n) (hn : n ≤ 9223372036854775807) : Con Tryd.prog 22 [diceX l k] [.one (.ptr given 0), C1 (.int .i64 n)] (Rv (.int .i64 (pkV l k n))) [diceX l (pkA l k)] := by
  by_cases hlt : k < l.length
  · have hx : (l.map fun r => [CT.int .i64 r])[k]? = some [.int .i64 l[k]] := by simp [hlt]
    have hv : pkV l k n = IntKind.i64.wrap ((IntKind.u64.wrap l[k]).tmod (IntKind.u64.wrap n)) := by unfold pkV; rw [List.getElem?_eq_getElem hlt]
    have ha : diceX l (pkA l k) = [intsT l, .int .i64 ((k : Int) + 1)] := by unfold pkA; rw [if_pos hlt]; rfl
    rw [hv, ha]
    refine con_of (c := _) Tryd.func22 rfl rfl rfl (by decide) fun w M0 H Z => ?_
    refine g_lenB given 0 rfl rfl fun hll => ?_
    simp only [List.length_map] at hll
    repeat' (first
     | refine gc_ rfl ?_
     | (refine g_region ?_; refine run_ th rfl ?_)
     | (refine g_drawC mix rfl rfl ?_; refine drun_ th rfl ?_)
     | (refine g_drawEC mix rfl rfl ?_; refine erun_ th rfl ?_)
     | refine SOps.nil ?_
     | refine DOps.nil ?_
     | refine EOps.nil ?_ rfl rfl
     | (refine s_split rfl rfl (fun hb => ?_) (fun hb => ?_) <;> (try simp only [hbL] at hb) <;> first | (exfalso; omega) | refine run_ th rfl ?_)
     | (refine d_split rfl rfl rfl (fun hb => ?_) (fun hb => ?_) <;> (try simp only [hbL] at hb) <;> first | (exfalso; omega) | refine drun_ th rfl ?_)
     | (refine g_if rfl (fun hb => ?_) (fun hb => ?_) <;> (try simp only [hbL] at hb) <;> (try (exfalso; omega)))
     | refine g_endL th Tryd.func22 (.inr ⟨_, rfl⟩) rfl rfl rfl ?_ rfl
     | (refine s_add rfl rfl rfl rfl rfl rfl (by omega) ?_; refine run_ th rfl ?_)
     | (refine d_subI rfl rfl rfl rfl rfl rfl (by omega) ?_; refine drun_ th rfl ?_)
     | (refine d_idx th rfl rfl rfl rfl rfl rfl rfl rfl rfl k _ (by omega) hx ?_; refine drun_ th rfl ?_)
     | (refine d_rem rfl rfl rfl rfl rfl rfl (by rw [wrapU_id (by omega) hn]; omega) ?_; refine drun_ th rfl ?_))
    all_goals exact .refl _
  · have hv : pkV l k n = 0 := by unfold pkV; rw [List.getElem?_eq_none (by omega)]
    have ha : pkA l k = k := by unfold pkA; rw [if_neg hlt]
    rw [hv, ha]
    refine con_of (c := _) Tryd.func22 rfl rfl rfl (by decide) fun w M0 H Z => ?_
    refine g_lenB given 0 rfl rfl fun hll => ?_
    simp only [List.length_map] at hll
    repeat' (first
     | refine gc_ rfl ?_
     | (refine g_region ?_; refine run_ th rfl ?_)
     | (refine g_drawC mix rfl rfl ?_; refine drun_ th rfl ?_)
     | (refine g_drawEC mix rfl rfl ?_; refine erun_ th rfl ?_)
     | refine SOps.nil ?_
     | refine DOps.nil ?_
     | refine EOps.nil ?_ rfl rfl
     | (refine s_split rfl rfl (fun hb => ?_) (fun hb => ?_) <;> (try simp only [hbL] at hb) <;> first | (exfalso; omega) | refine run_ th rfl ?_)
     | (refine d_split rfl rfl rfl (fun hb => ?_) (fun hb => ?_) <;> (try simp only [hbL] at hb) <;> first | (exfalso; omega) | refine drun_ th rfl ?_)
     | (refine g_if rfl (fun hb => ?_) (fun hb => ?_) <;> (try simp only [hbL] at hb) <;> (try (exfalso; omega)))
     | refine g_endL th Tryd.func22 (.inr ⟨_, rfl⟩) rfl rfl rfl ?_ rfl)
    all_goals exact .refl _
def kindsL : List Int := [1, 0, 1, 2, 3, 4]
def dataV (l : List Int) (k : Nat) : Int := kindsL.getD (pkV l k 6).toNat 0
theorem kinds_get {m : Int} (h : 0 ≤ m ∧ m < 6) : (kindsL.map fun r => [CT.int .i64 r])[m.toNat]? = some [.int .i64 (kindsL.getD m.toNat 0)] := by
  have : m.toNat < 6 := by omega
  have hk : m.toNat < kindsL.length := this
  rw [List.getElem?_map, List.getElem?_eq_getElem hk, List.getD_eq_getElem?_getD, List.getElem?_eq_getElem hk]
  rfl
theorem data_range (l : List Int) (k : Nat) : 0 ≤ dataV l k ∧ dataV l k < 5 := by
  have h := pk_range l k (n := 6) (by omega) (by omega)
  unfold dataV
  have : (pkV l k 6).toNat = 0 ∨ (pkV l k 6).toNat = 1 ∨ (pkV l k 6).toNat = 2 ∨ (pkV l k 6).toNat = 3 ∨ (pkV l k 6).toNat = 4 ∨ (pkV l k 6).toNat = 5 := by omega
  rcases this with h | h | h | h | h | h <;> rw [h] <;> decide
theorem datax_c (l : List Int) (k : Nat) (hk : k ≤ l.length) : Con Tryd.prog 59 [diceX l k] [.one (.ptr given 0)] (.v (Ag [.int .i64 (dataV l k), .str ⟨#[]⟩])) [diceX l (pkA l k)] := by
  have hr := pk_range l k (n := 6) (by omega) (by omega)
  have hg := kinds_get hr
  refine con_of (c := _) Tryd.func59 rfl rfl rfl (by decide) fun w M0 H Z => ?_
  repeat' (first
   | refine gc_ rfl ?_
   | (refine g_region ?_; refine run_ th rfl ?_)
   | (refine g_drawC mix rfl rfl ?_; refine drun_ th rfl ?_)
   | (refine g_drawEC mix rfl rfl ?_; refine erun_ th rfl ?_)
   | refine SOps.nil ?_
   | refine DOps.nil ?_
   | refine EOps.nil ?_ rfl rfl
   | (refine s_split rfl rfl (fun hb => ?_) (fun hb => ?_) <;> (try simp only [hbL] at hb) <;> first | (exfalso; omega) | refine run_ th rfl ?_)
   | (refine d_split rfl rfl rfl (fun hb => ?_) (fun hb => ?_) <;> (try simp only [hbL] at hb) <;> first | (exfalso; omega) | refine drun_ th rfl ?_)
   | (refine g_if rfl (fun hb => ?_) (fun hb => ?_) <;> (try simp only [hbL] at hb) <;> (try (exfalso; omega)))
   | refine g_endL th Tryd.func59 (.inr ⟨_, rfl⟩) rfl rfl rfl ?_ rfl
   | (refine s_call (pickx_c l k hk 6 (by omega) (by omega)) [given] rfl rfl rfl rfl rfl rfl rfl rfl rfl rfl ?_; refine run_ th rfl ?_)
   | (refine s_idxo th rfl rfl rfl rfl rfl rfl rfl rfl rfl rfl (pkV l k 6).toNat (by omega) (by show _ < 6; omega) ?_; refine run_ th rfl ?_)
   | (refine s_loada th _ rfl rfl rfl rfl hg rfl rfl rfl rfl rfl ?_; refine run_ th rfl ?_))
  all_goals exact .refl _
def carV (types : List ByteArray) (l : List Int) (k : Nat) : (Int × ByteArray) × Nat :=
  if 0 < types.length then
    if pkV l k 4 = 1 then ((5, types.getD (pkV l (pkA l k) types.length).toNat ⟨#[]⟩), pkA l (pkA l k))
    else ((dataV l (pkA l k), ⟨#[]⟩), pkA l (pkA l k))
  else ((dataV l k, ⟨#[]⟩), pkA l k)
theorem carx_c (types : List ByteArray) (ht : types.length ≤ 1000) (l : List Int) (k : Nat) (hk : k ≤ l.length) :
    Con Tryd.prog 47 [diceX l k] [.one (.ptr given 0), C1 (namesT types)] (.v (Ag [.int .i64 (carV types l k).1.1, .str (carV types l k).1.2])) [diceX l (carV types l k).2] := by
  have hk1 := pkA_le hk
  by_cases h0 : 0 < types.length
  · have hlI : ((types.map fun s => [CT.str s]).length : Int) = (types.length : Int) := by simp
    have hr := pk_range l (pkA l k) (n := (types.length : Int)) (by omega) (by omega)
    by_cases h1 : pkV l k 4 = 1
    · have hc : carV types l k = ((5, types.getD (pkV l (pkA l k) types.length).toNat ⟨#[]⟩), pkA l (pkA l k)) := by unfold carV; rw [if_pos h0, if_pos h1]
      have hx : (types.map fun s => [CT.str s])[(pkV l (pkA l k) types.length).toNat]? = some [.str (types.getD (pkV l (pkA l k) types.length).toNat ⟨#[]⟩)] := by
        have : (pkV l (pkA l k) types.length).toNat < types.length := by omega
        rw [List.getElem?_map, List.getD_eq_getElem?_getD, List.getElem?_eq_getElem this]; rfl
      rw [hc]
      refine con_of (c := _) Tryd.func47 rfl rfl rfl (by decide) fun w M0 H Z => ?_
      repeat' (first
       | refine gc_ rfl ?_
       | (refine g_region ?_; refine run_ th rfl ?_)
       | (refine g_drawC mix rfl rfl ?_; refine drun_ th rfl ?_)
       | (refine g_drawEC mix rfl rfl ?_; refine erun_ th rfl ?_)
       | refine SOps.nil ?_
       | refine DOps.nil ?_
       | refine EOps.nil ?_ rfl rfl
       | (refine s_split rfl rfl (fun hb => ?_) (fun hb => ?_) <;> (try simp only [hbL] at hb) <;> first | (exfalso; omega) | refine run_ th rfl ?_)
       | (refine d_split rfl rfl rfl (fun hb => ?_) (fun hb => ?_) <;> (try simp only [hbL] at hb) <;> first | (exfalso; omega) | refine drun_ th rfl ?_)
       | (refine g_if rfl (fun hb => ?_) (fun hb => ?_) <;> (try simp only [hbL] at hb) <;> (try (exfalso; omega)))
       | refine g_endL th Tryd.func47 (.inr ⟨_, rfl⟩) rfl rfl rfl ?_ rfl
       | (refine s_call (pickx_c l k hk 4 (by omega) (by omega)) [given] rfl rfl rfl rfl rfl rfl rfl rfl rfl rfl ?_; refine run_ th rfl ?_)
       | (refine s_call (pickx_c l (pkA l k) hk1 ((types.map fun s => [CT.str s]).length : Int) (by omega) (by omega)) [given] rfl rfl rfl rfl rfl rfl rfl rfl rfl rfl ?_; refine run_ th rfl ?_)
       | (refine s_idx th rfl rfl rfl rfl rfl rfl rfl rfl rfl (pkV l (pkA l k) types.length).toNat _ (by rw [hlI]; omega) hx ?_; refine run_ th rfl ?_))
      all_goals exact .refl _
    · have hc : carV types l k = ((dataV l (pkA l k), ⟨#[]⟩), pkA l (pkA l k)) := by unfold carV; rw [if_pos h0, if_neg h1]
      rw [hc]
      refine con_of (c := _) Tryd.func47 rfl rfl rfl (by decide) fun w M0 H Z => ?_
      repeat' (first
       | refine gc_ rfl ?_
       | (refine g_region ?_; refine run_ th rfl ?_)
       | (refine g_drawC mix rfl rfl ?_; refine drun_ th rfl ?_)
       | (refine g_drawEC mix rfl rfl ?_; refine erun_ th rfl ?_)
       | refine SOps.nil ?_
       | refine DOps.nil ?_
       | refine EOps.nil ?_ rfl rfl
       | (refine s_split rfl rfl (fun hb => ?_) (fun hb => ?_) <;> (try simp only [hbL] at hb) <;> first | (exfalso; omega) | refine run_ th rfl ?_)
       | (refine d_split rfl rfl rfl (fun hb => ?_) (fun hb => ?_) <;> (try simp only [hbL] at hb) <;> first | (exfalso; omega) | refine drun_ th rfl ?_)
       | (refine g_if rfl (fun hb => ?_) (fun hb => ?_) <;> (try simp only [hbL] at hb) <;> (try (exfalso; omega)))
       | refine g_endL th Tryd.func47 (.inr ⟨_, rfl⟩) rfl rfl rfl ?_ rfl
       | (refine s_call (pickx_c l k hk 4 (by omega) (by omega)) [given] rfl rfl rfl rfl rfl rfl rfl rfl rfl rfl ?_; refine run_ th rfl ?_)
       | (refine s_call (datax_c l (pkA l k) hk1) [given] rfl rfl rfl rfl rfl rfl rfl rfl rfl rfl ?_; refine run_ th rfl ?_))
      all_goals exact .refl _
  · have hc : carV types l k = ((dataV l k, ⟨#[]⟩), pkA l k) := by unfold carV; rw [if_neg h0]
    have h0I : ¬ (0 : Int) < ((types.map fun s => [CT.str s]).length : Int) := by rw [List.length_map]; omega
    rw [hc]
    refine con_of (c := _) Tryd.func47 rfl rfl rfl (by decide) fun w M0 H Z => ?_
    repeat' (first
     | refine gc_ rfl ?_
     | (refine g_region ?_; refine run_ th rfl ?_)
     | (refine g_drawC mix rfl rfl ?_; refine drun_ th rfl ?_)
     | (refine g_drawEC mix rfl rfl ?_; refine erun_ th rfl ?_)
     | refine SOps.nil ?_
     | refine DOps.nil ?_
     | refine EOps.nil ?_ rfl rfl
     | (refine s_split rfl rfl (fun hb => ?_) (fun hb => ?_) <;> (try simp only [hbL] at hb) <;> first | (exfalso; omega) | refine run_ th rfl ?_)
     | (refine d_split rfl rfl rfl (fun hb => ?_) (fun hb => ?_) <;> (try simp only [hbL] at hb) <;> first | (exfalso; omega) | refine drun_ th rfl ?_)
     | (refine g_if rfl (fun hb => ?_) (fun hb => ?_) <;> (try simp only [hbL] at hb) <;> (try (exfalso; omega)))
     | refine g_endL th Tryd.func47 (.inr ⟨_, rfl⟩) rfl rfl rfl ?_ rfl
     | (refine s_call (datax_c l k hk) [given] rfl rfl rfl rfl rfl rfl rfl rfl rfl rfl ?_; refine run_ th rfl ?_))
    all_goals exact .refl _
end Go.Sy
namespace Go.Sy
open Go.Proofs
set_option maxRecDepth 100000
attribute [local irreducible] SOps Goes DOps EOps GOps
def armS (types : List ByteArray) (l : List Int) (from_ places : Int) (k : Nat) : Nat → List Arm × Nat
  | 0 => ([], k)
  | i + 1 => ((armS types l from_ places k i).1 ++ [⟨labelsL.getD ((from_ + (i : Int)).tmod 4).toNat ⟨#[]⟩, (carV types l (armS types l from_ places k i).2).1.1, (carV types l (armS types l from_ places k i).2).1.2, pkV l (carV types l (armS types l from_ places k i).2).2 places⟩],
      pkA l (carV types l (armS types l from_ places k i).2).2)
def armV (types : List ByteArray) (l : List Int) (k : Nat) (places : Int) : List Arm × Nat := armS types l (pkV l (pkA l k) 4) places (pkA l (pkA l k)) (1 + pkV l k 3).toNat
theorem carV_le {types : List ByteArray} {l : List Int} {k : Nat} (hk : k ≤ l.length) : (carV types l k).2 ≤ l.length := by
  unfold carV
  split
  · split
    · exact pkA_le (pkA_le hk)
    · exact pkA_le (pkA_le hk)
  · exact pkA_le hk
theorem armS_le {types : List ByteArray} {l : List Int} {f p : Int} {k : Nat} (hk : k ≤ l.length) : ∀ i, (armS types l f p k i).2 ≤ l.length
  | 0 => hk
  | i + 1 => pkA_le (carV_le (armS_le hk i))
theorem armS_len {types : List ByteArray} {l : List Int} {f p : Int} {k : Nat} : ∀ i, (armS types l f p k i).1.length = i
  | 0 => rfl
  | i + 1 => by rw [armS, List.length_append, armS_len i]; rfl
theorem armV_le {types : List ByteArray} {l : List Int} {p : Int} {k : Nat} (hk : k ≤ l.length) : (armV types l k p).2 ≤ l.length := armS_le (pkA_le (pkA_le hk)) _
theorem lab_get {m : Int} (h : 0 ≤ m ∧ m < 4) : (labelsL.map fun s => [CT.str s])[m.toNat]? = some [.str (labelsL.getD m.toNat ⟨#[]⟩)] := by
  have hk : m.toNat < labelsL.length := by show m.toNat < 4; omega
  rw [List.getElem?_map, List.getD_eq_getElem?_getD, List.getElem?_eq_getElem hk]
  rfl
theorem tmod4 {m : Int} (h : 0 ≤ m) : 0 ≤ m.tmod 4 ∧ m.tmod 4 < 4 := ⟨Int.tmod_nonneg _ h, Int.tmod_lt_of_pos _ (by omega)⟩
theorem outM_sub {ids : List Nat} {bs M : MM} (h : outM ids M = bs) : ∀ q ∈ bs, q ∈ M := fun q hq => (outM_mem.1 (h ▸ hq)).1
set_option maxHeartbeats 8000000 in
theorem armx_c (types : List ByteArray) (ht : types.length ≤ 1000) (l : List Int) (k : Nat) (hk : k ≤ l.length) (p : Int) (hp : 1 ≤ p) (hp2 : p ≤ 1000) :
    Con Tryd.prog 24 [diceX l k] [.one (.ptr given 0), C1 (namesT types), C1 (.int .i64 p)] (Rv (armsC (armV types l k p).1)) [diceX l (armV types l k p).2] := by
  have hk1 := pkA_le hk
  have hk2 := pkA_le hk1
  have hr1 := pk_range l k (n := 3) (by omega) (by omega)
  have hr2 := pk_range l (pkA l k) (n := 4) (by omega) (by omega)
  refine con_of (c := _) Tryd.func24 rfl rfl rfl (by decide) fun w M0 H Z => ?_
  repeat' (first
   | refine gc_ rfl ?_
   | (refine g_region ?_; refine run_ th rfl ?_)
   | (refine g_drawC mix rfl rfl ?_; refine drun_ th rfl ?_)
   | (refine g_drawEC mix rfl rfl ?_; refine erun_ th rfl ?_)
   | refine SOps.nil ?_
   | refine DOps.nil ?_
   | refine EOps.nil ?_ rfl rfl
   | (refine s_split rfl rfl (fun hb => ?_) (fun hb => ?_) <;> (try simp only [hbL] at hb) <;> first | (exfalso; omega) | refine run_ th rfl ?_)
   | (refine d_split rfl rfl rfl (fun hb => ?_) (fun hb => ?_) <;> (try simp only [hbL] at hb) <;> first | (exfalso; omega) | refine drun_ th rfl ?_)
   | (refine g_if rfl (fun hb => ?_) (fun hb => ?_) <;> (try simp only [hbL] at hb) <;> (try (exfalso; omega)))
   | (refine s_call (pickx_c l k hk 3 (by omega) (by omega)) [given] rfl rfl rfl rfl rfl rfl rfl rfl rfl rfl ?_; refine run_ th rfl ?_)
   | (refine s_call (pickx_c l (pkA l k) hk1 4 (by omega) (by omega)) [given] rfl rfl rfl rfl rfl rfl rfl rfl rfl rfl ?_; refine run_ th rfl ?_)
   | (refine s_add rfl rfl rfl rfl rfl rfl (by omega) ?_; refine run_ th rfl ?_))
  obtain ⟨fr, hfr⟩ : ∃ fr, fr = pkV l (pkA l k) 4 := ⟨_, rfl⟩
  obtain ⟨k0, hk0⟩ : ∃ k0, k0 = pkA l (pkA l k) := ⟨_, rfl⟩
  obtain ⟨cnt, hcnt⟩ : ∃ cnt : Nat, cnt = (1 + pkV l k 3).toNat := ⟨_, rfl⟩
  have hres : armV types l k p = armS types l fr p k0 cnt := by rw [hfr, hk0, hcnt]; rfl
  rw [hres]
  rw [← hfr] at hr2 ⊢
  rw [← hk0] at hk2 ⊢
  have hcI : (1 + pkV l k 3 : Int) = (cnt : Int) := by omega
  have hc3 : cnt ≤ 3 := by omega
  refine g_adopt 7 50 27 4 rfl rfl rfl ?_
  refine g_loop1 (fun i : Nat => i ≤ cnt)
    (fun i => [(0, .v (.one (.ptr given 0))), (1, .v (C1 (namesT types))), (2, .v (C1 (.int .i64 p))), (7, .v (.one (.own 50))), (8, .v (C1 (.int .i64 (cnt : Int)))), (9, .v (C1 (.int .i64 fr))), (10, .v (C1 (.int .i64 (i : Int))))])
    (fun i => [(given, .box ((diceX l (armS types l fr p k0 i).2).map SC.c)), (50, .arr false 27 4 ((armS types l fr p k0 i).1.map Arm.cs))])
    (fun i => cnt - i) 0 (Nat.zero_le _)
    (fun a w h => h.sub (by exact ⟨⟨_, rfl, .refl _⟩, ⟨_, rfl, .refl _⟩, ⟨_, rfl, .refl _⟩, ⟨_, rfl, .refl _⟩, ⟨_, rfl, le_int hcI⟩, ⟨_, rfl, .refl _⟩, ⟨_, rfl, le_int rfl⟩, trivial⟩) (by exact ⟨⟨_, rfl, .refl _⟩, ⟨_, rfl, le_arr rfl⟩, trivial⟩) rfl rfl rfl) (fun i hi ih => ?_)
  have hle := armS_le (types := types) (f := fr) (p := p) hk2 i
  have hcl := carV_le (types := types) hle
  have hal := armS_len (types := types) (l := l) (f := fr) (p := p) (k := k0) i
  by_cases hlt : i < cnt
  · have hm4 := tmod4 (m := fr + (i : Int)) (by omega)
    repeat' (first
     | (refine g_drawS 16 [given] mix rfl rfl rfl rfl rfl rfl rfl rfl ?_; refine grun_ th rfl ?_)
     | refine gc_ rfl ?_
     | (refine g_region ?_; refine run_ th rfl ?_)
     | (refine g_drawC mix rfl rfl ?_; refine drun_ th rfl ?_)
     | (refine g_drawEC mix rfl rfl ?_; refine erun_ th rfl ?_)
     | refine SOps.nil ?_
     | refine DOps.nil ?_
     | refine EOps.nil ?_ rfl rfl
     | (refine s_split rfl rfl (fun hb => ?_) (fun hb => ?_) <;> (try simp only [hbL] at hb) <;> first | (exfalso; omega) | refine run_ th rfl ?_)
     | (refine d_split rfl rfl rfl (fun hb => ?_) (fun hb => ?_) <;> (try simp only [hbL] at hb) <;> first | (exfalso; omega) | refine drun_ th rfl ?_)
     | (refine g_if rfl (fun hb => ?_) (fun hb => ?_) <;> (try simp only [hbL] at hb) <;> (try (exfalso; omega)))
     | (refine q_call labels_c rfl rfl rfl rfl rfl rfl rfl ?_; refine grun_ th rfl ?_)
     | (refine q_add rfl rfl rfl rfl rfl rfl (by omega) ?_; refine grun_ th rfl ?_)
     | (refine q_rem rfl rfl rfl rfl rfl rfl (by decide) ?_; refine grun_ th rfl ?_)
     | (refine q_idx th rfl rfl rfl rfl rfl rfl rfl rfl rfl ((fr + (i : Int)).tmod 4).toNat _ (by omega) (lab_get hm4) ?_; refine grun_ th rfl ?_)
     | (refine q_eff (carx_c types ht l _ hle) [given] rfl rfl rfl rfl rfl rfl rfl rfl rfl rfl rfl (outM_sub (ids := [given]) rfl) ?_; refine grun_ th rfl ?_)
     | (refine q_eff (pickx_c l _ hcl p (by omega) (by omega)) [given] rfl rfl rfl rfl rfl rfl rfl rfl rfl rfl rfl (outM_sub (ids := [given]) rfl) ?_; refine grun_ th rfl ?_)
     | (refine q_lit th rfl rfl rfl rfl rfl rfl rfl rfl rfl rfl rfl (.refl _) ?_; refine grun_ th rfl ?_)
     | (refine q_lit th rfl rfl rfl rfl rfl rfl rfl rfl rfl rfl rfl rfl (.refl _) ?_; refine grun_ th rfl ?_)
     | refine GOps.nil ?_
     | (refine s_appendF th rfl rfl rfl rfl rfl rfl rfl rfl rfl rfl rfl rfl rfl rfl (by constructor <;> simp [hal] <;> omega) ?_; refine run_ th rfl ?_)
     | (refine s_add rfl rfl rfl rfl rfl rfl (by omega) ?_; refine run_ th rfl ?_))
    have hih := ih (i + 1) hlt (by omega)
    exact g_sub (by exact ⟨⟨_, rfl, .refl _⟩, ⟨_, rfl, .refl _⟩, ⟨_, rfl, .refl _⟩, ⟨_, rfl, .refl _⟩, ⟨_, rfl, .refl _⟩, ⟨_, rfl, .refl _⟩, ⟨_, rfl, le_int (by omega)⟩, trivial⟩)
      (by exact ⟨⟨_, rfl, .refl _⟩, ⟨_, rfl, le_arr (by rw [armS, List.map_append]; rfl)⟩, trivial⟩) rfl rfl rfl hih
  · have hie : i = cnt := by omega
    subst hie
    repeat' (first
     | refine gc_ rfl ?_
     | (refine g_region ?_; refine run_ th rfl ?_)
     | (refine g_drawC mix rfl rfl ?_; refine drun_ th rfl ?_)
     | (refine g_drawEC mix rfl rfl ?_; refine erun_ th rfl ?_)
     | refine SOps.nil ?_
     | refine DOps.nil ?_
     | refine EOps.nil ?_ rfl rfl
     | (refine s_split rfl rfl (fun hb => ?_) (fun hb => ?_) <;> (try simp only [hbL] at hb) <;> first | (exfalso; omega) | refine run_ th rfl ?_)
     | (refine d_split rfl rfl rfl (fun hb => ?_) (fun hb => ?_) <;> (try simp only [hbL] at hb) <;> first | (exfalso; omega) | refine drun_ th rfl ?_)
     | (refine g_if rfl (fun hb => ?_) (fun hb => ?_) <;> (try simp only [hbL] at hb) <;> (try (exfalso; omega))))
    refine g_freeze 50 rfl rfl ?_
    refine g_endL th Tryd.func24 (.inr ⟨_, rfl⟩) rfl rfl rfl ?_ rfl
    exact .refl _
end Go.Sy
namespace Go.Sy
open Go.Proofs
set_option maxRecDepth 100000
attribute [local irreducible] SOps Goes DOps EOps GOps
def trnS (types : List ByteArray) (l : List Int) (n peers : Int) (k : Nat) : Nat → List Trn × Nat
  | 0 => ([], k)
  | i + 1 =>
    if pkV l (trnS types l n peers k i).2 5 = 0 then ((trnS types l n peers k i).1 ++ [noTrn], pkA l (trnS types l n peers k i).2)
    else ((trnS types l n peers k i).1 ++ [⟨1 + (pkV l (trnS types l n peers k i).2 5).tmod 2, rolesL.getD (pkV l (pkA l (trnS types l n peers k i).2) peers).toNat ⟨#[]⟩, (armV types l (pkA l (pkA l (trnS types l n peers k i).2)) n).1⟩],
      (armV types l (pkA l (pkA l (trnS types l n peers k i).2)) n).2)
def locV (name : ByteArray) (types : List ByteArray) (l : List Int) (k : Nat) : Loc × Nat :=
  (⟨name, (trnS types l (1 + pkV l k 6) (1 + pkV l (pkA l k) 2) (pkA l (pkA l k)) (1 + pkV l k 6).toNat).1⟩, (trnS types l (1 + pkV l k 6) (1 + pkV l (pkA l k) 2) (pkA l (pkA l k)) (1 + pkV l k 6).toNat).2)
theorem trnS_le {types : List ByteArray} {l : List Int} {n q : Int} {k : Nat} (hk : k ≤ l.length) : ∀ i, (trnS types l n q k i).2 ≤ l.length
  | 0 => hk
  | i + 1 => by
    have ih := trnS_le (types := types) (n := n) (q := q) hk i
    rw [trnS]
    split
    · exact pkA_le ih
    · exact armV_le (pkA_le (pkA_le ih))
theorem trnS_len {types : List ByteArray} {l : List Int} {n q : Int} {k : Nat} : ∀ i, (trnS types l n q k i).1.length = i
  | 0 => rfl
  | i + 1 => by
    rw [trnS]
    split <;> simp [trnS_len i]
theorem role_get {m : Int} (h : 0 ≤ m ∧ m < 5) : (rolesL.map fun s => [CT.str s])[m.toNat]? = some [.str (rolesL.getD m.toNat ⟨#[]⟩)] := by
  have hk : m.toNat < rolesL.length := by show m.toNat < 5; omega
  rw [List.getElem?_map, List.getD_eq_getElem?_getD, List.getElem?_eq_getElem hk]
  rfl
set_option maxHeartbeats 8000000 in
theorem locx_c (name : ByteArray) (types : List ByteArray) (ht : types.length ≤ 1000) (l : List Int) (k : Nat) (hk : k ≤ l.length) :
    Con Tryd.prog 9 [diceX l k] [.one (.ptr given 0), C1 (.str name), C1 (namesT types)] (.v (Ag (locV name types l k).1.cs)) [diceX l (locV name types l k).2] := by
  have hk1 := pkA_le hk
  have hk2 := pkA_le hk1
  have hr1 := pk_range l k (n := 6) (by omega) (by omega)
  have hr2 := pk_range l (pkA l k) (n := 2) (by omega) (by omega)
  refine con_of (c := _) Tryd.func9 rfl rfl rfl (by decide) fun w M0 H Z => ?_
  repeat' (first
   | refine gc_ rfl ?_
   | (refine g_region ?_; refine run_ th rfl ?_)
   | (refine g_drawC mix rfl rfl ?_; refine drun_ th rfl ?_)
   | (refine g_drawEC mix rfl rfl ?_; refine erun_ th rfl ?_)
   | refine SOps.nil ?_
   | refine DOps.nil ?_
   | refine EOps.nil ?_ rfl rfl
   | (refine s_split rfl rfl (fun hb => ?_) (fun hb => ?_) <;> (try simp only [hbL] at hb) <;> first | (exfalso; omega) | refine run_ th rfl ?_)
   | (refine d_split rfl rfl rfl (fun hb => ?_) (fun hb => ?_) <;> (try simp only [hbL] at hb) <;> first | (exfalso; omega) | refine drun_ th rfl ?_)
   | (refine g_if rfl (fun hb => ?_) (fun hb => ?_) <;> (try simp only [hbL] at hb) <;> (try (exfalso; omega)))
   | (refine s_call (pickx_c l k hk 6 (by omega) (by omega)) [given] rfl rfl rfl rfl rfl rfl rfl rfl rfl rfl ?_; refine run_ th rfl ?_)
   | (refine s_call (pickx_c l (pkA l k) hk1 2 (by omega) (by omega)) [given] rfl rfl rfl rfl rfl rfl rfl rfl rfl rfl ?_; refine run_ th rfl ?_)
   | (refine s_add rfl rfl rfl rfl rfl rfl (by omega) ?_; refine run_ th rfl ?_))
  obtain ⟨pe, hpe⟩ : ∃ pe, pe = 1 + pkV l (pkA l k) 2 := ⟨_, rfl⟩
  obtain ⟨k0, hk0⟩ : ∃ k0, k0 = pkA l (pkA l k) := ⟨_, rfl⟩
  obtain ⟨cnt, hcnt⟩ : ∃ cnt : Nat, cnt = (1 + pkV l k 6).toNat := ⟨_, rfl⟩
  have hcI : (1 + pkV l k 6 : Int) = (cnt : Int) := by omega
  have hc3 : 1 ≤ cnt ∧ cnt ≤ 6 := by omega
  have hpr : 1 ≤ pe ∧ pe ≤ 2 := by omega
  have hres : locV name types l k = (⟨name, (trnS types l cnt pe k0 cnt).1⟩, (trnS types l cnt pe k0 cnt).2) := by rw [hpe, hk0, ← hcI, hcnt]; rfl
  rw [hres]
  rw [← hpe, ← hk0, hcI]
  rw [← hk0] at hk2
  refine g_adoptB 9 1 200 55 3 rfl rfl rfl rfl ?_
  refine g_loop1 (fun i : Nat => i ≤ cnt)
    (fun i => [(0, .v (.one (.ptr given 0))), (2, .v (C1 (namesT types))), (6, .v (.one (.ptr 6 0))), (7, .v (C1 (.int .i64 (cnt : Int)))), (8, .v (C1 (.int .i64 pe))), (9, .v (.one (.ptr 9 0))), (10, .v (C1 (.int .i64 (i : Int))))])
    (fun i => [(given, .box ((diceX l (trnS types l cnt pe k0 i).2).map SC.c)), (6, .box [.c (.str ⟨#[]⟩), .c .nils]), (9, .box [.c (.str name), .own 200]), (200, .arr false 55 3 ((trnS types l cnt pe k0 i).1.map Trn.cs))])
    (fun i => cnt - i) 0 (Nat.zero_le _)
    (fun a w h => h.sub (by exact ⟨⟨_, rfl, .refl _⟩, ⟨_, rfl, .refl _⟩, ⟨_, rfl, .refl _⟩, ⟨_, rfl, .refl _⟩, ⟨_, rfl, .refl _⟩, ⟨_, rfl, .refl _⟩, ⟨_, rfl, le_int rfl⟩, trivial⟩) (by exact ⟨⟨_, rfl, .refl _⟩, ⟨_, rfl, .refl _⟩, ⟨_, rfl, .refl _⟩, ⟨_, rfl, le_arr rfl⟩, trivial⟩) rfl rfl rfl) (fun i hi ih => ?_)
  have hle := trnS_le (types := types) (n := (cnt : Int)) (q := pe) hk2 i
  have hle1 := pkA_le hle
  have hle2 := pkA_le hle1
  have htl := trnS_len (types := types) (l := l) (n := (cnt : Int)) (q := pe) (k := k0) i
  by_cases hlt : i < cnt
  · have hq5 := pk_range l (trnS types l cnt pe k0 i).2 (n := 5) (by omega) (by omega)
    have hqp := pk_range l (pkA l (trnS types l cnt pe k0 i).2) (n := pe) (by omega) (by omega)
    have hm2 : 0 ≤ (pkV l (trnS types l cnt pe k0 i).2 5).tmod 2 ∧ (pkV l (trnS types l cnt pe k0 i).2 5).tmod 2 < 2 := ⟨Int.tmod_nonneg _ hq5.1, Int.tmod_lt_of_pos _ (by omega)⟩
    repeat' (first
     | (refine g_drawS 17 [given] mix rfl rfl rfl rfl rfl rfl rfl rfl ?_; refine grun_ th rfl ?_)
     | refine gc_ rfl ?_
     | (refine g_region ?_; refine run_ th rfl ?_)
     | (refine g_drawC mix rfl rfl ?_; refine drun_ th rfl ?_)
     | (refine g_drawEC mix rfl rfl ?_; refine erun_ th rfl ?_)
     | refine SOps.nil ?_
     | refine DOps.nil ?_
     | refine EOps.nil ?_ rfl rfl
     | (refine s_split rfl rfl (fun hb => ?_) (fun hb => ?_) <;> (try simp only [hbL] at hb) <;> first | (exfalso; omega) | refine run_ th rfl ?_)
     | (refine d_split rfl rfl rfl (fun hb => ?_) (fun hb => ?_) <;> (try simp only [hbL] at hb) <;> first | (exfalso; omega) | refine drun_ th rfl ?_)
     | (refine g_if rfl (fun hb => ?_) (fun hb => ?_) <;> (try simp only [hbL] at hb) <;> (try (exfalso; omega)))
     | (refine s_call (pickx_c l _ hle 5 (by omega) (by omega)) [given] rfl rfl rfl rfl rfl rfl rfl rfl rfl rfl ?_; refine run_ th rfl ?_)
     | (refine s_anyB 9 1 rfl ?_; refine s_append th rfl rfl rfl rfl rfl rfl rfl rfl rfl rfl rfl rfl rfl rfl rfl (by constructor <;> simp [htl] <;> omega) ?_; refine run_ th rfl ?_)
     | (refine s_anyB 9 1 rfl ?_; refine s_appendF th rfl rfl rfl rfl rfl rfl rfl rfl rfl rfl rfl rfl rfl rfl (by constructor <;> simp [htl] <;> omega) ?_; refine run_ th rfl ?_)
     | (refine q_call roles_c rfl rfl rfl rfl rfl rfl rfl ?_; refine grun_ th rfl ?_)
     | (refine q_add rfl rfl rfl rfl rfl rfl (by omega) ?_; refine grun_ th rfl ?_)
     | (refine q_rem rfl rfl rfl rfl rfl rfl (by decide) ?_; refine grun_ th rfl ?_)
     | (refine q_idx th rfl rfl rfl rfl rfl rfl rfl rfl rfl (pkV l (pkA l (trnS types l cnt pe k0 i).2) pe).toNat _ (by omega) (role_get (by omega)) ?_; refine grun_ th rfl ?_)
     | (refine q_eff (pickx_c l _ hle1 pe (by omega) (by omega)) [given] rfl rfl rfl rfl rfl rfl rfl rfl rfl rfl rfl (outM_sub (ids := [given]) rfl) ?_; refine grun_ th rfl ?_)
     | (refine q_eff (armx_c types ht l _ hle2 (cnt : Int) (by omega) (by omega)) [given] rfl rfl rfl rfl rfl rfl rfl rfl rfl rfl rfl (outM_sub (ids := [given]) rfl) ?_; refine grun_ th rfl ?_)
     | (refine q_lit th rfl rfl rfl rfl rfl rfl rfl rfl rfl rfl rfl rfl (.refl _) ?_; refine grun_ th rfl ?_)
     | refine GOps.nil ?_
     | (refine s_add rfl rfl rfl rfl rfl rfl (by omega) ?_; refine run_ th rfl ?_))
    · have hih := ih (i + 1) hlt (by omega)
      rw [show trnS types l cnt pe k0 (i + 1) = ((trnS types l cnt pe k0 i).1 ++ [noTrn], pkA l (trnS types l cnt pe k0 i).2) by rw [trnS, if_pos hb]] at hih
      refine g_sub (by exact ⟨⟨_, rfl, .refl _⟩, ⟨_, rfl, .refl _⟩, ⟨_, rfl, .refl _⟩, ⟨_, rfl, .refl _⟩, ⟨_, rfl, .refl _⟩, ⟨_, rfl, .refl _⟩, ⟨_, rfl, le_int (by omega)⟩, trivial⟩) ?_ rfl rfl rfl hih
      refine ⟨⟨_, rfl, .refl _⟩, ⟨_, rfl, .refl _⟩, ⟨_, rfl, .refl _⟩, ⟨_, rfl, ?_⟩, trivial⟩
      rw [List.map_append]
      exact .arr (.append (.refl _) (.cons (.cons (.refl _) (.cons (.refl _) (.cons (.nil 4) .nil))) .nil))
    · have hih := ih (i + 1) hlt (by omega)
      rw [show trnS types l cnt pe k0 (i + 1) = ((trnS types l cnt pe k0 i).1 ++ [⟨1 + (pkV l (trnS types l cnt pe k0 i).2 5).tmod 2, rolesL.getD (pkV l (pkA l (trnS types l cnt pe k0 i).2) pe).toNat ⟨#[]⟩, (armV types l (pkA l (pkA l (trnS types l cnt pe k0 i).2)) cnt).1⟩], (armV types l (pkA l (pkA l (trnS types l cnt pe k0 i).2)) cnt).2) by rw [trnS, if_neg hb]] at hih
      refine g_sub (by exact ⟨⟨_, rfl, .refl _⟩, ⟨_, rfl, .refl _⟩, ⟨_, rfl, .refl _⟩, ⟨_, rfl, .refl _⟩, ⟨_, rfl, .refl _⟩, ⟨_, rfl, .refl _⟩, ⟨_, rfl, le_int (by omega)⟩, trivial⟩) ?_ rfl rfl rfl hih
      exact ⟨⟨_, rfl, .refl _⟩, ⟨_, rfl, .refl _⟩, ⟨_, rfl, .refl _⟩, ⟨_, rfl, le_arr (by rw [List.map_append]; rfl)⟩, trivial⟩
  · have hie : i = cnt := by omega
    subst hie
    repeat' (first
     | refine gc_ rfl ?_
     | (refine g_region ?_; refine run_ th rfl ?_)
     | (refine g_drawC mix rfl rfl ?_; refine drun_ th rfl ?_)
     | (refine g_drawEC mix rfl rfl ?_; refine erun_ th rfl ?_)
     | refine SOps.nil ?_
     | refine DOps.nil ?_
     | refine EOps.nil ?_ rfl rfl
     | (refine s_split rfl rfl (fun hb => ?_) (fun hb => ?_) <;> (try simp only [hbL] at hb) <;> first | (exfalso; omega) | refine run_ th rfl ?_)
     | (refine d_split rfl rfl rfl (fun hb => ?_) (fun hb => ?_) <;> (try simp only [hbL] at hb) <;> first | (exfalso; omega) | refine drun_ th rfl ?_)
     | (refine g_if rfl (fun hb => ?_) (fun hb => ?_) <;> (try simp only [hbL] at hb) <;> (try (exfalso; omega))))
    refine g_freeze 200 rfl rfl ?_
    refine g_endL th Tryd.func9 (.inr ⟨_, rfl⟩) rfl rfl rfl ?_ rfl
    exact .refl _
theorem roleN_name : ∀ m : Int, 0 ≤ m → m < 5 → nameB (rolesL.getD m.toNat ⟨#[]⟩) = true := fun m h0 h5 => by
  have : m.toNat = 0 ∨ m.toNat = 1 ∨ m.toNat = 2 ∨ m.toNat = 3 ∨ m.toNat = 4 := by omega
  rcases this with h | h | h | h | h <;> rw [h] <;> decide
theorem labN_name : ∀ m : Int, 0 ≤ m → m < 4 → nameB (labelsL.getD m.toNat ⟨#[]⟩) = true := fun m h0 h5 => by
  have : m.toNat = 0 ∨ m.toNat = 1 ∨ m.toNat = 2 ∨ m.toNat = 3 := by omega
  rcases this with h | h | h | h <;> rw [h] <;> decide
theorem lab_inj : ∀ a b : Nat, a < 4 → b < 4 → labelsL.getD a ⟨#[]⟩ = labelsL.getD b ⟨#[]⟩ → a = b := by
  intro a b ha hb h
  have h1 : a = 0 ∨ a = 1 ∨ a = 2 ∨ a = 3 := by omega
  have h2 : b = 0 ∨ b = 1 ∨ b = 2 ∨ b = 3 := by omega
  rcases h1 with rfl | rfl | rfl | rfl <;> rcases h2 with rfl | rfl | rfl | rfl <;> first | rfl | (exfalso; revert h; decide)
def TypesOK (types : List ByteArray) : Prop := ∀ t ∈ types, typeB t = true ∧ t.size ≤ 1000
theorem carV_ok {types : List ByteArray} (ht : TypesOK types) (hl : types.length ≤ 1000) (l : List Int) (k : Nat) : carB (carV types l k).1.1 (carV types l k).1.2 = true ∧ (carV types l k).1.2.size ≤ 1000 := by
  have hd : ∀ k, carB (dataV l k) ⟨#[]⟩ = true := fun k => by
    have := data_range l k
    rw [carB_data _ this.1 this.2]; rfl
  unfold carV
  split
  · rename_i h0
    split
    · have hr := pk_range l (pkA l k) (n := (types.length : Int)) (by omega) (by omega)
      have hk : (pkV l (pkA l k) types.length).toNat < types.length := by omega
      have hm : types.getD (pkV l (pkA l k) types.length).toNat ⟨#[]⟩ ∈ types := by
        rw [List.getD_eq_getElem?_getD, List.getElem?_eq_getElem hk]
        exact List.getElem_mem hk
      exact ⟨by rw [carB_chan]; exact (ht _ hm).1, (ht _ hm).2⟩
    · exact ⟨hd _, Nat.zero_le _⟩
  · exact ⟨hd _, Nat.zero_le _⟩
theorem armS_lab {types : List ByteArray} {l : List Int} {f p : Int} {k : Nat} : ∀ (i j : Nat), j < i → ((armS types l f p k i).1[j]?).map Arm.label = some (labelsL.getD ((f + (j : Int)).tmod 4).toNat ⟨#[]⟩)
  | 0, j, h => by omega
  | i + 1, j, h => by
    rw [armS]
    by_cases hj : j < i
    · rw [List.getElem?_append_left (by rw [armS_len]; exact hj)]
      exact armS_lab i j hj
    · have : j = i := by omega
      subst this
      rw [List.getElem?_append_right (by rw [armS_len]; omega), armS_len]
      simp
theorem armS_all {types : List ByteArray} (ht : TypesOK types) (hl : types.length ≤ 1000) {l : List Int} {f p : Int} {k : Nat} (hf : 0 ≤ f) (hp : 1 ≤ p ∧ p ≤ 1000) : ∀ i, ∀ a ∈ (armS types l f p k i).1, armB p a = true ∧ a.name.size ≤ 1000
  | 0, a, h => by cases h
  | i + 1, a, h => by
    rw [armS] at h
    rcases List.mem_append.1 h with h | h
    · exact armS_all ht hl hf hp i a h
    · rw [List.mem_singleton] at h
      subst h
      have h4 := tmod4 (m := f + (i : Int)) (by omega)
      have hc := carV_ok ht hl l (armS types l f p k i).2
      have hn := pk_range l (carV types l (armS types l f p k i).2).2 (n := p) hp.1 (by omega)
      exact ⟨by unfold armB; simp only; rw [labN_name _ h4.1 h4.2, hc.1, decide_eq_true hn.1, decide_eq_true hn.2]; rfl, hc.2⟩
theorem armS_nodup {types : List ByteArray} {l : List Int} {f p : Int} {k : Nat} (hf : 0 ≤ f ∧ f < 4) {i : Nat} (hi : i ≤ 4) : ((armS types l f p k i).1.map Arm.label).Nodup := by
  rw [List.nodup_iff_pairwise_ne, List.pairwise_iff_getElem]
  intro a b ha hb hab e
  simp only [List.length_map, armS_len] at ha hb
  have h1 := armS_lab (types := types) (l := l) (f := f) (p := p) (k := k) i a ha
  have h2 := armS_lab (types := types) (l := l) (f := f) (p := p) (k := k) i b hb
  rw [← List.getElem?_map, List.getElem?_eq_getElem (by simpa [armS_len] using ha)] at h1
  rw [← List.getElem?_map, List.getElem?_eq_getElem (by simpa [armS_len] using hb)] at h2
  injection h1 with h1
  injection h2 with h2
  rw [h1, h2] at e
  have q1 := tmod4 (m := f + (a : Int)) (by omega)
  have q2 := tmod4 (m := f + (b : Int)) (by omega)
  have := lab_inj _ _ (by omega) (by omega) e
  have t1 : (f + (a : Int)).tmod 4 = (f + a) % 4 := Int.tmod_eq_emod_of_nonneg (by omega)
  have t2 : (f + (b : Int)).tmod 4 = (f + b) % 4 := Int.tmod_eq_emod_of_nonneg (by omega)
  omega
theorem armV_ok {types : List ByteArray} (ht : TypesOK types) (hl : types.length ≤ 1000) (l : List Int) (k : Nat) {p : Int} (hp : 1 ≤ p ∧ p ≤ 1000) : armsOK p (armV types l k p).1 = true ∧ ∀ a ∈ (armV types l k p).1, a.name.size ≤ 1000 := by
  have hr1 := pk_range l k (n := 3) (by omega) (by omega)
  have hr2 := pk_range l (pkA l k) (n := 4) (by omega) (by omega)
  have ha := armS_all (l := l) (k := pkA l (pkA l k)) ht hl hr2.1 hp (1 + pkV l k 3).toNat
  have hn := armS_nodup (types := types) (l := l) (k := pkA l (pkA l k)) (p := p) hr2 (i := (1 + pkV l k 3).toNat) (by omega)
  refine ⟨?_, fun a h => (ha a h).2⟩
  unfold armsOK armV
  rw [armS_len, decide_eq_true (show 1 ≤ (1 + pkV l k 3).toNat by omega), decide_eq_true (show (1 + pkV l k 3).toNat ≤ 6 by omega), decide_eq_true hn, Bool.true_and, Bool.true_and, Bool.and_true, List.all_eq_true]
  exact fun a h => (ha a h).1
theorem trnS_ok {types : List ByteArray} (ht : TypesOK types) (hl : types.length ≤ 1000) {l : List Int} {n q : Int} {k : Nat} (hn : 1 ≤ n ∧ n ≤ 1000) (hq : 1 ≤ q ∧ q ≤ 2) : ∀ i, ∀ t ∈ (trnS types l n q k i).1, trnB n t = true ∧ ∀ a ∈ t.arms, a.name.size ≤ 1000
  | 0, t, h => by cases h
  | i + 1, t, h => by
    rw [trnS] at h
    split at h
    · rcases List.mem_append.1 h with h | h
      · exact trnS_ok ht hl hn hq i t h
      · rw [List.mem_singleton] at h; subst h
        exact ⟨by rw [trn_end rfl]; rfl, fun a ha => by cases ha⟩
    · rename_i hne
      rcases List.mem_append.1 h with h | h
      · exact trnS_ok ht hl hn hq i t h
      · rw [List.mem_singleton] at h; subst h
        have hq5 := pk_range l (trnS types l n q k i).2 (n := 5) (by omega) (by omega)
        have hqp := pk_range l (pkA l (trnS types l n q k i).2) (n := q) (by omega) (by omega)
        have hm2 : 0 ≤ (pkV l (trnS types l n q k i).2 5).tmod 2 ∧ (pkV l (trnS types l n q k i).2 5).tmod 2 < 2 := ⟨Int.tmod_nonneg _ hq5.1, Int.tmod_lt_of_pos _ (by omega)⟩
        have ha := armV_ok ht hl l (pkA l (pkA l (trnS types l n q k i).2)) hn
        refine ⟨?_, ha.2⟩
        rw [trn_act (by simp only; omega) (by simp only; omega)]
        simp only
        rw [roleN_name _ hqp.1 (by omega), ha.1]; rfl
theorem locV_ok {name : ByteArray} {types : List ByteArray} (ht : TypesOK types) (hl : types.length ≤ 1000) (l : List Int) (k : Nat) : locB (locV name types l k).1 = true ∧ LocBig (locV name types l k).1 ∧ (locV name types l k).1.turns.length ≤ 6 := by
  have hr1 := pk_range l k (n := 6) (by omega) (by omega)
  have hr2 := pk_range l (pkA l k) (n := 2) (by omega) (by omega)
  have hlen : (locV name types l k).1.turns.length = (1 + pkV l k 6).toNat := trnS_len _
  have hI : ((1 + pkV l k 6).toNat : Int) = 1 + pkV l k 6 := by omega
  have hall := trnS_ok (l := l) (k := pkA l (pkA l k)) ht hl (n := 1 + pkV l k 6) (q := 1 + pkV l (pkA l k) 2) (by omega) (by omega) (1 + pkV l k 6).toNat
  refine ⟨?_, fun t h a ha => Nat.le_trans ((hall t h).2 a ha) (by decide), by omega⟩
  rw [locB_M, hlen, hI, decide_eq_true (show 1 ≤ (1 + pkV l k 6).toNat by omega), decide_eq_true (show (1 + pkV l k 6).toNat ≤ 40 by omega), Bool.true_and, Bool.true_and]
  exact List.all_eq_true.2 fun t h => (hall t h).1
end Go.Sy
namespace Go.Sy
open Go.Proofs
set_option maxRecDepth 100000
attribute [local irreducible] SOps Goes DOps EOps
end Go.Sy
namespace Go.Sy
open Go.Proofs
set_option maxRecDepth 100000
attribute [local irreducible] SOps Goes DOps EOps
theorem lt_xy : sLt ⟨#[120]⟩ ⟨#[121]⟩ = true := by unfold sLt; rw [ByteArray.toList_eq, ByteArray.toList_eq]; decide
end Go.Sy
