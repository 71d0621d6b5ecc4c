/- Contracts of the reference, bundle Bd1. -/
import Derived.Test.YtadimhaolhpglaaBn1
import Derived.Test.YtadimhaolhpglaaBl1
import Derived.Test.YtadimhaolhpglaaSymZp
import Derived.Test.YtadimhaolhpglaaBu2
import Derived.Test.YtadimhaolhpglaaBu4
/- Contracts: reparteemake.Pick, to the place; Data, carries. -/
set_option linter.unusedSimpArgs false
set_option linter.unusedVariables false
set_option linter.unusedSectionVars false
namespace Go.Sy
open Go.Proofs
set_option maxRecDepth 100000
attribute [local irreducible] SOps Goes DOps EOps GOps

/-- What the dice tell, and where they stand then. -/
def pkV (l : List Int) (k : Nat) (n : Int) : Int := match l[k]? with
  | some x => IntKind.i64.wrap ((IntKind.u64.wrap x).tmod (IntKind.u64.wrap n))
  | none => 0
def pkA (l : List Int) (k : Nat) : Nat := if k < l.length then k + 1 else k
abbrev diceX (l : List Int) (k : Nat) : List CT := [intsT l, .int .i64 (k : Int)]
theorem pk_range (l : List Int) (k : Nat) {n : Int} (h0 : 1 ≤ n) (h1 : n ≤ 9223372036854775807) : 0 ≤ pkV l k n ∧ pkV l k n < n := by
  unfold pkV
  cases l[k]? with
  | none => simp; omega
  | some x => exact pick_v h0 h1
theorem pkA_le {l : List Int} {k : Nat} (h : k ≤ l.length) : pkA l k ≤ l.length := by unfold pkA; split <;> omega

set_option maxHeartbeats 4000000 in
theorem pickx_c (l : List Int) (k : Nat) (hk : k ≤ l.length) (n : Int) (hn1 : 1 ≤ n) (hn : n ≤ 9223372036854775807) : Con Try.prog 49 [diceX l k] [.one (.ptr given 0), C1 (.int .i64 n)] (Rv (.int .i64 (pkV l k n))) [diceX l (pkA l k)] := by
  by_cases hlt : k < l.length
  · have hx : (l.map fun r => [CT.int .i64 r])[k]? = some [.int .i64 l[k]] := by simp [hlt]
    have hv : pkV l k n = IntKind.i64.wrap ((IntKind.u64.wrap l[k]).tmod (IntKind.u64.wrap n)) := by unfold pkV; rw [List.getElem?_eq_getElem hlt]
    have ha : diceX l (pkA l k) = [intsT l, .int .i64 ((k : Int) + 1)] := by unfold pkA; rw [if_pos hlt]; rfl
    rw [hv, ha]
    refine con_of (c := _) Try.func49 rfl rfl rfl (by decide) fun w M0 H Z => ?_
    refine g_lenB given 0 rfl rfl fun hll => ?_
    simp only [List.length_map] at hll
    repeat' (first
     | refine gc_ rfl ?_
     | (refine g_region ?_; refine run_ th rfl ?_)
     | (refine g_drawC mix rfl rfl ?_; refine drun_ th rfl ?_)
     | (refine g_drawEC mix rfl rfl ?_; refine erun_ th rfl ?_)
     | refine SOps.nil ?_
     | refine DOps.nil ?_
     | refine EOps.nil ?_ rfl rfl
     | (refine s_split rfl rfl (fun hb => ?_) (fun hb => ?_) <;> (try simp only [hbL] at hb) <;> first | (exfalso; omega) | refine run_ th rfl ?_)
     | (refine d_split rfl rfl rfl (fun hb => ?_) (fun hb => ?_) <;> (try simp only [hbL] at hb) <;> first | (exfalso; omega) | refine drun_ th rfl ?_)
     | (refine g_if rfl (fun hb => ?_) (fun hb => ?_) <;> (try simp only [hbL] at hb) <;> (try (exfalso; omega)))
     | refine g_endL th Try.func49 (.inr ⟨_, rfl⟩) rfl rfl rfl ?_ rfl
     | (refine s_add rfl rfl rfl rfl rfl rfl (by omega) ?_; refine run_ th rfl ?_)
     | (refine d_subI rfl rfl rfl rfl rfl rfl (by omega) ?_; refine drun_ th rfl ?_)
     | (refine d_idx th rfl rfl rfl rfl rfl rfl rfl rfl rfl k _ (by omega) hx ?_; refine drun_ th rfl ?_)
     | (refine d_rem rfl rfl rfl rfl rfl rfl (by rw [wrapU_id (by omega) hn]; omega) ?_; refine drun_ th rfl ?_))
    all_goals exact .refl _
  · have hv : pkV l k n = 0 := by unfold pkV; rw [List.getElem?_eq_none (by omega)]
    have ha : pkA l k = k := by unfold pkA; rw [if_neg hlt]
    rw [hv, ha]
    refine con_of (c := _) Try.func49 rfl rfl rfl (by decide) fun w M0 H Z => ?_
    refine g_lenB given 0 rfl rfl fun hll => ?_
    simp only [List.length_map] at hll
    repeat' (first
     | refine gc_ rfl ?_
     | (refine g_region ?_; refine run_ th rfl ?_)
     | (refine g_drawC mix rfl rfl ?_; refine drun_ th rfl ?_)
     | (refine g_drawEC mix rfl rfl ?_; refine erun_ th rfl ?_)
     | refine SOps.nil ?_
     | refine DOps.nil ?_
     | refine EOps.nil ?_ rfl rfl
     | (refine s_split rfl rfl (fun hb => ?_) (fun hb => ?_) <;> (try simp only [hbL] at hb) <;> first | (exfalso; omega) | refine run_ th rfl ?_)
     | (refine d_split rfl rfl rfl (fun hb => ?_) (fun hb => ?_) <;> (try simp only [hbL] at hb) <;> first | (exfalso; omega) | refine drun_ th rfl ?_)
     | (refine g_if rfl (fun hb => ?_) (fun hb => ?_) <;> (try simp only [hbL] at hb) <;> (try (exfalso; omega)))
     | refine g_endL th Try.func49 (.inr ⟨_, rfl⟩) rfl rfl rfl ?_ rfl)
    all_goals exact .refl _

/-- A letter's data. -/
def kindsL : List Int := [1, 0, 1, 2, 3, 4]
def dataV (l : List Int) (k : Nat) : Int := kindsL.getD (pkV l k 6).toNat 0
theorem kinds_get {m : Int} (h : 0 ≤ m ∧ m < 6) : (kindsL.map fun r => [CT.int .i64 r])[m.toNat]? = some [.int .i64 (kindsL.getD m.toNat 0)] := by
  have : m.toNat < 6 := by omega
  have hk : m.toNat < kindsL.length := this
  rw [List.getElem?_map, List.getElem?_eq_getElem hk, List.getD_eq_getElem?_getD, List.getElem?_eq_getElem hk]
  rfl
theorem data_range (l : List Int) (k : Nat) : 0 ≤ dataV l k ∧ dataV l k < 5 := by
  have h := pk_range l k (n := 6) (by omega) (by omega)
  unfold dataV
  have : (pkV l k 6).toNat = 0 ∨ (pkV l k 6).toNat = 1 ∨ (pkV l k 6).toNat = 2 ∨ (pkV l k 6).toNat = 3 ∨ (pkV l k 6).toNat = 4 ∨ (pkV l k 6).toNat = 5 := by omega
  rcases this with h | h | h | h | h | h <;> rw [h] <;> decide
theorem datax_c (l : List Int) (k : Nat) (hk : k ≤ l.length) : Con Try.prog 90 [diceX l k] [.one (.ptr given 0)] (.v (Ag [.int .i64 (dataV l k), .str ⟨#[]⟩])) [diceX l (pkA l k)] := by
  have hr := pk_range l k (n := 6) (by omega) (by omega)
  have hg := kinds_get hr
  refine con_of (c := _) Try.func90 rfl rfl rfl (by decide) fun w M0 H Z => ?_
  repeat' (first
   | refine gc_ rfl ?_
   | (refine g_region ?_; refine run_ th rfl ?_)
   | (refine g_drawC mix rfl rfl ?_; refine drun_ th rfl ?_)
   | (refine g_drawEC mix rfl rfl ?_; refine erun_ th rfl ?_)
   | refine SOps.nil ?_
   | refine DOps.nil ?_
   | refine EOps.nil ?_ rfl rfl
   | (refine s_split rfl rfl (fun hb => ?_) (fun hb => ?_) <;> (try simp only [hbL] at hb) <;> first | (exfalso; omega) | refine run_ th rfl ?_)
   | (refine d_split rfl rfl rfl (fun hb => ?_) (fun hb => ?_) <;> (try simp only [hbL] at hb) <;> first | (exfalso; omega) | refine drun_ th rfl ?_)
   | (refine g_if rfl (fun hb => ?_) (fun hb => ?_) <;> (try simp only [hbL] at hb) <;> (try (exfalso; omega)))
   | refine g_endL th Try.func90 (.inr ⟨_, rfl⟩) rfl rfl rfl ?_ rfl
   | (refine s_call (pickx_c l k hk 6 (by omega) (by omega)) [given] rfl rfl rfl rfl rfl rfl rfl rfl rfl rfl ?_; refine run_ th rfl ?_)
   | (refine s_idxo th rfl rfl rfl rfl rfl rfl rfl rfl rfl rfl (pkV l k 6).toNat (by omega) (by show _ < 6; omega) ?_; refine run_ th rfl ?_)
   | (refine s_loada th _ rfl rfl rfl rfl hg rfl rfl rfl rfl rfl ?_; refine run_ th rfl ?_))
  all_goals exact .refl _

/-- What an arm carries. -/
def carV (types : List ByteArray) (l : List Int) (k : Nat) : (Int × ByteArray) × Nat :=
  if 0 < types.length then
    if pkV l k 4 = 1 then ((5, types.getD (pkV l (pkA l k) types.length).toNat ⟨#[]⟩), pkA l (pkA l k))
    else ((dataV l (pkA l k), ⟨#[]⟩), pkA l (pkA l k))
  else ((dataV l k, ⟨#[]⟩), pkA l k)
theorem carx_c (types : List ByteArray) (ht : types.length ≤ 1000) (l : List Int) (k : Nat) (hk : k ≤ l.length) :
    Con Try.prog 79 [diceX l k] [.one (.ptr given 0), C1 (namesT types)] (.v (Ag [.int .i64 (carV types l k).1.1, .str (carV types l k).1.2])) [diceX l (carV types l k).2] := by
  have hk1 := pkA_le hk
  by_cases h0 : 0 < types.length
  · have hlI : ((types.map fun s => [CT.str s]).length : Int) = (types.length : Int) := by simp
    have hr := pk_range l (pkA l k) (n := (types.length : Int)) (by omega) (by omega)
    by_cases h1 : pkV l k 4 = 1
    · have hc : carV types l k = ((5, types.getD (pkV l (pkA l k) types.length).toNat ⟨#[]⟩), pkA l (pkA l k)) := by unfold carV; rw [if_pos h0, if_pos h1]
      have hx : (types.map fun s => [CT.str s])[(pkV l (pkA l k) types.length).toNat]? = some [.str (types.getD (pkV l (pkA l k) types.length).toNat ⟨#[]⟩)] := by
        have : (pkV l (pkA l k) types.length).toNat < types.length := by omega
        rw [List.getElem?_map, List.getD_eq_getElem?_getD, List.getElem?_eq_getElem this]; rfl
      rw [hc]
      refine con_of (c := _) Try.func79 rfl rfl rfl (by decide) fun w M0 H Z => ?_
      repeat' (first
       | refine gc_ rfl ?_
       | (refine g_region ?_; refine run_ th rfl ?_)
       | (refine g_drawC mix rfl rfl ?_; refine drun_ th rfl ?_)
       | (refine g_drawEC mix rfl rfl ?_; refine erun_ th rfl ?_)
       | refine SOps.nil ?_
       | refine DOps.nil ?_
       | refine EOps.nil ?_ rfl rfl
       | (refine s_split rfl rfl (fun hb => ?_) (fun hb => ?_) <;> (try simp only [hbL] at hb) <;> first | (exfalso; omega) | refine run_ th rfl ?_)
       | (refine d_split rfl rfl rfl (fun hb => ?_) (fun hb => ?_) <;> (try simp only [hbL] at hb) <;> first | (exfalso; omega) | refine drun_ th rfl ?_)
       | (refine g_if rfl (fun hb => ?_) (fun hb => ?_) <;> (try simp only [hbL] at hb) <;> (try (exfalso; omega)))
       | refine g_endL th Try.func79 (.inr ⟨_, rfl⟩) rfl rfl rfl ?_ rfl
       | (refine s_call (pickx_c l k hk 4 (by omega) (by omega)) [given] rfl rfl rfl rfl rfl rfl rfl rfl rfl rfl ?_; refine run_ th rfl ?_)
       | (refine s_call (pickx_c l (pkA l k) hk1 ((types.map fun s => [CT.str s]).length : Int) (by omega) (by omega)) [given] rfl rfl rfl rfl rfl rfl rfl rfl rfl rfl ?_; refine run_ th rfl ?_)
       | (refine s_idx th rfl rfl rfl rfl rfl rfl rfl rfl rfl (pkV l (pkA l k) types.length).toNat _ (by rw [hlI]; omega) hx ?_; refine run_ th rfl ?_))
      all_goals exact .refl _
    · have hc : carV types l k = ((dataV l (pkA l k), ⟨#[]⟩), pkA l (pkA l k)) := by unfold carV; rw [if_pos h0, if_neg h1]
      rw [hc]
      refine con_of (c := _) Try.func79 rfl rfl rfl (by decide) fun w M0 H Z => ?_
      repeat' (first
       | refine gc_ rfl ?_
       | (refine g_region ?_; refine run_ th rfl ?_)
       | (refine g_drawC mix rfl rfl ?_; refine drun_ th rfl ?_)
       | (refine g_drawEC mix rfl rfl ?_; refine erun_ th rfl ?_)
       | refine SOps.nil ?_
       | refine DOps.nil ?_
       | refine EOps.nil ?_ rfl rfl
       | (refine s_split rfl rfl (fun hb => ?_) (fun hb => ?_) <;> (try simp only [hbL] at hb) <;> first | (exfalso; omega) | refine run_ th rfl ?_)
       | (refine d_split rfl rfl rfl (fun hb => ?_) (fun hb => ?_) <;> (try simp only [hbL] at hb) <;> first | (exfalso; omega) | refine drun_ th rfl ?_)
       | (refine g_if rfl (fun hb => ?_) (fun hb => ?_) <;> (try simp only [hbL] at hb) <;> (try (exfalso; omega)))
       | refine g_endL th Try.func79 (.inr ⟨_, rfl⟩) rfl rfl rfl ?_ rfl
       | (refine s_call (pickx_c l k hk 4 (by omega) (by omega)) [given] rfl rfl rfl rfl rfl rfl rfl rfl rfl rfl ?_; refine run_ th rfl ?_)
       | (refine s_call (datax_c l (pkA l k) hk1) [given] rfl rfl rfl rfl rfl rfl rfl rfl rfl rfl ?_; refine run_ th rfl ?_))
      all_goals exact .refl _
  · have hc : carV types l k = ((dataV l k, ⟨#[]⟩), pkA l k) := by unfold carV; rw [if_neg h0]
    have h0I : ¬ (0 : Int) < ((types.map fun s => [CT.str s]).length : Int) := by rw [List.length_map]; omega
    rw [hc]
    refine con_of (c := _) Try.func79 rfl rfl rfl (by decide) fun w M0 H Z => ?_
    repeat' (first
     | refine gc_ rfl ?_
     | (refine g_region ?_; refine run_ th rfl ?_)
     | (refine g_drawC mix rfl rfl ?_; refine drun_ th rfl ?_)
     | (refine g_drawEC mix rfl rfl ?_; refine erun_ th rfl ?_)
     | refine SOps.nil ?_
     | refine DOps.nil ?_
     | refine EOps.nil ?_ rfl rfl
     | (refine s_split rfl rfl (fun hb => ?_) (fun hb => ?_) <;> (try simp only [hbL] at hb) <;> first | (exfalso; omega) | refine run_ th rfl ?_)
     | (refine d_split rfl rfl rfl (fun hb => ?_) (fun hb => ?_) <;> (try simp only [hbL] at hb) <;> first | (exfalso; omega) | refine drun_ th rfl ?_)
     | (refine g_if rfl (fun hb => ?_) (fun hb => ?_) <;> (try simp only [hbL] at hb) <;> (try (exfalso; omega)))
     | refine g_endL th Try.func79 (.inr ⟨_, rfl⟩) rfl rfl rfl ?_ rfl
     | (refine s_call (datax_c l k hk) [given] rfl rfl rfl rfl rfl rfl rfl rfl rfl rfl ?_; refine run_ th rfl ?_))
    all_goals exact .refl _
end Go.Sy

/- Contracts: reparteemake.arms. -/
namespace Go.Sy
open Go.Proofs
set_option maxRecDepth 100000
attribute [local irreducible] SOps Goes DOps EOps GOps

theorem carV_le {types : List ByteArray} {l : List Int} {k : Nat} (hk : k ≤ l.length) : (carV types l k).2 ≤ l.length := by
  unfold carV
  split
  · split
    · exact pkA_le (pkA_le hk)
    · exact pkA_le (pkA_le hk)
  · exact pkA_le hk
theorem lab_get {m : Int} (h : 0 ≤ m ∧ m < 4) : (labelsL.map fun s => [CT.str s])[m.toNat]? = some [.str (labelsL.getD m.toNat ⟨#[]⟩)] := by
  have hk : m.toNat < labelsL.length := by show m.toNat < 4; omega
  rw [List.getElem?_map, List.getD_eq_getElem?_getD, List.getElem?_eq_getElem hk]
  rfl
theorem outM_sub {ids : List Nat} {bs M : MM} (h : outM ids M = bs) : ∀ q ∈ bs, q ∈ M := fun q hq => (outM_mem.1 (h ▸ hq)).1

end Go.Sy

/- Contracts: reparteemake.Local. -/
namespace Go.Sy
open Go.Proofs
set_option maxRecDepth 100000
attribute [local irreducible] SOps Goes DOps EOps GOps

/-! ### What comes is a valid type -/
/-- Types that may be carried. -/
def TypesOK (types : List ByteArray) : Prop := ∀ t ∈ types, typeB t = true ∧ t.size ≤ 1000
theorem carV_ok {types : List ByteArray} (ht : TypesOK types) (hl : types.length ≤ 1000) (l : List Int) (k : Nat) : carB (carV types l k).1.1 (carV types l k).1.2 = true ∧ (carV types l k).1.2.size ≤ 1000 := by
  have hd : ∀ k, carB (dataV l k) ⟨#[]⟩ = true := fun k => by
    have := data_range l k
    rw [carB_data _ this.1 this.2]; rfl
  unfold carV
  split
  · rename_i h0
    split
    · have hr := pk_range l (pkA l k) (n := (types.length : Int)) (by omega) (by omega)
      have hk : (pkV l (pkA l k) types.length).toNat < types.length := by omega
      have hm : types.getD (pkV l (pkA l k) types.length).toNat ⟨#[]⟩ ∈ types := by
        rw [List.getD_eq_getElem?_getD, List.getElem?_eq_getElem hk]
        exact List.getElem_mem hk
      exact ⟨by rw [carB_chan]; exact (ht _ hm).1, (ht _ hm).2⟩
    · exact ⟨hd _, Nat.zero_le _⟩
  · exact ⟨hd _, Nat.zero_le _⟩
end Go.Sy

/- Contracts: SameArms, SameTurns of the reference, same. -/
namespace Go.Sy
open Go.Proofs
set_option maxRecDepth 100000
attribute [local irreducible] SOps Goes DOps EOps

end Go.Sy

/- Contracts: the first example of layer 6. -/
namespace Go.Sy
open Go.Proofs
set_option maxRecDepth 100000
attribute [local irreducible] SOps Goes DOps EOps

end Go.Sy
