/- Contracts: reparteemake.arms. -/
import Derived.Test.YtadimhaolhpglaaDa
set_option linter.unusedSimpArgs false
set_option linter.unusedVariables false
set_option linter.unusedSectionVars false
namespace Go.Sy
open Go.Proofs
set_option maxRecDepth 100000
attribute [local irreducible] SOps Goes DOps EOps GOps

/-- The arms that come, and where the dice stand then. -/
def armS (types : List ByteArray) (l : List Int) (from_ places : Int) (k : Nat) : Nat → List Arm × Nat
  | 0 => ([], k)
  | i + 1 => ((armS types l from_ places k i).1 ++ [⟨labelsL.getD ((from_ + (i : Int)).tmod 4).toNat ⟨#[]⟩, (carV types l (armS types l from_ places k i).2).1.1, (carV types l (armS types l from_ places k i).2).1.2, pkV l (carV types l (armS types l from_ places k i).2).2 places⟩],
      pkA l (carV types l (armS types l from_ places k i).2).2)
def armV (types : List ByteArray) (l : List Int) (k : Nat) (places : Int) : List Arm × Nat := armS types l (pkV l (pkA l k) 4) places (pkA l (pkA l k)) (1 + pkV l k 3).toNat
theorem carV_le {types : List ByteArray} {l : List Int} {k : Nat} (hk : k ≤ l.length) : (carV types l k).2 ≤ l.length := by
  unfold carV
  split
  · split
    · exact pkA_le (pkA_le hk)
    · exact pkA_le (pkA_le hk)
  · exact pkA_le hk
theorem armS_le {types : List ByteArray} {l : List Int} {f p : Int} {k : Nat} (hk : k ≤ l.length) : ∀ i, (armS types l f p k i).2 ≤ l.length
  | 0 => hk
  | i + 1 => pkA_le (carV_le (armS_le hk i))
theorem armS_len {types : List ByteArray} {l : List Int} {f p : Int} {k : Nat} : ∀ i, (armS types l f p k i).1.length = i
  | 0 => rfl
  | i + 1 => by rw [armS, List.length_append, armS_len i]; rfl
theorem armV_le {types : List ByteArray} {l : List Int} {p : Int} {k : Nat} (hk : k ≤ l.length) : (armV types l k p).2 ≤ l.length := armS_le (pkA_le (pkA_le hk)) _
theorem lab_get {m : Int} (h : 0 ≤ m ∧ m < 4) : (labelsL.map fun s => [CT.str s])[m.toNat]? = some [.str (labelsL.getD m.toNat ⟨#[]⟩)] := by
  have hk : m.toNat < labelsL.length := by show m.toNat < 4; omega
  rw [List.getElem?_map, List.getD_eq_getElem?_getD, List.getElem?_eq_getElem hk]
  rfl
theorem tmod4 {m : Int} (h : 0 ≤ m) : 0 ≤ m.tmod 4 ∧ m.tmod 4 < 4 := ⟨Int.tmod_nonneg _ h, Int.tmod_lt_of_pos _ (by omega)⟩

theorem outM_sub {ids : List Nat} {bs M : MM} (h : outM ids M = bs) : ∀ q ∈ bs, q ∈ M := fun q hq => (outM_mem.1 (h ▸ hq)).1

set_option maxHeartbeats 8000000 in
theorem armx_c (types : List ByteArray) (ht : types.length ≤ 1000) (l : List Int) (k : Nat) (hk : k ≤ l.length) (p : Int) (hp : 1 ≤ p) (hp2 : p ≤ 1000) :
    Con Try.prog 51 [diceX l k] [.one (.ptr given 0), C1 (namesT types), C1 (.int .i64 p)] (Rv (armsC (armV types l k p).1)) [diceX l (armV types l k p).2] := by
  have hk1 := pkA_le hk
  have hk2 := pkA_le hk1
  have hr1 := pk_range l k (n := 3) (by omega) (by omega)
  have hr2 := pk_range l (pkA l k) (n := 4) (by omega) (by omega)
  refine con_of (c := _) Try.func51 rfl rfl rfl (by decide) fun w M0 H Z => ?_
  repeat' (first
   | refine gc_ rfl ?_
   | (refine g_region ?_; refine run_ th rfl ?_)
   | (refine g_drawC mix rfl rfl ?_; refine drun_ th rfl ?_)
   | (refine g_drawEC mix rfl rfl ?_; refine erun_ th rfl ?_)
   | refine SOps.nil ?_
   | refine DOps.nil ?_
   | refine EOps.nil ?_ rfl rfl
   | (refine s_split rfl rfl (fun hb => ?_) (fun hb => ?_) <;> (try simp only [hbL] at hb) <;> first | (exfalso; omega) | refine run_ th rfl ?_)
   | (refine d_split rfl rfl rfl (fun hb => ?_) (fun hb => ?_) <;> (try simp only [hbL] at hb) <;> first | (exfalso; omega) | refine drun_ th rfl ?_)
   | (refine g_if rfl (fun hb => ?_) (fun hb => ?_) <;> (try simp only [hbL] at hb) <;> (try (exfalso; omega)))
   | (refine s_call (pickx_c l k hk 3 (by omega) (by omega)) [given] rfl rfl rfl rfl rfl rfl rfl rfl rfl rfl ?_; refine run_ th rfl ?_)
   | (refine s_call (pickx_c l (pkA l k) hk1 4 (by omega) (by omega)) [given] rfl rfl rfl rfl rfl rfl rfl rfl rfl rfl ?_; refine run_ th rfl ?_)
   | (refine s_add rfl rfl rfl rfl rfl rfl (by omega) ?_; refine run_ th rfl ?_))
  obtain ⟨fr, hfr⟩ : ∃ fr, fr = pkV l (pkA l k) 4 := ⟨_, rfl⟩
  obtain ⟨k0, hk0⟩ : ∃ k0, k0 = pkA l (pkA l k) := ⟨_, rfl⟩
  obtain ⟨cnt, hcnt⟩ : ∃ cnt : Nat, cnt = (1 + pkV l k 3).toNat := ⟨_, rfl⟩
  have hres : armV types l k p = armS types l fr p k0 cnt := by rw [hfr, hk0, hcnt]; rfl
  rw [hres]
  rw [← hfr] at hr2 ⊢
  rw [← hk0] at hk2 ⊢
  have hcI : (1 + pkV l k 3 : Int) = (cnt : Int) := by omega
  have hc3 : cnt ≤ 3 := by omega
  refine g_adopt 7 50 41 4 rfl rfl rfl ?_
  refine g_loop1 (fun i : Nat => i ≤ cnt)
    (fun i => [(0, .v (.one (.ptr given 0))), (1, .v (C1 (namesT types))), (2, .v (C1 (.int .i64 p))), (7, .v (.one (.own 50))), (8, .v (C1 (.int .i64 (cnt : Int)))), (9, .v (C1 (.int .i64 fr))), (10, .v (C1 (.int .i64 (i : Int))))])
    (fun i => [(given, .box ((diceX l (armS types l fr p k0 i).2).map SC.c)), (50, .arr false 41 4 ((armS types l fr p k0 i).1.map Arm.cs))])
    (fun i => cnt - i) 0 (Nat.zero_le _)
    (fun a w h => h.sub (by exact ⟨⟨_, rfl, .refl _⟩, ⟨_, rfl, .refl _⟩, ⟨_, rfl, .refl _⟩, ⟨_, rfl, .refl _⟩, ⟨_, rfl, le_int hcI⟩, ⟨_, rfl, .refl _⟩, ⟨_, rfl, le_int rfl⟩, trivial⟩) (by exact ⟨⟨_, rfl, .refl _⟩, ⟨_, rfl, le_arr rfl⟩, trivial⟩) rfl rfl rfl) (fun i hi ih => ?_)
  have hle := armS_le (types := types) (f := fr) (p := p) hk2 i
  have hcl := carV_le (types := types) hle
  have hal := armS_len (types := types) (l := l) (f := fr) (p := p) (k := k0) i
  by_cases hlt : i < cnt
  · have hm4 := tmod4 (m := fr + (i : Int)) (by omega)
    repeat' (first
     | (refine g_drawS 16 [given] mix rfl rfl rfl rfl rfl rfl rfl rfl ?_; refine grun_ th rfl ?_)
     | refine gc_ rfl ?_
     | (refine g_region ?_; refine run_ th rfl ?_)
     | (refine g_drawC mix rfl rfl ?_; refine drun_ th rfl ?_)
     | (refine g_drawEC mix rfl rfl ?_; refine erun_ th rfl ?_)
     | refine SOps.nil ?_
     | refine DOps.nil ?_
     | refine EOps.nil ?_ rfl rfl
     | (refine s_split rfl rfl (fun hb => ?_) (fun hb => ?_) <;> (try simp only [hbL] at hb) <;> first | (exfalso; omega) | refine run_ th rfl ?_)
     | (refine d_split rfl rfl rfl (fun hb => ?_) (fun hb => ?_) <;> (try simp only [hbL] at hb) <;> first | (exfalso; omega) | refine drun_ th rfl ?_)
     | (refine g_if rfl (fun hb => ?_) (fun hb => ?_) <;> (try simp only [hbL] at hb) <;> (try (exfalso; omega)))
     | (refine q_call labels_c rfl rfl rfl rfl rfl rfl rfl ?_; refine grun_ th rfl ?_)
     | (refine q_add rfl rfl rfl rfl rfl rfl (by omega) ?_; refine grun_ th rfl ?_)
     | (refine q_rem rfl rfl rfl rfl rfl rfl (by decide) ?_; refine grun_ th rfl ?_)
     | (refine q_idx th rfl rfl rfl rfl rfl rfl rfl rfl rfl ((fr + (i : Int)).tmod 4).toNat _ (by omega) (lab_get hm4) ?_; refine grun_ th rfl ?_)
     | (refine q_eff (carx_c types ht l _ hle) [given] rfl rfl rfl rfl rfl rfl rfl rfl rfl rfl rfl (outM_sub (ids := [given]) rfl) ?_; refine grun_ th rfl ?_)
     | (refine q_eff (pickx_c l _ hcl p (by omega) (by omega)) [given] rfl rfl rfl rfl rfl rfl rfl rfl rfl rfl rfl (outM_sub (ids := [given]) rfl) ?_; refine grun_ th rfl ?_)
     | (refine q_lit th rfl rfl rfl rfl rfl rfl rfl rfl rfl rfl rfl (.refl _) ?_; refine grun_ th rfl ?_)
     | (refine q_lit th rfl rfl rfl rfl rfl rfl rfl rfl rfl rfl rfl rfl (.refl _) ?_; refine grun_ th rfl ?_)
     | refine GOps.nil ?_
     | (refine s_appendF th rfl rfl rfl rfl rfl rfl rfl rfl rfl rfl rfl rfl rfl rfl (by constructor <;> simp [hal] <;> omega) ?_; refine run_ th rfl ?_)
     | (refine s_add rfl rfl rfl rfl rfl rfl (by omega) ?_; refine run_ th rfl ?_))
    have hih := ih (i + 1) hlt (by omega)
    exact g_sub (by exact ⟨⟨_, rfl, .refl _⟩, ⟨_, rfl, .refl _⟩, ⟨_, rfl, .refl _⟩, ⟨_, rfl, .refl _⟩, ⟨_, rfl, .refl _⟩, ⟨_, rfl, .refl _⟩, ⟨_, rfl, le_int (by omega)⟩, trivial⟩)
      (by exact ⟨⟨_, rfl, .refl _⟩, ⟨_, rfl, le_arr (by rw [armS, List.map_append]; rfl)⟩, trivial⟩) rfl rfl rfl hih
  · have hie : i = cnt := by omega
    subst hie
    repeat' (first
     | refine gc_ rfl ?_
     | (refine g_region ?_; refine run_ th rfl ?_)
     | (refine g_drawC mix rfl rfl ?_; refine drun_ th rfl ?_)
     | (refine g_drawEC mix rfl rfl ?_; refine erun_ th rfl ?_)
     | refine SOps.nil ?_
     | refine DOps.nil ?_
     | refine EOps.nil ?_ rfl rfl
     | (refine s_split rfl rfl (fun hb => ?_) (fun hb => ?_) <;> (try simp only [hbL] at hb) <;> first | (exfalso; omega) | refine run_ th rfl ?_)
     | (refine d_split rfl rfl rfl (fun hb => ?_) (fun hb => ?_) <;> (try simp only [hbL] at hb) <;> first | (exfalso; omega) | refine drun_ th rfl ?_)
     | (refine g_if rfl (fun hb => ?_) (fun hb => ?_) <;> (try simp only [hbL] at hb) <;> (try (exfalso; omega))))
    refine g_freeze 50 rfl rfl ?_
    refine g_endL th Try.func51 (.inr ⟨_, rfl⟩) rfl rfl rfl ?_ rfl
    exact .refl _
end Go.Sy
