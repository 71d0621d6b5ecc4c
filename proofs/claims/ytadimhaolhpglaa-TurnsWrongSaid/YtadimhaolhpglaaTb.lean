/- Contracts: reparteemake.Local, ends with nil arms; what layer 6 answers about a type that is none. -/
import Derived.Test.YtadimhaolhpglaaTa
import Derived.Test.YtadimhaolhpglaaBv1
import Derived.Test.YtadimhaolhpglaaDf
set_option linter.unusedSimpArgs false
set_option linter.unusedVariables false
set_option linter.unusedSectionVars false
namespace Go.Sy
open Go.Proofs
set_option maxRecDepth 100000
attribute [local irreducible] SOps Goes DOps EOps GOps FOps

def csN (t : Trn) : List CT := if t.kind = 0 then [.int .i64 t.kind, .str t.peer, .nils] else t.cs
theorem csN_no {t : Trn} (h : t.kind ≠ 0) : csN t = t.cs := if_neg h
theorem csN_end {t : Trn} (h : t.kind = 0) : csN t = [.int .i64 t.kind, .str t.peer, .nils] := if_pos h
theorem csN_le {n : Int} {t : Trn} (h : trnB n t = true) : LeCs (csN t) t.cs := by
  by_cases hk : t.kind = 0
  · rw [csN_end hk]
    have h1 : t.arms = [] := by
      unfold trnB at h; rw [if_pos hk] at h
      simp at h; exact h.2
    unfold Trn.cs
    rw [h1]
    exact .cons (.refl _) (.cons (.refl _) (.cons (.nil 4) .nil))
  · rw [csN_no hk]
    exact .cons (.refl _) (.cons (.refl _) (.cons (.refl _) .nil))
theorem csN_row {n : Int} : ∀ {l : List Trn}, (∀ t ∈ l, trnB n t = true) → LeX (l.map csN) (l.map Trn.cs)
  | [], _ => .refl _
  | t :: l, h => .cons (csN_le (h t List.mem_cons_self)) (csN_row fun s hs => h s (List.mem_cons_of_mem _ hs))

set_option maxHeartbeats 8000000 in
theorem locN_c (name : ByteArray) (types : List ByteArray) (ht : types.length ≤ 1000) (l : List Int) (k : Nat) (hk : k ≤ l.length) :
    ConM Try.prog 21 [(given, .box ((diceX l k).map SC.c))] [.one (.ptr given 0), C1 (.str name), C1 (namesT types)]
      (fun _ : Value => True) (fun v => .v (.agg [.c (.str name), .c (.val v)])) (fun v => [(given, .box ((diceX l (locV name types l k).2).map SC.c)), (200, .pool 56 3 [(v, (locV name types l k).1.turns.map csN)])]) := by
  have hk1 := pkA_le hk
  have hk2 := pkA_le hk1
  have hr1 := pk_range l k (n := 6) (by omega) (by omega)
  have hr2 := pk_range l (pkA l k) (n := 2) (by omega) (by omega)
  refine conM_of (c := _) Try.func21 rfl rfl rfl (by decide) rfl fun w M0 H Z hd => ?_
  repeat' (first
   | refine gc_ rfl ?_
   | (refine g_region ?_; refine run_ th rfl ?_)
   | (refine g_drawC mix rfl rfl ?_; refine drun_ th rfl ?_)
   | (refine g_drawEC mix rfl rfl ?_; refine erun_ th rfl ?_)
   | refine SOps.nil ?_
   | refine DOps.nil ?_
   | refine EOps.nil ?_ rfl rfl
   | (refine s_split rfl rfl (fun hb => ?_) (fun hb => ?_) <;> (try simp only [hbL] at hb) <;> first | (exfalso; omega) | refine run_ th rfl ?_)
   | (refine d_split rfl rfl rfl (fun hb => ?_) (fun hb => ?_) <;> (try simp only [hbL] at hb) <;> first | (exfalso; omega) | refine drun_ th rfl ?_)
   | (refine g_if rfl (fun hb => ?_) (fun hb => ?_) <;> (try simp only [hbL] at hb) <;> (try (exfalso; omega)))
   | (refine s_call (pickx_c l k hk 6 (by omega) (by omega)) [given] rfl rfl rfl rfl rfl rfl rfl rfl rfl rfl ?_; refine run_ th rfl ?_)
   | (refine s_call (pickx_c l (pkA l k) hk1 2 (by omega) (by omega)) [given] rfl rfl rfl rfl rfl rfl rfl rfl rfl rfl ?_; refine run_ th rfl ?_)
   | (refine s_add rfl rfl rfl rfl rfl rfl (by omega) ?_; refine run_ th rfl ?_))
  obtain ⟨pe, hpe⟩ : ∃ pe, pe = 1 + pkV l (pkA l k) 2 := ⟨_, rfl⟩
  obtain ⟨k0, hk0⟩ : ∃ k0, k0 = pkA l (pkA l k) := ⟨_, rfl⟩
  obtain ⟨cnt, hcnt⟩ : ∃ cnt : Nat, cnt = (1 + pkV l k 6).toNat := ⟨_, rfl⟩
  have hcI : (1 + pkV l k 6 : Int) = (cnt : Int) := by omega
  have hc3 : 1 ≤ cnt ∧ cnt ≤ 6 := by omega
  have hpr : 1 ≤ pe ∧ pe ≤ 2 := by omega
  have hres : locV name types l k = (⟨name, (trnS types l cnt pe k0 cnt).1⟩, (trnS types l cnt pe k0 cnt).2) := by rw [hpe, hk0, ← hcI, hcnt]; rfl
  rw [hres]
  rw [← hpe, ← hk0, hcI]
  rw [← hk0] at hk2
  refine g_adoptB 9 1 200 56 3 rfl rfl rfl rfl ?_
  refine g_loop1 (fun i : Nat => i ≤ cnt)
    (fun i => [(0, .v (.one (.ptr given 0))), (2, .v (C1 (namesT types))), (6, .v (.one (.ptr 6 0))), (7, .v (C1 (.int .i64 (cnt : Int)))), (8, .v (C1 (.int .i64 pe))), (9, .v (.one (.ptr 9 0))), (10, .v (C1 (.int .i64 (i : Int))))])
    (fun i => [(given, .box ((diceX l (trnS types l cnt pe k0 i).2).map SC.c)), (6, .box [.c (.str ⟨#[]⟩), .c .nils]), (9, .box [.c (.str name), .own 200]), (200, .arr false 56 3 ((trnS types l cnt pe k0 i).1.map csN))])
    (fun i => cnt - i) 0 (Nat.zero_le _)
    (fun a w h => h.sub (by exact ⟨⟨_, rfl, .refl _⟩, ⟨_, rfl, .refl _⟩, ⟨_, rfl, .refl _⟩, ⟨_, rfl, .refl _⟩, ⟨_, rfl, .refl _⟩, ⟨_, rfl, .refl _⟩, ⟨_, rfl, le_int rfl⟩, trivial⟩) (by exact ⟨⟨_, rfl, .refl _⟩, ⟨_, rfl, .refl _⟩, ⟨_, rfl, .refl _⟩, ⟨_, rfl, le_arr rfl⟩, trivial⟩) rfl rfl rfl) (fun i hi ih => ?_)
  have hle := trnS_le (types := types) (n := (cnt : Int)) (q := pe) hk2 i
  have hle1 := pkA_le hle
  have hle2 := pkA_le hle1
  have htl := trnS_len (types := types) (l := l) (n := (cnt : Int)) (q := pe) (k := k0) i
  by_cases hlt : i < cnt
  · have hq5 := pk_range l (trnS types l cnt pe k0 i).2 (n := 5) (by omega) (by omega)
    have hqp := pk_range l (pkA l (trnS types l cnt pe k0 i).2) (n := pe) (by omega) (by omega)
    have hm2 : 0 ≤ (pkV l (trnS types l cnt pe k0 i).2 5).tmod 2 ∧ (pkV l (trnS types l cnt pe k0 i).2 5).tmod 2 < 2 := ⟨Int.tmod_nonneg _ hq5.1, Int.tmod_lt_of_pos _ (by omega)⟩
    repeat' (first
     | (refine g_drawS 17 [given] mix rfl rfl rfl rfl rfl rfl rfl rfl ?_; refine grun_ th rfl ?_)
     | refine gc_ rfl ?_
     | (refine g_region ?_; refine run_ th rfl ?_)
     | (refine g_drawC mix rfl rfl ?_; refine drun_ th rfl ?_)
     | (refine g_drawEC mix rfl rfl ?_; refine erun_ th rfl ?_)
     | refine SOps.nil ?_
     | refine DOps.nil ?_
     | refine EOps.nil ?_ rfl rfl
     | (refine s_split rfl rfl (fun hb => ?_) (fun hb => ?_) <;> (try simp only [hbL] at hb) <;> first | (exfalso; omega) | refine run_ th rfl ?_)
     | (refine d_split rfl rfl rfl (fun hb => ?_) (fun hb => ?_) <;> (try simp only [hbL] at hb) <;> first | (exfalso; omega) | refine drun_ th rfl ?_)
     | (refine g_if rfl (fun hb => ?_) (fun hb => ?_) <;> (try simp only [hbL] at hb) <;> (try (exfalso; omega)))
     | (refine s_call (pickx_c l _ hle 5 (by omega) (by omega)) [given] rfl rfl rfl rfl rfl rfl rfl rfl rfl rfl ?_; refine run_ th rfl ?_)
     | (refine s_anyB 9 1 rfl ?_; refine s_append th rfl rfl rfl rfl rfl rfl rfl rfl rfl rfl rfl rfl rfl rfl rfl (by constructor <;> simp [htl] <;> omega) ?_; refine run_ th rfl ?_)
     | (refine s_anyB 9 1 rfl ?_; refine s_appendF th rfl rfl rfl rfl rfl rfl rfl rfl rfl rfl rfl rfl rfl rfl (by constructor <;> simp [htl] <;> omega) ?_; refine run_ th rfl ?_)
     | (refine q_call roles_c rfl rfl rfl rfl rfl rfl rfl ?_; refine grun_ th rfl ?_)
     | (refine q_add rfl rfl rfl rfl rfl rfl (by omega) ?_; refine grun_ th rfl ?_)
     | (refine q_rem rfl rfl rfl rfl rfl rfl (by decide) ?_; refine grun_ th rfl ?_)
     | (refine q_idx th rfl rfl rfl rfl rfl rfl rfl rfl rfl (pkV l (pkA l (trnS types l cnt pe k0 i).2) pe).toNat _ (by omega) (role_get (by omega)) ?_; refine grun_ th rfl ?_)
     | (refine q_eff (pickx_c l _ hle1 pe (by omega) (by omega)) [given] rfl rfl rfl rfl rfl rfl rfl rfl rfl rfl rfl (outM_sub (ids := [given]) rfl) ?_; refine grun_ th rfl ?_)
     | (refine q_eff (armx_c types ht l _ hle2 (cnt : Int) (by omega) (by omega)) [given] rfl rfl rfl rfl rfl rfl rfl rfl rfl rfl rfl (outM_sub (ids := [given]) rfl) ?_; refine grun_ th rfl ?_)
     | (refine q_lit th rfl rfl rfl rfl rfl rfl rfl rfl rfl rfl rfl rfl (.refl _) ?_; refine grun_ th rfl ?_)
     | refine GOps.nil ?_
     | (refine s_add rfl rfl rfl rfl rfl rfl (by omega) ?_; refine run_ th rfl ?_))
    · have hih := ih (i + 1) hlt (by omega)
      rw [show trnS types l cnt pe k0 (i + 1) = ((trnS types l cnt pe k0 i).1 ++ [noTrn], pkA l (trnS types l cnt pe k0 i).2) by rw [trnS, if_pos hb]] at hih
      refine g_sub (by exact ⟨⟨_, rfl, .refl _⟩, ⟨_, rfl, .refl _⟩, ⟨_, rfl, .refl _⟩, ⟨_, rfl, .refl _⟩, ⟨_, rfl, .refl _⟩, ⟨_, rfl, .refl _⟩, ⟨_, rfl, le_int (by omega)⟩, trivial⟩) ?_ rfl rfl rfl hih
      exact ⟨⟨_, rfl, .refl _⟩, ⟨_, rfl, .refl _⟩, ⟨_, rfl, .refl _⟩, ⟨_, rfl, le_arr (by rw [List.map_append]; rfl)⟩, trivial⟩
    · have hih := ih (i + 1) hlt (by omega)
      rw [show trnS types l cnt pe k0 (i + 1) = ((trnS types l cnt pe k0 i).1 ++ [⟨1 + (pkV l (trnS types l cnt pe k0 i).2 5).tmod 2, rolesL.getD (pkV l (pkA l (trnS types l cnt pe k0 i).2) pe).toNat ⟨#[]⟩, (armV types l (pkA l (pkA l (trnS types l cnt pe k0 i).2)) cnt).1⟩], (armV types l (pkA l (pkA l (trnS types l cnt pe k0 i).2)) cnt).2) by rw [trnS, if_neg hb]] at hih
      refine g_sub (by exact ⟨⟨_, rfl, .refl _⟩, ⟨_, rfl, .refl _⟩, ⟨_, rfl, .refl _⟩, ⟨_, rfl, .refl _⟩, ⟨_, rfl, .refl _⟩, ⟨_, rfl, .refl _⟩, ⟨_, rfl, le_int (by omega)⟩, trivial⟩) ?_ rfl rfl rfl hih
      exact ⟨⟨_, rfl, .refl _⟩, ⟨_, rfl, .refl _⟩, ⟨_, rfl, .refl _⟩, ⟨_, rfl, le_arr (by rw [List.map_append, List.map_cons, csN_no (by show (1 + (pkV l (trnS types l cnt pe k0 i).2 5).tmod 2 : Int) ≠ 0; omega)]; rfl)⟩, trivial⟩
  · have hie : i = cnt := by omega
    subst hie
    repeat' (first
     | refine gc_ rfl ?_
     | (refine g_region ?_; refine run_ th rfl ?_)
     | (refine g_drawC mix rfl rfl ?_; refine drun_ th rfl ?_)
     | (refine g_drawEC mix rfl rfl ?_; refine erun_ th rfl ?_)
     | refine SOps.nil ?_
     | refine DOps.nil ?_
     | refine EOps.nil ?_ rfl rfl
     | (refine s_split rfl rfl (fun hb => ?_) (fun hb => ?_) <;> (try simp only [hbL] at hb) <;> first | (exfalso; omega) | refine run_ th rfl ?_)
     | (refine d_split rfl rfl rfl (fun hb => ?_) (fun hb => ?_) <;> (try simp only [hbL] at hb) <;> first | (exfalso; omega) | refine drun_ th rfl ?_)
     | (refine g_if rfl (fun hb => ?_) (fun hb => ?_) <;> (try simp only [hbL] at hb) <;> (try (exfalso; omega))))
    refine g_toPool 200 rfl rfl fun v => ?_
    exact g_endM (hd := hd) th Try.func21 v (.inr ⟨_, rfl⟩) rfl rfl rfl rfl ⟨rfl, rfl, trivial⟩ rfl rfl rfl trivial


theorem loc_no {l : Loc} (h : locB l = true → False) : locB l = false := by
  cases hb : locB l with
  | false => rfl
  | true => exact (h hb).elim
theorem loc_noT {l : Loc} {t : Trn} (ht : t ∈ l.turns) (h : trnB l.turns.length t = false) : locB l = false := loc_no fun hv => by
  have := trn_ok hv t ht
  rw [h] at this; cases this
/-- What the functions of layer 6 answer about a type that is none. -/
theorem badL_c (l : Loc) (hv : locB l = false) (hB : LocBig l) :
    Con Try.prog 28 [] [Ag l.cs, C1 .nils] (.tup [C1 (.int .i64 0), C1 (.bool false)]) [] ∧ Con Try.prog 24 [] [Ag l.cs] (Rv (.bool false)) [] ∧
    Con Try.prog 27 [] [Ag l.cs] (Rv (intsT [])) [] ∧ Con Try.prog 23 [] [Ag l.cs] (.v (Ag zeroLoc.cs)) [] ∧
    Con Try.prog 29 [] [Ag l.cs] (Rv (namesT [])) [] ∧ Con Try.prog 26 [] [Ag l.cs, Ag l.cs] (Rv (.bool false)) [] := by
  refine ⟨?_, ?_, ?_, ?_, ?_, ?_⟩
  · have h := twalk_c l hB []
    rw [show walkR l [] = .tup [C1 (.int .i64 0), C1 (.bool false)] by unfold walkR; rw [hv]; rfl] at h
    exact h.args (.cons (.refl _) (.cons (.one (.c (.nil 1))) .nil))
  · have h := tmay_c l hB
    rwa [hv] at h
  · have h := treach_c l hB
    rwa [show reachL l = [] by unfold reachL; rw [hv]; rfl] at h
  · have h := ttrim_c l hB
    rwa [show trimL l = zeroLoc by unfold trimL; rw [hv]; rfl] at h
  · have h := tpeers_c l hB
    rwa [show peersL l = [] by unfold peersL; rw [hv]; rfl] at h
  · have h := tsame_c l l hB hB
    rwa [show sameL l l = false by unfold sameL; rw [hv]; rfl] at h
end Go.Sy
