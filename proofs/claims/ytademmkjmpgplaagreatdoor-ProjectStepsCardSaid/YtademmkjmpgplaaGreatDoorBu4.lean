/- Contracts of the reference, bundle Bu4. -/
import Derived.Test.YtademmkjmpgplaaGreatDoorBu3
import Derived.Test.YtademmkjmpgplaaGreatDoorBu1
import Derived.Test.YtademmkjmpgplaaGreatDoorBn1
import Derived.Test.YtademmkjmpgplaaGreatDoorBl1
/- Contracts: turns.Trim. -/
set_option linter.unusedSimpArgs false
set_option linter.unusedVariables false
set_option linter.unusedSectionVars false
namespace Go.Sy
open Go.Proofs
set_option maxRecDepth 100000
attribute [local irreducible] SOps Goes DOps EOps

end Go.Sy

/- Contracts: turns.Walk. -/
namespace Go.Sy
open Go.Proofs
set_option maxRecDepth 100000
attribute [local irreducible] SOps Goes DOps EOps

theorem walk1_c (a : Arm) (s : ByteArray) : Con Tryz.prog 47 [[.str s]] [Ag a.cs, .one (.ptr given 0)] (Rv (.bool (decide (a.label = s)))) [[.str s]] := by
  refine con_of (c := _) Tryz.func47 rfl rfl rfl (by decide) fun w M0 H Z => ?_
  repeat' (first
   | refine gc_ rfl ?_
   | (refine g_region ?_; refine run_ th rfl ?_)
   | (refine g_drawC mix rfl rfl ?_; refine drun_ th rfl ?_)
   | (refine g_drawEC mix rfl rfl ?_; refine erun_ th rfl ?_)
   | refine SOps.nil ?_
   | refine DOps.nil ?_
   | refine EOps.nil ?_ rfl rfl
   | (refine s_split rfl rfl (fun hb => ?_) (fun hb => ?_) <;> (try simp only [hbL] at hb) <;> first | (exfalso; omega) | refine run_ th rfl ?_)
   | (refine d_split rfl rfl rfl (fun hb => ?_) (fun hb => ?_) <;> (try simp only [hbL] at hb) <;> first | (exfalso; omega) | refine drun_ th rfl ?_)
   | (refine g_if rfl (fun hb => ?_) (fun hb => ?_) <;> (try simp only [hbL] at hb) <;> (try (exfalso; omega)))
   | refine g_endL th Tryz.func47 (.inr ⟨_, rfl⟩) rfl rfl rfl ?_ rfl)
  all_goals exact .refl _

set_option maxHeartbeats 4000000 in
theorem indexArm_c (p : Arm → Bool) (l : List Arm) (g : Nat) (c0 : CT)
    (hc : ∀ e : Arm, Con Tryz.prog g [[c0]] [Ag e.cs, .one (.ptr given 0)] (Rv (.bool (p e))) [[c0]]) :
    Con Tryz.prog 46 [[c0]] [C1 (armsC l), .one (.clo g [given])] (Rv (.int .i64 (idxG p l))) [[c0]] := by
  refine con_of (c := _) Tryz.func46 rfl rfl rfl (by decide) fun w M0 H Z => ?_
  repeat' (first
   | refine gc_ rfl ?_
   | (refine g_region ?_; refine run_ th rfl ?_)
   | (refine g_drawC mix rfl rfl ?_; refine drun_ th rfl ?_)
   | (refine g_drawEC mix rfl rfl ?_; refine erun_ th rfl ?_)
   | refine SOps.nil ?_
   | refine DOps.nil ?_
   | refine EOps.nil ?_ rfl rfl
   | (refine s_split rfl rfl (fun hb => ?_) (fun hb => ?_) <;> (try simp only [hbL] at hb) <;> first | (exfalso; omega) | refine run_ th rfl ?_)
   | (refine d_split rfl rfl rfl (fun hb => ?_) (fun hb => ?_) <;> (try simp only [hbL] at hb) <;> first | (exfalso; omega) | refine drun_ th rfl ?_)
   | (refine g_if rfl (fun hb => ?_) (fun hb => ?_) <;> (try simp only [hbL] at hb) <;> (try (exfalso; omega)))
   | refine g_end th Tryz.func46 (.inr ⟨_, rfl⟩) rfl rfl rfl ⟨?_, rfl⟩)
  all_goals try simp only [List.length_map] at *
  refine g_len 6 rfl fun hll => ?_
  simp only [List.length_map] at hll
  refine g_loop1 (fun k : Nat => k ≤ l.length ∧ ∀ i (h : i < k) (h' : i < l.length), p l[i] = false)
    (fun k => [(0, .v (C1 (armsC l))), (1, .v (.one (.clo g [given]))), (7, .v (C1 (.int .i64 (l.length : Int)))), (8, .v (C1 (.int .i64 (k : Int))))])
    (fun _ => [(given, .box [.c c0])]) (fun k => l.length - k) 0 ⟨Nat.zero_le _, fun i h => by omega⟩
    (fun a w h => h.sub (by exact ⟨⟨_, rfl, .refl _⟩, ⟨_, rfl, .refl _⟩, ⟨_, rfl, le_int (by simp)⟩, ⟨_, rfl, le_int rfl⟩, trivial⟩) (by exact ⟨⟨_, rfl, .refl _⟩, trivial⟩) rfl rfl rfl) (fun k hk ih => ?_)
  obtain ⟨hk, ha⟩ := hk
  by_cases hlt : k < l.length
  · have hx : (l.map Arm.cs)[k]? = some (l[k]).cs := by simp [hlt]
    repeat' (first
     | refine gc_ rfl ?_
     | (refine g_region ?_; refine run_ th rfl ?_)
     | (refine g_drawC mix rfl rfl ?_; refine drun_ th rfl ?_)
     | (refine g_drawEC mix rfl rfl ?_; refine erun_ th rfl ?_)
     | refine SOps.nil ?_
     | refine DOps.nil ?_
     | refine EOps.nil ?_ rfl rfl
     | (refine s_split rfl rfl (fun hb => ?_) (fun hb => ?_) <;> (try simp only [hbL] at hb) <;> first | (exfalso; omega) | refine run_ th rfl ?_)
     | (refine d_split rfl rfl rfl (fun hb => ?_) (fun hb => ?_) <;> (try simp only [hbL] at hb) <;> first | (exfalso; omega) | refine drun_ th rfl ?_)
     | (refine g_if rfl (fun hb => ?_) (fun hb => ?_) <;> (try simp only [hbL] at hb) <;> (try (exfalso; omega)))
     | refine g_end th Tryz.func46 (.inr ⟨_, rfl⟩) rfl rfl rfl ⟨?_, rfl⟩
     | (refine s_idx th rfl rfl rfl rfl rfl rfl rfl rfl rfl k _ rfl hx ?_; refine run_ th rfl ?_)
     | (refine s_clo (hc l[k]) [given] rfl rfl rfl rfl rfl rfl rfl rfl rfl rfl rfl rfl ?_; refine run_ th rfl ?_)
     | (refine s_add rfl rfl rfl rfl rfl rfl (by omega) ?_; refine run_ th rfl ?_))
    · simp [packS, idxG_hit hlt (fun i h => ha i h (by omega)) hb]
    · refine g_sub (by exact ⟨⟨_, rfl, .refl _⟩, ⟨_, rfl, .refl _⟩, ⟨_, rfl, .refl _⟩, ⟨_, rfl, le_int (by omega)⟩, trivial⟩) (by exact ⟨⟨_, rfl, .refl _⟩, trivial⟩) rfl rfl rfl (ih (k + 1) ⟨hlt, fun i h h' => ?_⟩ (by omega))
      by_cases hik : i = k
      · subst hik; exact hb
      · exact ha i (by omega) h'
  · have hke : k = l.length := by omega
    subst hke
    repeat' (first
     | refine gc_ rfl ?_
     | (refine g_region ?_; refine run_ th rfl ?_)
     | (refine g_drawC mix rfl rfl ?_; refine drun_ th rfl ?_)
     | (refine g_drawEC mix rfl rfl ?_; refine erun_ th rfl ?_)
     | refine SOps.nil ?_
     | refine DOps.nil ?_
     | refine EOps.nil ?_ rfl rfl
     | (refine s_split rfl rfl (fun hb => ?_) (fun hb => ?_) <;> (try simp only [hbL] at hb) <;> first | (exfalso; omega) | refine run_ th rfl ?_)
     | (refine d_split rfl rfl rfl (fun hb => ?_) (fun hb => ?_) <;> (try simp only [hbL] at hb) <;> first | (exfalso; omega) | refine drun_ th rfl ?_)
     | (refine g_if rfl (fun hb => ?_) (fun hb => ?_) <;> (try simp only [hbL] at hb) <;> (try (exfalso; omega)))
     | refine g_end th Tryz.func46 (.inr ⟨_, rfl⟩) rfl rfl rfl ⟨?_, rfl⟩)
    all_goals simp [packS, idxG_none (fun i h => ha i h h)]

/-- Where an arm of the label is, and where it leads. -/
theorem find_idx (l : List Arm) (s : ByteArray) : (∃ k, ∃ h : k < l.length, idxG (fun a => decide (a.label = s)) l = (k : Int) ∧ (l.find? fun a => decide (a.label = s)) = some l[k]) ∨
    (idxG (fun a => decide (a.label = s)) l = -1 ∧ (l.find? fun a => decide (a.label = s)) = none) := by
  cases h : l.findIdx? (fun a => decide (a.label = s)) with
  | some k =>
    refine .inl ?_
    have h1 := h
    rw [List.findIdx?_eq_some_iff_getElem] at h1
    obtain ⟨hk, hp, hn⟩ := h1
    refine ⟨k, hk, by simp [idxG, h], ?_⟩
    rw [List.find?_eq_some_iff_getElem]
    exact ⟨hp, k, hk, rfl, fun j hj => by simpa using hn j hj⟩
  | none =>
    refine .inr ⟨by simp [idxG, h], ?_⟩
    rw [List.findIdx?_eq_none_iff] at h
    rw [List.find?_eq_none]
    exact fun x hx => by simpa using h x hx

def walkR (l : Loc) (w : List ByteArray) : ST := if locB l then (match walkG l.g 0 w with
  | some x => .tup [C1 (.int .i64 x), C1 (.bool true)]
  | none => .tup [C1 (.int .i64 0), C1 (.bool false)]) else .tup [C1 (.int .i64 0), C1 (.bool false)]
set_option maxHeartbeats 8000000 in
theorem twalk_c (l : Loc) (hs : LocBig l) (ws : List ByteArray) : Con Tryz.prog 20 [] [Ag l.cs, C1 (namesT ws)] (walkR l ws) [] := by
  refine con_of (c := _) Tryz.func20 rfl rfl rfl (by decide) fun w M0 H Z => ?_
  refine g_len 1 rfl fun hll => ?_
  simp only [List.length_map] at hll
  repeat' (first
   | refine gc_ rfl ?_
   | (refine g_region ?_; refine run_ th rfl ?_)
   | (refine g_drawC mix rfl rfl ?_; refine drun_ th rfl ?_)
   | (refine g_drawEC mix rfl rfl ?_; refine erun_ th rfl ?_)
   | refine SOps.nil ?_
   | refine DOps.nil ?_
   | refine EOps.nil ?_ rfl rfl
   | (refine s_split rfl rfl (fun hb => ?_) (fun hb => ?_) <;> (try simp only [hbL] at hb) <;> first | (exfalso; omega) | refine run_ th rfl ?_)
   | (refine d_split rfl rfl rfl (fun hb => ?_) (fun hb => ?_) <;> (try simp only [hbL] at hb) <;> first | (exfalso; omega) | refine drun_ th rfl ?_)
   | (refine g_if rfl (fun hb => ?_) (fun hb => ?_) <;> (try simp only [hbL] at hb) <;> (try (exfalso; omega)))
   | refine g_endL th Tryz.func20 (.inr ⟨_, rfl⟩) rfl rfl rfl ?_ rfl
   | (refine s_call (tmay_c l hs) [] rfl rfl rfl rfl rfl rfl rfl rfl rfl rfl ?_; refine run_ th rfl ?_))
  · rw [show walkR l ws = .tup [C1 (.int .i64 0), C1 (.bool false)] by unfold walkR; rw [hb]; rfl]
    exact .refl _
  have hv := hb
  refine g_loop2 (fun (i : Nat) (x : Int) => (i ≤ ws.length ∧ (0 ≤ x ∧ x < (l.turns.length : Int))) ∧ walkG l.g 0 ws = walkG l.g x (ws.drop i))
    (fun i x => [(2, .v (.one (.ptr 2 0))), (6, .v (C1 (.int .i64 x))), (13, .v (C1 (namesT ws))), (14, .v (C1 (.int .i64 (ws.length : Int)))), (15, .v (C1 (.int .i64 (i : Int))))])
    (fun _ _ => [(2, .box (l.cs.map SC.c))])
    (fun i _ => ws.length - i) 0 0 ⟨⟨Nat.zero_le _, by have := loc_len hv; omega⟩, rfl⟩
    (fun a w h => h.sub (by exact ⟨⟨_, rfl, .refl _⟩, ⟨_, rfl, .refl _⟩, ⟨_, rfl, .refl _⟩, ⟨_, rfl, le_int (by simp)⟩, ⟨_, rfl, le_int rfl⟩, trivial⟩) (by exact ⟨⟨_, rfl, .refl _⟩, trivial⟩) rfl rfl rfl) (fun i x hi ih => ?_)
  obtain ⟨⟨hi, hxr⟩, hw⟩ := hi
  have hti := trnAt_get hxr
  by_cases hlt : i < ws.length
  · have hxi : (ws.map fun s => [CT.str s])[i]? = some [.str ws[i]] := by simp [hlt]
    rw [List.drop_eq_getElem_cons hlt, walkG, armsAt_loc] at hw
    rcases find_idx (trnAt l x).arms ws[i] with ⟨k, hk, hid, hfd⟩ | ⟨hid, hfd⟩
    · have hxk : ((trnAt l x).arms.map Arm.cs)[k]? = some ((trnAt l x).arms[k]).cs := by simp [hk]
      have hnx := (loc_g hv).1 x (trnAt l x).arms[k] (by rw [armsAt_loc]; exact List.getElem_mem hk)
      have hgl : l.g.length = l.turns.length := by simp [Loc.g]
      rw [hgl] at hnx
      rw [hfd] at hw
      repeat' (first
       | refine gc_ rfl ?_
       | (refine g_region ?_; refine run_ th rfl ?_)
       | (refine g_drawC mix rfl rfl ?_; refine drun_ th rfl ?_)
       | (refine g_drawEC mix rfl rfl ?_; refine erun_ th rfl ?_)
       | refine SOps.nil ?_
       | refine DOps.nil ?_
       | refine EOps.nil ?_ rfl rfl
       | (refine s_split rfl rfl (fun hb => ?_) (fun hb => ?_) <;> (try simp only [hbL] at hb) <;> first | (exfalso; omega) | refine run_ th rfl ?_)
       | (refine d_split rfl rfl rfl (fun hb => ?_) (fun hb => ?_) <;> (try simp only [hbL] at hb) <;> first | (exfalso; omega) | refine drun_ th rfl ?_)
       | (refine g_if rfl (fun hb => ?_) (fun hb => ?_) <;> (try simp only [hbL] at hb) <;> (try (exfalso; omega)))
       | refine g_endL th Tryz.func20 (.inr ⟨_, rfl⟩) rfl rfl rfl ?_ rfl
       | (refine s_idx th rfl rfl rfl rfl rfl rfl rfl rfl rfl i _ rfl hxi ?_; refine run_ th rfl ?_)
       | (refine s_idx th rfl rfl rfl rfl rfl rfl rfl rfl rfl x.toNat _ (by omega) hti ?_; refine run_ th rfl ?_)
       | (refine s_idx th rfl rfl rfl rfl rfl rfl rfl rfl rfl k _ hid hxk ?_; refine run_ th rfl ?_)
       | (refine s_call (indexArm_c _ (trnAt l x).arms 47 (.str ws[i]) fun e => walk1_c e ws[i]) [8] rfl rfl rfl rfl rfl rfl rfl rfl rfl rfl ?_; refine run_ th rfl ?_)
       | (refine s_add rfl rfl rfl rfl rfl rfl (by omega) ?_; refine run_ th rfl ?_))
      have hih := ih (i + 1) (trnAt l x).arms[k].next ⟨⟨hlt, hnx⟩, hw⟩ (by omega)
      exact g_sub (by exact ⟨⟨_, rfl, .refl _⟩, ⟨_, rfl, .refl _⟩, ⟨_, rfl, .refl _⟩, ⟨_, rfl, .refl _⟩, ⟨_, rfl, le_int (by omega)⟩, trivial⟩) (by exact ⟨⟨_, rfl, .refl _⟩, trivial⟩) rfl rfl rfl hih
    · skip
      rw [hfd] at hw
      repeat' (first
       | refine gc_ rfl ?_
       | (refine g_region ?_; refine run_ th rfl ?_)
       | (refine g_drawC mix rfl rfl ?_; refine drun_ th rfl ?_)
       | (refine g_drawEC mix rfl rfl ?_; refine erun_ th rfl ?_)
       | refine SOps.nil ?_
       | refine DOps.nil ?_
       | refine EOps.nil ?_ rfl rfl
       | (refine s_split rfl rfl (fun hb => ?_) (fun hb => ?_) <;> (try simp only [hbL] at hb) <;> first | (exfalso; omega) | refine run_ th rfl ?_)
       | (refine d_split rfl rfl rfl (fun hb => ?_) (fun hb => ?_) <;> (try simp only [hbL] at hb) <;> first | (exfalso; omega) | refine drun_ th rfl ?_)
       | (refine g_if rfl (fun hb => ?_) (fun hb => ?_) <;> (try simp only [hbL] at hb) <;> (try (exfalso; omega)))
       | refine g_endL th Tryz.func20 (.inr ⟨_, rfl⟩) rfl rfl rfl ?_ rfl
       | (refine s_idx th rfl rfl rfl rfl rfl rfl rfl rfl rfl i _ rfl hxi ?_; refine run_ th rfl ?_)
       | (refine s_idx th rfl rfl rfl rfl rfl rfl rfl rfl rfl x.toNat _ (by omega) hti ?_; refine run_ th rfl ?_)
       | (refine s_call (indexArm_c _ (trnAt l x).arms 47 (.str ws[i]) fun e => walk1_c e ws[i]) [8] rfl rfl rfl rfl rfl rfl rfl rfl rfl rfl ?_; refine run_ th rfl ?_))
      rw [show walkR l ws = .tup [C1 (.int .i64 0), C1 (.bool false)] by unfold walkR; rw [if_pos hv, hw]]
      exact .refl _
  · have hie : i = ws.length := by omega
    subst hie
    rw [List.drop_length, walkG] at hw
    repeat' (first
     | refine gc_ rfl ?_
     | (refine g_region ?_; refine run_ th rfl ?_)
     | (refine g_drawC mix rfl rfl ?_; refine drun_ th rfl ?_)
     | (refine g_drawEC mix rfl rfl ?_; refine erun_ th rfl ?_)
     | refine SOps.nil ?_
     | refine DOps.nil ?_
     | refine EOps.nil ?_ rfl rfl
     | (refine s_split rfl rfl (fun hb => ?_) (fun hb => ?_) <;> (try simp only [hbL] at hb) <;> first | (exfalso; omega) | refine run_ th rfl ?_)
     | (refine d_split rfl rfl rfl (fun hb => ?_) (fun hb => ?_) <;> (try simp only [hbL] at hb) <;> first | (exfalso; omega) | refine drun_ th rfl ?_)
     | (refine g_if rfl (fun hb => ?_) (fun hb => ?_) <;> (try simp only [hbL] at hb) <;> (try (exfalso; omega)))
     | refine g_endL th Tryz.func20 (.inr ⟨_, rfl⟩) rfl rfl rfl ?_ rfl)
    rw [show walkR l ws = .tup [C1 (.int .i64 x), C1 (.bool true)] by unfold walkR; rw [if_pos hv, hw]]
    exact .refl _
end Go.Sy

/- Contracts: turns.Same. -/
namespace Go.Sy
open Go.Proofs
set_option maxRecDepth 100000
attribute [local irreducible] SOps Goes DOps EOps

end Go.Sy
