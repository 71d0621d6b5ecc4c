/- The law TurnsTrim. -/
import Derived.Test.YtadimhaolhpglaaBd1
import Derived.Test.YtadimhaolhpglaaBu4
set_option linter.unusedSimpArgs false
set_option linter.unusedVariables false
set_option linter.unusedSectionVars false
namespace Go.Sy
open Go.Proofs
set_option maxRecDepth 100000
attribute [local irreducible] SOps Goes DOps EOps

theorem loc_ok (l : List Int) (name : ByteArray) : locB (locV name [] l 0).1 = true ∧ LocBig (locV name [] l 0).1 := by
  have h := locV_ok (name := name) (types := []) (fun t h => by cases h) (by simp) l 0
  exact ⟨h.1, h.2.1⟩
theorem trim_big {l : Loc} (h : LocBig l) : LocBig (trimT l) := by
  intro t ht a ha
  obtain ⟨x, _, rfl⟩ := List.mem_map.1 (show t ∈ List.map _ (reachG l.g) from ht)
  have ha : a ∈ movA (reachG l.g) (trnAt l x).arms := ha
  rw [movA_ren] at ha
  obtain ⟨b, hb, rfl⟩ := List.mem_map.1 ha
  have hb := risA_mem.1 hb
  unfold trnAt at hb
  rw [List.getD_eq_getElem?_getD] at hb
  cases hx : l.turns[x.toNat]? with
  | none => rw [hx] at hb; cases hb
  | some t => rw [hx] at hb; exact h t (List.mem_of_getElem? hx) b hb
theorem trim_L {l : Loc} (h : locB l = true) : trimL l = trimT l := if_pos h
def lab4 : List ByteArray := [⟨#[119]⟩, ⟨#[120]⟩, ⟨#[121]⟩, ⟨#[122]⟩]
def labU (x : Int) : ByteArray := lab4.getD ((IntKind.u64.wrap x).tmod 4).toNat ⟨#[]⟩
def wayU (l : List Int) (i : Nat) : List ByteArray := (l.take i).map labU
theorem labU_get (x : Int) : (lab4.map fun s => [CT.str s])[((IntKind.u64.wrap x).tmod 4).toNat]? = some [.str (labU x)] := by
  have h := remU (x := x) (n := 4) (by omega) (by omega)
  have hk : ((IntKind.u64.wrap x).tmod 4).toNat < lab4.length := by show _ < 4; omega
  unfold labU
  rw [List.getElem?_map, List.getD_eq_getElem?_getD, List.getElem?_eq_getElem hk]; rfl
theorem wayU_snoc {l : List Int} {i : Nat} (h : i < l.length) : (wayU l i).map (fun s => [CT.str s]) ++ [[CT.str (labU l[i])]] = (wayU l (i + 1)).map fun s => [CT.str s] := by
  unfold wayU
  rw [List.take_succ_eq_append_getElem h, List.map_append, List.map_append]; rfl
theorem wayU_len {l : List Int} {i : Nat} (h : i ≤ l.length) : (wayU l i).length = i := by simp [wayU]; omega
/-- What labels do in a type and in its trim. -/
theorem walk_both {a : Loc} (hv : locB a = true) (w : List ByteArray) :
    (walkR a w = .tup [C1 (.int .i64 0), C1 (.bool false)] ∧ walkR (trimT a) w = .tup [C1 (.int .i64 0), C1 (.bool false)]) ∨
    ∃ y s : Nat, ∃ (hy : y < a.turns.length) (hs : s < (reachG a.g).length) (ht : s < (trimT a).turns.length), walkR a w = .tup [C1 (.int .i64 (y : Int)), C1 (.bool true)] ∧ walkR (trimT a) w = .tup [C1 (.int .i64 (s : Int)), C1 (.bool true)] ∧
      (reachG a.g)[s] = (y : Int) ∧ (a.turns[y]).kind = ((trimT a).turns[s]).kind ∧ (a.turns[y]).peer = ((trimT a).turns[s]).peer := by
  obtain ⟨hg, h0, hu⟩ := loc_g hv
  have hk := walk_trim hg h0 hu w (zero_mem a.g)
  rw [plc_zero] at hk
  unfold walkR
  rw [if_pos hv, if_pos (loc_trim hv), trimT_g, hk.1]
  cases hw : walkG a.g 0 w with
  | none => exact .inl ⟨rfl, rfl⟩
  | some y =>
    have hm := hk.2 y hw
    have hp := reach_pos hg h0 hm
    have hgl : a.g.length = a.turns.length := by simp [Loc.g]
    have hlt := List.idxOf_lt_length_iff.2 hm
    have htl : (trimT a).turns.length = (reachG a.g).length := by simp [trimT]
    have hy0 : ((y.toNat : Nat) : Int) = y := by omega
    have hyl : y.toNat < a.turns.length := by omega
    have hst : (reachG a.g).idxOf y < (trimT a).turns.length := by omega
    refine .inr ⟨y.toNat, (reachG a.g).idxOf y, hyl, hlt, hst, by simp only [hy0], rfl, by rw [List.getElem_idxOf hlt, hy0], ?_⟩
    have h1 := trnAt_trim hm
    have e1 : trnAt a y = a.turns[y.toNat] := by unfold trnAt; rw [List.getD_eq_getElem?_getD, List.getElem?_eq_getElem hyl]; rfl
    have e2 : trnAt (trimT a) (plc (reachG a.g) y) = (trimT a).turns[(reachG a.g).idxOf y] := by unfold trnAt plc; rw [List.getD_eq_getElem?_getD, Int.toNat_natCast, List.getElem?_eq_getElem hst]; rfl
    rw [e1, e2] at h1
    rw [h1]; exact ⟨rfl, rfl⟩

set_option maxHeartbeats 16000000 in
theorem turnsTrim_c (made l : List Int) (hbig : made.length * 8 ≤ 140737488355328) : Con Try.prog 5 [] [C1 (intsT made), C1 (intsT l)] (Rv (.bool true)) [] := by
  obtain ⟨hv, hB⟩ := loc_ok made ⟨#[116]⟩
  have hloc : Con Try.prog 21 [[intsT made, .int .i64 0]] [.one (.ptr given 0), C1 (.str ⟨#[116]⟩), C1 .nils] (.v (Ag (locV ⟨#[116]⟩ [] made 0).1.cs)) [diceX made (locV ⟨#[116]⟩ [] made 0).2] := (locx_c ⟨#[116]⟩ [] (by simp) made 0 (Nat.zero_le _)).args (.cons (.one (.refl _)) (.cons (.one (.refl _)) (.cons (.one (.c (.nil 1))) .nil)))
  obtain ⟨q, hq⟩ : ∃ q, q = (locV ⟨#[116]⟩ [] made 0).2 := ⟨_, rfl⟩
  rw [← hq] at hloc
  obtain ⟨a, ha⟩ : ∃ a, a = (locV ⟨#[116]⟩ [] made 0).1 := ⟨_, rfl⟩
  rw [← ha] at hloc hv hB
  have hBt := trim_big hB
  have hvt := loc_trim hv
  have c1 := tmay_c a hB
  rw [hv] at c1
  have c2 := tmay_c (trimT a) hBt
  rw [hvt] at c2
  have c3 := ttrim_c a hB
  rw [trim_L hv] at c3
  have c4 := ttrim_c (trimT a) hBt
  rw [trim_L hvt, trim_is hv] at c4
  have c5 := samel_c (trimT a) (trimT a)
  rw [show (decide ((trimT a).name = (trimT a).name) && decide ((trimT a).turns = (trimT a).turns)) = true by simp] at c5
  have c6 := tsame_c a (trimT a) hB hBt
  rw [same_trim hv] at c6
  have c7 := treach_c (trimT a) hBt
  have c8 := treach_c a hB
  rw [reachL, if_pos hvt] at c7
  rw [reachL, if_pos hv] at c8
  have hrc := reach_count hv
  have hln := loc_len hv
  have hlt2 := loc_len hvt
  refine con_of (c := _) Try.func5 rfl rfl rfl (by decide) fun w M0 H Z => ?_
  refine g_len 1 rfl fun hll => ?_
  simp only [List.length_map] at hll
  repeat' (first
   | refine gc_ rfl ?_
   | (refine g_region ?_; refine run_ th rfl ?_)
   | (refine g_drawC mix rfl rfl ?_; refine drun_ th rfl ?_)
   | (refine g_drawEC mix rfl rfl ?_; refine erun_ th rfl ?_)
   | refine SOps.nil ?_
   | refine DOps.nil ?_
   | refine EOps.nil ?_ rfl rfl
   | (refine s_split rfl rfl (fun hb => ?_) (fun hb => ?_) <;> (try simp only [hbL] at hb) <;> first | (exfalso; omega) | refine run_ th rfl ?_)
   | (refine d_split rfl rfl rfl (fun hb => ?_) (fun hb => ?_) <;> (try simp only [hbL] at hb) <;> first | (exfalso; omega) | refine drun_ th rfl ?_)
   | (refine g_if rfl (fun hb => ?_) (fun hb => ?_) <;> (try simp only [hbL] at hb) <;> (try (exfalso; omega)))
   | (refine s_call first6_c [] rfl rfl rfl rfl rfl rfl rfl rfl rfl rfl ?_; refine run_ th rfl ?_)
   | (refine s_callN (new_c made (by omega)) rfl rfl rfl rfl rfl rfl rfl ?_; refine run_ th rfl ?_)
   | (refine s_call hloc [17] rfl rfl rfl rfl rfl rfl rfl rfl rfl rfl ?_; refine run_ th rfl ?_)
   | (refine s_call c3 [] rfl rfl rfl rfl rfl rfl rfl rfl rfl rfl ?_; refine run_ th rfl ?_)
   | (refine d_call c1 [] rfl rfl rfl rfl rfl rfl rfl rfl rfl rfl rfl ?_; refine drun_ th rfl ?_)
   | (refine d_call c2 [] rfl rfl rfl rfl rfl rfl rfl rfl rfl rfl rfl ?_; refine drun_ th rfl ?_)
   | (refine d_call c4 [] rfl rfl rfl rfl rfl rfl rfl rfl rfl rfl rfl ?_; refine drun_ th rfl ?_)
   | (refine d_call c5 [] rfl rfl rfl rfl rfl rfl rfl rfl rfl rfl rfl ?_; refine drun_ th rfl ?_)
   | (refine d_call c6 [] rfl rfl rfl rfl rfl rfl rfl rfl rfl rfl rfl ?_; refine drun_ th rfl ?_)
   | (refine d_call c7 [] rfl rfl rfl rfl rfl rfl rfl rfl rfl rfl rfl ?_; refine drun_ th rfl ?_)
   | (refine d_call c8 [] rfl rfl rfl rfl rfl rfl rfl rfl rfl rfl rfl ?_; refine drun_ th rfl ?_)
   | (refine s_call c8 [] rfl rfl rfl rfl rfl rfl rfl rfl rfl rfl ?_; refine run_ th rfl ?_))
  refine g_adopt 8 200 9 1 rfl rfl rfl ?_
  refine g_loop1 (fun k : Nat => k ≤ l.length ∧ k ≤ 20)
    (fun k => [(1, .v (C1 (intsT l))), (5, .v (.one (.ptr 5 0))), (6, .v (.one (.ptr 6 0))), (7, .v (C1 (intsT (reachG a.g)))), (8, .v (.one (.own 200))), (9, .v (C1 (.int .i64 (k : Int))))])
    (fun k => [(5, .box [.c (.str a.name), .c (turnsC a.turns)]), (6, .box [.c (.str (trimT a).name), .c (turnsC (trimT a).turns)]), (200, .arr false 9 1 ((wayU l k).map fun s => [CT.str s]))])
    (fun k => l.length - k) 0 ⟨Nat.zero_le _, by omega⟩
    (fun a w h => h.sub (by exact ⟨⟨_, rfl, .refl _⟩, ⟨_, rfl, .refl _⟩, ⟨_, rfl, .refl _⟩, ⟨_, rfl, .refl _⟩, ⟨_, rfl, .refl _⟩, ⟨_, rfl, le_int rfl⟩, trivial⟩) (by exact ⟨⟨_, rfl, .refl _⟩, ⟨_, rfl, .refl _⟩, ⟨_, rfl, .refl _⟩, trivial⟩) rfl rfl rfl) (fun k hk ih => ?_)
  obtain ⟨hk, hk2⟩ := hk
  by_cases hlt : k < l.length
  · have hx : (l.map fun r => [CT.int .i64 r])[k]? = some [.int .i64 l[k]] := by simp [hlt]
    have hru := remU (x := l[k]) (n := 4) (by omega) (by omega)
    have hwl := wayU_len hk
    have hwn := wayU_snoc hlt
    have hih := fun h => ih (k + 1) ⟨hlt, h⟩ (by omega)
    have w1 := twalk_c a hB (wayU l (k + 1))
    have w2 := twalk_c (trimT a) hBt (wayU l (k + 1))
    rcases walk_both hv (wayU l (k + 1)) with ⟨e1, e2⟩ | ⟨y, s, hy, hs, ht, e1, e2, e3, e4, e5⟩
    · rw [e1] at w1
      rw [e2] at w2
      repeat' (first
       | refine gc_ rfl ?_
       | (refine g_region ?_; refine run_ th rfl ?_)
       | (refine g_drawC mix rfl rfl ?_; refine drun_ th rfl ?_)
       | (refine g_drawEC mix rfl rfl ?_; refine erun_ th rfl ?_)
       | refine SOps.nil ?_
       | refine DOps.nil ?_
       | refine EOps.nil ?_ rfl rfl
       | (refine s_split rfl rfl (fun hb => ?_) (fun hb => ?_) <;> (try simp only [hbL] at hb) <;> first | (exfalso; omega) | refine run_ th rfl ?_)
       | (refine d_split rfl rfl rfl (fun hb => ?_) (fun hb => ?_) <;> (try simp only [hbL] at hb) <;> first | (exfalso; omega) | refine drun_ th rfl ?_)
       | (refine g_if rfl (fun hb => ?_) (fun hb => ?_) <;> (try simp only [hbL] at hb) <;> (try (exfalso; omega)))
       | refine g_endL th Try.func5 (.inr ⟨_, rfl⟩) rfl rfl rfl ?_ rfl
       | (refine s_idx th rfl rfl rfl rfl rfl rfl rfl rfl rfl k _ rfl hx ?_; refine run_ th rfl ?_)
       | (refine s_rem rfl rfl rfl rfl rfl rfl (by decide) ?_; refine run_ th rfl ?_)
       | (refine s_freeze 73 rfl rfl ?_; refine s_idx th rfl rfl rfl rfl rfl rfl rfl rfl rfl ((IntKind.u64.wrap l[k]).tmod 4).toNat _ (by omega) (labU_get l[k]) ?_; refine run_ th rfl ?_)
       | (refine s_append th rfl rfl rfl rfl rfl rfl rfl rfl rfl rfl rfl rfl rfl rfl rfl (by constructor <;> simp [hwl] <;> omega) ?_; rw [hwn]; refine run_ th rfl ?_)
       | (refine s_callL w1 rfl rfl rfl rfl rfl rfl rfl rfl rfl ?_; refine run_ th rfl ?_)
       | (refine s_callL w2 rfl rfl rfl rfl rfl rfl rfl rfl rfl ?_; refine run_ th rfl ?_)
       | (refine s_add rfl rfl rfl rfl rfl rfl (by omega) ?_; refine run_ th rfl ?_))
      all_goals first
        | exact .refl _
        | (exfalso; revert hb; simp; done)
        | exact g_sub (by exact ⟨⟨_, rfl, .refl _⟩, ⟨_, rfl, .refl _⟩, ⟨_, rfl, .refl _⟩, ⟨_, rfl, .refl _⟩, ⟨_, rfl, .refl _⟩, ⟨_, rfl, le_int (by omega)⟩, trivial⟩) (by exact ⟨⟨_, rfl, .refl _⟩, ⟨_, rfl, .refl _⟩, ⟨_, rfl, .refl _⟩, trivial⟩) rfl rfl rfl (hih (by omega))
    · rw [e1] at w1
      rw [e2] at w2
      have xr : ((reachG a.g).map fun r => [CT.int .i64 r])[s]? = some [.int .i64 (y : Int)] := by simp [hs, e3]
      have xa : (a.turns.map Trn.cs)[y]? = some (a.turns[y]).cs := by simp [hy]
      have xb : ((trimT a).turns.map Trn.cs)[s]? = some ((trimT a).turns[s]).cs := by simp [ht]
      have hrl : (((reachG a.g).map fun r => [CT.int .i64 r]).length : Int) = ((reachG a.g).length : Int) := by simp
      repeat' (first
       | refine gc_ rfl ?_
       | (refine g_region ?_; refine run_ th rfl ?_)
       | (refine g_drawC mix rfl rfl ?_; refine drun_ th rfl ?_)
       | (refine g_drawEC mix rfl rfl ?_; refine erun_ th rfl ?_)
       | refine SOps.nil ?_
       | refine DOps.nil ?_
       | refine EOps.nil ?_ rfl rfl
       | (refine s_split rfl rfl (fun hb => ?_) (fun hb => ?_) <;> (try simp only [hbL] at hb) <;> first | (exfalso; omega) | refine run_ th rfl ?_)
       | (refine d_split rfl rfl rfl (fun hb => ?_) (fun hb => ?_) <;> (try simp only [hbL] at hb) <;> first | (exfalso; omega) | refine drun_ th rfl ?_)
       | (refine g_if rfl (fun hb => ?_) (fun hb => ?_) <;> (try simp only [hbL] at hb) <;> (try (exfalso; omega)))
       | refine g_endL th Try.func5 (.inr ⟨_, rfl⟩) rfl rfl rfl ?_ rfl
       | (refine s_idx th rfl rfl rfl rfl rfl rfl rfl rfl rfl k _ rfl hx ?_; refine run_ th rfl ?_)
       | (refine s_rem rfl rfl rfl rfl rfl rfl (by decide) ?_; refine run_ th rfl ?_)
       | (refine s_freeze 73 rfl rfl ?_; refine s_idx th rfl rfl rfl rfl rfl rfl rfl rfl rfl ((IntKind.u64.wrap l[k]).tmod 4).toNat _ (by omega) (labU_get l[k]) ?_; refine run_ th rfl ?_)
       | (refine s_append th rfl rfl rfl rfl rfl rfl rfl rfl rfl rfl rfl rfl rfl rfl rfl (by constructor <;> simp [hwl] <;> omega) ?_; rw [hwn]; refine run_ th rfl ?_)
       | (refine s_callL w1 rfl rfl rfl rfl rfl rfl rfl rfl rfl ?_; refine run_ th rfl ?_)
       | (refine s_callL w2 rfl rfl rfl rfl rfl rfl rfl rfl rfl ?_; refine run_ th rfl ?_)
       | (refine d_idx th rfl rfl rfl rfl rfl rfl rfl rfl rfl s _ rfl xr ?_; refine drun_ th rfl ?_)
       | (refine d_idx th rfl rfl rfl rfl rfl rfl rfl rfl rfl y _ rfl xa ?_; refine drun_ th rfl ?_)
       | (refine d_idx th rfl rfl rfl rfl rfl rfl rfl rfl rfl s _ rfl xb ?_; refine drun_ th rfl ?_)
       | (refine s_add rfl rfl rfl rfl rfl rfl (by omega) ?_; refine run_ th rfl ?_))
      all_goals first
        | exact .refl _
        | (exfalso; revert hb; simp [e4, e5]; done)
        | exact g_sub (by exact ⟨⟨_, rfl, .refl _⟩, ⟨_, rfl, .refl _⟩, ⟨_, rfl, .refl _⟩, ⟨_, rfl, .refl _⟩, ⟨_, rfl, .refl _⟩, ⟨_, rfl, le_int (by omega)⟩, trivial⟩) (by exact ⟨⟨_, rfl, .refl _⟩, ⟨_, rfl, .refl _⟩, ⟨_, rfl, .refl _⟩, trivial⟩) rfl rfl rfl (hih (by omega))
  · skip
    repeat' (first
     | refine gc_ rfl ?_
     | (refine g_region ?_; refine run_ th rfl ?_)
     | (refine g_drawC mix rfl rfl ?_; refine drun_ th rfl ?_)
     | (refine g_drawEC mix rfl rfl ?_; refine erun_ th rfl ?_)
     | refine SOps.nil ?_
     | refine DOps.nil ?_
     | refine EOps.nil ?_ rfl rfl
     | (refine s_split rfl rfl (fun hb => ?_) (fun hb => ?_) <;> (try simp only [hbL] at hb) <;> first | (exfalso; omega) | refine run_ th rfl ?_)
     | (refine d_split rfl rfl rfl (fun hb => ?_) (fun hb => ?_) <;> (try simp only [hbL] at hb) <;> first | (exfalso; omega) | refine drun_ th rfl ?_)
     | (refine g_if rfl (fun hb => ?_) (fun hb => ?_) <;> (try simp only [hbL] at hb) <;> (try (exfalso; omega)))
     | refine g_endL th Try.func5 (.inr ⟨_, rfl⟩) rfl rfl rfl ?_ rfl)
    all_goals exact .refl _
end Go.Sy
