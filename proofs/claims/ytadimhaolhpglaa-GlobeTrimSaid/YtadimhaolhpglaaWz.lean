/- The law GlobeTrim. -/
import Derived.Test.YtadimhaolhpglaaWx
import Derived.Test.YtadimhaolhpglaaWy
import Derived.Test.YtadimhaolhpglaaDf
set_option linter.unusedSimpArgs false
set_option linter.unusedVariables false
set_option linter.unusedSectionVars false
namespace Go.Sy
open Go.Proofs
set_option maxRecDepth 100000
attribute [local irreducible] SOps Goes DOps EOps GOps

theorem trimP_big {p : Prt} (h : PrtBig p) : PrtBig (trimP p) := by
  intro t ht a ha
  obtain ⟨x, _, rfl⟩ := List.mem_map.1 (show t ∈ List.map _ (reachG p.g) from ht)
  have ha : a ∈ movA (reachG p.g) (pntAt p x).arms := ha
  rw [movA_ren] at ha
  obtain ⟨b, hb, rfl⟩ := List.mem_map.1 ha
  have hb := risA_mem.1 hb
  unfold pntAt at hb
  rw [List.getD_eq_getElem?_getD] at hb
  cases hx : p.points[x.toNat]? with
  | none => rw [hx] at hb; cases hb
  | some t => rw [hx] at hb; exact h t (List.mem_of_getElem? hx) b hb
/-- What labels do in a protocol and in its trim. -/
theorem walk_bothP {a : Prt} (hv : prtB a = true) (w : List ByteArray) :
    (walkP a w = .tup [C1 (.int .i64 0), C1 (.bool false)] ∧ walkP (trimP a) w = .tup [C1 (.int .i64 0), C1 (.bool false)]) ∨
    ∃ y s : Nat, ∃ (hy : y < a.points.length) (hs : s < (reachG a.g).length) (ht : s < (trimP a).points.length), walkP a w = .tup [C1 (.int .i64 (y : Int)), C1 (.bool true)] ∧ walkP (trimP a) w = .tup [C1 (.int .i64 (s : Int)), C1 (.bool true)] ∧
      (reachG a.g)[s] = (y : Int) ∧ (a.points[y]).from_ = ((trimP a).points[s]).from_ := by
  obtain ⟨hg, h0, hu⟩ := prt_g hv
  have hk := walk_trim hg h0 hu w (zero_mem a.g)
  rw [plc_zero] at hk
  unfold walkP
  rw [if_pos hv, if_pos (prt_trim hv), trimP_g, hk.1]
  cases hw : walkG a.g 0 w with
  | none => exact .inl ⟨rfl, rfl⟩
  | some y =>
    have hm := hk.2 y hw
    have hp := reach_pos hg h0 hm
    have hgl : a.g.length = a.points.length := by simp [Prt.g]
    have hlt := List.idxOf_lt_length_iff.2 hm
    have htl : (trimP a).points.length = (reachG a.g).length := by simp [trimP]
    have hy0 : ((y.toNat : Nat) : Int) = y := by omega
    have hyl : y.toNat < a.points.length := by omega
    have hst : (reachG a.g).idxOf y < (trimP a).points.length := by omega
    refine .inr ⟨y.toNat, (reachG a.g).idxOf y, hyl, hlt, hst, by simp only [hy0], rfl, by rw [List.getElem_idxOf hlt, hy0], ?_⟩
    have h1 := pntAt_trim hm
    have e1 : pntAt a y = a.points[y.toNat] := by unfold pntAt; rw [List.getD_eq_getElem?_getD, List.getElem?_eq_getElem hyl]; rfl
    have e2 : pntAt (trimP a) (plc (reachG a.g) y) = (trimP a).points[(reachG a.g).idxOf y] := by unfold pntAt plc; rw [List.getD_eq_getElem?_getD, Int.toNat_natCast, List.getElem?_eq_getElem hst]; rfl
    rw [e1, e2] at h1
    rw [h1]

set_option maxHeartbeats 16000000 in
theorem globeTrim_c (made l : List Int) (hbig : (made.length + 1) * 8 ≤ 140737488355328) : Con Try.prog 12 [] [C1 (intsT made), C1 (intsT l)] (Rv (.bool true)) [] := by
  obtain ⟨hv, hB⟩ := made3_ok made
  have hpr := prot73_c giv7 made hbig
  obtain ⟨a, ha⟩ : ∃ a, a = made3 made := ⟨_, rfl⟩
  rw [← ha] at hpr hv hB
  clear ha
  have hBt := trimP_big hB
  have hvt := prt_trim hv
  have c1 := gmay_c a hB
  rw [hv] at c1
  have c2 := gmay_c (trimP a) hBt
  rw [hvt] at c2
  have c3 := gtrim_c a hB
  rw [trimPL, if_pos hv] at c3
  have c4 := gtrim_c (trimP a) hBt
  rw [trimPL, if_pos hvt, trimP_is hv] at c4
  have c5 := samePoints7_c (trimP a).points (trimP a).points
  rw [decide_eq_true rfl] at c5
  have c6 := gsame_c a (trimP a) hB hBt
  rw [show sameP a (trimP a) = true by
    unfold sameP trimPL
    rw [hv, hvt, if_pos rfl, if_pos rfl, trimP_is hv, decide_eq_true rfl, decide_eq_true (show a.roles = (trimP a).roles from rfl)]; rfl] at c6
  have c8 := greach_c a hB
  rw [reachP, if_pos hv] at c8
  have hrc : ((reachG a.g).length : Int) = ((trimP a).points.length : Int) := by simp [trimP]
  have hln := prt_len hv
  have hrwl : (reachG a.g).length ≤ a.points.length := by
    obtain ⟨hgg, h0, _⟩ := prt_g hv
    have h1 := (reach_ok hgg h0).1.len
    rwa [show a.g.length = a.points.length by simp [Prt.g]] at h1
  have hwb := fun w => walk_bothP hv w
  have hw1 := fun w => gwalk_c a hB w
  have hw2 := fun w => gwalk_c (trimP a) hBt w
  obtain ⟨t, ht⟩ : ∃ t, t = trimP a := ⟨_, rfl⟩
  obtain ⟨row, hrow⟩ : ∃ r, r = reachG a.g := ⟨_, rfl⟩
  rw [← hrow] at c8 hrc hrwl
  rw [← ht] at c2 c3 c4 c5 c6 hrc
  rw [← ht, ← hrow] at hwb
  rw [← ht] at hw2
  clear ht hrow hBt hvt hv hB
  refine con_of (c := _) Try.func12 rfl rfl rfl (by decide) fun w M0 H Z => ?_
  refine g_len 0 rfl fun hl0 => ?_
  simp only [List.length_map] at hl0
  refine g_len 1 rfl fun hll => ?_
  simp only [List.length_map] at hll
  repeat' (first
   | refine gc_ rfl ?_
   | (refine g_region ?_; refine run_ th rfl ?_)
   | (refine g_drawC mix rfl rfl ?_; refine drun_ th rfl ?_)
   | (refine g_drawEC mix rfl rfl ?_; refine erun_ th rfl ?_)
   | refine SOps.nil ?_
   | refine DOps.nil ?_
   | refine EOps.nil ?_ rfl rfl
   | (refine s_split rfl rfl (fun hb => ?_) (fun hb => ?_) <;> (try simp only [hbL] at hb) <;> first | (exfalso; omega) | refine run_ th rfl ?_)
   | (refine d_split rfl rfl rfl (fun hb => ?_) (fun hb => ?_) <;> (try simp only [hbL] at hb) <;> first | (exfalso; omega) | refine drun_ th rfl ?_)
   | (refine g_if rfl (fun hb => ?_) (fun hb => ?_) <;> (try simp only [hbL] at hb) <;> (try (exfalso; omega)))
   | (refine s_call first7_c [] rfl rfl rfl rfl rfl rfl rfl rfl rfl rfl ?_; refine run_ th rfl ?_)
   | (refine s_call giv7_c [] rfl rfl rfl rfl rfl rfl rfl rfl rfl rfl ?_; refine run_ th rfl ?_)
   | (refine s_appendF th rfl rfl rfl rfl rfl rfl rfl rfl rfl rfl rfl rfl rfl rfl (by constructor <;> simp <;> omega) ?_; refine s_freeze 18 rfl rfl ?_; refine run_ th rfl ?_)
   | (refine s_call hpr [] rfl rfl rfl rfl rfl rfl rfl rfl rfl rfl ?_; refine run_ th rfl ?_)
   | (refine s_call c3 [] rfl rfl rfl rfl rfl rfl rfl rfl rfl rfl ?_; refine run_ th rfl ?_)
   | (refine s_call c4 [] rfl rfl rfl rfl rfl rfl rfl rfl rfl rfl ?_; refine run_ th rfl ?_)
   | (refine d_call c1 [] rfl rfl rfl rfl rfl rfl rfl rfl rfl rfl rfl ?_; refine drun_ th rfl ?_)
   | (refine d_call c2 [] rfl rfl rfl rfl rfl rfl rfl rfl rfl rfl rfl ?_; refine drun_ th rfl ?_)
   | (refine d_call c5 [] rfl rfl rfl rfl rfl rfl rfl rfl rfl rfl rfl ?_; refine drun_ th rfl ?_)
   | (refine d_call c6 [] rfl rfl rfl rfl rfl rfl rfl rfl rfl rfl rfl ?_; refine drun_ th rfl ?_)
   | (refine d_call c8 [] rfl rfl rfl rfl rfl rfl rfl rfl rfl rfl rfl ?_; refine drun_ th rfl ?_)
   | (refine s_call c8 [] rfl rfl rfl rfl rfl rfl rfl rfl rfl rfl ?_; refine run_ th rfl ?_))
  all_goals first
    | (exfalso; revert hb; simp; done)
    | (exfalso; simp only [List.length_map] at hb; omega)
    | skip
  refine g_adopt 9 200 9 1 rfl rfl rfl ?_
  refine g_loop1 (fun k : Nat => k ≤ l.length ∧ k ≤ 20)
    (fun k => [(1, .v (C1 (intsT l))), (5, .v (.one (.ptr 5 0))), (6, .v (.one (.ptr 6 0))), (8, .v (C1 (intsT row))), (9, .v (.one (.own 200))), (10, .v (C1 (.int .i64 (k : Int))))])
    (fun k => [(5, .box (a.cs.map SC.c)), (6, .box (t.cs.map SC.c)), (200, .arr false 9 1 ((wayU l k).map fun s => [CT.str s]))])
    (fun k => l.length - k) 0 ⟨Nat.zero_le _, by omega⟩
    (fun a w h => h.sub (by exact ⟨⟨_, rfl, .refl _⟩, ⟨_, rfl, .refl _⟩, ⟨_, rfl, .refl _⟩, ⟨_, rfl, .refl _⟩, ⟨_, rfl, .refl _⟩, ⟨_, rfl, le_int rfl⟩, trivial⟩) (by exact ⟨⟨_, rfl, .refl _⟩, ⟨_, rfl, .refl _⟩, ⟨_, rfl, .refl _⟩, trivial⟩) rfl rfl rfl) (fun k hk ih => ?_)
  obtain ⟨hk, hk2⟩ := hk
  by_cases hlt : k < l.length
  · have hx : (l.map fun r => [CT.int .i64 r])[k]? = some [.int .i64 l[k]] := by simp [hlt]
    have hru := remU (x := l[k]) (n := 4) (by omega) (by omega)
    have hwl := wayU_len hk
    have hwn := wayU_snoc hlt
    have hih := fun h => ih (k + 1) ⟨hlt, h⟩ (by omega)
    have w1 := hw1 (wayU l (k + 1))
    have w2 := hw2 (wayU l (k + 1))
    rcases hwb (wayU l (k + 1)) with ⟨e1, e2⟩ | ⟨y, s, hy, hs, ht, e1, e2, e3, e4⟩
    · rw [e1] at w1
      rw [e2] at w2
      repeat' (first
       | refine gc_ rfl ?_
       | (refine g_region ?_; refine run_ th rfl ?_)
       | (refine g_drawC mix rfl rfl ?_; refine drun_ th rfl ?_)
       | (refine g_drawEC mix rfl rfl ?_; refine erun_ th rfl ?_)
       | refine SOps.nil ?_
       | refine DOps.nil ?_
       | refine EOps.nil ?_ rfl rfl
       | (refine s_split rfl rfl (fun hb => ?_) (fun hb => ?_) <;> (try simp only [hbL] at hb) <;> first | (exfalso; omega) | refine run_ th rfl ?_)
       | (refine d_split rfl rfl rfl (fun hb => ?_) (fun hb => ?_) <;> (try simp only [hbL] at hb) <;> first | (exfalso; omega) | refine drun_ th rfl ?_)
       | (refine g_if rfl (fun hb => ?_) (fun hb => ?_) <;> (try simp only [hbL] at hb) <;> (try (exfalso; omega)))
       | refine g_endL th Try.func12 (.inr ⟨_, rfl⟩) rfl rfl rfl ?_ rfl
       | (refine s_idx th rfl rfl rfl rfl rfl rfl rfl rfl rfl k _ rfl hx ?_; refine run_ th rfl ?_)
       | (refine s_rem rfl rfl rfl rfl rfl rfl (by decide) ?_; refine run_ th rfl ?_)
       | (refine s_freeze 70 rfl rfl ?_; refine s_idx th rfl rfl rfl rfl rfl rfl rfl rfl rfl ((IntKind.u64.wrap l[k]).tmod 4).toNat _ (by omega) (labU_get l[k]) ?_; refine run_ th rfl ?_)
       | (refine s_append th rfl rfl rfl rfl rfl rfl rfl rfl rfl rfl rfl rfl rfl rfl rfl (by constructor <;> simp [hwl] <;> omega) ?_; rw [hwn]; refine run_ th rfl ?_)
       | (refine s_callL w1 rfl rfl rfl rfl rfl rfl rfl rfl rfl ?_; refine run_ th rfl ?_)
       | (refine s_callL w2 rfl rfl rfl rfl rfl rfl rfl rfl rfl ?_; refine run_ th rfl ?_)
       | (refine s_add rfl rfl rfl rfl rfl rfl (by omega) ?_; refine run_ th rfl ?_))
      all_goals first
        | exact .refl _
        | (exfalso; revert hb; simp; done)
        | exact g_sub (by exact ⟨⟨_, rfl, .refl _⟩, ⟨_, rfl, .refl _⟩, ⟨_, rfl, .refl _⟩, ⟨_, rfl, .refl _⟩, ⟨_, rfl, .refl _⟩, ⟨_, rfl, le_int (by omega)⟩, trivial⟩) (by exact ⟨⟨_, rfl, .refl _⟩, ⟨_, rfl, .refl _⟩, ⟨_, rfl, .refl _⟩, trivial⟩) rfl rfl rfl (hih (by omega))
    · rw [e1] at w1
      rw [e2] at w2
      have xr : (row.map fun r => [CT.int .i64 r])[s]? = some [.int .i64 (y : Int)] := by simp [hs, e3]
      have xa : (a.points.map Pnt.cs)[y]? = some (a.points[y]).cs := by simp [hy]
      have xb : (t.points.map Pnt.cs)[s]? = some (t.points[s]).cs := by simp [ht]
      have hrl : ((row.map fun r => [CT.int .i64 r]).length : Int) = (row.length : Int) := by simp
      repeat' (first
       | refine gc_ rfl ?_
       | (refine g_region ?_; refine run_ th rfl ?_)
       | (refine g_drawC mix rfl rfl ?_; refine drun_ th rfl ?_)
       | (refine g_drawEC mix rfl rfl ?_; refine erun_ th rfl ?_)
       | refine SOps.nil ?_
       | refine DOps.nil ?_
       | refine EOps.nil ?_ rfl rfl
       | (refine s_split rfl rfl (fun hb => ?_) (fun hb => ?_) <;> (try simp only [hbL] at hb) <;> first | (exfalso; omega) | refine run_ th rfl ?_)
       | (refine d_split rfl rfl rfl (fun hb => ?_) (fun hb => ?_) <;> (try simp only [hbL] at hb) <;> first | (exfalso; omega) | refine drun_ th rfl ?_)
       | (refine g_if rfl (fun hb => ?_) (fun hb => ?_) <;> (try simp only [hbL] at hb) <;> (try (exfalso; omega)))
       | refine g_endL th Try.func12 (.inr ⟨_, rfl⟩) rfl rfl rfl ?_ rfl
       | (refine s_idx th rfl rfl rfl rfl rfl rfl rfl rfl rfl k _ rfl hx ?_; refine run_ th rfl ?_)
       | (refine s_rem rfl rfl rfl rfl rfl rfl (by decide) ?_; refine run_ th rfl ?_)
       | (refine s_freeze 70 rfl rfl ?_; refine s_idx th rfl rfl rfl rfl rfl rfl rfl rfl rfl ((IntKind.u64.wrap l[k]).tmod 4).toNat _ (by omega) (labU_get l[k]) ?_; refine run_ th rfl ?_)
       | (refine s_append th rfl rfl rfl rfl rfl rfl rfl rfl rfl rfl rfl rfl rfl rfl rfl (by constructor <;> simp [hwl] <;> omega) ?_; rw [hwn]; refine run_ th rfl ?_)
       | (refine s_callL w1 rfl rfl rfl rfl rfl rfl rfl rfl rfl ?_; refine run_ th rfl ?_)
       | (refine s_callL w2 rfl rfl rfl rfl rfl rfl rfl rfl rfl ?_; refine run_ th rfl ?_)
       | (refine d_idx th rfl rfl rfl rfl rfl rfl rfl rfl rfl s _ rfl xr ?_; refine drun_ th rfl ?_)
       | (refine d_idx th rfl rfl rfl rfl rfl rfl rfl rfl rfl y _ rfl xa ?_; refine drun_ th rfl ?_)
       | (refine d_idx th rfl rfl rfl rfl rfl rfl rfl rfl rfl s _ rfl xb ?_; refine drun_ th rfl ?_)
       | (refine s_add rfl rfl rfl rfl rfl rfl (by omega) ?_; refine run_ th rfl ?_))
      all_goals first
        | exact .refl _
        | (exfalso; revert hb; simp [e4]; done)
        | exact g_sub (by exact ⟨⟨_, rfl, .refl _⟩, ⟨_, rfl, .refl _⟩, ⟨_, rfl, .refl _⟩, ⟨_, rfl, .refl _⟩, ⟨_, rfl, .refl _⟩, ⟨_, rfl, le_int (by omega)⟩, trivial⟩) (by exact ⟨⟨_, rfl, .refl _⟩, ⟨_, rfl, .refl _⟩, ⟨_, rfl, .refl _⟩, trivial⟩) rfl rfl rfl (hih (by omega))
  · skip
    repeat' (first
     | refine gc_ rfl ?_
     | (refine g_region ?_; refine run_ th rfl ?_)
     | (refine g_drawC mix rfl rfl ?_; refine drun_ th rfl ?_)
     | (refine g_drawEC mix rfl rfl ?_; refine erun_ th rfl ?_)
     | refine SOps.nil ?_
     | refine DOps.nil ?_
     | refine EOps.nil ?_ rfl rfl
     | (refine s_split rfl rfl (fun hb => ?_) (fun hb => ?_) <;> (try simp only [hbL] at hb) <;> first | (exfalso; omega) | refine run_ th rfl ?_)
     | (refine d_split rfl rfl rfl (fun hb => ?_) (fun hb => ?_) <;> (try simp only [hbL] at hb) <;> first | (exfalso; omega) | refine drun_ th rfl ?_)
     | (refine g_if rfl (fun hb => ?_) (fun hb => ?_) <;> (try simp only [hbL] at hb) <;> (try (exfalso; omega)))
     | refine g_endL th Try.func12 (.inr ⟨_, rfl⟩) rfl rfl rfl ?_ rfl)
    all_goals exact .refl _
end Go.Sy
