/- The law GlobeTurns. -/
import Derived.Test.YtadimhaolhpglaaWl
import Derived.Test.YtadimhaolhpglaaWt
import Derived.Test.YtadimhaolhpglaaDf
set_option linter.unusedSimpArgs false
set_option linter.unusedVariables false
set_option linter.unusedSectionVars false
namespace Go.Sy
open Go.Proofs
set_option maxRecDepth 100000
attribute [local irreducible] SOps Goes DOps EOps GOps FOps

/-- A protocol as a type of its first role. -/
def tuT (x : Pnt) : Trn := if x.arms = [] then ⟨0, ⟨#[]⟩, x.arms⟩ else if x.from_ = ⟨#[97]⟩ then ⟨1, x.to, x.arms⟩ else ⟨2, x.from_, x.arms⟩
def tuL (p : Prt) : Loc := ⟨⟨#[112]⟩, p.points.map tuT⟩
theorem tu_arms (x : Pnt) : (tuT x).arms = x.arms := by unfold tuT; split <;> first | rfl | (split <;> rfl)
theorem tuL_g (p : Prt) : (tuL p).g = p.g := by
  unfold Loc.g tuL Prt.g
  rw [List.map_map]
  exact List.map_congr_left fun x _ => tu_arms x
theorem tu_end {x : Pnt} (h : (x.arms.length : Int) = 0) : tuT x = ⟨0, ⟨#[]⟩, x.arms⟩ := if_pos (List.length_eq_zero_iff.1 (by omega))
theorem tu_a {x : Pnt} (h : ¬ (x.arms.length : Int) = 0) (hf : x.from_ = ⟨#[97]⟩) : tuT x = ⟨1, x.to, x.arms⟩ := by
  unfold tuT; rw [if_neg (fun e => h (by rw [e]; rfl)), if_pos hf]
theorem tu_b {x : Pnt} (h : ¬ (x.arms.length : Int) = 0) (hf : ¬ x.from_ = ⟨#[97]⟩) : tuT x = ⟨2, x.from_, x.arms⟩ := by
  unfold tuT; rw [if_neg (fun e => h (by rw [e]; rfl)), if_neg hf]
theorem prt_names {p : Prt} (h : prtB p = true) : ∀ s ∈ p.roles, nameB s = true := by
  simp only [prtB, Bool.and_eq_true, List.all_eq_true] at h
  exact h.2.2.2.2.1
theorem place_has {roles : List ByteArray} {s : ByteArray} (h : 0 ≤ placeI roles s) : s ∈ roles := hasB_iff.1 (by unfold hasB; exact decide_eq_true h)
theorem tu_ok {p : Prt} (h : prtB p = true) : locB (tuL p) = true := by
  have hl := prt_len h
  have hlen : (tuL p).turns.length = p.points.length := by simp [tuL]
  simp only [locB, Bool.and_eq_true, decide_eq_true_eq, List.all_eq_true, hlen]
  refine ⟨hl.1, by omega, fun t ht => ?_⟩
  obtain ⟨x, hx, rfl⟩ := List.mem_map.1 (show t ∈ List.map tuT p.points from ht)
  have h9 := prt_pnt h x hx
  have hn := prt_names h
  simp only [pntB, endP, Bool.or_eq_true, Bool.and_eq_true, List.isEmpty_iff, decide_eq_true_eq] at h9
  rcases h9 with h9 | h9
  · rw [tu_end (by rw [h9.2.2]; rfl), h9.2.2]; rfl
  · have ha := (arms_all h9.2.2.2).1
    by_cases hf : x.from_ = ⟨#[97]⟩
    · rw [tu_a (by omega) hf, trn_act (by simp) (.inl rfl)]
      simp only
      rw [hn _ (place_has h9.2.1), h9.2.2.2]; rfl
    · rw [tu_b (by omega) hf, trn_act (by simp) (.inr rfl)]
      simp only
      rw [hn _ (place_has h9.1), h9.2.2.2]; rfl
theorem tu_big {p : Prt} (h : PrtBig p) : LocBig (tuL p) := fun t ht => by
  obtain ⟨x, hx, rfl⟩ := List.mem_map.1 (show t ∈ List.map tuT p.points from ht)
  rw [tu_arms]; exact h x hx
theorem trim_tu {p : Prt} (k : Nat) (h : k < (reachG p.g).length) : ∃ t : Trn, (trimT (tuL p)).turns[k]? = some t ∧ t.arms = movA (reachG p.g) (pntAt p (reachG p.g)[k]).arms := by
  unfold trimT
  rw [tuL_g]
  simp only
  rw [List.getElem?_map, List.getElem?_eq_getElem h]
  exact ⟨_, rfl, by simp only; rw [← armsAt_loc, tuL_g, armsAt_prt]⟩
theorem walk_tu {p : Prt} (hv : prtB p = true) (w : List ByteArray) : ∃ x b, walkP p w = .tup [C1 (.int .i64 x), C1 (.bool b)] ∧ walkR (tuL p) w = .tup [C1 (.int .i64 x), C1 (.bool b)] := by
  unfold walkP walkR
  rw [if_pos hv, if_pos (tu_ok hv), tuL_g]
  cases walkG p.g 0 w with
  | none => exact ⟨_, _, rfl, rfl⟩
  | some y => exact ⟨_, _, rfl, rfl⟩

def tuMM (mm : MM) (c1 c2 : List SC) : Nat → Unit → MM
  | 0, _ => mm
  | 1, _ => updM mm 9 (.box c1)
  | _, _ => updM (updM mm 9 (.box c1)) 9 (.box c2)
set_option maxHeartbeats 16000000 in
theorem globeTurns_c (made l : List Int) (hbig : (made.length + 1) * 8 ≤ 140737488355328) : Con Try.prog 11 [] [C1 (intsT made), C1 (intsT l)] (Rv (.bool true)) [] := by
  obtain ⟨hv, hB⟩ := made0_ok made
  have hpr := prot70_c giv7 made hbig
  have hrl := made0_roles made
  obtain ⟨p, hp⟩ : ∃ p, p = made0 made := ⟨_, rfl⟩
  rw [← hp] at hv hB hpr hrl
  have hln := prt_len hv
  have hro : (p.roles.length : Int) = 2 := by rw [hrl]; rfl
  have hon := once_c p.roles
  rw [show onceB p.roles = true by rw [hrl]; decide] at hon
  have hvt := tu_ok hv
  have hBt := tu_big hB
  have c1 := tmay_c (tuL p) hBt
  rw [hvt] at c1
  have c2 := gtrim_c p hB
  rw [trimPL, if_pos hv] at c2
  have c3 := ttrim_c (tuL p) hBt
  rw [trimL, if_pos hvt] at c3
  have c4 := greach_c p hB
  rw [reachP, if_pos hv] at c4
  have c5 := treach_c (tuL p) hBt
  rw [reachL, if_pos hvt, tuL_g] at c5
  have c6 := sameInts7_c (reachG p.g) (reachG p.g)
  rw [decide_eq_true rfl] at c6
  have hs1 : (trimP p).points.length = (reachG p.g).length := by simp [trimP]
  have hs2 : (trimT (tuL p)).turns.length = (reachG p.g).length := by simp [trimT, tuL_g]
  have hsa : ∀ k (h : k < (reachG p.g).length), ∃ x t, (trimP p).points[k]? = some x ∧ (trimT (tuL p)).turns[k]? = some t ∧ x.arms = t.arms := fun k h => by
    obtain ⟨t, h1, h2⟩ := trim_tu (p := p) k h
    refine ⟨tpt p (reachG p.g) (reachG p.g)[k], t, ?_, h1, by rw [h2]; rfl⟩
    unfold trimP
    rw [List.getElem?_map, List.getElem?_eq_getElem h]; rfl
  have hrwl : (reachG p.g).length ≤ p.points.length := by
    obtain ⟨hgg, h0, _⟩ := prt_g hv
    have h1 := (reach_ok hgg h0).1.len
    rwa [show p.g.length = p.points.length by simp [Prt.g]] at h1
  have hwk := fun w => walk_tu hv w
  have w1 := fun w => gwalk_c p hB w
  have w2 := fun w => twalk_c (tuL p) hBt w
  obtain ⟨s, hs⟩ : ∃ s, s = trimP p := ⟨_, rfl⟩
  obtain ⟨t, ht⟩ : ∃ t, t = trimT (tuL p) := ⟨_, rfl⟩
  obtain ⟨row, hrow⟩ : ∃ r, r = reachG p.g := ⟨_, rfl⟩
  rw [← hs] at c2 hs1 hsa
  rw [← ht] at c3 hs2 hsa
  rw [← hrow] at c4 c5 c6 hs1 hs2 hsa hrwl
  have hst : (s.points.length : Int) = (t.turns.length : Int) := by omega
  clear hs ht hrow hp
  refine con_of (c := _) Try.func11 rfl rfl rfl (by decide) fun w M0 H Z => ?_
  refine g_len 0 rfl fun hll => ?_
  simp only [List.length_map] at hll
  refine g_len 1 rfl fun hl1 => ?_
  simp only [List.length_map] at hl1
  repeat' (first
   | refine gc_ rfl ?_
   | (refine g_region ?_; refine run_ th rfl ?_)
   | (refine g_drawC mix rfl rfl ?_; refine drun_ th rfl ?_)
   | (refine g_drawEC mix rfl rfl ?_; refine erun_ th rfl ?_)
   | refine SOps.nil ?_
   | refine DOps.nil ?_
   | refine EOps.nil ?_ rfl rfl
   | (refine s_split rfl rfl (fun hb => ?_) (fun hb => ?_) <;> (try simp only [hbL] at hb) <;> first | (exfalso; omega) | refine run_ th rfl ?_)
   | (refine d_split rfl rfl rfl (fun hb => ?_) (fun hb => ?_) <;> (try simp only [hbL] at hb) <;> first | (exfalso; omega) | refine drun_ th rfl ?_)
   | (refine g_if rfl (fun hb => ?_) (fun hb => ?_) <;> (try simp only [hbL] at hb) <;> (try (exfalso; omega)))
   | (refine s_call first7_c [] rfl rfl rfl rfl rfl rfl rfl rfl rfl rfl ?_; refine run_ th rfl ?_)
   | (refine s_call giv7_c [] rfl rfl rfl rfl rfl rfl rfl rfl rfl rfl ?_; refine run_ th rfl ?_)
   | (refine s_appendF th rfl rfl rfl rfl rfl rfl rfl rfl rfl rfl rfl rfl rfl rfl (by constructor <;> simp <;> omega) ?_; refine s_freeze 22 rfl rfl ?_; refine run_ th rfl ?_)
   | (refine s_call hpr [] rfl rfl rfl rfl rfl rfl rfl rfl rfl rfl ?_; refine run_ th rfl ?_))
  refine g_adoptB 6 1 200 56 3 rfl rfl rfl rfl ?_
  refine g_loop1 (fun i : Nat => i ≤ p.points.length)
    (fun i => [(1, .v (C1 (intsT l))), (5, .v (.one (.ptr 5 0))), (6, .v (.one (.ptr 6 0))), (7, .v (C1 (.int .i64 (i : Int))))])
    (fun i => [(5, .box [.c (.str p.name), .c (namesT p.roles), .c (pointsC p.points)]), (6, .box [.c (.str ⟨#[112]⟩), .own 200]), (200, .arr false 56 3 (((p.points.take i).map tuT).map Trn.cs))])
    (fun i => p.points.length - i) 0 (Nat.zero_le _)
    (fun a w h => h.sub (by exact ⟨⟨_, rfl, .refl _⟩, ⟨_, rfl, .refl _⟩, ⟨_, rfl, .refl _⟩, ⟨_, rfl, le_int rfl⟩, trivial⟩) (by exact ⟨⟨_, rfl, .refl _⟩, ⟨_, rfl, .refl _⟩, ⟨_, rfl, le_arr rfl⟩, trivial⟩) rfl rfl rfl) (fun i hi ih => ?_)
  by_cases hlt : i < p.points.length
  · have hx : (p.points.map Pnt.cs)[i]? = some (p.points[i]).cs := by simp [hlt]
    have hsn : ((p.points.take (i + 1)).map tuT).map Trn.cs = ((p.points.take i).map tuT).map Trn.cs ++ [(tuT p.points[i]).cs] := by
      rw [List.take_succ_eq_append_getElem hlt, List.map_append, List.map_append]; rfl
    have htk : (p.points.take i).length = i := by simp; omega
    have hih := ih (i + 1) hlt (by omega)
    rw [hsn] at hih
    obtain ⟨x, hxx⟩ : ∃ x, x = p.points[i] := ⟨_, rfl⟩
    rw [← hxx] at hx hih
    clear hxx hsn
    repeat' (first
     | (refine g_atR 13 rfl ?_; refine g_drawF (ι := Unit) [3, 5] [9] (fun _ _ => []) (tuMM _ [.c (.int .i64 1), .c (.str ⟨#[]⟩), .c (armsC x.arms)] [.c (.int .i64 1), .c (.str x.to), .c (armsC x.arms)]) () mix rfl (fun k x hk => by match k, hk with | 0, _ => (refine subG_spec ?_; repeat (first | exact trivial | refine ⟨rfl, ?_⟩)) | 1, _ => (refine subG_spec ?_; repeat (first | exact trivial | refine ⟨rfl, ?_⟩))) rfl (fun _ _ => rfl) rfl rfl (by simp) rfl rfl ?_; refine frun_ th rfl ?_)
     | (refine g_atR 10 rfl ?_; refine g_drawF (ι := Unit) [3, 5] [9] (fun _ _ => []) (tuMM _ [.c (.int .i64 2), .c (.str ⟨#[]⟩), .c (armsC x.arms)] [.c (.int .i64 2), .c (.str x.from_), .c (armsC x.arms)]) () mix rfl (fun k x hk => by match k, hk with | 0, _ => (refine subG_spec ?_; repeat (first | exact trivial | refine ⟨rfl, ?_⟩)) | 1, _ => (refine subG_spec ?_; repeat (first | exact trivial | refine ⟨rfl, ?_⟩))) rfl (fun _ _ => rfl) rfl rfl (by simp) rfl rfl ?_; refine frun_ th rfl ?_)
     | refine gc_ rfl ?_
     | (refine g_region ?_; refine run_ th rfl ?_)
     | (refine g_drawC mix rfl rfl ?_; refine drun_ th rfl ?_)
     | (refine g_drawEC mix rfl rfl ?_; refine erun_ th rfl ?_)
     | refine SOps.nil ?_
     | refine DOps.nil ?_
     | refine EOps.nil ?_ rfl rfl
     | (refine s_split rfl rfl (fun hb => ?_) (fun hb => ?_) <;> (try simp only [hbL] at hb) <;> first | (exfalso; omega) | refine run_ th rfl ?_)
     | (refine d_split rfl rfl rfl (fun hb => ?_) (fun hb => ?_) <;> (try simp only [hbL] at hb) <;> first | (exfalso; omega) | refine drun_ th rfl ?_)
     | (refine g_if rfl (fun hb => ?_) (fun hb => ?_) <;> (try simp only [hbL] at hb) <;> (try (exfalso; omega)))
     | (refine FOps.nil ⟨Effs.cons rfl (fun x => ?_) (Effs.cons rfl (fun x => ?_) Effs.nil), fun x => ?_⟩)
     | exact ef_store (i := 9) th rfl rfl rfl rfl rfl rfl rfl rfl rfl rfl rfl rfl
     | (refine s_idx th rfl rfl rfl rfl rfl rfl rfl rfl rfl i _ rfl hx ?_; refine run_ th rfl ?_)
     | (refine s_anyB 6 1 rfl ?_; refine s_append th rfl rfl rfl rfl rfl rfl rfl rfl rfl rfl rfl rfl rfl rfl rfl (by constructor <;> simp [htk] <;> omega) ?_; refine run_ th rfl ?_)
     | (refine s_add rfl rfl rfl rfl rfl rfl (by omega) ?_; refine run_ th rfl ?_))
    all_goals first
      | rw [tu_end (by assumption)] at hih
      | rw [tu_a (by assumption) (by assumption)] at hih
      | rw [tu_b (by assumption) (by assumption)] at hih
    all_goals exact g_sub (by exact ⟨⟨_, rfl, .refl _⟩, ⟨_, rfl, .refl _⟩, ⟨_, rfl, .refl _⟩, ⟨_, rfl, le_int (by omega)⟩, trivial⟩) (by exact ⟨⟨_, rfl, .refl _⟩, ⟨_, rfl, .refl _⟩, ⟨_, rfl, .refl _⟩, trivial⟩) rfl rfl rfl hih
  rw [show p.points.take i = p.points from List.take_of_length_le (by omega)]
  repeat' (first
   | (refine g_atR 15 rfl ?_; refine g_freeze 200 rfl rfl ?_)
   | refine gc_ rfl ?_
   | (refine g_region ?_; refine run_ th rfl ?_)
   | (refine g_drawC mix rfl rfl ?_; refine drun_ th rfl ?_)
   | (refine g_drawEC mix rfl rfl ?_; refine erun_ th rfl ?_)
   | refine SOps.nil ?_
   | refine DOps.nil ?_
   | refine EOps.nil ?_ rfl rfl
   | (refine s_split rfl rfl (fun hb => ?_) (fun hb => ?_) <;> (try simp only [hbL] at hb) <;> first | (exfalso; omega) | refine run_ th rfl ?_)
   | (refine d_split rfl rfl rfl (fun hb => ?_) (fun hb => ?_) <;> (try simp only [hbL] at hb) <;> first | (exfalso; omega) | refine drun_ th rfl ?_)
   | (refine g_if rfl (fun hb => ?_) (fun hb => ?_) <;> (try simp only [hbL] at hb) <;> (try (exfalso; omega))))
  refine g_adopt 10 201 9 1 rfl rfl rfl ?_
  refine g_loop1 (fun k : Nat => k ≤ l.length ∧ k ≤ 20)
    (fun k => [(1, .v (C1 (intsT l))), (5, .v (.one (.ptr 5 0))), (6, .v (.one (.ptr 6 0))), (10, .v (.one (.own 201))), (11, .v (C1 (.int .i64 (k : Int))))])
    (fun k => [(5, .box [.c (.str p.name), .c (namesT p.roles), .c (pointsC p.points)]), (6, .box ((tuL p).cs.map SC.c)), (201, .arr false 9 1 ((wayU l k).map fun s => [CT.str s]))])
    (fun k => l.length - k) 0 ⟨Nat.zero_le _, by omega⟩
    (fun a w h => h.sub (by exact ⟨⟨_, rfl, .refl _⟩, ⟨_, rfl, .refl _⟩, ⟨_, rfl, .refl _⟩, ⟨_, rfl, .refl _⟩, ⟨_, rfl, le_int rfl⟩, trivial⟩) (by exact ⟨⟨_, rfl, .refl _⟩, ⟨_, rfl, .refl _⟩, ⟨_, rfl, .refl _⟩, trivial⟩) rfl rfl rfl) (fun k hk ih => ?_)
  obtain ⟨hk, hk2⟩ := hk
  by_cases hlt : k < l.length ∧ k < 20
  · obtain ⟨hlt, hlt2⟩ := hlt
    have hx : (l.map fun r => [CT.int .i64 r])[k]? = some [.int .i64 l[k]] := by simp [hlt]
    have hru := remU (x := l[k]) (n := 4) (by omega) (by omega)
    have hwl := wayU_len hk
    have hwn := wayU_snoc hlt
    have hih := ih (k + 1) ⟨hlt, by omega⟩ (by omega)
    repeat' (first
     | refine gc_ rfl ?_
     | (refine g_region ?_; refine run_ th rfl ?_)
     | (refine g_drawC mix rfl rfl ?_; refine drun_ th rfl ?_)
     | (refine g_drawEC mix rfl rfl ?_; refine erun_ th rfl ?_)
     | refine SOps.nil ?_
     | refine DOps.nil ?_
     | refine EOps.nil ?_ rfl rfl
     | (refine s_split rfl rfl (fun hb => ?_) (fun hb => ?_) <;> (try simp only [hbL] at hb) <;> first | (exfalso; omega) | refine run_ th rfl ?_)
     | (refine d_split rfl rfl rfl (fun hb => ?_) (fun hb => ?_) <;> (try simp only [hbL] at hb) <;> first | (exfalso; omega) | refine drun_ th rfl ?_)
     | (refine g_if rfl (fun hb => ?_) (fun hb => ?_) <;> (try simp only [hbL] at hb) <;> (try (exfalso; omega)))
     | (refine s_idx th rfl rfl rfl rfl rfl rfl rfl rfl rfl k _ rfl hx ?_; refine run_ th rfl ?_)
     | (refine s_rem rfl rfl rfl rfl rfl rfl (by decide) ?_; refine run_ th rfl ?_)
     | (refine s_freeze 76 rfl rfl ?_; refine s_idx th rfl rfl rfl rfl rfl rfl rfl rfl rfl ((IntKind.u64.wrap l[k]).tmod 4).toNat _ (by omega) (labU_get l[k]) ?_; refine run_ th rfl ?_)
     | (refine s_append th rfl rfl rfl rfl rfl rfl rfl rfl rfl rfl rfl rfl rfl rfl rfl (by constructor <;> simp [hwl] <;> omega) ?_; rw [hwn]; refine run_ th rfl ?_)
     | (refine s_add rfl rfl rfl rfl rfl rfl (by omega) ?_; refine run_ th rfl ?_))
    all_goals exact g_sub (by exact ⟨⟨_, rfl, .refl _⟩, ⟨_, rfl, .refl _⟩, ⟨_, rfl, .refl _⟩, ⟨_, rfl, .refl _⟩, ⟨_, rfl, le_int (by omega)⟩, trivial⟩) (by exact ⟨⟨_, rfl, .refl _⟩, ⟨_, rfl, .refl _⟩, ⟨_, rfl, .refl _⟩, trivial⟩) rfl rfl rfl hih
  have hu1 := w1 (wayU l k)
  have hu2 := w2 (wayU l k)
  obtain ⟨xw, bw, e1, e2⟩ := hwk (wayU l k)
  rw [e1] at hu1
  rw [e2] at hu2
  clear ih hwk w1 w2 e1 e2
  repeat' (first
   | (refine g_atR 20 rfl ?_; refine g_freeze 201 rfl rfl ?_)
   | refine gc_ rfl ?_
   | (refine g_region ?_; refine run_ th rfl ?_)
   | (refine g_drawC mix rfl rfl ?_; refine drun_ th rfl ?_)
   | (refine g_drawEC mix rfl rfl ?_; refine erun_ th rfl ?_)
   | refine SOps.nil ?_
   | refine DOps.nil ?_
   | refine EOps.nil ?_ rfl rfl
   | (refine s_split rfl rfl (fun hb => ?_) (fun hb => ?_) <;> (try simp only [hbL] at hb) <;> first | (exfalso; omega) | refine run_ th rfl ?_)
   | (refine d_split rfl rfl rfl (fun hb => ?_) (fun hb => ?_) <;> (try simp only [hbL] at hb) <;> first | (exfalso; omega) | refine drun_ th rfl ?_)
   | (refine g_if rfl (fun hb => ?_) (fun hb => ?_) <;> (try simp only [hbL] at hb) <;> (try (exfalso; omega)))
   | (refine s_call hu1 [] rfl rfl rfl rfl rfl rfl rfl rfl rfl rfl ?_; refine run_ th rfl ?_)
   | (refine s_call hu2 [] rfl rfl rfl rfl rfl rfl rfl rfl rfl rfl ?_; refine run_ th rfl ?_)
   | (refine e_call c2 rfl rfl rfl rfl rfl rfl rfl ?_; refine erun_ th rfl ?_)
   | (refine e_call c3 rfl rfl rfl rfl rfl rfl rfl ?_; refine erun_ th rfl ?_)
   | (refine d_call c1 [] rfl rfl rfl rfl rfl rfl rfl rfl rfl rfl rfl ?_; refine drun_ th rfl ?_)
   | (refine d_call c4 [] rfl rfl rfl rfl rfl rfl rfl rfl rfl rfl rfl ?_; refine drun_ th rfl ?_)
   | (refine d_call c5 [] rfl rfl rfl rfl rfl rfl rfl rfl rfl rfl rfl ?_; refine drun_ th rfl ?_)
   | (refine d_call c6 [] rfl rfl rfl rfl rfl rfl rfl rfl rfl rfl rfl ?_; refine drun_ th rfl ?_))
  all_goals first
    | (exfalso; simp only [List.length_map] at hb; omega)
    | (exfalso; revert hb; simp; done)
    | skip
  all_goals
    refine g_loop1 (fun i : Nat => i ≤ row.length)
      (fun i => [(5, .v (.one (.ptr 5 0))), (16, .v (.one (.ptr 16 0))), (17, .v (.one (.ptr 17 0))), (18, .v (C1 (.int .i64 (i : Int))))])
      (fun _ => [(5, .box [.c (.str p.name), .c (namesT p.roles), .c (pointsC p.points)]), (16, .box (s.cs.map SC.c)), (17, .box (t.cs.map SC.c))])
      (fun i => row.length - i) 0 (Nat.zero_le _)
      (fun a w h => h.sub (by exact ⟨⟨_, rfl, .refl _⟩, ⟨_, rfl, .refl _⟩, ⟨_, rfl, .refl _⟩, ⟨_, rfl, le_int rfl⟩, trivial⟩) (by exact ⟨⟨_, rfl, .refl _⟩, ⟨_, rfl, .refl _⟩, ⟨_, rfl, .refl _⟩, trivial⟩) rfl rfl rfl) (fun i hi ih => ?_)
    by_cases hli : i < row.length
    · obtain ⟨x, t1, h1, h2, h3⟩ := hsa i hli
      have hx1 : (s.points.map Pnt.cs)[i]? = some x.cs := by rw [List.getElem?_map, h1]; rfl
      have hx2 : (t.turns.map Trn.cs)[i]? = some t1.cs := by rw [List.getElem?_map, h2]; rfl
      have hsm := sameArms_c x.arms t1.arms
      rw [h3, decide_eq_true rfl] at hsm
      rw [show x.cs = [.str x.from_, .str x.to, armsC t1.arms] by rw [← h3]] at hx1
      have hih := ih (i + 1) hli (by omega)
      repeat' (first
       | refine gc_ rfl ?_
       | (refine g_region ?_; refine run_ th rfl ?_)
       | (refine g_drawC mix rfl rfl ?_; refine drun_ th rfl ?_)
       | (refine g_drawEC mix rfl rfl ?_; refine erun_ th rfl ?_)
       | refine SOps.nil ?_
       | refine DOps.nil ?_
       | refine EOps.nil ?_ rfl rfl
       | (refine s_split rfl rfl (fun hb => ?_) (fun hb => ?_) <;> (try simp only [hbL] at hb) <;> first | (exfalso; omega) | refine run_ th rfl ?_)
       | (refine d_split rfl rfl rfl (fun hb => ?_) (fun hb => ?_) <;> (try simp only [hbL] at hb) <;> first | (exfalso; omega) | refine drun_ th rfl ?_)
       | (refine g_if rfl (fun hb => ?_) (fun hb => ?_) <;> (try simp only [hbL] at hb) <;> (try (exfalso; omega)))
       | (refine s_idx th rfl rfl rfl rfl rfl rfl rfl rfl rfl i _ rfl hx1 ?_; refine run_ th rfl ?_)
       | (refine s_idx th rfl rfl rfl rfl rfl rfl rfl rfl rfl i _ rfl hx2 ?_; refine run_ th rfl ?_)
       | (refine d_idx th rfl rfl rfl rfl rfl rfl rfl rfl rfl i _ rfl hx1 ?_; refine drun_ th rfl ?_)
       | (refine d_idx th rfl rfl rfl rfl rfl rfl rfl rfl rfl i _ rfl hx2 ?_; refine drun_ th rfl ?_)
       | (refine s_call hsm [] rfl rfl rfl rfl rfl rfl rfl rfl rfl rfl ?_; refine run_ th rfl ?_)
       | (refine d_call hsm [] rfl rfl rfl rfl rfl rfl rfl rfl rfl rfl rfl ?_; refine drun_ th rfl ?_)
       | (refine s_add rfl rfl rfl rfl rfl rfl (by omega) ?_; refine run_ th rfl ?_))
      all_goals first
        | (exfalso; revert hb; simp; done)
        | (exfalso; simp only [List.length_map] at hb; omega)
        | exact g_sub (by exact ⟨⟨_, rfl, .refl _⟩, ⟨_, rfl, .refl _⟩, ⟨_, rfl, .refl _⟩, ⟨_, rfl, le_int (by omega)⟩, trivial⟩) (by exact ⟨⟨_, rfl, .refl _⟩, ⟨_, rfl, .refl _⟩, ⟨_, rfl, .refl _⟩, trivial⟩) rfl rfl rfl hih
    · skip
      repeat' (first
       | refine gc_ rfl ?_
       | (refine g_region ?_; refine run_ th rfl ?_)
       | (refine g_drawC mix rfl rfl ?_; refine drun_ th rfl ?_)
       | (refine g_drawEC mix rfl rfl ?_; refine erun_ th rfl ?_)
       | refine SOps.nil ?_
       | refine DOps.nil ?_
       | refine EOps.nil ?_ rfl rfl
       | (refine s_split rfl rfl (fun hb => ?_) (fun hb => ?_) <;> (try simp only [hbL] at hb) <;> first | (exfalso; omega) | refine run_ th rfl ?_)
       | (refine d_split rfl rfl rfl (fun hb => ?_) (fun hb => ?_) <;> (try simp only [hbL] at hb) <;> first | (exfalso; omega) | refine drun_ th rfl ?_)
       | (refine g_if rfl (fun hb => ?_) (fun hb => ?_) <;> (try simp only [hbL] at hb) <;> (try (exfalso; omega)))
       | (refine s_call hon [] rfl rfl rfl rfl rfl rfl rfl rfl rfl rfl ?_; refine run_ th rfl ?_))
      all_goals first
        | (exfalso; revert hb; simp; done)
        | (exfalso; simp only [List.length_map] at hb; omega)
        | (refine g_endL th Try.func11 (.inr ⟨_, rfl⟩) rfl rfl rfl ?_ rfl
           exact .refl _)
end Go.Sy
