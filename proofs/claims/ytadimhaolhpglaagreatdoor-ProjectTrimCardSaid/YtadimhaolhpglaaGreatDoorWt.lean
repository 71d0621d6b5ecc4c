/- Contracts: globe.Trim. -/
import Derived.Test.YtadimhaolhpglaaGreatDoorBw3
import Derived.Test.YtadimhaolhpglaaGreatDoorBu4
set_option linter.unusedSimpArgs false
set_option linter.unusedVariables false
set_option linter.unusedSectionVars false
namespace Go.Sy
open Go.Proofs
set_option maxRecDepth 100000
attribute [local irreducible] SOps Goes DOps EOps GOps

theorem cloneSt_c (l : List ByteArray) (hbig : l.length * 16 ≤ 140737488355328) : Con Tryz.prog 81 [] [C1 (namesT l)] (Rv (namesT l)) [] := by
  refine con_of (c := _) Tryz.func81 rfl rfl rfl (by decide) fun w M0 H Z => ?_
  repeat' (first
   | refine gc_ rfl ?_
   | (refine g_region ?_; refine run_ th rfl ?_)
   | (refine g_drawC mix rfl rfl ?_; refine drun_ th rfl ?_)
   | (refine g_drawEC mix rfl rfl ?_; refine erun_ th rfl ?_)
   | refine SOps.nil ?_
   | refine DOps.nil ?_
   | refine EOps.nil ?_ rfl rfl
   | (refine s_split rfl rfl (fun hb => ?_) (fun hb => ?_) <;> (try simp only [hbL] at hb) <;> first | (exfalso; omega) | refine run_ th rfl ?_)
   | (refine d_split rfl rfl rfl (fun hb => ?_) (fun hb => ?_) <;> (try simp only [hbL] at hb) <;> first | (exfalso; omega) | refine drun_ th rfl ?_)
   | (refine g_if rfl (fun hb => ?_) (fun hb => ?_) <;> (try simp only [hbL] at hb) <;> (try (exfalso; omega)))
   | refine g_endL th Tryz.func81 (.inr ⟨_, rfl⟩) rfl rfl rfl ?_ rfl
   | (refine s_assignAny rfl rfl rfl rfl ?_; refine run_ th rfl ?_)
   | (refine s_isNil th rfl rfl rfl rfl rfl rfl rfl (fun b hnil => ?_); refine run_ th rfl ?_)
   | (refine s_appendF th rfl rfl rfl rfl rfl rfl rfl rfl rfl rfl rfl rfl rfl rfl (by constructor <;> simp <;> omega) ?_; refine s_freeze 5 rfl rfl ?_; refine run_ th rfl ?_))
  all_goals first
    | exact .refl _
    | (have hl : l = [] := by simpa using hnil hb
       subst hl
       exact .v (.one (.c (.nil 1))))

def trimPL (p : Prt) : Prt := if prtB p then trimP p else zeroP
def tpt (p : Prt) (row : List Int) (x : Int) : Pnt := ⟨(pntAt p x).from_, (pntAt p x).to, movA row (pntAt p x).arms⟩
theorem trim_gr {p : Prt} (k : Nat) (h : k < (reachG p.g).length) : ∃ t : Trn, (trimT (grL p)).turns[k]? = some t ∧ t.arms = movA (reachG p.g) (pntAt p (reachG p.g)[k]).arms := by
  unfold trimT
  rw [grL_g]
  simp only
  rw [List.getElem?_map, List.getElem?_eq_getElem h]
  exact ⟨_, rfl, by simp only; rw [← armsAt_loc, grL_g, armsAt_prt]⟩

set_option maxHeartbeats 8000000 in
theorem gtrim_c (p : Prt) (hB : PrtBig p) : Con Tryz.prog 43 [] [Ag p.cs] (.v (Ag (trimPL p).cs)) [] := by
  have hm := gmay_c p hB
  unfold trimPL
  cases hv : prtB p with
  | false =>
    rw [hv] at hm
    refine con_of (c := _) Tryz.func43 rfl rfl rfl (by decide) fun w M0 H Z => ?_
    repeat' (first
     | refine gc_ rfl ?_
     | (refine g_region ?_; refine run_ th rfl ?_)
     | (refine g_drawC mix rfl rfl ?_; refine drun_ th rfl ?_)
     | (refine g_drawEC mix rfl rfl ?_; refine erun_ th rfl ?_)
     | refine SOps.nil ?_
     | refine DOps.nil ?_
     | refine EOps.nil ?_ rfl rfl
     | (refine s_split rfl rfl (fun hb => ?_) (fun hb => ?_) <;> (try simp only [hbL] at hb) <;> first | (exfalso; omega) | refine run_ th rfl ?_)
     | (refine d_split rfl rfl rfl (fun hb => ?_) (fun hb => ?_) <;> (try simp only [hbL] at hb) <;> first | (exfalso; omega) | refine drun_ th rfl ?_)
     | (refine g_if rfl (fun hb => ?_) (fun hb => ?_) <;> (try simp only [hbL] at hb) <;> (try (exfalso; omega)))
     | refine g_endL th Tryz.func43 (.inr ⟨_, rfl⟩) rfl rfl rfl ?_ rfl
     | (refine s_call hm [] rfl rfl rfl rfl rfl rfl rfl rfl rfl rfl ?_; refine run_ th rfl ?_))
    all_goals first
      | exact .v (.agg (.cons (.refl _) (.cons (.c (.nil 1)) (.cons (.c (.nil 3)) .nil))))
      | (exfalso; revert hb; simp; done)
  | true =>
    rw [hv] at hm
    have hl := prt_len hv
    have hg := graph_c p hl.2.1
    have htr := ttrim_c (grL p) (gr_big hB)
    rw [trimL, if_pos (prt_loc hv)] at htr
    have hr := greach_c p hB
    rw [reachP, if_pos hv] at hr
    obtain ⟨hgg, h0, _⟩ := prt_g hv
    have hgl : p.g.length = p.points.length := by simp [Prt.g]
    have hrow := (reach_ok hgg h0).1
    have hrl := hrow.len
    have hcl := cloneSt_c p.roles (by omega)
    have htg : ∀ k (h : k < (reachG p.g).length), _ := fun k h => trim_gr (p := p) k h
    have hrr : ∀ k (h : k < (reachG p.g).length), 0 ≤ (reachG p.g)[k] ∧ (reachG p.g)[k] < (p.points.length : Int) := fun k h => by
      have := hrow.range _ (List.getElem_mem h)
      rwa [hgl] at this
    have hres : trimP p = ⟨p.name, p.roles, (reachG p.g).map (tpt p (reachG p.g))⟩ := rfl
    rw [if_pos rfl, hres]
    obtain ⟨row, hrw⟩ : ∃ row, row = reachG p.g := ⟨_, rfl⟩
    rw [← hrw] at hr htg hrr hrl ⊢
    clear hrw hres hrow
    obtain ⟨T, hT⟩ : ∃ T, T = trimT (grL p) := ⟨_, rfl⟩
    rw [← hT] at htr htg
    have hTn : T.name = ⟨#[]⟩ := by rw [hT]; rfl
    clear hT
    refine con_of (c := _) Tryz.func43 rfl rfl rfl (by decide) fun w M0 H Z => ?_
    repeat' (first
     | refine gc_ rfl ?_
     | (refine g_region ?_; refine run_ th rfl ?_)
     | (refine g_drawC mix rfl rfl ?_; refine drun_ th rfl ?_)
     | (refine g_drawEC mix rfl rfl ?_; refine erun_ th rfl ?_)
     | refine SOps.nil ?_
     | refine DOps.nil ?_
     | refine EOps.nil ?_ rfl rfl
     | (refine s_split rfl rfl (fun hb => ?_) (fun hb => ?_) <;> (try simp only [hbL] at hb) <;> first | (exfalso; omega) | refine run_ th rfl ?_)
     | (refine d_split rfl rfl rfl (fun hb => ?_) (fun hb => ?_) <;> (try simp only [hbL] at hb) <;> first | (exfalso; omega) | refine drun_ th rfl ?_)
     | (refine g_if rfl (fun hb => ?_) (fun hb => ?_) <;> (try simp only [hbL] at hb) <;> (try (exfalso; omega)))
     | (refine s_call hm [] rfl rfl rfl rfl rfl rfl rfl rfl rfl rfl ?_; refine run_ th rfl ?_)
     | (refine e_call hcl rfl rfl rfl rfl rfl rfl rfl ?_; refine erun_ th rfl ?_)
     | (refine s_call hg [] rfl rfl rfl rfl rfl rfl rfl rfl rfl rfl ?_; refine run_ th rfl ?_)
     | (refine s_call htr [] rfl rfl rfl rfl rfl rfl rfl rfl rfl rfl ?_; refine run_ th rfl ?_)
     | (refine s_call hr [] rfl rfl rfl rfl rfl rfl rfl rfl rfl rfl ?_; refine run_ th rfl ?_))
    refine g_adoptB 3 2 200 59 3 rfl rfl rfl rfl ?_
    refine g_loop1 (fun k : Nat => k ≤ row.length)
      (fun k => [(1, .v (.one (.ptr 1 0))), (2, .v (.one (.ptr 2 0))), (3, .v (.one (.ptr 3 0))), (4, .v (.one (.ptr 4 0))), (22, .v (C1 (intsT row))), (23, .v (C1 (.int .i64 (row.length : Int)))), (24, .v (C1 (.int .i64 (k : Int))))])
      (fun k => [(1, .box (p.cs.map SC.c)), (2, .box [.c (.str ⟨#[]⟩), .c .nils, .c .nils]), (3, .box [.c (.str p.name), .c (namesT p.roles), .own 200]), (4, .box (T.cs.map SC.c)), (200, .arr false 59 3 (((row.take k).map (tpt p row)).map Pnt.cs))])
      (fun k => row.length - k) 0 (Nat.zero_le _)
      (fun a w h => h.sub (by exact ⟨⟨_, rfl, .refl _⟩, ⟨_, rfl, .refl _⟩, ⟨_, rfl, .refl _⟩, ⟨_, rfl, .refl _⟩, ⟨_, rfl, .refl _⟩, ⟨_, rfl, le_int (by simp)⟩, ⟨_, rfl, le_int rfl⟩, trivial⟩) (by exact ⟨⟨_, rfl, .refl _⟩, ⟨_, rfl, .refl _⟩, ⟨_, rfl, .refl _⟩, ⟨_, rfl, .refl _⟩, ⟨_, rfl, le_arr rfl⟩, trivial⟩) rfl rfl rfl) (fun k hk ih => ?_)
    by_cases hlt : k < row.length
    · have hx : (row.map fun r => [CT.int .i64 r])[k]? = some [.int .i64 row[k]] := by simp [hlt]
      obtain ⟨t, ht1, ht2⟩ := htg k hlt
      have hxt : (T.turns.map Trn.cs)[k]? = some t.cs := by rw [List.getElem?_map, ht1]; rfl
      obtain ⟨hr0, hr1⟩ := hrr k hlt
      have hyl : row[k].toNat < p.points.length := by omega
      have hxp : (p.points.map Pnt.cs)[row[k].toNat]? = some (p.points[row[k].toNat]).cs := by simp [hyl]
      have hpa : pntAt p row[k] = p.points[row[k].toNat] := by unfold pntAt; rw [List.getD_eq_getElem?_getD, List.getElem?_eq_getElem hyl]; rfl
      have hsn : ((row.take (k + 1)).map (tpt p row)).map Pnt.cs = ((row.take k).map (tpt p row)).map Pnt.cs ++ [[.str (p.points[row[k].toNat]).from_, .str (p.points[row[k].toNat]).to, armsC t.arms]] := by
        rw [List.take_succ_eq_append_getElem hlt, List.map_append, List.map_append, ht2, ← hpa]; rfl
      have htk : (row.take k).length = k := by simp; omega
      have hih := ih (k + 1) hlt (by omega)
      rw [hsn] at hih
      repeat' (first
       | refine gc_ rfl ?_
       | (refine g_region ?_; refine run_ th rfl ?_)
       | (refine g_drawC mix rfl rfl ?_; refine drun_ th rfl ?_)
       | (refine g_drawEC mix rfl rfl ?_; refine erun_ th rfl ?_)
       | refine SOps.nil ?_
       | refine DOps.nil ?_
       | refine EOps.nil ?_ rfl rfl
       | (refine s_split rfl rfl (fun hb => ?_) (fun hb => ?_) <;> (try simp only [hbL] at hb) <;> first | (exfalso; omega) | refine run_ th rfl ?_)
       | (refine d_split rfl rfl rfl (fun hb => ?_) (fun hb => ?_) <;> (try simp only [hbL] at hb) <;> first | (exfalso; omega) | refine drun_ th rfl ?_)
       | (refine g_if rfl (fun hb => ?_) (fun hb => ?_) <;> (try simp only [hbL] at hb) <;> (try (exfalso; omega)))
       | (refine s_idx th rfl rfl rfl rfl rfl rfl rfl rfl rfl k _ rfl hx ?_; refine run_ th rfl ?_)
       | (refine s_idx th rfl rfl rfl rfl rfl rfl rfl rfl rfl row[k].toNat _ (by omega) hxp ?_; refine run_ th rfl ?_)
       | (refine s_idx th rfl rfl rfl rfl rfl rfl rfl rfl rfl k _ rfl hxt ?_; refine run_ th rfl ?_)
       | (refine s_anyB 3 2 rfl ?_; refine s_append th rfl rfl rfl rfl rfl rfl rfl rfl rfl rfl rfl rfl rfl rfl rfl (by constructor <;> simp [htk] <;> omega) ?_; refine run_ th rfl ?_)
       | (refine s_add rfl rfl rfl rfl rfl rfl (by omega) ?_; refine run_ th rfl ?_))
      all_goals exact g_sub (by exact ⟨⟨_, rfl, .refl _⟩, ⟨_, rfl, .refl _⟩, ⟨_, rfl, .refl _⟩, ⟨_, rfl, .refl _⟩, ⟨_, rfl, .refl _⟩, ⟨_, rfl, .refl _⟩, ⟨_, rfl, le_int (by omega)⟩, trivial⟩) (by exact ⟨⟨_, rfl, .refl _⟩, ⟨_, rfl, .refl _⟩, ⟨_, rfl, .refl _⟩, ⟨_, rfl, .refl _⟩, ⟨_, rfl, .refl _⟩, trivial⟩) rfl rfl rfl hih
    · rw [show row.take k = row from List.take_of_length_le (by omega)]
      repeat' (first
       | (refine g_atR 12 rfl ?_; refine g_freeze 200 rfl rfl ?_)
       | refine gc_ rfl ?_
       | (refine g_region ?_; refine run_ th rfl ?_)
       | (refine g_drawC mix rfl rfl ?_; refine drun_ th rfl ?_)
       | (refine g_drawEC mix rfl rfl ?_; refine erun_ th rfl ?_)
       | refine SOps.nil ?_
       | refine DOps.nil ?_
       | refine EOps.nil ?_ rfl rfl
       | (refine s_split rfl rfl (fun hb => ?_) (fun hb => ?_) <;> (try simp only [hbL] at hb) <;> first | (exfalso; omega) | refine run_ th rfl ?_)
       | (refine d_split rfl rfl rfl (fun hb => ?_) (fun hb => ?_) <;> (try simp only [hbL] at hb) <;> first | (exfalso; omega) | refine drun_ th rfl ?_)
       | (refine g_if rfl (fun hb => ?_) (fun hb => ?_) <;> (try simp only [hbL] at hb) <;> (try (exfalso; omega))))
      refine g_endL th Tryz.func43 (.inr ⟨_, rfl⟩) rfl rfl rfl ?_ rfl
      exact .refl _
end Go.Sy
