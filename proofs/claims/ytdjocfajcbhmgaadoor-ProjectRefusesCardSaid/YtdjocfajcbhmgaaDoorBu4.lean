/- Contracts of the reference, bundle Bu4. -/
import Derived.Test.YtdjocfajcbhmgaaDoorBu3
import Derived.Test.YtdjocfajcbhmgaaDoorBu1
import Derived.Test.YtdjocfajcbhmgaaDoorBn1
import Derived.Test.YtdjocfajcbhmgaaDoorBl1
set_option linter.unusedSimpArgs false
set_option linter.unusedVariables false
set_option linter.unusedSectionVars false
namespace Go.Sy
open Go.Proofs
set_option maxRecDepth 100000
attribute [local irreducible] SOps Goes DOps EOps
def zeroLoc : Loc := ⟨⟨#[]⟩, []⟩
def trimL (l : Loc) : Loc := if locB l then trimT l else zeroLoc
theorem set_mid {α β : Type} (f : α → α) (g : α → β) (l : List α) (m : Nat) (hm : m < l.length) :
    (((l.take m).map f ++ l.drop m).map g).set m (g (f l[m])) = ((l.take (m + 1)).map f ++ l.drop (m + 1)).map g := by
  rw [← List.map_set]
  congr 1
  rw [List.set_append_right _ _ (by simp; omega), List.take_succ_eq_append_getElem hm, List.map_append, List.append_assoc]
  congr 1
  have : m - ((l.take m).map f).length = 0 := by simp; omega
  rw [this, List.drop_eq_getElem_cons hm]
  rfl
theorem mid_get {α β : Type} (f : α → α) (g : α → β) (l : List α) (m : Nat) (hm : m < l.length) : (((l.take m).map f ++ l.drop m).map g)[m]? = some (g l[m]) := by
  rw [List.getElem?_map, List.getElem?_append_right (by simp; omega), List.getElem?_drop]
  have : m + (m - ((l.take m).map f).length) = m := by simp; omega
  rw [this, List.getElem?_eq_getElem hm]; rfl
theorem num_plc {row : List Int} {x : Int} (h : x ∈ row) : lookC (numM row) x (.int .i64 0) = .int .i64 (plc row x) := by
  rw [num_look, numI, if_pos h]; rfl
def trimT1 (l : Loc) (x : Int) : Trn := ⟨(trnAt l x).kind, (trnAt l x).peer, movA (reachG l.g) (trnAt l x).arms⟩
set_option maxHeartbeats 8000000 in
theorem ttrim_c (l : Loc) (hs : LocBig l) : Con Tryd.prog 26 [] [Ag l.cs] (.v (Ag (trimL l).cs)) [] := by
  refine con_of (c := _) Tryd.func26 rfl rfl rfl (by decide) fun w M0 H Z => ?_
  repeat' (first
   | refine gc_ rfl ?_
   | (refine g_region ?_; refine run_ th rfl ?_)
   | (refine g_drawC mix rfl rfl ?_; refine drun_ th rfl ?_)
   | (refine g_drawEC mix rfl rfl ?_; refine erun_ th rfl ?_)
   | refine SOps.nil ?_
   | refine DOps.nil ?_
   | refine EOps.nil ?_ rfl rfl
   | (refine s_split rfl rfl (fun hb => ?_) (fun hb => ?_) <;> (try simp only [hbL] at hb) <;> first | (exfalso; omega) | refine run_ th rfl ?_)
   | (refine d_split rfl rfl rfl (fun hb => ?_) (fun hb => ?_) <;> (try simp only [hbL] at hb) <;> first | (exfalso; omega) | refine drun_ th rfl ?_)
   | (refine g_if rfl (fun hb => ?_) (fun hb => ?_) <;> (try simp only [hbL] at hb) <;> (try (exfalso; omega)))
   | refine g_endL th Tryd.func26 (.inr ⟨_, rfl⟩) rfl rfl rfl ?_ rfl
   | (refine s_call (tmay_c l hs) [] rfl rfl rfl rfl rfl rfl rfl rfl rfl rfl ?_; refine run_ th rfl ?_)
   | (refine s_call (treach_c l hs) [] rfl rfl rfl rfl rfl rfl rfl rfl rfl rfl ?_; refine run_ th rfl ?_))
  · rw [show trimL l = zeroLoc by unfold trimL; rw [hb]; rfl]
    exact .v (.agg (.cons (.refl _) (.cons (.c (.nil 3)) .nil)))
  have hv := hb
  obtain ⟨hg, h0, hu⟩ := loc_g hv
  have hn40 := (loc_len hv).2
  have hgl : l.g.length = l.turns.length := by simp [Loc.g]
  obtain ⟨hrow, _⟩ := reach_ok hg h0
  have hrl := hrow.len
  have hre : reachL l = reachG l.g := by unfold reachL; rw [if_pos hv]
  have htr : trimL l = ⟨l.name, (reachG l.g).map (trimT1 l)⟩ := by unfold trimL; rw [if_pos hv]; rfl
  have hnx : ∀ x ∈ reachG l.g, ∀ a ∈ risA (trnAt l x).arms, a.next ∈ reachG l.g := fun x hx a ha => reach_next hg h0 hx (by rw [armsAt_loc]; exact risA_mem.1 ha)
  obtain ⟨row, hrw⟩ : ∃ row, row = reachG l.g := ⟨_, rfl⟩
  rw [hre]
  have htr1 : ∀ x, trimT1 l x = ⟨(trnAt l x).kind, (trnAt l x).peer, movA row (trnAt l x).arms⟩ := fun x => by rw [hrw]; rfl
  rw [← hrw] at hrow hrl htr hnx ⊢
  refine g_loop1 (fun k : Nat => k ≤ row.length)
    (fun k => [(1, .v (.one (.ptr 1 0))), (2, .v (.one (.ptr 2 0))), (3, .v (C1 (intsT row))), (4, .v (.one (.mp 18))), (19, .v (C1 (intsT row))), (20, .v (C1 (.int .i64 (row.length : Int)))), (21, .v (C1 (.int .i64 (k : Int))))])
    (fun k => [(18, .mpo (entF intF (numM (row.take k)))), (2, .box [.c (.str ⟨#[]⟩), .c .nils]), (1, .box (l.cs.map SC.c))])
    (fun k => row.length - k) 0 (Nat.zero_le _)
    (fun a w h => h.sub (by exact ⟨⟨_, rfl, .refl _⟩, ⟨_, rfl, .refl _⟩, ⟨_, rfl, .refl _⟩, ⟨_, rfl, .refl _⟩, ⟨_, rfl, .refl _⟩, ⟨_, rfl, le_int (by simp)⟩, ⟨_, rfl, le_int rfl⟩, trivial⟩) (by exact ⟨⟨_, rfl, .refl _⟩, ⟨_, rfl, .refl _⟩, ⟨_, rfl, .refl _⟩, trivial⟩) rfl rfl rfl) (fun k hk ih => ?_)
  by_cases hlt : k < row.length
  · have hx : (row.map fun r => [CT.int .i64 r])[k]? = some [.int .i64 row[k]] := by simp [hlt]
    have hnew : row[k] ∉ row.take k := fun hm => by
      obtain ⟨j, hj, e⟩ := List.mem_iff_getElem.1 hm
      have hj' : j < k := by simp at hj; omega
      rw [List.getElem_take] at e
      have := (List.getElem_inj hrow.nodup).1 e
      omega
    have hput : putC (numM (row.take k)) row[k] (.int .i64 (k : Int)) = numM (row.take (k + 1)) := by
      have := num_put hnew
      rw [List.length_take, Nat.min_eq_left hk] at this
      rw [this, List.take_succ_eq_append_getElem hlt]
    repeat' (first
     | refine gc_ rfl ?_
     | (refine g_region ?_; refine run_ th rfl ?_)
     | (refine g_drawC mix rfl rfl ?_; refine drun_ th rfl ?_)
     | (refine g_drawEC mix rfl rfl ?_; refine erun_ th rfl ?_)
     | refine SOps.nil ?_
     | refine DOps.nil ?_
     | refine EOps.nil ?_ rfl rfl
     | (refine s_split rfl rfl (fun hb => ?_) (fun hb => ?_) <;> (try simp only [hbL] at hb) <;> first | (exfalso; omega) | refine run_ th rfl ?_)
     | (refine d_split rfl rfl rfl (fun hb => ?_) (fun hb => ?_) <;> (try simp only [hbL] at hb) <;> first | (exfalso; omega) | refine drun_ th rfl ?_)
     | (refine g_if rfl (fun hb => ?_) (fun hb => ?_) <;> (try simp only [hbL] at hb) <;> (try (exfalso; omega)))
     | (refine s_idx th rfl rfl rfl rfl rfl rfl rfl rfl rfl k _ rfl hx ?_; refine run_ th rfl ?_)
     | (refine s_putI th (m := numM (row.take k)) (.inl rfl) rfl rfl rfl rfl rfl rfl rfl rfl ?_; rw [hput]; refine run_ th rfl ?_)
     | (refine s_add rfl rfl rfl rfl rfl rfl (by omega) ?_; refine run_ th rfl ?_))
    exact g_sub (by exact ⟨⟨_, rfl, .refl _⟩, ⟨_, rfl, .refl _⟩, ⟨_, rfl, .refl _⟩, ⟨_, rfl, .refl _⟩, ⟨_, rfl, .refl _⟩, ⟨_, rfl, .refl _⟩, ⟨_, rfl, le_int (by omega)⟩, trivial⟩) (by exact ⟨⟨_, rfl, .refl _⟩, ⟨_, rfl, .refl _⟩, ⟨_, rfl, .refl _⟩, trivial⟩) rfl rfl rfl (ih (k + 1) hlt (by omega))
  · have hke : k = row.length := by omega
    subst hke
    rw [List.take_length]
    repeat' (first
     | refine gc_ rfl ?_
     | (refine g_region ?_; refine run_ th rfl ?_)
     | (refine g_drawC mix rfl rfl ?_; refine drun_ th rfl ?_)
     | (refine g_drawEC mix rfl rfl ?_; refine erun_ th rfl ?_)
     | refine SOps.nil ?_
     | refine DOps.nil ?_
     | refine EOps.nil ?_ rfl rfl
     | (refine s_split rfl rfl (fun hb => ?_) (fun hb => ?_) <;> (try simp only [hbL] at hb) <;> first | (exfalso; omega) | refine run_ th rfl ?_)
     | (refine d_split rfl rfl rfl (fun hb => ?_) (fun hb => ?_) <;> (try simp only [hbL] at hb) <;> first | (exfalso; omega) | refine drun_ th rfl ?_)
     | (refine g_if rfl (fun hb => ?_) (fun hb => ?_) <;> (try simp only [hbL] at hb) <;> (try (exfalso; omega))))
    refine g_adoptB 7 1 200 55 3 rfl rfl rfl rfl ?_
    refine g_loop1 (fun k : Nat => k ≤ row.length)
      (fun k => [(1, .v (.one (.ptr 1 0))), (2, .v (.one (.ptr 2 0))), (4, .v (.one (.mp 18))), (7, .v (.one (.ptr 7 0))), (33, .v (C1 (intsT row))), (34, .v (C1 (.int .i64 (row.length : Int)))), (35, .v (C1 (.int .i64 (k : Int))))])
      (fun k => [(200, .arr false 55 3 (((row.take k).map (trimT1 l)).map Trn.cs)), (7, .box [.c (.str l.name), .own 200]), (18, .mpo (entF intF (numM row))), (2, .box [.c (.str ⟨#[]⟩), .c .nils]), (1, .box (l.cs.map SC.c))])
      (fun k => row.length - k) 0 (Nat.zero_le _)
      (fun a w h => h.sub (by exact ⟨⟨_, rfl, .refl _⟩, ⟨_, rfl, .refl _⟩, ⟨_, rfl, .refl _⟩, ⟨_, rfl, .refl _⟩, ⟨_, rfl, .refl _⟩, ⟨_, rfl, le_int (by simp)⟩, ⟨_, rfl, le_int rfl⟩, trivial⟩) (by exact ⟨⟨_, rfl, le_arr rfl⟩, ⟨_, rfl, .refl _⟩, ⟨_, rfl, .refl _⟩, ⟨_, rfl, .refl _⟩, ⟨_, rfl, .refl _⟩, trivial⟩) rfl rfl rfl) (fun k hk ih => ?_)
    by_cases hlt : k < row.length
    · have hx : (row.map fun r => [CT.int .i64 r])[k]? = some [.int .i64 row[k]] := by simp [hlt]
      have hxr := hrow.range row[k] (List.getElem_mem hlt)
      rw [hgl] at hxr
      have hti := trnAt_get hxr
      have hnd := trnAt_nodup hv row[k]
      have hnk := hnx row[k] (List.getElem_mem hlt)
      repeat' (first
       | refine gc_ rfl ?_
       | (refine g_region ?_; refine run_ th rfl ?_)
       | (refine g_drawC mix rfl rfl ?_; refine drun_ th rfl ?_)
       | (refine g_drawEC mix rfl rfl ?_; refine erun_ th rfl ?_)
       | refine SOps.nil ?_
       | refine DOps.nil ?_
       | refine EOps.nil ?_ rfl rfl
       | (refine s_split rfl rfl (fun hb => ?_) (fun hb => ?_) <;> (try simp only [hbL] at hb) <;> first | (exfalso; omega) | refine run_ th rfl ?_)
       | (refine d_split rfl rfl rfl (fun hb => ?_) (fun hb => ?_) <;> (try simp only [hbL] at hb) <;> first | (exfalso; omega) | refine drun_ th rfl ?_)
       | (refine g_if rfl (fun hb => ?_) (fun hb => ?_) <;> (try simp only [hbL] at hb) <;> (try (exfalso; omega)))
       | (refine s_idx th rfl rfl rfl rfl rfl rfl rfl rfl rfl k _ rfl hx ?_; refine run_ th rfl ?_)
       | (refine s_idx th rfl rfl rfl rfl rfl rfl rfl rfl rfl (row[k]).toNat _ (by omega) hti ?_; refine run_ th rfl ?_)
       | (refine s_callO (risingO_c (trnAt l row[k]).arms hnd.1 (by omega)) [91] rfl rfl rfl rfl rfl rfl rfl rfl rfl (fun _ => rfl) (fun vA _ => ?_); refine s_ownP 91 210 46 rfl rfl rfl rfl rfl rfl rfl ?_; refine run_ th rfl ?_))
      obtain ⟨rs, hrs⟩ : ∃ rs, rs = risA (trnAt l row[k]).arms := ⟨_, rfl⟩
      rw [← hrs] at hnk
      have hrsl : rs.length ≤ 6 := by rw [hrs, risA_len]; exact hnd.2
      refine g_loop1 (fun m : Nat => m ≤ rs.length)
        (fun m => [(1, .v (.one (.ptr 1 0))), (2, .v (.one (.ptr 2 0))), (4, .v (.one (.mp 18))), (7, .v (.one (.ptr 7 0))), (10, .v (.one (.ptr 10 0))), (33, .v (C1 (intsT row))), (34, .v (C1 (.int .i64 (row.length : Int)))), (35, .v (C1 (.int .i64 (k : Int)))), (50, .v (C1 (.int .i64 (rs.length : Int)))), (51, .v (C1 (.int .i64 (m : Int))))])
        (fun m => [(210, .arr false 27 4 (((rs.take m).map (renA (plc row)) ++ rs.drop m).map Arm.cs)), (10, .box [.c (.int .i64 (trnAt l row[k]).kind), .c (.str (trnAt l row[k]).peer), .own 210]), (200, .arr false 55 3 (((row.take k).map (trimT1 l)).map Trn.cs)), (7, .box [.c (.str l.name), .own 200]), (18, .mpo (entF intF (numM row))), (2, .box [.c (.str ⟨#[]⟩), .c .nils]), (1, .box (l.cs.map SC.c))])
        (fun m => rs.length - m) 0 (Nat.zero_le _)
        (fun a w h => h.sub (by exact ⟨⟨_, rfl, .refl _⟩, ⟨_, rfl, .refl _⟩, ⟨_, rfl, .refl _⟩, ⟨_, rfl, .refl _⟩, ⟨_, rfl, .refl _⟩, ⟨_, rfl, .refl _⟩, ⟨_, rfl, .refl _⟩, ⟨_, rfl, .refl _⟩, ⟨_, rfl, le_int (by rw [hrs]; simp)⟩, ⟨_, rfl, le_int rfl⟩, trivial⟩)
          (by exact ⟨⟨_, rfl, le_arr (by rw [hrs]; rfl)⟩, ⟨_, rfl, .refl _⟩, ⟨_, rfl, .refl _⟩, ⟨_, rfl, .refl _⟩, ⟨_, rfl, .refl _⟩, ⟨_, rfl, .refl _⟩, ⟨_, rfl, .refl _⟩, trivial⟩) rfl rfl rfl) (fun m hm ih2 => ?_)
      by_cases hmt : m < rs.length
      · have hxm := mid_get (renA (plc row)) Arm.cs rs m hmt
        have hset := set_mid (renA (plc row)) Arm.cs rs m hmt
        have hlen : (((rs.take m).map (renA (plc row)) ++ rs.drop m).map Arm.cs).length = rs.length := by simp; omega
        have hlook := num_plc (hnk rs[m] (List.getElem_mem hmt))
        repeat' (first
         | (refine g_drawA mix rfl rfl rfl rfl rfl rfl ?_; refine drun_ th rfl ?_)
         | refine gc_ rfl ?_
         | (refine g_region ?_; refine run_ th rfl ?_)
         | (refine g_drawC mix rfl rfl ?_; refine drun_ th rfl ?_)
         | (refine g_drawEC mix rfl rfl ?_; refine erun_ th rfl ?_)
         | refine SOps.nil ?_
         | refine DOps.nil ?_
         | refine EOps.nil ?_ rfl rfl
         | (refine s_split rfl rfl (fun hb => ?_) (fun hb => ?_) <;> (try simp only [hbL] at hb) <;> first | (exfalso; omega) | refine run_ th rfl ?_)
         | (refine d_split rfl rfl rfl (fun hb => ?_) (fun hb => ?_) <;> (try simp only [hbL] at hb) <;> first | (exfalso; omega) | refine drun_ th rfl ?_)
         | (refine g_if rfl (fun hb => ?_) (fun hb => ?_) <;> (try simp only [hbL] at hb) <;> (try (exfalso; omega)))
         | (refine d_idxo th rfl rfl rfl rfl rfl rfl rfl rfl rfl rfl m rfl (by rw [hlen]; exact hmt) ?_; refine drun_ th rfl ?_)
         | (refine d_loada th _ rfl rfl rfl rfl hxm rfl rfl rfl rfl rfl ?_; refine drun_ th rfl ?_)
         | (refine d_lookI th (m := numM row) rfl rfl rfl rfl rfl rfl rfl rfl rfl rfl rfl rfl ?_; rw [hlook]; refine drun_ th rfl ?_)
         | (refine s_storef th _ rfl rfl rfl rfl hxm rfl rfl rfl rfl rfl rfl rfl ?_; refine run_ th rfl ?_)
         | (refine s_add rfl rfl rfl rfl rfl rfl (by omega) ?_; refine run_ th rfl ?_))
        have hih := ih2 (m + 1) hmt (by omega)
        exact g_sub (by exact ⟨⟨_, rfl, .refl _⟩, ⟨_, rfl, .refl _⟩, ⟨_, rfl, .refl _⟩, ⟨_, rfl, .refl _⟩, ⟨_, rfl, .refl _⟩, ⟨_, rfl, .refl _⟩, ⟨_, rfl, .refl _⟩, ⟨_, rfl, .refl _⟩, ⟨_, rfl, .refl _⟩, ⟨_, rfl, le_int (by omega)⟩, trivial⟩)
          (by exact ⟨⟨_, rfl, le_arr hset⟩, ⟨_, rfl, .refl _⟩, ⟨_, rfl, .refl _⟩, ⟨_, rfl, .refl _⟩, ⟨_, rfl, .refl _⟩, ⟨_, rfl, .refl _⟩, ⟨_, rfl, .refl _⟩, trivial⟩) rfl rfl rfl hih
      · have hme : m = rs.length := by omega
        subst hme
        rw [List.take_length, List.drop_length, List.append_nil]
        have hmv : movA row (trnAt l row[k]).arms = rs.map (renA (plc row)) := by rw [movA_ren, hrs]
        repeat' (first
         | (refine g_freeze 210 rfl rfl ?_)
         | refine gc_ rfl ?_
         | (refine g_region ?_; refine run_ th rfl ?_)
         | (refine g_drawC mix rfl rfl ?_; refine drun_ th rfl ?_)
         | (refine g_drawEC mix rfl rfl ?_; refine erun_ th rfl ?_)
         | refine SOps.nil ?_
         | refine DOps.nil ?_
         | refine EOps.nil ?_ rfl rfl
         | (refine s_split rfl rfl (fun hb => ?_) (fun hb => ?_) <;> (try simp only [hbL] at hb) <;> first | (exfalso; omega) | refine run_ th rfl ?_)
         | (refine d_split rfl rfl rfl (fun hb => ?_) (fun hb => ?_) <;> (try simp only [hbL] at hb) <;> first | (exfalso; omega) | refine drun_ th rfl ?_)
         | (refine g_if rfl (fun hb => ?_) (fun hb => ?_) <;> (try simp only [hbL] at hb) <;> (try (exfalso; omega)))
         | (refine s_anyB 7 1 rfl ?_; refine s_append th rfl rfl rfl rfl rfl rfl rfl rfl rfl rfl rfl rfl rfl rfl rfl (by constructor <;> simp <;> omega) ?_; refine run_ th rfl ?_)
         | (refine s_add rfl rfl rfl rfl rfl rfl (by omega) ?_; refine run_ th rfl ?_))
        have hih := ih (k + 1) hlt (by omega)
        have hsn : ((row.take (k + 1)).map (trimT1 l)).map Trn.cs = ((row.take k).map (trimT1 l)).map Trn.cs ++ [(trimT1 l row[k]).cs] := by
          rw [List.take_succ_eq_append_getElem hlt, List.map_append, List.map_append]; rfl
        rw [hsn, htr1, hmv] at hih
        exact g_sub (by exact ⟨⟨_, rfl, .refl _⟩, ⟨_, rfl, .refl _⟩, ⟨_, rfl, .refl _⟩, ⟨_, rfl, .refl _⟩, ⟨_, rfl, .refl _⟩, ⟨_, rfl, .refl _⟩, ⟨_, rfl, le_int (by omega)⟩, trivial⟩)
          (by exact ⟨⟨_, rfl, le_arr rfl⟩, ⟨_, rfl, .refl _⟩, ⟨_, rfl, .refl _⟩, ⟨_, rfl, .refl _⟩, ⟨_, rfl, .refl _⟩, trivial⟩) rfl rfl rfl hih
    · have hke : k = row.length := by omega
      subst hke
      rw [List.take_length]
      repeat' (first
       | refine gc_ rfl ?_
       | (refine g_region ?_; refine run_ th rfl ?_)
       | (refine g_drawC mix rfl rfl ?_; refine drun_ th rfl ?_)
       | (refine g_drawEC mix rfl rfl ?_; refine erun_ th rfl ?_)
       | refine SOps.nil ?_
       | refine DOps.nil ?_
       | refine EOps.nil ?_ rfl rfl
       | (refine s_split rfl rfl (fun hb => ?_) (fun hb => ?_) <;> (try simp only [hbL] at hb) <;> first | (exfalso; omega) | refine run_ th rfl ?_)
       | (refine d_split rfl rfl rfl (fun hb => ?_) (fun hb => ?_) <;> (try simp only [hbL] at hb) <;> first | (exfalso; omega) | refine drun_ th rfl ?_)
       | (refine g_if rfl (fun hb => ?_) (fun hb => ?_) <;> (try simp only [hbL] at hb) <;> (try (exfalso; omega))))
      refine g_freeze 200 rfl rfl ?_
      refine g_endL th Tryd.func26 (.inr ⟨_, rfl⟩) rfl rfl rfl ?_ rfl
      rw [htr]
      exact .refl _
end Go.Sy
namespace Go.Sy
open Go.Proofs
set_option maxRecDepth 100000
attribute [local irreducible] SOps Goes DOps EOps
end Go.Sy
namespace Go.Sy
open Go.Proofs
set_option maxRecDepth 100000
attribute [local irreducible] SOps Goes DOps EOps
end Go.Sy
