/- Contracts: reparteemake.Unrolled. -/
import Derived.Test.YtademmkjmpgplaaGreatDoorXa
import Derived.Test.YtademmkjmpgplaaGreatDoorBw3
set_option linter.unusedSimpArgs false
set_option linter.unusedVariables false
set_option linter.unusedSectionVars false
namespace Go.Sy
open Go.Proofs
set_option maxRecDepth 100000
attribute [local irreducible] SOps Goes DOps EOps GOps
def unA (a : Arm) : Arm := { a with next := a.next + 1 }
def unX (x : Pnt) : Pnt := ⟨x.from_, x.to, x.arms.map unA⟩
def unP (p : Prt) (name : ByteArray) : Prt := ⟨name, p.roles, (pntAt p 0 :: p.points).map unX⟩
set_option maxHeartbeats 8000000 in
theorem unrolled_c (p : Prt) (name : ByteArray) (hr : p.roles.length ≤ 1000) (hp : 1 ≤ p.points.length ∧ p.points.length ≤ 1000) (ha : ∀ x ∈ p.points, x.arms.length ≤ 1000 ∧ ∀ a ∈ x.arms, 0 ≤ a.next ∧ a.next ≤ 1000) :
    Con Tryz.prog 19 [] [Ag p.cs, C1 (.str name)] (.v (Ag (unP p name).cs)) [] := by
  obtain ⟨Q, hQ⟩ : ∃ Q, Q = pntAt p 0 :: p.points := ⟨_, rfl⟩
  have hQl : Q.length = p.points.length + 1 := by rw [hQ]; rfl
  have hQg : ∀ k (h : k < Q.length), (p.points.map Pnt.cs)[k - 1]? = some (Q[k]).cs ∧ Q[k] ∈ p.points := fun k h => by
    subst hQ
    cases k with
    | zero =>
      have h0 : 0 < p.points.length := by omega
      have e : pntAt p 0 = p.points[0] := by unfold pntAt; rw [List.getD_eq_getElem?_getD]; show (p.points[0]?).getD noPnt = _; rw [List.getElem?_eq_getElem h0]; rfl
      show (p.points.map Pnt.cs)[0]? = some (pntAt p 0).cs ∧ pntAt p 0 ∈ p.points
      rw [e]
      exact ⟨by rw [List.getElem?_map, List.getElem?_eq_getElem h0]; rfl, List.getElem_mem h0⟩
    | succ k =>
      have h0 : k < p.points.length := by rw [List.length_cons] at h; omega
      show (p.points.map Pnt.cs)[k]? = some (p.points[k]).cs ∧ p.points[k] ∈ p.points
      exact ⟨by rw [List.getElem?_map, List.getElem?_eq_getElem h0]; rfl, List.getElem_mem h0⟩
  rw [show (unP p name).cs = [.str name, namesT p.roles, pointsC (Q.map unX)] by rw [hQ]; rfl]
  clear hQ
  refine con_of (c := _) Tryz.func19 rfl rfl rfl (by decide) fun w M0 H Z => ?_
  repeat' (first
   | refine gc_ rfl ?_
   | (refine g_region ?_; refine run_ th rfl ?_)
   | (refine g_drawC mix rfl rfl ?_; refine drun_ th rfl ?_)
   | (refine g_drawEC mix rfl rfl ?_; refine erun_ th rfl ?_)
   | refine SOps.nil ?_
   | refine DOps.nil ?_
   | refine EOps.nil ?_ rfl rfl
   | (refine s_split rfl rfl (fun hb => ?_) (fun hb => ?_) <;> (try simp only [hbL] at hb) <;> first | (exfalso; omega) | refine run_ th rfl ?_)
   | (refine d_split rfl rfl rfl (fun hb => ?_) (fun hb => ?_) <;> (try simp only [hbL] at hb) <;> first | (exfalso; omega) | refine drun_ th rfl ?_)
   | (refine g_if rfl (fun hb => ?_) (fun hb => ?_) <;> (try simp only [hbL] at hb) <;> (try (exfalso; omega)))
   | (refine s_appendN th 12 rfl rfl rfl rfl rfl rfl rfl rfl rfl rfl rfl rfl rfl rfl (by constructor <;> simp <;> omega) ?_; refine s_freeze 12 rfl rfl ?_; refine run_ th rfl ?_))
  refine g_adoptB 5 2 290 52 3 rfl rfl rfl rfl ?_
  refine g_loop1 (fun k : Nat => k ≤ Q.length)
    (fun k => [(2, .v (.one (.ptr 2 0))), (4, .v (.one (.ptr 4 0))), (5, .v (.one (.ptr 5 0))), (6, .v (C1 (.int .i64 ((k : Int) - 1))))])
    (fun k => [(2, .box (p.cs.map SC.c)), (4, .box [.c (.str ⟨#[]⟩), .c .nils, .c .nils]), (5, .box [.c (.str name), .c (namesT p.roles), .own 290]), (290, .arr false 52 3 (((Q.take k).map unX).map Pnt.cs))])
    (fun k => Q.length - k) 0 (Nat.zero_le _)
    (fun a w h => h.sub (by exact ⟨⟨_, rfl, .refl _⟩, ⟨_, rfl, .refl _⟩, ⟨_, rfl, .refl _⟩, ⟨_, rfl, le_int (by simp)⟩, trivial⟩) (by exact ⟨⟨_, rfl, .refl _⟩, ⟨_, rfl, .refl _⟩, ⟨_, rfl, .refl _⟩, ⟨_, rfl, le_arr rfl⟩, trivial⟩) rfl rfl rfl) (fun k hk ih => ?_)
  have htl : (((Q.take k).map unX).map Pnt.cs).length = k := by simp; omega
  by_cases hlt : k < Q.length
  · obtain ⟨hx, hmem⟩ := hQg k hlt
    obtain ⟨hal, han⟩ := ha _ hmem
    have hstep : ((Q.take (k + 1)).map unX).map Pnt.cs = ((Q.take k).map unX).map Pnt.cs ++ [(unX Q[k]).cs] := by
      rw [List.take_succ_eq_append_getElem hlt, List.map_append, List.map_append]; rfl
    have hih := ih (k + 1) hlt (by omega)
    rw [hstep] at hih
    obtain ⟨x, hxx⟩ : ∃ x, x = Q[k] := ⟨_, rfl⟩
    rw [← hxx] at hx hal han hih
    clear hxx hstep hmem ih hQg
    repeat' (first
     | refine gc_ rfl ?_
     | (refine g_region ?_; refine run_ th rfl ?_)
     | (refine g_drawC mix rfl rfl ?_; refine drun_ th rfl ?_)
     | (refine g_drawEC mix rfl rfl ?_; refine erun_ th rfl ?_)
     | refine SOps.nil ?_
     | refine DOps.nil ?_
     | refine EOps.nil ?_ rfl rfl
     | (refine s_split rfl rfl (fun hb => ?_) (fun hb => ?_) <;> (try simp only [hbL] at hb) <;> first | (exfalso; omega) | refine run_ th rfl ?_)
     | (refine d_split rfl rfl rfl (fun hb => ?_) (fun hb => ?_) <;> (try simp only [hbL] at hb) <;> first | (exfalso; omega) | refine drun_ th rfl ?_)
     | (refine g_if rfl (fun hb => ?_) (fun hb => ?_) <;> (try simp only [hbL] at hb) <;> (try (exfalso; omega)))
     | (refine s_idx th rfl rfl rfl rfl rfl rfl rfl rfl rfl (k - 1) _ (by omega) hx ?_; refine run_ th rfl ?_)
     | (refine s_appendN th 29 rfl rfl rfl rfl rfl rfl rfl rfl rfl rfl rfl rfl rfl rfl (by constructor <;> simp <;> omega) ?_; refine run_ th rfl ?_))
    refine g_loop1 (fun m : Nat => m ≤ x.arms.length)
      (fun m => [(2, .v (.one (.ptr 2 0))), (4, .v (.one (.ptr 4 0))), (5, .v (.one (.ptr 5 0))), (6, .v (C1 (.int .i64 ((k : Int) - 1)))), (7, .v (.one (.ptr 7 0))), (8, .v (C1 (.int .i64 (m : Int))))])
      (fun m => [(2, .box (p.cs.map SC.c)), (4, .box [.c (.str ⟨#[]⟩), .c .nils, .c .nils]), (5, .box [.c (.str name), .c (namesT p.roles), .own 290]), (7, .box [.c (.str x.from_), .c (.str x.to), .own 29]),
        (29, .arr false 58 4 (((x.arms.take m).map unA ++ x.arms.drop m).map Arm.cs)), (290, .arr false 52 3 (((Q.take k).map unX).map Pnt.cs))])
      (fun m => x.arms.length - m) 0 (Nat.zero_le _)
      (fun a w h => h.sub (by exact ⟨⟨_, rfl, .refl _⟩, ⟨_, rfl, .refl _⟩, ⟨_, rfl, .refl _⟩, ⟨_, rfl, .refl _⟩, ⟨_, rfl, .refl _⟩, ⟨_, rfl, le_int rfl⟩, trivial⟩) (by exact ⟨⟨_, rfl, .refl _⟩, ⟨_, rfl, .refl _⟩, ⟨_, rfl, .refl _⟩, ⟨_, rfl, .refl _⟩, ⟨_, rfl, le_arr rfl⟩, ⟨_, rfl, .refl _⟩, trivial⟩) rfl rfl rfl) (fun m hm ihm => ?_)
    have hll : ((((x.arms.take m).map unA ++ x.arms.drop m).map Arm.cs).length : Int) = (x.arms.length : Int) := by simp; omega
    have hll2 : ((((x.arms.take m).map unA ++ x.arms.drop m)).length : Int) = (x.arms.length : Int) := by simp; omega
    by_cases hml : m < x.arms.length
    · have hy := mid_get' unA Arm.cs x.arms m hml
      have hset := set_mid' unA Arm.cs x.arms m hml
      have hnx := han x.arms[m] (List.getElem_mem hml)
      have hihm := ihm (m + 1) hml (by omega)
      obtain ⟨b, hb1⟩ : ∃ b, b = x.arms[m] := ⟨_, rfl⟩
      rw [← hb1] at hy hset hnx
      clear hb1 ihm hih
      repeat' (first
       | refine gc_ rfl ?_
       | (refine g_region ?_; refine run_ th rfl ?_)
       | (refine g_drawC mix rfl rfl ?_; refine drun_ th rfl ?_)
       | (refine g_drawEC mix rfl rfl ?_; refine erun_ th rfl ?_)
       | refine SOps.nil ?_
       | refine DOps.nil ?_
       | refine EOps.nil ?_ rfl rfl
       | (refine s_split rfl rfl (fun hb => ?_) (fun hb => ?_) <;> (try simp only [hbL] at hb) <;> first | (exfalso; omega) | refine run_ th rfl ?_)
       | (refine d_split rfl rfl rfl (fun hb => ?_) (fun hb => ?_) <;> (try simp only [hbL] at hb) <;> first | (exfalso; omega) | refine drun_ th rfl ?_)
       | (refine g_if rfl (fun hb => ?_) (fun hb => ?_) <;> (try simp only [hbL] at hb) <;> (try (exfalso; omega)))
       | (refine s_idxo th rfl rfl rfl rfl rfl rfl rfl rfl rfl rfl m rfl (by simp; omega) ?_; refine run_ th rfl ?_)
       | (refine s_loada th _ rfl rfl rfl rfl hy rfl rfl rfl rfl rfl ?_; refine run_ th rfl ?_)
       | (refine s_storef th _ rfl rfl rfl rfl hy rfl rfl rfl rfl rfl rfl rfl ?_; refine run_ th rfl ?_)
       | (refine s_add rfl rfl rfl rfl rfl rfl (by omega) ?_; refine run_ th rfl ?_))
      all_goals first
        | (exfalso; omega)
        | exact g_sub (by exact ⟨⟨_, rfl, .refl _⟩, ⟨_, rfl, .refl _⟩, ⟨_, rfl, .refl _⟩, ⟨_, rfl, .refl _⟩, ⟨_, rfl, .refl _⟩, ⟨_, rfl, le_int (by omega)⟩, trivial⟩) (by exact ⟨⟨_, rfl, .refl _⟩, ⟨_, rfl, .refl _⟩, ⟨_, rfl, .refl _⟩, ⟨_, rfl, .refl _⟩, ⟨_, rfl, le_arr hset⟩, ⟨_, rfl, .refl _⟩, trivial⟩) rfl rfl rfl hihm
    · have e1 : (x.arms.take m).map unA ++ x.arms.drop m = x.arms.map unA := by rw [List.take_of_length_le (show x.arms.length ≤ m by omega), List.drop_of_length_le (show x.arms.length ≤ m by omega), List.append_nil]
      rw [e1]
      clear hll hll2
      have hll : (((x.arms.map unA).map Arm.cs).length : Int) = (x.arms.length : Int) := by simp
      have hll2 : ((x.arms.map unA).length : Int) = (x.arms.length : Int) := by simp
      clear ihm
      repeat' (first
       | (refine g_atR 11 rfl ?_; refine g_freeze 29 rfl rfl ?_)
       | refine gc_ rfl ?_
       | (refine g_region ?_; refine run_ th rfl ?_)
       | (refine g_drawC mix rfl rfl ?_; refine drun_ th rfl ?_)
       | (refine g_drawEC mix rfl rfl ?_; refine erun_ th rfl ?_)
       | refine SOps.nil ?_
       | refine DOps.nil ?_
       | refine EOps.nil ?_ rfl rfl
       | (refine s_split rfl rfl (fun hb => ?_) (fun hb => ?_) <;> (try simp only [hbL] at hb) <;> first | (exfalso; omega) | refine run_ th rfl ?_)
       | (refine d_split rfl rfl rfl (fun hb => ?_) (fun hb => ?_) <;> (try simp only [hbL] at hb) <;> first | (exfalso; omega) | refine drun_ th rfl ?_)
       | (refine g_if rfl (fun hb => ?_) (fun hb => ?_) <;> (try simp only [hbL] at hb) <;> (try (exfalso; omega)))
       | (refine s_anyB 5 2 rfl ?_; refine s_append th rfl rfl rfl rfl rfl rfl rfl rfl rfl rfl rfl rfl rfl rfl rfl (by constructor <;> simp only [htl, List.length_singleton] <;> omega) ?_; refine run_ th rfl ?_)
       | (refine s_add rfl rfl rfl rfl rfl rfl (by omega) ?_; refine run_ th rfl ?_))
      all_goals first
        | (exfalso; omega)
        | exact g_sub (by exact ⟨⟨_, rfl, .refl _⟩, ⟨_, rfl, .refl _⟩, ⟨_, rfl, .refl _⟩, ⟨_, rfl, le_int (by omega)⟩, trivial⟩) (by exact ⟨⟨_, rfl, .refl _⟩, ⟨_, rfl, .refl _⟩, ⟨_, rfl, .refl _⟩, ⟨_, rfl, .refl _⟩, trivial⟩) rfl rfl rfl hih
  · have hke : k = Q.length := by omega
    subst hke
    rw [List.take_length]
    clear ih htl hQg
    repeat' (first
     | (refine g_atR 12 rfl ?_; refine g_freeze 290 rfl rfl ?_)
     | refine gc_ rfl ?_
     | (refine g_region ?_; refine run_ th rfl ?_)
     | (refine g_drawC mix rfl rfl ?_; refine drun_ th rfl ?_)
     | (refine g_drawEC mix rfl rfl ?_; refine erun_ th rfl ?_)
     | refine SOps.nil ?_
     | refine DOps.nil ?_
     | refine EOps.nil ?_ rfl rfl
     | (refine s_split rfl rfl (fun hb => ?_) (fun hb => ?_) <;> (try simp only [hbL] at hb) <;> first | (exfalso; omega) | refine run_ th rfl ?_)
     | (refine d_split rfl rfl rfl (fun hb => ?_) (fun hb => ?_) <;> (try simp only [hbL] at hb) <;> first | (exfalso; omega) | refine drun_ th rfl ?_)
     | (refine g_if rfl (fun hb => ?_) (fun hb => ?_) <;> (try simp only [hbL] at hb) <;> (try (exfalso; omega))))
    all_goals first
      | (exfalso; simp only [List.length_map] at hb; omega)
      | (refine g_endL th Tryz.func19 (.inr ⟨_, rfl⟩) rfl rfl rfl ?_ rfl
         exact .refl _)
end Go.Sy
