/- Contracts: project's turned. -/
import Derived.Test.YtdjocfajcbhmgaaDoorJg
import Derived.Test.YtdjocfajcbhmgaaDoorBn1
set_option linter.unusedSimpArgs false
set_option linter.unusedVariables false
set_option linter.unusedSectionVars false
namespace Go.Sy
open Go.Proofs
set_option maxRecDepth 100000
attribute [local irreducible] SOps Goes DOps EOps FOps GOps
section
variable {p : Prt} {role : ByteArray} {S : List (List Int)} {near r : List Int} {x0 : Int}
theorem turn_def (h : near = x0 :: r) : turnS p role S near =
    if near.any (fun x => decide (sideAt p role x ≠ sideAt p role x0)) then ((noTrn, 802), S)
    else if (sideAt p role x0).1 && near.any (fun x => decide (labsL (pntAt p x) ≠ allL p near)) then ((noTrn, 803), S)
    else if 6 < (allL p near).length then ((noTrn, 805), S)
    else if clashB (armsN p near) then ((noTrn, 804), S)
    else if (armsS p role (armsN p near) (allL p near) [] S).1.2 = 0 then
      ((⟨kindOf (sideAt p role x0).1, (sideAt p role x0).2, (armsS p role (armsN p near) (allL p near) [] S).1.1⟩, 0), (armsS p role (armsN p near) (allL p near) [] S).2)
    else ((noTrn, (armsS p role (armsN p near) (allL p near) [] S).1.2), (armsS p role (armsN p near) (allL p near) [] S).2) := by
  subst h; rfl
theorem turn_mix (h : near = x0 :: r) (h1 : near.any (fun x => decide (sideAt p role x ≠ sideAt p role x0)) = true) : turnS p role S near = ((noTrn, 802), S) := by
  rw [turn_def h, if_pos h1]
theorem turn_says (h : near = x0 :: r) (h1 : near.any (fun x => decide (sideAt p role x ≠ sideAt p role x0)) = false) (h2 : ((sideAt p role x0).1 && near.any (fun x => decide (labsL (pntAt p x) ≠ allL p near))) = true) :
    turnS p role S near = ((noTrn, 803), S) := by
  rw [turn_def h, h1, if_neg (by decide), if_pos h2]
theorem turn_large (h : near = x0 :: r) (h1 : near.any (fun x => decide (sideAt p role x ≠ sideAt p role x0)) = false) (h2 : ((sideAt p role x0).1 && near.any (fun x => decide (labsL (pntAt p x) ≠ allL p near))) = false)
    (h3 : 6 < (allL p near).length) : turnS p role S near = ((noTrn, 805), S) := by
  rw [turn_def h, h1, if_neg (by decide), h2, if_neg (by decide), if_pos h3]
theorem turn_clash (h : near = x0 :: r) (h1 : near.any (fun x => decide (sideAt p role x ≠ sideAt p role x0)) = false) (h2 : ((sideAt p role x0).1 && near.any (fun x => decide (labsL (pntAt p x) ≠ allL p near))) = false)
    (h3 : ¬ 6 < (allL p near).length) (h4 : clashB (armsN p near) = true) : turnS p role S near = ((noTrn, 804), S) := by
  rw [turn_def h, h1, if_neg (by decide), h2, if_neg (by decide), if_neg h3, if_pos h4]
theorem turn_arms (h : near = x0 :: r) (h1 : near.any (fun x => decide (sideAt p role x ≠ sideAt p role x0)) = false) (h2 : ((sideAt p role x0).1 && near.any (fun x => decide (labsL (pntAt p x) ≠ allL p near))) = false)
    (h3 : ¬ 6 < (allL p near).length) (h4 : clashB (armsN p near) = false) : turnS p role S near =
    if (armsS p role (armsN p near) (allL p near) [] S).1.2 = 0 then
      ((⟨kindOf (sideAt p role x0).1, (sideAt p role x0).2, (armsS p role (armsN p near) (allL p near) [] S).1.1⟩, 0), (armsS p role (armsN p near) (allL p near) [] S).2)
    else ((noTrn, (armsS p role (armsN p near) (allL p near) [] S).1.2), (armsS p role (armsN p near) (allL p near) [] S).2) := by
  rw [turn_def h, h1, if_neg (by decide), h2, if_neg (by decide), if_neg h3, h4, if_neg (by decide)]
theorem allJ_snoc {k : Nat} (h : k < near.length) : allL p (near.take (k + 1)) = (labsL (pntAt p near[k])).foldl putN (allL p (near.take k)) := by
  unfold allL
  rw [List.take_succ_eq_append_getElem h, List.foldl_append]; rfl
theorem foldPut_len : ∀ (l out : List ByteArray), (l.foldl putN out).length ≤ out.length + l.length
  | [], out => by simp
  | s :: l, out => by
    have h1 := foldPut_len l (putN out s)
    have h2 := putN_len out s
    simp only [List.foldl_cons, List.length_cons]; omega
theorem labsL_len (hv : prtB p = true) (x : Int) : (labsL (pntAt p x)).length ≤ 6 := by
  have h1 := labsA_len (pntAt p x).arms
  have h2 : (pntAt p x).arms.length ≤ 6 := by
    rcases pntAt_arms hv x with h | h
    · rw [h]; simp
    · exact (arms_all h).1.2
  exact Nat.le_trans h1 h2
theorem allJ_len (hv : prtB p = true) : ∀ k, (allL p (near.take k)).length ≤ 6 * k
  | 0 => by simp [allL]
  | k + 1 => by
    have ih := allJ_len hv k
    by_cases h : k < near.length
    · rw [allJ_snoc h]
      have h1 := foldPut_len (labsL (pntAt p near[k])) (allL p (near.take k))
      have h2 := labsL_len hv near[k]
      omega
    · rw [show near.take (k + 1) = near.take k by rw [List.take_of_length_le (by omega), List.take_of_length_le (by omega)]]
      omega
end
abbrev turnT (p : Prt) (role : ByteArray) (S : List (List Int)) (near : List Int) : ST := .tup [Ag (turnS p role S near).1.1.cs, C1 (.int .i64 (turnS p role S near).1.2)]
def gMM (p : Prt) (role : ByteArray) (v : Value) (S : List (List Int)) (kd : Int) (s2 : ByteArray) (cm : CarM) (x : RowM) : MM :=
  [(119, .mpo (entF strF (valV x))), (120, .mpo (entK cm)), (300, .pool 3 1 (poolR x)), (12, .box [.c (.int .i64 kd), .c (.str s2), .c .nils]), (4, .box [.c (.int .i64 0), .c (.str ⟨#[]⟩), .c .nils]),
   (given, .box (seerCs p role v)), (given + 1, keysM S), (1, .pool 43 1 [(v, rowsI S)])]
theorem armsN_snoc {p : Prt} {near : List Int} {k : Nat} (h : k < near.length) : armsN p (near.take (k + 1)) = armsN p (near.take k) ++ (pntAt p near[k]).arms := by
  unfold armsN
  rw [List.take_succ_eq_append_getElem h, List.flatMap_append]; simp
theorem armsN_split {p : Prt} {near : List Int} {k j : Nat} (h : k < near.length) (hj : j < (pntAt p near[k]).arms.length) : ∃ r, armsN p near = (armsN p (near.take k) ++ (pntAt p near[k]).arms.take j) ++ (pntAt p near[k]).arms[j] :: r := by
  refine ⟨(pntAt p near[k]).arms.drop (j + 1) ++ armsN p (near.drop (k + 1)), ?_⟩
  have h1 : armsN p near = armsN p (near.take (k + 1)) ++ armsN p (near.drop (k + 1)) := by
    unfold armsN; rw [← List.flatMap_append, List.take_append_drop]
  have h2 : (pntAt p near[k]).arms = (pntAt p near[k]).arms.take j ++ (pntAt p near[k]).arms[j] :: (pntAt p near[k]).arms.drop (j + 1) := by
    rw [← List.drop_eq_getElem_cons hj, List.take_append_drop]
  have h3 : (pntAt p near[k]).arms ++ armsN p (near.drop (k + 1)) = ((pntAt p near[k]).arms.take j ++ (pntAt p near[k]).arms[j] :: (pntAt p near[k]).arms.drop (j + 1)) ++ armsN p (near.drop (k + 1)) := by rw [← h2]
  rw [h1, armsN_snoc h, List.append_assoc, h3]
  simp only [List.append_assoc, List.cons_append]
theorem armsN_len {p : Prt} (hv : prtB p = true) : ∀ near : List Int, (armsN p near).length ≤ 6 * near.length
  | [] => by simp [armsN]
  | x :: l => by
    have ih := armsN_len hv l
    have h2 : (pntAt p x).arms.length ≤ 6 := by
      rcases pntAt_arms hv x with h | h
      · rw [h]; simp
      · exact (arms_all h).1.2
    simp only [armsN, List.flatMap_cons, List.length_append, List.length_cons] at ih ⊢
    omega
theorem nextN_len (arr : List Arm) (s : ByteArray) : (nextN arr s).length ≤ arr.length := by
  unfold nextN
  rw [List.length_map]
  exact List.length_filter_le _ _
theorem nextN_range {p : Prt} (hv : prtB p = true) {near : List Int} {s : ByteArray} : ∀ x ∈ nextN (armsN p near) s, 0 ≤ x ∧ x < (p.points.length : Int) := by
  intro x hx
  unfold nextN armsN at hx
  obtain ⟨a, ha, rfl⟩ := List.mem_map.1 hx
  obtain ⟨y, _, hy⟩ := List.mem_flatMap.1 (List.mem_filter.1 ha).1
  exact prt_in hv y a hy
def r44 (X : MM) (m0 : List (FV × FV)) (m1 : Value → List (FV × FV)) (q0 : PQ) (q1 : Value → PQ) : Nat → Value → MM
  | 0, _ => (119, .mpo m0) :: (300, .pool 3 1 q0) :: X
  | 1, v => (119, .mpo m0) :: (300, .pool 3 1 (q1 v)) :: X
  | _, v => (119, .mpo (m1 v)) :: (300, .pool 3 1 (q1 v)) :: X
def r44ET : Nat → Value → TM
  | 1, v => [(171, .v (.one (.c (.val v))))]
  | _, _ => []
theorem le_poolQ {e sz : Nat} {a b : PQ} (h : a = b) : LeM (.pool e sz a) (.pool e sz b) := by subst h; exact .refl _
abbrev zBox : MO := .box [.c (.int .i64 0), .c (.str ⟨#[]⟩), .c .nils]
set_option maxHeartbeats 32000000 in
theorem pturned_c (p : Prt) (hv : prtB p = true) (hB : PrtBig p) (role : ByteArray) (hh : hasB p.roles role = true) (v : Value) (S : List (List Int)) (hS : SeerOK p S) (near : List Int) (hnr : ∀ x ∈ near, 0 ≤ x ∧ x < (p.points.length : Int)) (hnl : near.length ≤ 24) :
    ConM Tryd.prog 21 (seerM p role v S) [.one (.ptr given 0), C1 (intsT near)] (fun _ : Value => True) (fun _ => turnT p role S near) (fun v' => seerM p role v' (turnS p role S near).2) := by
  cases hne : near with
  | nil =>
    refine conM_of (c := _) Tryd.func21 rfl rfl rfl (by decide) rfl fun w M0 H Z hd => ?_
    repeat' (first
     | refine gc_ rfl ?_
     | (refine g_region ?_; refine run_ th rfl ?_)
     | (refine g_drawC mix rfl rfl ?_; refine drun_ th rfl ?_)
     | (refine g_drawEC mix rfl rfl ?_; refine erun_ th rfl ?_)
     | refine SOps.nil ?_
     | refine DOps.nil ?_
     | refine EOps.nil ?_ rfl rfl
     | (refine s_split rfl rfl (fun hb => ?_) (fun hb => ?_) <;> (try simp only [hbL] at hb) <;> first | (exfalso; omega) | refine run_ th rfl ?_)
     | (refine d_split rfl rfl rfl (fun hb => ?_) (fun hb => ?_) <;> (try simp only [hbL] at hb) <;> first | (exfalso; omega) | refine drun_ th rfl ?_)
     | (refine g_if rfl (fun hb => ?_) (fun hb => ?_) <;> (try simp only [hbL] at hb) <;> (try (exfalso; omega))))
    all_goals first
      | (exfalso; revert hb; simp; done)
      | (refine g_leB 4 2 (armsC []) rfl rfl (.nil 4) ?_
         exact g_endM (hd := hd) th Tryd.func21 v (.inr ⟨_, rfl⟩) rfl rfl rfl rfl ⟨rfl, rfl, rfl, trivial⟩ rfl rfl rfl trivial)
  | cons x0 rr =>
    rw [← hne]
    have hl0 : 0 < near.length := by rw [hne]; simp
    have hx0 : (near.map fun r => [CT.int .i64 r])[0]? = some [.int .i64 x0] := by rw [hne]; rfl
    have hxr0 := hnr x0 (by rw [hne]; exact List.mem_cons_self)
    have hside0 := side_c p role v S x0 hxr0
    obtain ⟨s1, s2, hs⟩ : ∃ a b, sideAt p role x0 = (a, b) := ⟨_, _, rfl⟩
    simp only [hs] at hside0
    refine conM_of (c := _) Tryd.func21 rfl rfl rfl (by decide) rfl fun w M0 H Z hd => ?_
    repeat' (first
     | refine gc_ rfl ?_
     | (refine g_region ?_; refine run_ th rfl ?_)
     | (refine g_drawC mix rfl rfl ?_; refine drun_ th rfl ?_)
     | (refine g_drawEC mix rfl rfl ?_; refine erun_ th rfl ?_)
     | refine SOps.nil ?_
     | refine DOps.nil ?_
     | refine EOps.nil ?_ rfl rfl
     | (refine s_split rfl rfl (fun hb => ?_) (fun hb => ?_) <;> (try simp only [hbL] at hb) <;> first | (exfalso; omega) | refine run_ th rfl ?_)
     | (refine d_split rfl rfl rfl (fun hb => ?_) (fun hb => ?_) <;> (try simp only [hbL] at hb) <;> first | (exfalso; omega) | refine drun_ th rfl ?_)
     | (refine g_if rfl (fun hb => ?_) (fun hb => ?_) <;> (try simp only [hbL] at hb) <;> (try (exfalso; omega)))
     | (refine s_idx th rfl rfl rfl rfl rfl rfl rfl rfl rfl 0 _ rfl hx0 ?_; refine run_ th rfl ?_)
     | (refine s_callM hside0 [] rfl rfl rfl rfl ⟨rfl, rfl, rfl, trivial⟩ ⟨rfl, rfl, rfl, rfl, rfl⟩ (fun _ => ⟨rfl, rfl, rfl, rfl, rfl, rfl, rfl⟩) (fun _ => rfl) (fun _ => rfl) rfl rfl rfl (fun _ _ => ?_); refine run_ th rfl ?_))
    all_goals try (exfalso; simp only [List.length_map] at hb; omega)
    refine g_loop1 (fun k : Nat => k ≤ near.length ∧ (near.take k).any (fun x => decide (sideAt p role x ≠ sideAt p role x0)) = false)
      (fun k => [(0, .v (.one (.ptr given 0))), (1, .v (C1 (intsT near))), (4, .v (.one (.ptr 4 0))), (5, .v (C1 (.int .i64 0))), (6, .v (C1 (.bool s1))), (7, .v (C1 (.str s2))), (44, .v (C1 (intsT near))), (45, .v (C1 (.int .i64 (near.length : Int)))), (46, .v (C1 (.int .i64 (k : Int))))])
      (fun _ => (4, zBox) :: seerM p role v S)
      (fun k => near.length - k) 0 ⟨Nat.zero_le _, rfl⟩
      (fun a w h => h.sub (by exact ⟨⟨_, rfl, .refl _⟩, ⟨_, rfl, .refl _⟩, ⟨_, rfl, .refl _⟩, ⟨_, rfl, .refl _⟩, ⟨_, rfl, .refl _⟩, ⟨_, rfl, .refl _⟩, ⟨_, rfl, .refl _⟩, ⟨_, rfl, le_int (by simp)⟩, ⟨_, rfl, le_int rfl⟩, trivial⟩) (by exact ⟨⟨_, rfl, .refl _⟩, ⟨_, rfl, .refl _⟩, ⟨_, rfl, .refl _⟩, ⟨_, rfl, .refl _⟩, trivial⟩) rfl rfl rfl) (fun k hk ih => ?_)
    obtain ⟨hk, hal⟩ := hk
    by_cases hlt : k < near.length
    · have hx : (near.map fun r => [CT.int .i64 r])[k]? = some [.int .i64 near[k]] := by simp [hlt]
      have hxr := hnr _ (List.getElem_mem hlt)
      have hside := side_c p role v S near[k] hxr
      obtain ⟨y1, y2, hy⟩ : ∃ a b, sideAt p role near[k] = (a, b) := ⟨_, _, rfl⟩
      simp only [hy] at hside
      have hsn := anyT_snoc hlt (fun x => decide (sideAt p role x ≠ sideAt p role x0))
      rw [hal, Bool.false_or] at hsn
      repeat' (first
       | refine gc_ rfl ?_
       | (refine g_region ?_; refine run_ th rfl ?_)
       | (refine g_drawC mix rfl rfl ?_; refine drun_ th rfl ?_)
       | (refine g_drawEC mix rfl rfl ?_; refine erun_ th rfl ?_)
       | refine SOps.nil ?_
       | refine DOps.nil ?_
       | refine EOps.nil ?_ rfl rfl
       | (refine s_split rfl rfl (fun hb => ?_) (fun hb => ?_) <;> (try simp only [hbL] at hb) <;> first | (exfalso; omega) | refine run_ th rfl ?_)
       | (refine d_split rfl rfl rfl (fun hb => ?_) (fun hb => ?_) <;> (try simp only [hbL] at hb) <;> first | (exfalso; omega) | refine drun_ th rfl ?_)
       | (refine g_if rfl (fun hb => ?_) (fun hb => ?_) <;> (try simp only [hbL] at hb) <;> (try (exfalso; omega)))
       | (refine s_idx th rfl rfl rfl rfl rfl rfl rfl rfl rfl k _ rfl hx ?_; refine run_ th rfl ?_)
       | (refine s_callM hside [] rfl rfl rfl rfl ⟨rfl, rfl, rfl, trivial⟩ ⟨rfl, rfl, rfl, rfl, rfl⟩ (fun _ => ⟨rfl, rfl, rfl, rfl, rfl, rfl, rfl⟩) (fun _ => rfl) (fun _ => rfl) rfl rfl rfl (fun _ _ => ?_); refine run_ th rfl ?_)
       | (refine s_add rfl rfl rfl rfl rfl rfl (by omega) ?_; refine run_ th rfl ?_))
      all_goals first
        | (have hne2 : ¬ (y1, y2) = (s1, s2) := by
             intro e; injection e with e1 e2; subst e1 e2; revert hb; simp; done
           have hany : near.any (fun x => decide (sideAt p role x ≠ sideAt p role x0)) = true := List.any_eq_true.2 ⟨near[k], List.getElem_mem hlt, by rw [hy, hs]; exact decide_eq_true hne2⟩
           refine g_leB 4 2 (armsC []) rfl rfl (.nil 4) ?_
           unfold turnT
           rw [turn_mix hne hany]
           exact g_endM (hd := hd) th Tryd.func21 v (.inr ⟨_, rfl⟩) rfl rfl rfl rfl ⟨rfl, rfl, rfl, trivial⟩ rfl rfl rfl trivial)
        | (have he2 : (y1, y2) = (s1, s2) := by
             have e1 : y1 = s1 := by simpa using (show (y1 != s1) = false by assumption)
             have e2 : y2 = s2 := by assumption
             rw [e1, e2]
           have hih := ih (k + 1) ⟨hlt, by rw [hsn, hy, hs]; exact decide_eq_false fun h => h he2⟩ (by omega)
           exact g_sub (by exact ⟨⟨_, rfl, .refl _⟩, ⟨_, rfl, .refl _⟩, ⟨_, rfl, .refl _⟩, ⟨_, rfl, .refl _⟩, ⟨_, rfl, .refl _⟩, ⟨_, rfl, .refl _⟩, ⟨_, rfl, .refl _⟩, ⟨_, rfl, .refl _⟩, ⟨_, rfl, le_int (by omega)⟩, trivial⟩) (by exact ⟨⟨_, rfl, .refl _⟩, ⟨_, rfl, .refl _⟩, ⟨_, rfl, .refl _⟩, ⟨_, rfl, .refl _⟩, trivial⟩) rfl rfl rfl hih)
    rw [show near.take k = near from List.take_of_length_le (by omega)] at hal
    clear ih
    repeat' (first
     | refine gc_ rfl ?_
     | (refine g_region ?_; refine run_ th rfl ?_)
     | (refine g_drawC mix rfl rfl ?_; refine drun_ th rfl ?_)
     | (refine g_drawEC mix rfl rfl ?_; refine erun_ th rfl ?_)
     | refine SOps.nil ?_
     | refine DOps.nil ?_
     | refine EOps.nil ?_ rfl rfl
     | (refine s_split rfl rfl (fun hb => ?_) (fun hb => ?_) <;> (try simp only [hbL] at hb) <;> first | (exfalso; omega) | refine run_ th rfl ?_)
     | (refine d_split rfl rfl rfl (fun hb => ?_) (fun hb => ?_) <;> (try simp only [hbL] at hb) <;> first | (exfalso; omega) | refine drun_ th rfl ?_)
     | (refine g_if rfl (fun hb => ?_) (fun hb => ?_) <;> (try simp only [hbL] at hb) <;> (try (exfalso; omega))))
    clear hk
    refine g_loop1 (fun k : Nat => k ≤ near.length)
      (fun k => [(0, .v (.one (.ptr given 0))), (1, .v (C1 (intsT near))), (4, .v (.one (.ptr 4 0))), (5, .v (C1 (.int .i64 0))), (6, .v (C1 (.bool s1))), (12, .v (.one (.ptr 12 0))), (13, .v (C1 (namesT (allL p (near.take k))))), (68, .v (C1 (intsT near))), (69, .v (C1 (.int .i64 (near.length : Int)))), (70, .v (C1 (.int .i64 (k : Int))))])
      (fun _ => (12, .box [.c (.int .i64 2), .c (.str s2), .c .nils]) :: (4, zBox) :: seerM p role v S)
      (fun k => near.length - k) 0 (Nat.zero_le _)
      (fun a w h => h.sub (by exact ⟨⟨_, rfl, .refl _⟩, ⟨_, rfl, .refl _⟩, ⟨_, rfl, .refl _⟩, ⟨_, rfl, .refl _⟩, ⟨_, rfl, .refl _⟩, ⟨_, rfl, .refl _⟩, ⟨_, rfl, .v (.one (.c (.nil 1)))⟩, ⟨_, rfl, .refl _⟩, ⟨_, rfl, le_int (by simp)⟩, ⟨_, rfl, le_int rfl⟩, trivial⟩) (by exact ⟨⟨_, rfl, .refl _⟩, ⟨_, rfl, .refl _⟩, ⟨_, rfl, .refl _⟩, ⟨_, rfl, .refl _⟩, ⟨_, rfl, .refl _⟩, trivial⟩) rfl rfl rfl) (fun k hk ih => ?_)
    by_cases hlt : k < near.length
    · have hx : (near.map fun r => [CT.int .i64 r])[k]? = some [.int .i64 near[k]] := by simp [hlt]
      have hxr := hnr _ (List.getElem_mem hlt)
      have hxp := pntAt_get hxr
      have hx6 : (pntAt p near[k]).arms.length ≤ 6 := by
        rcases pntAt_arms hv near[k] with h1 | h1
        · rw [h1]; simp
        · exact (arms_all h1).1.2
      have hlab := labels_c' (pntAt p near[k]) hx6
      have hll := labsL_len hv near[k]
      have hA := allJ_len hv (p := p) (near := near) k
      have hsn := allJ_snoc (p := p) hlt
      obtain ⟨q, hq⟩ : ∃ q, q = pntAt p near[k] := ⟨_, rfl⟩
      obtain ⟨A, hAA⟩ : ∃ A, A = allL p (near.take k) := ⟨_, rfl⟩
      rw [← hq] at hxp hlab hll hsn
      rw [← hAA] at hA hsn ⊢
      have hih := ih (k + 1) hlt (by omega)
      rw [hsn] at hih
      repeat' (first
       | refine gc_ rfl ?_
       | (refine g_region ?_; refine run_ th rfl ?_)
       | (refine g_drawC mix rfl rfl ?_; refine drun_ th rfl ?_)
       | (refine g_drawEC mix rfl rfl ?_; refine erun_ th rfl ?_)
       | refine SOps.nil ?_
       | refine DOps.nil ?_
       | refine EOps.nil ?_ rfl rfl
       | (refine s_split rfl rfl (fun hb => ?_) (fun hb => ?_) <;> (try simp only [hbL] at hb) <;> first | (exfalso; omega) | refine run_ th rfl ?_)
       | (refine d_split rfl rfl rfl (fun hb => ?_) (fun hb => ?_) <;> (try simp only [hbL] at hb) <;> first | (exfalso; omega) | refine drun_ th rfl ?_)
       | (refine g_if rfl (fun hb => ?_) (fun hb => ?_) <;> (try simp only [hbL] at hb) <;> (try (exfalso; omega)))
       | (refine s_idx th rfl rfl rfl rfl rfl rfl rfl rfl rfl k _ rfl hx ?_; refine run_ th rfl ?_)
       | (refine s_idx th rfl rfl rfl rfl rfl rfl rfl rfl rfl near[k].toNat _ (by omega) hxp ?_; refine run_ th rfl ?_)
       | (refine s_call hlab [] rfl rfl rfl rfl rfl rfl rfl rfl rfl rfl ?_; refine run_ th rfl ?_))
      obtain ⟨lb, hlb⟩ : ∃ lb, lb = labsL q := ⟨_, rfl⟩
      rw [← hlb] at hih hll ⊢
      refine g_loop1 (fun j : Nat => j ≤ lb.length)
        (fun j => [(0, .v (.one (.ptr given 0))), (1, .v (C1 (intsT near))), (4, .v (.one (.ptr 4 0))), (5, .v (C1 (.int .i64 0))), (6, .v (C1 (.bool s1))), (12, .v (.one (.ptr 12 0))), (13, .v (C1 (namesT ((lb.take j).foldl putN A)))), (68, .v (C1 (intsT near))), (69, .v (C1 (.int .i64 (near.length : Int)))), (70, .v (C1 (.int .i64 (k : Int)))),
          (82, .v (C1 (namesT lb))), (83, .v (C1 (.int .i64 (lb.length : Int)))), (84, .v (C1 (.int .i64 (j : Int))))])
        (fun _ => (12, .box [.c (.int .i64 2), .c (.str s2), .c .nils]) :: (4, zBox) :: seerM p role v S)
        (fun j => lb.length - j) 0 (Nat.zero_le _)
        (fun a w h => h.sub (by exact ⟨⟨_, rfl, .refl _⟩, ⟨_, rfl, .refl _⟩, ⟨_, rfl, .refl _⟩, ⟨_, rfl, .refl _⟩, ⟨_, rfl, .refl _⟩, ⟨_, rfl, .refl _⟩, ⟨_, rfl, .refl _⟩, ⟨_, rfl, .refl _⟩, ⟨_, rfl, .refl _⟩, ⟨_, rfl, .refl _⟩, ⟨_, rfl, .refl _⟩, ⟨_, rfl, le_int (by simp)⟩, ⟨_, rfl, le_int rfl⟩, trivial⟩) (by exact ⟨⟨_, rfl, .refl _⟩, ⟨_, rfl, .refl _⟩, ⟨_, rfl, .refl _⟩, ⟨_, rfl, .refl _⟩, ⟨_, rfl, .refl _⟩, trivial⟩) rfl rfl rfl) (fun j hj ih2 => ?_)
      by_cases hjt : j < lb.length
      · have hxj : (lb.map fun s => [CT.str s])[j]? = some [.str lb[j]] := by simp [hjt]
        have hfl := foldPut_len (lb.take j) A
        rw [List.length_take] at hfl
        have hput := put_c ((lb.take j).foldl putN A) lb[j] (by omega)
        have hih2 := ih2 (j + 1) hjt (by omega)
        rw [show (lb.take (j + 1)).foldl putN A = putN ((lb.take j).foldl putN A) lb[j] by rw [List.take_succ_eq_append_getElem hjt, List.foldl_append]; rfl] at hih2
        repeat' (first
         | refine gc_ rfl ?_
         | (refine g_region ?_; refine run_ th rfl ?_)
         | (refine g_drawC mix rfl rfl ?_; refine drun_ th rfl ?_)
         | (refine g_drawEC mix rfl rfl ?_; refine erun_ th rfl ?_)
         | refine SOps.nil ?_
         | refine DOps.nil ?_
         | refine EOps.nil ?_ rfl rfl
         | (refine s_split rfl rfl (fun hb => ?_) (fun hb => ?_) <;> (try simp only [hbL] at hb) <;> first | (exfalso; omega) | refine run_ th rfl ?_)
         | (refine d_split rfl rfl rfl (fun hb => ?_) (fun hb => ?_) <;> (try simp only [hbL] at hb) <;> first | (exfalso; omega) | refine drun_ th rfl ?_)
         | (refine g_if rfl (fun hb => ?_) (fun hb => ?_) <;> (try simp only [hbL] at hb) <;> (try (exfalso; omega)))
         | (refine s_idx th rfl rfl rfl rfl rfl rfl rfl rfl rfl j _ rfl hxj ?_; refine run_ th rfl ?_)
         | (refine s_call hput [] rfl rfl rfl rfl rfl rfl rfl rfl rfl rfl ?_; refine run_ th rfl ?_)
         | (refine s_add rfl rfl rfl rfl rfl rfl (by omega) ?_; refine run_ th rfl ?_))
        exact g_sub (by exact ⟨⟨_, rfl, .refl _⟩, ⟨_, rfl, .refl _⟩, ⟨_, rfl, .refl _⟩, ⟨_, rfl, .refl _⟩, ⟨_, rfl, .refl _⟩, ⟨_, rfl, .refl _⟩, ⟨_, rfl, .refl _⟩, ⟨_, rfl, .refl _⟩, ⟨_, rfl, .refl _⟩, ⟨_, rfl, .refl _⟩, ⟨_, rfl, .refl _⟩, ⟨_, rfl, .refl _⟩, ⟨_, rfl, le_int (by omega)⟩, trivial⟩) (by exact ⟨⟨_, rfl, .refl _⟩, ⟨_, rfl, .refl _⟩, ⟨_, rfl, .refl _⟩, ⟨_, rfl, .refl _⟩, ⟨_, rfl, .refl _⟩, trivial⟩) rfl rfl rfl hih2
      · rw [show lb.take j = lb from List.take_of_length_le (by omega)]
        repeat' (first
         | refine gc_ rfl ?_
         | (refine g_region ?_; refine run_ th rfl ?_)
         | (refine g_drawC mix rfl rfl ?_; refine drun_ th rfl ?_)
         | (refine g_drawEC mix rfl rfl ?_; refine erun_ th rfl ?_)
         | refine SOps.nil ?_
         | refine DOps.nil ?_
         | refine EOps.nil ?_ rfl rfl
         | (refine s_split rfl rfl (fun hb => ?_) (fun hb => ?_) <;> (try simp only [hbL] at hb) <;> first | (exfalso; omega) | refine run_ th rfl ?_)
         | (refine d_split rfl rfl rfl (fun hb => ?_) (fun hb => ?_) <;> (try simp only [hbL] at hb) <;> first | (exfalso; omega) | refine drun_ th rfl ?_)
         | (refine g_if rfl (fun hb => ?_) (fun hb => ?_) <;> (try simp only [hbL] at hb) <;> (try (exfalso; omega)))
         | (refine s_add rfl rfl rfl rfl rfl rfl (by omega) ?_; refine run_ th rfl ?_))
        exact g_sub (by exact ⟨⟨_, rfl, .refl _⟩, ⟨_, rfl, .refl _⟩, ⟨_, rfl, .refl _⟩, ⟨_, rfl, .refl _⟩, ⟨_, rfl, .refl _⟩, ⟨_, rfl, .refl _⟩, ⟨_, rfl, .refl _⟩, ⟨_, rfl, .refl _⟩, ⟨_, rfl, .refl _⟩, ⟨_, rfl, le_int (by omega)⟩, trivial⟩) (by exact ⟨⟨_, rfl, .refl _⟩, ⟨_, rfl, .refl _⟩, ⟨_, rfl, .refl _⟩, ⟨_, rfl, .refl _⟩, ⟨_, rfl, .refl _⟩, trivial⟩) rfl rfl rfl hih
    have hA := allJ_len hv (p := p) (near := near) near.length
    rw [List.take_length] at hA
    rw [show near.take k = near from List.take_of_length_le (by omega)]
    clear ih hk
    obtain ⟨A, hAA⟩ : ∃ A, A = allL p near := ⟨_, rfl⟩
    rw [← hAA] at hA ⊢
    repeat' ((fail_if_success refine g_atR 22 rfl ?_); first
     | refine gc_ rfl ?_
     | (refine g_region ?_; refine run_ th rfl ?_)
     | (refine g_drawC mix rfl rfl ?_; refine drun_ th rfl ?_)
     | (refine g_drawEC mix rfl rfl ?_; refine erun_ th rfl ?_)
     | refine SOps.nil ?_
     | refine DOps.nil ?_
     | refine EOps.nil ?_ rfl rfl
     | (refine s_split rfl rfl (fun hb => ?_) (fun hb => ?_) <;> (try simp only [hbL] at hb) <;> first | (exfalso; omega) | refine run_ th rfl ?_)
     | (refine d_split rfl rfl rfl (fun hb => ?_) (fun hb => ?_) <;> (try simp only [hbL] at hb) <;> first | (exfalso; omega) | refine drun_ th rfl ?_)
     | (refine g_if rfl (fun hb => ?_) (fun hb => ?_) <;> (try simp only [hbL] at hb) <;> (try (exfalso; omega))))
    refine g_join2Q ((s1 && near.any (fun x => decide (labsL (pntAt p x) ≠ A))) = false)
      [(0, .v (.one (.ptr given 0))), (1, .v (C1 (intsT near))), (4, .v (.one (.ptr 4 0))), (5, .v (C1 (.int .i64 0))), (12, .v (.one (.ptr 12 0))), (13, .v (C1 (namesT A)))]
      ((12, .box [.c (.int .i64 (kindOf s1)), .c (.str s2), .c .nils]) :: (4, zBox) :: seerM p role v S) rfl (fun hsay => ?_) (fun hk0 => ?_)
    · have hsay' : ((sideAt p role x0).1 && near.any (fun x => decide (labsL (pntAt p x) ≠ allL p near))) = false := by rw [hs, ← hAA]; exact hsay
      obtain ⟨kd, hkd⟩ : ∃ kd, kd = kindOf s1 := ⟨_, rfl⟩
      rw [← hkd]
      repeat' (first
       | refine gc_ rfl ?_
       | (refine g_region ?_; refine run_ th rfl ?_)
       | (refine g_drawC mix rfl rfl ?_; refine drun_ th rfl ?_)
       | (refine g_drawEC mix rfl rfl ?_; refine erun_ th rfl ?_)
       | refine SOps.nil ?_
       | refine DOps.nil ?_
       | refine EOps.nil ?_ rfl rfl
       | (refine s_split rfl rfl (fun hb => ?_) (fun hb => ?_) <;> (try simp only [hbL] at hb) <;> first | (exfalso; omega) | refine run_ th rfl ?_)
       | (refine d_split rfl rfl rfl (fun hb => ?_) (fun hb => ?_) <;> (try simp only [hbL] at hb) <;> first | (exfalso; omega) | refine drun_ th rfl ?_)
       | (refine g_if rfl (fun hb => ?_) (fun hb => ?_) <;> (try simp only [hbL] at hb) <;> (try (exfalso; omega))))
      · refine g_leB 4 2 (armsC []) rfl rfl (.nil 4) ?_
        unfold turnT
        rw [turn_large hne hal hsay' (by rw [← hAA]; omega)]
        exact g_endM (hd := hd) th Tryd.func21 v (.inr ⟨_, rfl⟩) rfl rfl rfl rfl ⟨rfl, rfl, rfl, trivial⟩ rfl rfl rfl trivial
      have hA6 : ¬ 6 < (allL p near).length := by rw [← hAA]; omega
      refine g_newPool 300 3 1 rfl rfl ?_
      refine g_loop2 (fun (k : Nat) (s : CarM × RowM) => k ≤ near.length ∧ Gath (armsN p (near.take k)) s.1 s.2)
        (fun k _ => [(0, .v (.one (.ptr given 0))), (1, .v (C1 (intsT near))), (4, .v (.one (.ptr 4 0))), (5, .v (C1 (.int .i64 0))), (12, .v (.one (.ptr 12 0))), (13, .v (C1 (namesT A))), (20, .v (.one (.mp 119))), (21, .v (.one (.mp 120))), (121, .v (C1 (intsT near))), (122, .v (C1 (.int .i64 (near.length : Int)))), (123, .v (C1 (.int .i64 (k : Int))))])
        (fun _ s => gMM p role v S kd s2 s.1 s.2)
        (fun k _ => near.length - k) 0 ([], []) ⟨Nat.zero_le _, Gath.nil⟩
        (fun a w h => h.sub (by exact ⟨⟨_, rfl, .refl _⟩, ⟨_, rfl, .refl _⟩, ⟨_, rfl, .refl _⟩, ⟨_, rfl, .refl _⟩, ⟨_, rfl, .refl _⟩, ⟨_, rfl, .refl _⟩, ⟨_, rfl, .refl _⟩, ⟨_, rfl, .refl _⟩, ⟨_, rfl, .refl _⟩, ⟨_, rfl, le_int (by simp)⟩, ⟨_, rfl, le_int rfl⟩, trivial⟩)
          (by exact ⟨⟨_, rfl, .refl _⟩, ⟨_, rfl, .refl _⟩, ⟨_, rfl, .refl _⟩, ⟨_, rfl, .refl _⟩, ⟨_, rfl, .refl _⟩, ⟨_, rfl, .refl _⟩, ⟨_, rfl, .refl _⟩, ⟨_, rfl, .refl _⟩, trivial⟩) rfl rfl rfl) (fun k s hk ih => ?_)
      obtain ⟨cm, xm⟩ := s
      obtain ⟨hk, hG⟩ := hk
      simp only at hG ⊢
      by_cases hlt4 : k < near.length
      · have hx : (near.map fun r => [CT.int .i64 r])[k]? = some [.int .i64 near[k]] := by simp [hlt4]
        have hxr := hnr _ (List.getElem_mem hlt4)
        have hxp := pntAt_get hxr
        have hx6 : (pntAt p near[k]).arms.length ≤ 6 := by
          rcases pntAt_arms hv near[k] with h1 | h1
          · rw [h1]; simp
          · exact (arms_all h1).1.2
        have hsp := fun j => armsN_split (p := p) (j := j) hlt4
        have hih := fun s h => ih (k + 1) s ⟨hlt4, h⟩ (by omega)
        rw [armsN_snoc hlt4] at hih
        obtain ⟨q, hq⟩ : ∃ q, q = pntAt p near[k] := ⟨_, rfl⟩
        rw [← hq] at hxp hx6 hsp hih
        repeat' (first
         | refine gc_ rfl ?_
         | (refine g_region ?_; refine run_ th rfl ?_)
         | (refine g_drawC mix rfl rfl ?_; refine drun_ th rfl ?_)
         | (refine g_drawEC mix rfl rfl ?_; refine erun_ th rfl ?_)
         | refine SOps.nil ?_
         | refine DOps.nil ?_
         | refine EOps.nil ?_ rfl rfl
         | (refine s_split rfl rfl (fun hb => ?_) (fun hb => ?_) <;> (try simp only [hbL] at hb) <;> first | (exfalso; omega) | refine run_ th rfl ?_)
         | (refine d_split rfl rfl rfl (fun hb => ?_) (fun hb => ?_) <;> (try simp only [hbL] at hb) <;> first | (exfalso; omega) | refine drun_ th rfl ?_)
         | (refine g_if rfl (fun hb => ?_) (fun hb => ?_) <;> (try simp only [hbL] at hb) <;> (try (exfalso; omega)))
         | (refine s_idx th rfl rfl rfl rfl rfl rfl rfl rfl rfl k _ rfl hx ?_; refine run_ th rfl ?_)
         | (refine s_idx th rfl rfl rfl rfl rfl rfl rfl rfl rfl near[k].toNat _ (by omega) hxp ?_; refine run_ th rfl ?_))
        refine g_loop2 (fun (j : Nat) (s : CarM × RowM) => j ≤ q.arms.length ∧ Gath (armsN p (near.take k) ++ q.arms.take j) s.1 s.2)
          (fun j _ => [(0, .v (.one (.ptr given 0))), (1, .v (C1 (intsT near))), (4, .v (.one (.ptr 4 0))), (5, .v (C1 (.int .i64 0))), (12, .v (.one (.ptr 12 0))), (13, .v (C1 (namesT A))), (20, .v (.one (.mp 119))), (21, .v (.one (.mp 120))), (121, .v (C1 (intsT near))), (122, .v (C1 (.int .i64 (near.length : Int)))), (123, .v (C1 (.int .i64 (k : Int)))),
            (135, .v (C1 (armsC q.arms))), (136, .v (C1 (.int .i64 (q.arms.length : Int)))), (137, .v (C1 (.int .i64 (j : Int))))])
          (fun _ s => gMM p role v S kd s2 s.1 s.2)
          (fun j _ => q.arms.length - j) 0 (cm, xm) ⟨Nat.zero_le _, by rw [List.take_zero, List.append_nil]; exact hG⟩
          (fun a w h => h.sub (by exact ⟨⟨_, rfl, .refl _⟩, ⟨_, rfl, .refl _⟩, ⟨_, rfl, .refl _⟩, ⟨_, rfl, .refl _⟩, ⟨_, rfl, .refl _⟩, ⟨_, rfl, .refl _⟩, ⟨_, rfl, .refl _⟩, ⟨_, rfl, .refl _⟩, ⟨_, rfl, .refl _⟩, ⟨_, rfl, .refl _⟩, ⟨_, rfl, .refl _⟩, ⟨_, rfl, .refl _⟩, ⟨_, rfl, le_int (by simp)⟩, ⟨_, rfl, le_int rfl⟩, trivial⟩)
            (by exact ⟨⟨_, rfl, .refl _⟩, ⟨_, rfl, .refl _⟩, ⟨_, rfl, .refl _⟩, ⟨_, rfl, .refl _⟩, ⟨_, rfl, .refl _⟩, ⟨_, rfl, .refl _⟩, ⟨_, rfl, .refl _⟩, ⟨_, rfl, .refl _⟩, trivial⟩) rfl rfl rfl) (fun j s hj ih2 => ?_)
        clear hG
        obtain ⟨cm1, xm1⟩ := s
        obtain ⟨hj, hG⟩ := hj
        simp only at hG ⊢
        by_cases hjt : j < q.arms.length
        · have hxj : (q.arms.map Arm.cs)[j]? = some (q.arms[j]).cs := by simp [hjt]
          obtain ⟨rest, hsp⟩ := hsp j hjt
          obtain ⟨a, ha⟩ : ∃ a, a = q.arms[j] := ⟨_, rfl⟩
          rw [← ha] at hsp hxj
          have hG2 : ∀ vx, (lookK cm1 a.label = none ∨ lookK cm1 a.label = some (a.kind, a.name)) → Gath (armsN p (near.take k) ++ q.arms.take (j + 1)) (putK cm1 a.label (a.kind, a.name)) (updR xm1 a.label vx a.next) := by
            intro vx hgo
            rw [List.take_succ_eq_append_getElem hjt, ← List.append_assoc, ← ha]
            exact hG.step a hgo vx
          have hnxl : (nxtX xm1 a.label).length ≤ 200 := by
            rw [hG.nxt]
            have h1 := nextN_len (armsN p (near.take k) ++ q.arms.take j) a.label
            have h2 := armsN_len hv (near.take k)
            rw [List.length_append, List.length_take] at h1
            rw [List.length_take] at h2
            omega
          have hih2 := fun (vx : Value) (hgo : lookK cm1 a.label = none ∨ lookK cm1 a.label = some (a.kind, a.name)) => ih2 (j + 1) (putK cm1 a.label (a.kind, a.name), updR xm1 a.label vx a.next) ⟨hjt, hG2 vx hgo⟩ (by omega)
          cases hlk : lookK cm1 a.label with
          | none =>
            have hIs : (lookK cm1 a.label).isSome = false := by rw [hlk]; rfl
            repeat' ((fail_if_success refine g_atR 44 rfl ?_); first
             | refine gc_ rfl ?_
             | (refine g_region ?_; refine run_ th rfl ?_)
             | (refine g_drawC mix rfl rfl ?_; refine drun_ th rfl ?_)
             | (refine g_drawEC mix rfl rfl ?_; refine erun_ th rfl ?_)
             | refine SOps.nil ?_
             | refine DOps.nil ?_
             | refine EOps.nil ?_ rfl rfl
             | (refine s_split rfl rfl (fun hb => ?_) (fun hb => ?_) <;> (try simp only [hbL] at hb) <;> first | (exfalso; omega) | refine run_ th rfl ?_)
             | (refine d_split rfl rfl rfl (fun hb => ?_) (fun hb => ?_) <;> (try simp only [hbL] at hb) <;> first | (exfalso; omega) | refine drun_ th rfl ?_)
             | (refine g_if rfl (fun hb => ?_) (fun hb => ?_) <;> (try simp only [hbL] at hb) <;> (try (exfalso; omega)))
             | (refine s_idx th rfl rfl rfl rfl rfl rfl rfl rfl rfl j _ rfl hxj ?_; refine run_ th rfl ?_)
             | (refine s_lookKOk th rfl rfl rfl rfl rfl rfl rfl rfl rfl rfl ?_; rw [hIs]; refine run_ th rfl ?_)
             | (refine s_putK th (.inl rfl) rfl rfl rfl rfl rfl rfl rfl rfl ?_; refine run_ th rfl ?_))
            have hgo : lookK cm1 a.label = none ∨ lookK cm1 a.label = some (a.kind, a.name) := .inl hlk
            refine g_sub (tm' := [(0, .v (.one (.ptr given 0))), (1, .v (C1 (intsT near))), (4, .v (.one (.ptr 4 0))), (5, .v (C1 (.int .i64 0))), (12, .v (.one (.ptr 12 0))), (13, .v (C1 (namesT A))), (20, .v (.one (.mp 119))), (21, .v (.one (.mp 120))), (25, .v (.one (.ptr 25 0))), (121, .v (C1 (intsT near))), (122, .v (C1 (.int .i64 (near.length : Int)))), (123, .v (C1 (.int .i64 (k : Int)))), (135, .v (C1 (armsC q.arms))), (136, .v (C1 (.int .i64 (q.arms.length : Int)))), (137, .v (C1 (.int .i64 (j : Int))))]) (mm' := (119, .mpo (entF strF (valV xm1))) :: (300, .pool 3 1 (poolR xm1)) :: [(25, .box [.c (.str a.label), .c (.int .i64 a.kind), .c (.str a.name), .c (.int .i64 a.next)]), (120, .mpo (entK (putK cm1 a.label (a.kind, a.name)))), (12, .box [.c (.int .i64 kd), .c (.str s2), .c .nils]), (4, .box [.c (.int .i64 0), .c (.str ⟨#[]⟩), .c .nils]), (given, .box (seerCs p role v)), (given + 1, keysM S), (1, .pool 43 1 [(v, rowsI S)])]) (by exact ⟨⟨_, rfl, .refl _⟩, ⟨_, rfl, .refl _⟩, ⟨_, rfl, .refl _⟩, ⟨_, rfl, .refl _⟩, ⟨_, rfl, .refl _⟩, ⟨_, rfl, .refl _⟩, ⟨_, rfl, .refl _⟩, ⟨_, rfl, .refl _⟩, ⟨_, rfl, .refl _⟩, ⟨_, rfl, .refl _⟩, ⟨_, rfl, .refl _⟩, ⟨_, rfl, .refl _⟩, ⟨_, rfl, .refl _⟩, ⟨_, rfl, .refl _⟩, ⟨_, rfl, .refl _⟩, trivial⟩) (by exact ⟨⟨_, rfl, .refl _⟩, ⟨_, rfl, .refl _⟩, ⟨_, rfl, .refl _⟩, ⟨_, rfl, .refl _⟩, ⟨_, rfl, .refl _⟩, ⟨_, rfl, .refl _⟩, ⟨_, rfl, .refl _⟩, ⟨_, rfl, .refl _⟩, ⟨_, rfl, .refl _⟩, trivial⟩) rfl rfl rfl ?_
            rcases find_at xm1 a.label with ⟨c0, v0, f1, f2, f3⟩ | ⟨f1, f2, f3⟩
            · skip
              refine g_drawF (ι := Value) [10, 11] [300] r44ET (r44 [(25, .box [.c (.str a.label), .c (.int .i64 a.kind), .c (.str a.name), .c (.int .i64 a.next)]), (120, .mpo (entK (putK cm1 a.label (a.kind, a.name)))), (12, .box [.c (.int .i64 kd), .c (.str s2), .c .nils]), (4, .box [.c (.int .i64 0), .c (.str ⟨#[]⟩), .c .nils]), (given, .box (seerCs p role v)), (given + 1, keysM S), (1, .pool 43 1 [(v, rowsI S)])] (entF strF (valV xm1)) (fun v => entF strF (putC (valV xm1) a.label (.val v))) (poolR xm1) (fun v => (poolR xm1).set c0 (v, rowI' (nxtX xm1 a.label) ++ [[.int .i64 a.next]]))) (.slice none 0 0) mix rfl (fun k x hk => by match k, hk with | 0, _ => (refine subG_spec ?_; repeat (first | exact trivial | refine ⟨rfl, ?_⟩)) | 1, _ => (refine subG_spec ?_; repeat (first | exact trivial | refine ⟨rfl, ?_⟩))) rfl (fun k x => by match k with | 0 => rfl | 1 => rfl | _ + 2 => rfl) rfl rfl (by simp) rfl rfl ?_
              refine frun_ th rfl ?_
              refine f_lookV th rfl rfl rfl rfl rfl rfl rfl rfl rfl rfl rfl v0 (.inl f1) ?_
              refine frun_ th rfl ?_
              refine f_lit th rfl rfl rfl rfl rfl rfl rfl rfl rfl rfl rfl rfl rfl (.refl _) ?_
              refine frun_ th rfl ?_
              refine FOps.nil ⟨Effs.cons rfl (fun x => ?_) (Effs.cons rfl (fun x => ?_) Effs.nil), fun v' => ?_⟩
              · exact ef_append (i := 300) th rfl rfl rfl rfl rfl rfl rfl rfl rfl rfl rfl rfl rfl rfl rfl rfl c0 f2 (by constructor <;> simp <;> omega) (fun v' => v') (fun _ => rfl) (fun _ => rfl)
              · exact ef_putS th (.inl rfl) rfl rfl rfl rfl rfl rfl rfl rfl rfl rfl
              have hih3 := hih2 v' hgo
              repeat' (first
               | refine gc_ rfl ?_
               | (refine g_region ?_; refine run_ th rfl ?_)
               | (refine g_drawC mix rfl rfl ?_; refine drun_ th rfl ?_)
               | (refine g_drawEC mix rfl rfl ?_; refine erun_ th rfl ?_)
               | refine SOps.nil ?_
               | refine DOps.nil ?_
               | refine EOps.nil ?_ rfl rfl
               | (refine s_split rfl rfl (fun hb => ?_) (fun hb => ?_) <;> (try simp only [hbL] at hb) <;> first | (exfalso; omega) | refine run_ th rfl ?_)
               | (refine d_split rfl rfl rfl (fun hb => ?_) (fun hb => ?_) <;> (try simp only [hbL] at hb) <;> first | (exfalso; omega) | refine drun_ th rfl ?_)
               | (refine g_if rfl (fun hb => ?_) (fun hb => ?_) <;> (try simp only [hbL] at hb) <;> (try (exfalso; omega)))
               | (refine s_add rfl rfl rfl rfl rfl rfl (by omega) ?_; refine run_ th rfl ?_))
              exact g_sub (by exact ⟨⟨_, rfl, .refl _⟩, ⟨_, rfl, .refl _⟩, ⟨_, rfl, .refl _⟩, ⟨_, rfl, .refl _⟩, ⟨_, rfl, .refl _⟩, ⟨_, rfl, .refl _⟩, ⟨_, rfl, .refl _⟩, ⟨_, rfl, .refl _⟩, ⟨_, rfl, .refl _⟩, ⟨_, rfl, .refl _⟩, ⟨_, rfl, .refl _⟩, ⟨_, rfl, .refl _⟩, ⟨_, rfl, .refl _⟩, ⟨_, rfl, le_int (by omega)⟩, trivial⟩) (by exact ⟨⟨_, rfl, le_mpo (by rw [val_upd])⟩, ⟨_, rfl, .refl _⟩, ⟨_, rfl, le_poolQ (f3 v' a.next).symm⟩, ⟨_, rfl, .refl _⟩, ⟨_, rfl, .refl _⟩, ⟨_, rfl, .refl _⟩, ⟨_, rfl, .refl _⟩, ⟨_, rfl, .refl _⟩, trivial⟩) rfl rfl rfl hih3
            · skip
              refine g_nilPool 300 rfl rfl rfl rfl ?_
              refine g_drawF (ι := Value) [10, 11] [300] r44ET (r44 [(25, .box [.c (.str a.label), .c (.int .i64 a.kind), .c (.str a.name), .c (.int .i64 a.next)]), (120, .mpo (entK (putK cm1 a.label (a.kind, a.name)))), (12, .box [.c (.int .i64 kd), .c (.str s2), .c .nils]), (4, .box [.c (.int .i64 0), .c (.str ⟨#[]⟩), .c .nils]), (given, .box (seerCs p role v)), (given + 1, keysM S), (1, .pool 43 1 [(v, rowsI S)])] (entF strF (valV xm1)) (fun v => entF strF (putC (valV xm1) a.label (.val v))) (poolR xm1 ++ [(Value.slice none 0 0, [])]) (fun v => (poolR xm1 ++ [(Value.slice none 0 0, [])]).set xm1.length (v, [[.int .i64 a.next]]))) (.slice none 0 0) mix rfl (fun k x hk => by match k, hk with | 0, _ => (refine subG_spec ?_; repeat (first | exact trivial | refine ⟨rfl, ?_⟩)) | 1, _ => (refine subG_spec ?_; repeat (first | exact trivial | refine ⟨rfl, ?_⟩))) rfl (fun k x => by match k with | 0 => rfl | 1 => rfl | _ + 2 => rfl) rfl rfl (by simp) rfl rfl ?_
              refine frun_ th rfl ?_
              refine f_lookV th rfl rfl rfl rfl rfl rfl rfl rfl rfl rfl rfl (.slice none 0 0) (.inr ⟨f1, rfl⟩) ?_
              refine frun_ th rfl ?_
              refine f_lit th rfl rfl rfl rfl rfl rfl rfl rfl rfl rfl rfl rfl rfl (.refl _) ?_
              refine frun_ th rfl ?_
              refine FOps.nil ⟨Effs.cons rfl (fun x => ?_) (Effs.cons rfl (fun x => ?_) Effs.nil), fun v' => ?_⟩
              · exact ef_append (i := 300) th rfl rfl rfl rfl rfl rfl rfl rfl rfl rfl rfl rfl rfl rfl rfl rfl xm1.length (by rw [← poolR_len xm1]; exact List.getElem?_concat_length) (by constructor <;> simp <;> omega) (fun v' => v') (fun _ => rfl) (fun _ => rfl)
              · exact ef_putS th (.inl rfl) rfl rfl rfl rfl rfl rfl rfl rfl rfl rfl
              have hih3 := hih2 v' hgo
              repeat' (first
               | refine gc_ rfl ?_
               | (refine g_region ?_; refine run_ th rfl ?_)
               | (refine g_drawC mix rfl rfl ?_; refine drun_ th rfl ?_)
               | (refine g_drawEC mix rfl rfl ?_; refine erun_ th rfl ?_)
               | refine SOps.nil ?_
               | refine DOps.nil ?_
               | refine EOps.nil ?_ rfl rfl
               | (refine s_split rfl rfl (fun hb => ?_) (fun hb => ?_) <;> (try simp only [hbL] at hb) <;> first | (exfalso; omega) | refine run_ th rfl ?_)
               | (refine d_split rfl rfl rfl (fun hb => ?_) (fun hb => ?_) <;> (try simp only [hbL] at hb) <;> first | (exfalso; omega) | refine drun_ th rfl ?_)
               | (refine g_if rfl (fun hb => ?_) (fun hb => ?_) <;> (try simp only [hbL] at hb) <;> (try (exfalso; omega)))
               | (refine s_add rfl rfl rfl rfl rfl rfl (by omega) ?_; refine run_ th rfl ?_))
              exact g_sub (by exact ⟨⟨_, rfl, .refl _⟩, ⟨_, rfl, .refl _⟩, ⟨_, rfl, .refl _⟩, ⟨_, rfl, .refl _⟩, ⟨_, rfl, .refl _⟩, ⟨_, rfl, .refl _⟩, ⟨_, rfl, .refl _⟩, ⟨_, rfl, .refl _⟩, ⟨_, rfl, .refl _⟩, ⟨_, rfl, .refl _⟩, ⟨_, rfl, .refl _⟩, ⟨_, rfl, .refl _⟩, ⟨_, rfl, .refl _⟩, ⟨_, rfl, le_int (by omega)⟩, trivial⟩) (by exact ⟨⟨_, rfl, le_mpo (by rw [val_upd])⟩, ⟨_, rfl, .refl _⟩, ⟨_, rfl, le_poolQ (f3 v' a.next).symm⟩, ⟨_, rfl, .refl _⟩, ⟨_, rfl, .refl _⟩, ⟨_, rfl, .refl _⟩, ⟨_, rfl, .refl _⟩, ⟨_, rfl, .refl _⟩, trivial⟩) rfl rfl rfl hih3
          | some c =>
            obtain ⟨c1, c2⟩ := c
            have hIs : (lookK cm1 a.label).isSome = true := by rw [hlk]; rfl
            have hDe : lookKD cm1 a.label = (c1, c2) := by unfold lookKD; rw [hlk]; rfl
            repeat' ((fail_if_success refine g_atR 44 rfl ?_); first
             | refine gc_ rfl ?_
             | (refine g_region ?_; refine run_ th rfl ?_)
             | (refine g_drawC mix rfl rfl ?_; refine drun_ th rfl ?_)
             | (refine g_drawEC mix rfl rfl ?_; refine erun_ th rfl ?_)
             | refine SOps.nil ?_
             | refine DOps.nil ?_
             | refine EOps.nil ?_ rfl rfl
             | (refine s_split rfl rfl (fun hb => ?_) (fun hb => ?_) <;> (try simp only [hbL] at hb) <;> first | (exfalso; omega) | refine run_ th rfl ?_)
             | (refine d_split rfl rfl rfl (fun hb => ?_) (fun hb => ?_) <;> (try simp only [hbL] at hb) <;> first | (exfalso; omega) | refine drun_ th rfl ?_)
             | (refine g_if rfl (fun hb => ?_) (fun hb => ?_) <;> (try simp only [hbL] at hb) <;> (try (exfalso; omega)))
             | (refine s_idx th rfl rfl rfl rfl rfl rfl rfl rfl rfl j _ rfl hxj ?_; refine run_ th rfl ?_)
             | (refine s_lookKOk th rfl rfl rfl rfl rfl rfl rfl rfl rfl rfl ?_; rw [hIs, hDe]; refine run_ th rfl ?_)
             | (refine s_neCar rfl rfl rfl rfl rfl rfl rfl ?_; refine run_ th rfl ?_)
             | (refine s_putK th (.inl rfl) rfl rfl rfl rfl rfl rfl rfl rfl ?_; refine run_ th rfl ?_))
            · have hbad := hG.clash a hlk (by intro e; revert hb; simp [← e]; done) rest
              rw [← hsp] at hbad
              refine g_leB 4 2 (armsC []) rfl rfl (.nil 4) ?_
              unfold turnT
              rw [turn_clash hne hal hsay' hA6 hbad]
              exact g_endM (hd := hd) th Tryd.func21 v (.inr ⟨_, rfl⟩) rfl rfl rfl rfl ⟨rfl, rfl, rfl, trivial⟩ rfl rfl rfl trivial
            all_goals try (exfalso; revert hb; simp; done)
            have hgo : lookK cm1 a.label = none ∨ lookK cm1 a.label = some (a.kind, a.name) := .inr (by rw [hlk]; exact congrArg some (by simpa using hb))
            refine g_sub (tm' := [(0, .v (.one (.ptr given 0))), (1, .v (C1 (intsT near))), (4, .v (.one (.ptr 4 0))), (5, .v (C1 (.int .i64 0))), (12, .v (.one (.ptr 12 0))), (13, .v (C1 (namesT A))), (20, .v (.one (.mp 119))), (21, .v (.one (.mp 120))), (25, .v (.one (.ptr 25 0))), (121, .v (C1 (intsT near))), (122, .v (C1 (.int .i64 (near.length : Int)))), (123, .v (C1 (.int .i64 (k : Int)))), (135, .v (C1 (armsC q.arms))), (136, .v (C1 (.int .i64 (q.arms.length : Int)))), (137, .v (C1 (.int .i64 (j : Int))))]) (mm' := (119, .mpo (entF strF (valV xm1))) :: (300, .pool 3 1 (poolR xm1)) :: [(25, .box [.c (.str a.label), .c (.int .i64 a.kind), .c (.str a.name), .c (.int .i64 a.next)]), (120, .mpo (entK (putK cm1 a.label (a.kind, a.name)))), (12, .box [.c (.int .i64 kd), .c (.str s2), .c .nils]), (4, .box [.c (.int .i64 0), .c (.str ⟨#[]⟩), .c .nils]), (given, .box (seerCs p role v)), (given + 1, keysM S), (1, .pool 43 1 [(v, rowsI S)])]) (by exact ⟨⟨_, rfl, .refl _⟩, ⟨_, rfl, .refl _⟩, ⟨_, rfl, .refl _⟩, ⟨_, rfl, .refl _⟩, ⟨_, rfl, .refl _⟩, ⟨_, rfl, .refl _⟩, ⟨_, rfl, .refl _⟩, ⟨_, rfl, .refl _⟩, ⟨_, rfl, .refl _⟩, ⟨_, rfl, .refl _⟩, ⟨_, rfl, .refl _⟩, ⟨_, rfl, .refl _⟩, ⟨_, rfl, .refl _⟩, ⟨_, rfl, .refl _⟩, ⟨_, rfl, .refl _⟩, trivial⟩) (by exact ⟨⟨_, rfl, .refl _⟩, ⟨_, rfl, .refl _⟩, ⟨_, rfl, .refl _⟩, ⟨_, rfl, .refl _⟩, ⟨_, rfl, .refl _⟩, ⟨_, rfl, .refl _⟩, ⟨_, rfl, .refl _⟩, ⟨_, rfl, .refl _⟩, ⟨_, rfl, .refl _⟩, trivial⟩) rfl rfl rfl ?_
            rcases find_at xm1 a.label with ⟨c0, v0, f1, f2, f3⟩ | ⟨f1, f2, f3⟩
            · skip
              refine g_drawF (ι := Value) [10, 11] [300] r44ET (r44 [(25, .box [.c (.str a.label), .c (.int .i64 a.kind), .c (.str a.name), .c (.int .i64 a.next)]), (120, .mpo (entK (putK cm1 a.label (a.kind, a.name)))), (12, .box [.c (.int .i64 kd), .c (.str s2), .c .nils]), (4, .box [.c (.int .i64 0), .c (.str ⟨#[]⟩), .c .nils]), (given, .box (seerCs p role v)), (given + 1, keysM S), (1, .pool 43 1 [(v, rowsI S)])] (entF strF (valV xm1)) (fun v => entF strF (putC (valV xm1) a.label (.val v))) (poolR xm1) (fun v => (poolR xm1).set c0 (v, rowI' (nxtX xm1 a.label) ++ [[.int .i64 a.next]]))) (.slice none 0 0) mix rfl (fun k x hk => by match k, hk with | 0, _ => (refine subG_spec ?_; repeat (first | exact trivial | refine ⟨rfl, ?_⟩)) | 1, _ => (refine subG_spec ?_; repeat (first | exact trivial | refine ⟨rfl, ?_⟩))) rfl (fun k x => by match k with | 0 => rfl | 1 => rfl | _ + 2 => rfl) rfl rfl (by simp) rfl rfl ?_
              refine frun_ th rfl ?_
              refine f_lookV th rfl rfl rfl rfl rfl rfl rfl rfl rfl rfl rfl v0 (.inl f1) ?_
              refine frun_ th rfl ?_
              refine f_lit th rfl rfl rfl rfl rfl rfl rfl rfl rfl rfl rfl rfl rfl (.refl _) ?_
              refine frun_ th rfl ?_
              refine FOps.nil ⟨Effs.cons rfl (fun x => ?_) (Effs.cons rfl (fun x => ?_) Effs.nil), fun v' => ?_⟩
              · exact ef_append (i := 300) th rfl rfl rfl rfl rfl rfl rfl rfl rfl rfl rfl rfl rfl rfl rfl rfl c0 f2 (by constructor <;> simp <;> omega) (fun v' => v') (fun _ => rfl) (fun _ => rfl)
              · exact ef_putS th (.inl rfl) rfl rfl rfl rfl rfl rfl rfl rfl rfl rfl
              have hih3 := hih2 v' hgo
              repeat' (first
               | refine gc_ rfl ?_
               | (refine g_region ?_; refine run_ th rfl ?_)
               | (refine g_drawC mix rfl rfl ?_; refine drun_ th rfl ?_)
               | (refine g_drawEC mix rfl rfl ?_; refine erun_ th rfl ?_)
               | refine SOps.nil ?_
               | refine DOps.nil ?_
               | refine EOps.nil ?_ rfl rfl
               | (refine s_split rfl rfl (fun hb => ?_) (fun hb => ?_) <;> (try simp only [hbL] at hb) <;> first | (exfalso; omega) | refine run_ th rfl ?_)
               | (refine d_split rfl rfl rfl (fun hb => ?_) (fun hb => ?_) <;> (try simp only [hbL] at hb) <;> first | (exfalso; omega) | refine drun_ th rfl ?_)
               | (refine g_if rfl (fun hb => ?_) (fun hb => ?_) <;> (try simp only [hbL] at hb) <;> (try (exfalso; omega)))
               | (refine s_add rfl rfl rfl rfl rfl rfl (by omega) ?_; refine run_ th rfl ?_))
              exact g_sub (by exact ⟨⟨_, rfl, .refl _⟩, ⟨_, rfl, .refl _⟩, ⟨_, rfl, .refl _⟩, ⟨_, rfl, .refl _⟩, ⟨_, rfl, .refl _⟩, ⟨_, rfl, .refl _⟩, ⟨_, rfl, .refl _⟩, ⟨_, rfl, .refl _⟩, ⟨_, rfl, .refl _⟩, ⟨_, rfl, .refl _⟩, ⟨_, rfl, .refl _⟩, ⟨_, rfl, .refl _⟩, ⟨_, rfl, .refl _⟩, ⟨_, rfl, le_int (by omega)⟩, trivial⟩) (by exact ⟨⟨_, rfl, le_mpo (by rw [val_upd])⟩, ⟨_, rfl, .refl _⟩, ⟨_, rfl, le_poolQ (f3 v' a.next).symm⟩, ⟨_, rfl, .refl _⟩, ⟨_, rfl, .refl _⟩, ⟨_, rfl, .refl _⟩, ⟨_, rfl, .refl _⟩, ⟨_, rfl, .refl _⟩, trivial⟩) rfl rfl rfl hih3
            · skip
              refine g_nilPool 300 rfl rfl rfl rfl ?_
              refine g_drawF (ι := Value) [10, 11] [300] r44ET (r44 [(25, .box [.c (.str a.label), .c (.int .i64 a.kind), .c (.str a.name), .c (.int .i64 a.next)]), (120, .mpo (entK (putK cm1 a.label (a.kind, a.name)))), (12, .box [.c (.int .i64 kd), .c (.str s2), .c .nils]), (4, .box [.c (.int .i64 0), .c (.str ⟨#[]⟩), .c .nils]), (given, .box (seerCs p role v)), (given + 1, keysM S), (1, .pool 43 1 [(v, rowsI S)])] (entF strF (valV xm1)) (fun v => entF strF (putC (valV xm1) a.label (.val v))) (poolR xm1 ++ [(Value.slice none 0 0, [])]) (fun v => (poolR xm1 ++ [(Value.slice none 0 0, [])]).set xm1.length (v, [[.int .i64 a.next]]))) (.slice none 0 0) mix rfl (fun k x hk => by match k, hk with | 0, _ => (refine subG_spec ?_; repeat (first | exact trivial | refine ⟨rfl, ?_⟩)) | 1, _ => (refine subG_spec ?_; repeat (first | exact trivial | refine ⟨rfl, ?_⟩))) rfl (fun k x => by match k with | 0 => rfl | 1 => rfl | _ + 2 => rfl) rfl rfl (by simp) rfl rfl ?_
              refine frun_ th rfl ?_
              refine f_lookV th rfl rfl rfl rfl rfl rfl rfl rfl rfl rfl rfl (.slice none 0 0) (.inr ⟨f1, rfl⟩) ?_
              refine frun_ th rfl ?_
              refine f_lit th rfl rfl rfl rfl rfl rfl rfl rfl rfl rfl rfl rfl rfl (.refl _) ?_
              refine frun_ th rfl ?_
              refine FOps.nil ⟨Effs.cons rfl (fun x => ?_) (Effs.cons rfl (fun x => ?_) Effs.nil), fun v' => ?_⟩
              · exact ef_append (i := 300) th rfl rfl rfl rfl rfl rfl rfl rfl rfl rfl rfl rfl rfl rfl rfl rfl xm1.length (by rw [← poolR_len xm1]; exact List.getElem?_concat_length) (by constructor <;> simp <;> omega) (fun v' => v') (fun _ => rfl) (fun _ => rfl)
              · exact ef_putS th (.inl rfl) rfl rfl rfl rfl rfl rfl rfl rfl rfl rfl
              have hih3 := hih2 v' hgo
              repeat' (first
               | refine gc_ rfl ?_
               | (refine g_region ?_; refine run_ th rfl ?_)
               | (refine g_drawC mix rfl rfl ?_; refine drun_ th rfl ?_)
               | (refine g_drawEC mix rfl rfl ?_; refine erun_ th rfl ?_)
               | refine SOps.nil ?_
               | refine DOps.nil ?_
               | refine EOps.nil ?_ rfl rfl
               | (refine s_split rfl rfl (fun hb => ?_) (fun hb => ?_) <;> (try simp only [hbL] at hb) <;> first | (exfalso; omega) | refine run_ th rfl ?_)
               | (refine d_split rfl rfl rfl (fun hb => ?_) (fun hb => ?_) <;> (try simp only [hbL] at hb) <;> first | (exfalso; omega) | refine drun_ th rfl ?_)
               | (refine g_if rfl (fun hb => ?_) (fun hb => ?_) <;> (try simp only [hbL] at hb) <;> (try (exfalso; omega)))
               | (refine s_add rfl rfl rfl rfl rfl rfl (by omega) ?_; refine run_ th rfl ?_))
              exact g_sub (by exact ⟨⟨_, rfl, .refl _⟩, ⟨_, rfl, .refl _⟩, ⟨_, rfl, .refl _⟩, ⟨_, rfl, .refl _⟩, ⟨_, rfl, .refl _⟩, ⟨_, rfl, .refl _⟩, ⟨_, rfl, .refl _⟩, ⟨_, rfl, .refl _⟩, ⟨_, rfl, .refl _⟩, ⟨_, rfl, .refl _⟩, ⟨_, rfl, .refl _⟩, ⟨_, rfl, .refl _⟩, ⟨_, rfl, .refl _⟩, ⟨_, rfl, le_int (by omega)⟩, trivial⟩) (by exact ⟨⟨_, rfl, le_mpo (by rw [val_upd])⟩, ⟨_, rfl, .refl _⟩, ⟨_, rfl, le_poolQ (f3 v' a.next).symm⟩, ⟨_, rfl, .refl _⟩, ⟨_, rfl, .refl _⟩, ⟨_, rfl, .refl _⟩, ⟨_, rfl, .refl _⟩, ⟨_, rfl, .refl _⟩, trivial⟩) rfl rfl rfl hih3
        · rw [show q.arms.take j = q.arms from List.take_of_length_le (by omega)] at hG
          have hih3 := hih (cm1, xm1) hG
          repeat' (first
           | refine gc_ rfl ?_
           | (refine g_region ?_; refine run_ th rfl ?_)
           | (refine g_drawC mix rfl rfl ?_; refine drun_ th rfl ?_)
           | (refine g_drawEC mix rfl rfl ?_; refine erun_ th rfl ?_)
           | refine SOps.nil ?_
           | refine DOps.nil ?_
           | refine EOps.nil ?_ rfl rfl
           | (refine s_split rfl rfl (fun hb => ?_) (fun hb => ?_) <;> (try simp only [hbL] at hb) <;> first | (exfalso; omega) | refine run_ th rfl ?_)
           | (refine d_split rfl rfl rfl (fun hb => ?_) (fun hb => ?_) <;> (try simp only [hbL] at hb) <;> first | (exfalso; omega) | refine drun_ th rfl ?_)
           | (refine g_if rfl (fun hb => ?_) (fun hb => ?_) <;> (try simp only [hbL] at hb) <;> (try (exfalso; omega)))
           | (refine s_add rfl rfl rfl rfl rfl rfl (by omega) ?_; refine run_ th rfl ?_))
          exact g_sub (by exact ⟨⟨_, rfl, .refl _⟩, ⟨_, rfl, .refl _⟩, ⟨_, rfl, .refl _⟩, ⟨_, rfl, .refl _⟩, ⟨_, rfl, .refl _⟩, ⟨_, rfl, .refl _⟩, ⟨_, rfl, .refl _⟩, ⟨_, rfl, .refl _⟩, ⟨_, rfl, .refl _⟩, ⟨_, rfl, .refl _⟩, ⟨_, rfl, le_int (by omega)⟩, trivial⟩) (by exact ⟨⟨_, rfl, .refl _⟩, ⟨_, rfl, .refl _⟩, ⟨_, rfl, .refl _⟩, ⟨_, rfl, .refl _⟩, ⟨_, rfl, .refl _⟩, ⟨_, rfl, .refl _⟩, ⟨_, rfl, .refl _⟩, ⟨_, rfl, .refl _⟩, trivial⟩) rfl rfl rfl hih3
      · rw [show near.take k = near from List.take_of_length_le (by omega)] at hG
        clear ih
        obtain ⟨arr, harr⟩ : ∃ arr, arr = armsN p near := ⟨_, rfl⟩
        have hal2 := armsN_len hv near
        have hnx : ∀ s, (∀ x ∈ nextN arr s, 0 ≤ x ∧ x < (p.points.length : Int)) ∧ (nextN arr s).length ≤ 1000 := fun s => by
          have h1 := nextN_len arr s
          rw [harr] at h1 ⊢
          exact ⟨nextN_range hv, by omega⟩
        have hta := turn_arms (S := S) hne hal hsay' hA6 (by have := hG.ok; exact this)
        rw [← harr] at hG hta
        rw [hs, ← hAA] at hta
        have hA66 : A.length ≤ 6 := by rw [hAA]; omega
        have hSt : armsS p role arr A [] S = armsS p role arr (A.drop 0) [] S := rfl
        repeat' (first
         | refine gc_ rfl ?_
         | (refine g_region ?_; refine run_ th rfl ?_)
         | (refine g_drawC mix rfl rfl ?_; refine drun_ th rfl ?_)
         | (refine g_drawEC mix rfl rfl ?_; refine erun_ th rfl ?_)
         | refine SOps.nil ?_
         | refine DOps.nil ?_
         | refine EOps.nil ?_ rfl rfl
         | (refine s_split rfl rfl (fun hb => ?_) (fun hb => ?_) <;> (try simp only [hbL] at hb) <;> first | (exfalso; omega) | refine run_ th rfl ?_)
         | (refine d_split rfl rfl rfl (fun hb => ?_) (fun hb => ?_) <;> (try simp only [hbL] at hb) <;> first | (exfalso; omega) | refine drun_ th rfl ?_)
         | (refine g_if rfl (fun hb => ?_) (fun hb => ?_) <;> (try simp only [hbL] at hb) <;> (try (exfalso; omega))))
        refine g_freezeV 300 119 rfl rfl rfl rfl rfl rfl ?_
        refine g_adoptB 12 2 290 27 4 rfl rfl rfl rfl ?_
        refine g_loop2 (fun (k : Nat) (s : List Arm × List (List Int) × Value) => k ≤ A.length ∧ s.1.length ≤ k ∧ SeerOK p s.2.1 ∧ armsS p role arr A [] S = armsS p role arr (A.drop k) s.1 s.2.1)
          (fun k _ => [(0, .v (.one (.ptr given 0))), (4, .v (.one (.ptr 4 0))), (5, .v (C1 (.int .i64 0))), (12, .v (.one (.ptr 12 0))), (20, .v (.one (.mp 119))), (21, .v (.one (.mp 120))), (174, .v (C1 (namesT A))), (175, .v (C1 (.int .i64 (A.length : Int)))), (176, .v (C1 (.int .i64 (k : Int))))])
          (fun _ s => [(290, .arr false 27 4 (s.1.map Arm.cs)), (12, .box [.c (.int .i64 kd), .c (.str s2), .own 290]), (4, .box [.c (.int .i64 0), .c (.str ⟨#[]⟩), .c .nils]), (119, .mpo (entF strF (frzV xm))), (120, .mpo (entK cm)),
            (given, .box (seerCs p role s.2.2)), (given + 1, keysM s.2.1), (1, .pool 43 1 [(s.2.2, rowsI s.2.1)])])
          (fun k _ => A.length - k) 0 ([], S, v) ⟨Nat.zero_le _, Nat.le_refl _, hS, hSt⟩
          (fun a w h => h.sub (by exact ⟨⟨_, rfl, .refl _⟩, ⟨_, rfl, .refl _⟩, ⟨_, rfl, .refl _⟩, ⟨_, rfl, .refl _⟩, ⟨_, rfl, .refl _⟩, ⟨_, rfl, .refl _⟩, ⟨_, rfl, .refl _⟩, ⟨_, rfl, le_int (by simp)⟩, ⟨_, rfl, le_int rfl⟩, trivial⟩)
            (by exact ⟨⟨_, rfl, le_arr rfl⟩, ⟨_, rfl, .refl _⟩, ⟨_, rfl, .refl _⟩, ⟨_, rfl, .refl _⟩, ⟨_, rfl, .refl _⟩, ⟨_, rfl, .refl _⟩, ⟨_, rfl, .refl _⟩, ⟨_, rfl, .refl _⟩, trivial⟩) rfl rfl rfl) (fun k s hk ih => ?_)
        obtain ⟨out, S1, v1⟩ := s
        obtain ⟨hk, hol, hS1, hst⟩ := hk
        simp only at hol hS1 hst ⊢
        by_cases hlt5 : k < A.length
        · have hx : (A.map fun s => [CT.str s])[k]? = some [.str A[k]] := by simp [hlt5]
          have hle := frz_look xm A[k]
          rw [hG.nxt] at hle
          have hcar : lookKD cm A[k] = carA arr A[k] := by unfold lookKD carA; rw [hG.car]
          have hlook := look_c p hv hB role hh v1 S1 hS1 (nextN arr A[k]) (hnx _).1 (hnx _).2
          have hS2 := hS1.look hv role (nextN arr A[k])
          rw [List.drop_eq_getElem_cons hlt5, armsS] at hst
          obtain ⟨⟨⟨i2, e2⟩, S2⟩, hL⟩ : ∃ L, L = lookS p role S1 (nextN arr A[k]) := ⟨_, rfl⟩
          unfold lookT at hlook
          simp only [← hL] at hlook hS2 hst
          have hih := fun (h0 : e2 = 0) v2 => ih (k + 1) (out ++ [⟨A[k], (carA arr A[k]).1, (carA arr A[k]).2, i2⟩], S2, v2) ⟨hlt5, by simp; omega, hS2, by rw [hst, if_pos h0]⟩ (by omega)
          have herr := fun (h0 : ¬ e2 = 0) => (show armsS p role arr A [] S = (([], e2), S2) by rw [hst, if_neg h0])
          clear ih hst
          obtain ⟨sk, hsk⟩ : ∃ sk, sk = A[k] := ⟨_, rfl⟩
          rw [← hsk] at hx hle hcar hlook hih
          obtain ⟨cc, hcc⟩ : ∃ cc, cc = carA arr sk := ⟨_, rfl⟩
          rw [← hcc] at hcar hih
          obtain ⟨nx, hnx2⟩ : ∃ nx, nx = nextN arr sk := ⟨_, rfl⟩
          rw [← hnx2] at hle hlook
          repeat' (first
           | refine gc_ rfl ?_
           | (refine g_region ?_; refine run_ th rfl ?_)
           | (refine g_drawC mix rfl rfl ?_; refine drun_ th rfl ?_)
           | (refine g_drawEC mix rfl rfl ?_; refine erun_ th rfl ?_)
           | refine SOps.nil ?_
           | refine DOps.nil ?_
           | refine EOps.nil ?_ rfl rfl
           | (refine s_split rfl rfl (fun hb => ?_) (fun hb => ?_) <;> (try simp only [hbL] at hb) <;> first | (exfalso; omega) | refine run_ th rfl ?_)
           | (refine d_split rfl rfl rfl (fun hb => ?_) (fun hb => ?_) <;> (try simp only [hbL] at hb) <;> first | (exfalso; omega) | refine drun_ th rfl ?_)
           | (refine g_if rfl (fun hb => ?_) (fun hb => ?_) <;> (try simp only [hbL] at hb) <;> (try (exfalso; omega)))
           | (refine s_idx th rfl rfl rfl rfl rfl rfl rfl rfl rfl k _ rfl hx ?_; refine run_ th rfl ?_)
           | (refine s_lookS th (m := frzV xm) rfl rfl rfl rfl rfl rfl rfl rfl rfl rfl rfl rfl ?_; refine s_leT 184 (.v (C1 (intsT nx))) rfl (.v (.one (.c hle))) ?_; refine run_ th rfl ?_)
           | (refine s_callM hlook [] rfl rfl rfl rfl ⟨rfl, rfl, rfl, trivial⟩ ⟨rfl, rfl, rfl, rfl, rfl⟩ (fun _ => ⟨rfl, rfl, rfl, rfl, rfl, rfl, rfl⟩) (fun _ => rfl) (fun _ => rfl) rfl rfl rfl (fun v2 _ => ?_); refine run_ th rfl ?_)
           | (refine s_lookK th rfl rfl rfl rfl rfl rfl rfl rfl rfl rfl ?_; rw [hcar]; refine run_ th rfl ?_)
           | (refine s_anyB 12 2 rfl ?_; refine s_append th rfl rfl rfl rfl rfl rfl rfl rfl rfl rfl rfl rfl rfl rfl rfl (by constructor <;> simp <;> omega) ?_; refine run_ th rfl ?_)
           | (refine s_add rfl rfl rfl rfl rfl rfl (by omega) ?_; refine run_ th rfl ?_))
          · have he := herr (by assumption)
            rw [he, if_neg (by assumption)] at hta
            refine g_leB 4 2 (armsC []) rfl rfl (.nil 4) ?_
            unfold turnT
            rw [hta]
            exact g_endM (hd := hd) th Tryd.func21 v2 (.inr ⟨_, rfl⟩) rfl rfl rfl rfl ⟨rfl, rfl, rfl, trivial⟩ rfl rfl rfl trivial
          · exact g_sub (by exact ⟨⟨_, rfl, .refl _⟩, ⟨_, rfl, .refl _⟩, ⟨_, rfl, .refl _⟩, ⟨_, rfl, .refl _⟩, ⟨_, rfl, .refl _⟩, ⟨_, rfl, .refl _⟩, ⟨_, rfl, .refl _⟩, ⟨_, rfl, .refl _⟩, ⟨_, rfl, le_int (by omega)⟩, trivial⟩)
              (by exact ⟨⟨_, rfl, le_arr (by simp)⟩, ⟨_, rfl, .refl _⟩, ⟨_, rfl, .refl _⟩, ⟨_, rfl, .refl _⟩, ⟨_, rfl, .refl _⟩, ⟨_, rfl, .refl _⟩, ⟨_, rfl, .refl _⟩, ⟨_, rfl, .refl _⟩, trivial⟩) rfl rfl rfl (hih (by assumption) v2)
        · rw [List.drop_eq_nil_of_le (by omega), armsS] at hst
          clear ih
          rw [hst, if_pos rfl, ← hkd] at hta
          repeat' (first
           | (refine g_freeze 290 rfl rfl ?_)
           | refine gc_ rfl ?_
           | (refine g_region ?_; refine run_ th rfl ?_)
           | (refine g_drawC mix rfl rfl ?_; refine drun_ th rfl ?_)
           | (refine g_drawEC mix rfl rfl ?_; refine erun_ th rfl ?_)
           | refine SOps.nil ?_
           | refine DOps.nil ?_
           | refine EOps.nil ?_ rfl rfl
           | (refine s_split rfl rfl (fun hb => ?_) (fun hb => ?_) <;> (try simp only [hbL] at hb) <;> first | (exfalso; omega) | refine run_ th rfl ?_)
           | (refine d_split rfl rfl rfl (fun hb => ?_) (fun hb => ?_) <;> (try simp only [hbL] at hb) <;> first | (exfalso; omega) | refine drun_ th rfl ?_)
           | (refine g_if rfl (fun hb => ?_) (fun hb => ?_) <;> (try simp only [hbL] at hb) <;> (try (exfalso; omega))))
          unfold turnT
          rw [hta]
          exact g_endM (hd := hd) th Tryd.func21 v1 (.inr ⟨_, rfl⟩) rfl rfl rfl rfl ⟨rfl, rfl, rfl, trivial⟩ rfl rfl rfl trivial
    · skip
      repeat' ((fail_if_success refine g_atR 30 rfl ?_); first
       | refine gc_ rfl ?_
       | (refine g_region ?_; refine run_ th rfl ?_)
       | (refine g_drawC mix rfl rfl ?_; refine drun_ th rfl ?_)
       | (refine g_drawEC mix rfl rfl ?_; refine erun_ th rfl ?_)
       | refine SOps.nil ?_
       | refine DOps.nil ?_
       | refine EOps.nil ?_ rfl rfl
       | (refine s_split rfl rfl (fun hb => ?_) (fun hb => ?_) <;> (try simp only [hbL] at hb) <;> first | (exfalso; omega) | refine run_ th rfl ?_)
       | (refine d_split rfl rfl rfl (fun hb => ?_) (fun hb => ?_) <;> (try simp only [hbL] at hb) <;> first | (exfalso; omega) | refine drun_ th rfl ?_)
       | (refine g_if rfl (fun hb => ?_) (fun hb => ?_) <;> (try simp only [hbL] at hb) <;> (try (exfalso; omega))))
      · have hs1 : s1 = true := hb
        rw [hs1, Bool.true_and] at hk0
        refine g_loop1 (fun k : Nat => k ≤ near.length ∧ (near.take k).any (fun x => decide (labsL (pntAt p x) ≠ A)) = false)
          (fun k => [(0, .v (.one (.ptr given 0))), (1, .v (C1 (intsT near))), (4, .v (.one (.ptr 4 0))), (5, .v (C1 (.int .i64 0))), (12, .v (.one (.ptr 12 0))), (13, .v (C1 (namesT A))), (95, .v (C1 (intsT near))), (96, .v (C1 (.int .i64 (near.length : Int)))), (97, .v (C1 (.int .i64 (k : Int))))])
          (fun _ => (12, .box [.c (.int .i64 1), .c (.str s2), .c .nils]) :: (4, zBox) :: seerM p role v S)
          (fun k => near.length - k) 0 ⟨Nat.zero_le _, rfl⟩
          (fun a w h => h.sub (by exact ⟨⟨_, rfl, .refl _⟩, ⟨_, rfl, .refl _⟩, ⟨_, rfl, .refl _⟩, ⟨_, rfl, .refl _⟩, ⟨_, rfl, .refl _⟩, ⟨_, rfl, .refl _⟩, ⟨_, rfl, .refl _⟩, ⟨_, rfl, le_int (by simp)⟩, ⟨_, rfl, le_int rfl⟩, trivial⟩) (by exact ⟨⟨_, rfl, .refl _⟩, ⟨_, rfl, .refl _⟩, ⟨_, rfl, .refl _⟩, ⟨_, rfl, .refl _⟩, ⟨_, rfl, .refl _⟩, trivial⟩) rfl rfl rfl) (fun k hk ih => ?_)
        obtain ⟨hk, hal3⟩ := hk
        by_cases hlt3 : k < near.length
        · have hx : (near.map fun r => [CT.int .i64 r])[k]? = some [.int .i64 near[k]] := by simp [hlt3]
          have hxr := hnr _ (List.getElem_mem hlt3)
          have hxp := pntAt_get hxr
          have hx6 : (pntAt p near[k]).arms.length ≤ 6 := by
            rcases pntAt_arms hv near[k] with h1 | h1
            · rw [h1]; simp
            · exact (arms_all h1).1.2
          have hlab := labels_c' (pntAt p near[k]) hx6
          have heq := equalS_c (labsL (pntAt p near[k])) A
          have hsn := anyT_snoc hlt3 (fun x => decide (labsL (pntAt p x) ≠ A))
          rw [hal3, Bool.false_or] at hsn
          repeat' (first
           | refine gc_ rfl ?_
           | (refine g_region ?_; refine run_ th rfl ?_)
           | (refine g_drawC mix rfl rfl ?_; refine drun_ th rfl ?_)
           | (refine g_drawEC mix rfl rfl ?_; refine erun_ th rfl ?_)
           | refine SOps.nil ?_
           | refine DOps.nil ?_
           | refine EOps.nil ?_ rfl rfl
           | (refine s_split rfl rfl (fun hb => ?_) (fun hb => ?_) <;> (try simp only [hbL] at hb) <;> first | (exfalso; omega) | refine run_ th rfl ?_)
           | (refine d_split rfl rfl rfl (fun hb => ?_) (fun hb => ?_) <;> (try simp only [hbL] at hb) <;> first | (exfalso; omega) | refine drun_ th rfl ?_)
           | (refine g_if rfl (fun hb => ?_) (fun hb => ?_) <;> (try simp only [hbL] at hb) <;> (try (exfalso; omega)))
           | (refine s_idx th rfl rfl rfl rfl rfl rfl rfl rfl rfl k _ rfl hx ?_; refine run_ th rfl ?_)
           | (refine s_idx th rfl rfl rfl rfl rfl rfl rfl rfl rfl near[k].toNat _ (by omega) hxp ?_; refine run_ th rfl ?_)
           | (refine s_call hlab [] rfl rfl rfl rfl rfl rfl rfl rfl rfl rfl ?_; refine run_ th rfl ?_)
           | (refine s_call heq [] rfl rfl rfl rfl rfl rfl rfl rfl rfl rfl ?_; refine run_ th rfl ?_)
           | (refine s_add rfl rfl rfl rfl rfl rfl (by omega) ?_; refine run_ th rfl ?_))
          all_goals first
            | (have hnq : labsL (pntAt p near[k]) ≠ A := by intro e; revert hb; simp [e]; done
               have hany : ((sideAt p role x0).1 && near.any (fun x => decide (labsL (pntAt p x) ≠ allL p near))) = true := by
                 rw [hs, hs1, Bool.true_and, ← hAA]; exact List.any_eq_true.2 ⟨near[k], List.getElem_mem hlt3, decide_eq_true hnq⟩
               refine g_leB 4 2 (armsC []) rfl rfl (.nil 4) ?_
               unfold turnT
               rw [turn_says hne hal hany]
               exact g_endM (hd := hd) th Tryd.func21 v (.inr ⟨_, rfl⟩) rfl rfl rfl rfl ⟨rfl, rfl, rfl, trivial⟩ rfl rfl rfl trivial)
            | (have hih := ih (k + 1) ⟨hlt3, by rw [hsn]; exact decide_eq_false fun h => h (by simpa using hb)⟩ (by omega)
               exact g_sub (by exact ⟨⟨_, rfl, .refl _⟩, ⟨_, rfl, .refl _⟩, ⟨_, rfl, .refl _⟩, ⟨_, rfl, .refl _⟩, ⟨_, rfl, .refl _⟩, ⟨_, rfl, .refl _⟩, ⟨_, rfl, .refl _⟩, ⟨_, rfl, .refl _⟩, ⟨_, rfl, le_int (by omega)⟩, trivial⟩) (by exact ⟨⟨_, rfl, .refl _⟩, ⟨_, rfl, .refl _⟩, ⟨_, rfl, .refl _⟩, ⟨_, rfl, .refl _⟩, ⟨_, rfl, .refl _⟩, trivial⟩) rfl rfl rfl hih)
        · rw [show near.take k = near from List.take_of_length_le (by omega)] at hal3
          repeat' ((fail_if_success refine g_atR 30 rfl ?_); first
           | refine gc_ rfl ?_
           | (refine g_region ?_; refine run_ th rfl ?_)
           | (refine g_drawC mix rfl rfl ?_; refine drun_ th rfl ?_)
           | (refine g_drawEC mix rfl rfl ?_; refine erun_ th rfl ?_)
           | refine SOps.nil ?_
           | refine DOps.nil ?_
           | refine EOps.nil ?_ rfl rfl
           | (refine s_split rfl rfl (fun hb => ?_) (fun hb => ?_) <;> (try simp only [hbL] at hb) <;> first | (exfalso; omega) | refine run_ th rfl ?_)
           | (refine d_split rfl rfl rfl (fun hb => ?_) (fun hb => ?_) <;> (try simp only [hbL] at hb) <;> first | (exfalso; omega) | refine drun_ th rfl ?_)
           | (refine g_if rfl (fun hb => ?_) (fun hb => ?_) <;> (try simp only [hbL] at hb) <;> (try (exfalso; omega))))
          exact g_sub (by exact ⟨⟨_, rfl, .refl _⟩, ⟨_, rfl, .refl _⟩, ⟨_, rfl, .refl _⟩, ⟨_, rfl, .refl _⟩, ⟨_, rfl, .refl _⟩, ⟨_, rfl, .refl _⟩, trivial⟩) (by exact ⟨⟨_, rfl, .refl _⟩, ⟨_, rfl, .refl _⟩, ⟨_, rfl, .refl _⟩, ⟨_, rfl, .refl _⟩, ⟨_, rfl, .refl _⟩, trivial⟩) rfl rfl rfl (hk0 hal3)
      · have hs1 : s1 = false := hb
        subst hs1
        exact g_sub (by exact ⟨⟨_, rfl, .refl _⟩, ⟨_, rfl, .refl _⟩, ⟨_, rfl, .refl _⟩, ⟨_, rfl, .refl _⟩, ⟨_, rfl, .refl _⟩, ⟨_, rfl, .refl _⟩, trivial⟩) (by exact ⟨⟨_, rfl, .refl _⟩, ⟨_, rfl, .refl _⟩, ⟨_, rfl, .refl _⟩, ⟨_, rfl, .refl _⟩, ⟨_, rfl, .refl _⟩, trivial⟩) rfl rfl rfl (hk0 rfl)
end Go.Sy
