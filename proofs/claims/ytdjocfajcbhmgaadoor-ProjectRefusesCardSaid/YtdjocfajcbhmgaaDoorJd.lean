/- Contracts: project's in, side, labels. -/
import Derived.Test.YtdjocfajcbhmgaaDoorJc
import Derived.Test.YtdjocfajcbhmgaaDoorBw2
import Derived.Test.YtdjocfajcbhmgaaDoorSymZt
import Derived.Test.YtdjocfajcbhmgaaDoorSymZp
set_option linter.unusedSimpArgs false
set_option linter.unusedVariables false
set_option linter.unusedSectionVars false
namespace Go.Sy
open Go.Proofs
set_option maxRecDepth 100000
attribute [local irreducible] SOps Goes DOps EOps FOps GOps
abbrev seerCs (p : Prt) (role : ByteArray) (v : Value) : List SC := [.c (.str p.name), .c (namesT p.roles), .c (pointsC p.points), .c (.str role), .c (.val v), .mp (given + 1)]
abbrev rowsI (S : List (List Int)) : List (List CT) := S.map fun l => [intsT l]
abbrev keysM (S : List (List Int)) : MO := .mpo (entF strF (numM (S.map keyJ)))
def seerM (p : Prt) (role : ByteArray) (v : Value) (S : List (List Int)) : MM := [(given, .box (seerCs p role v)), (given + 1, keysM S), (1, .pool 43 1 [(v, rowsI S)])]
theorem pntAt_get {p : Prt} {x : Int} (h : 0 ≤ x ∧ x < (p.points.length : Int)) : (p.points.map Pnt.cs)[x.toNat]? = some (pntAt p x).cs := by
  have hx : x.toNat < p.points.length := by omega
  rw [List.getElem?_map, List.getElem?_eq_getElem hx]
  simp [pntAt, hx]
set_option maxHeartbeats 4000000 in
theorem sin_c (p : Prt) (role : ByteArray) (v : Value) (S : List (List Int)) (x : Int) (hx : 0 ≤ x ∧ x < (p.points.length : Int)) :
    ConM Tryd.prog 55 (seerM p role v S) [.one (.ptr given 0), C1 (.int .i64 x)] (fun _ : Unit => True) (fun _ => Rv (.bool (inP (pntAt p x) role))) (fun _ => seerM p role v S) := by
  have hxp := pntAt_get hx
  obtain ⟨q, hq⟩ : ∃ q, q = pntAt p x := ⟨_, rfl⟩
  rw [← hq] at hxp ⊢
  refine conM_of (c := _) Tryd.func55 rfl rfl rfl (by decide) rfl fun w M0 H Z hd => ?_
  repeat' (first
   | refine gc_ rfl ?_
   | (refine g_region ?_; refine run_ th rfl ?_)
   | (refine g_drawC mix rfl rfl ?_; refine drun_ th rfl ?_)
   | (refine g_drawEC mix rfl rfl ?_; refine erun_ th rfl ?_)
   | refine SOps.nil ?_
   | refine DOps.nil ?_
   | refine EOps.nil ?_ rfl rfl
   | (refine s_split rfl rfl (fun hb => ?_) (fun hb => ?_) <;> (try simp only [hbL] at hb) <;> first | (exfalso; omega) | refine run_ th rfl ?_)
   | (refine d_split rfl rfl rfl (fun hb => ?_) (fun hb => ?_) <;> (try simp only [hbL] at hb) <;> first | (exfalso; omega) | refine drun_ th rfl ?_)
   | (refine g_if rfl (fun hb => ?_) (fun hb => ?_) <;> (try simp only [hbL] at hb) <;> (try (exfalso; omega)))
   | (refine s_idx th rfl rfl rfl rfl rfl rfl rfl rfl rfl x.toNat _ (by omega) hxp ?_; refine run_ th rfl ?_))
  all_goals exact g_endM (hd := hd) th Tryd.func55 () (.inr ⟨_, rfl⟩) rfl (by first | (rw [inP, decide_eq_true (show q.from_ = role from hb)]; rfl) | (rw [inP, decide_eq_false (show ¬ q.from_ = role from hb)]; rfl)) rfl rfl ⟨rfl, rfl, rfl, trivial⟩ rfl rfl rfl trivial
set_option maxHeartbeats 4000000 in
theorem side_c (p : Prt) (role : ByteArray) (v : Value) (S : List (List Int)) (x : Int) (hx : 0 ≤ x ∧ x < (p.points.length : Int)) :
    ConM Tryd.prog 43 (seerM p role v S) [.one (.ptr given 0), C1 (.int .i64 x)] (fun _ : Unit => True)
      (fun _ => .tup [C1 (.bool (sideAt p role x).1), C1 (.str (sideAt p role x).2)]) (fun _ => seerM p role v S) := by
  have hxp := pntAt_get hx
  unfold sideAt
  obtain ⟨q, hq⟩ : ∃ q, q = pntAt p x := ⟨_, rfl⟩
  rw [← hq] at hxp ⊢
  by_cases hfr : q.from_ = role
  · rw [show sideL role q = (true, q.to) by unfold sideL; rw [if_pos hfr]]
    refine conM_of (c := _) Tryd.func43 rfl rfl rfl (by decide) rfl fun w M0 H Z hd => ?_
    repeat' (first
     | refine gc_ rfl ?_
     | (refine g_region ?_; refine run_ th rfl ?_)
     | (refine g_drawC mix rfl rfl ?_; refine drun_ th rfl ?_)
     | (refine g_drawEC mix rfl rfl ?_; refine erun_ th rfl ?_)
     | refine SOps.nil ?_
     | refine DOps.nil ?_
     | refine EOps.nil ?_ rfl rfl
     | (refine s_split rfl rfl (fun hb => ?_) (fun hb => ?_) <;> (try simp only [hbL] at hb) <;> first | (exfalso; omega) | refine run_ th rfl ?_)
     | (refine d_split rfl rfl rfl (fun hb => ?_) (fun hb => ?_) <;> (try simp only [hbL] at hb) <;> first | (exfalso; omega) | refine drun_ th rfl ?_)
     | (refine g_if rfl (fun hb => ?_) (fun hb => ?_) <;> (try simp only [hbL] at hb) <;> (try (exfalso; omega)))
     | (refine s_idx th rfl rfl rfl rfl rfl rfl rfl rfl rfl x.toNat _ (by omega) hxp ?_; refine run_ th rfl ?_))
    all_goals first
      | (exfalso; contradiction)
      | exact g_endM (hd := hd) th Tryd.func43 () (.inr ⟨_, rfl⟩) rfl rfl rfl rfl ⟨rfl, rfl, rfl, trivial⟩ rfl rfl rfl trivial
  · rw [show sideL role q = (false, q.from_) by unfold sideL; rw [if_neg hfr]]
    refine conM_of (c := _) Tryd.func43 rfl rfl rfl (by decide) rfl fun w M0 H Z hd => ?_
    repeat' (first
     | refine gc_ rfl ?_
     | (refine g_region ?_; refine run_ th rfl ?_)
     | (refine g_drawC mix rfl rfl ?_; refine drun_ th rfl ?_)
     | (refine g_drawEC mix rfl rfl ?_; refine erun_ th rfl ?_)
     | refine SOps.nil ?_
     | refine DOps.nil ?_
     | refine EOps.nil ?_ rfl rfl
     | (refine s_split rfl rfl (fun hb => ?_) (fun hb => ?_) <;> (try simp only [hbL] at hb) <;> first | (exfalso; omega) | refine run_ th rfl ?_)
     | (refine d_split rfl rfl rfl (fun hb => ?_) (fun hb => ?_) <;> (try simp only [hbL] at hb) <;> first | (exfalso; omega) | refine drun_ th rfl ?_)
     | (refine g_if rfl (fun hb => ?_) (fun hb => ?_) <;> (try simp only [hbL] at hb) <;> (try (exfalso; omega)))
     | (refine s_idx th rfl rfl rfl rfl rfl rfl rfl rfl rfl x.toNat _ (by omega) hxp ?_; refine run_ th rfl ?_))
    all_goals first
      | (exfalso; contradiction)
      | exact g_endM (hd := hd) th Tryd.func43 () (.inr ⟨_, rfl⟩) rfl rfl rfl rfl ⟨rfl, rfl, rfl, trivial⟩ rfl rfl rfl trivial
def labsA (l : List Arm) : List ByteArray := l.foldl (fun out a => putN out a.label) []
theorem labsA_snoc {l : List Arm} {i : Nat} (h : i < l.length) : labsA (l.take (i + 1)) = putN (labsA (l.take i)) l[i].label := by
  unfold labsA
  rw [List.take_succ_eq_append_getElem h, List.foldl_append]; rfl
theorem labsA_len (l : List Arm) : (labsA l).length ≤ l.length := by
  have h : ∀ (l : List Arm) (out : List ByteArray), (l.foldl (fun out a => putN out a.label) out).length ≤ out.length + l.length := by
    intro l
    induction l with
    | nil => intro out; simp
    | cons a l ih => intro out; have h1 := ih (putN out a.label); have h2 := putN_len out a.label; simp only [List.foldl_cons, List.length_cons]; omega
  have := h l []
  unfold labsA
  simpa using this
set_option maxHeartbeats 4000000 in
theorem labels_c' (x : Pnt) (hl : x.arms.length ≤ 6) : Con Tryd.prog 44 [] [Ag x.cs] (Rv (namesT (labsL x))) [] := by
  refine con_of (c := _) Tryd.func44 rfl rfl rfl (by decide) fun w M0 H Z => ?_
  repeat' (first
   | refine gc_ rfl ?_
   | (refine g_region ?_; refine run_ th rfl ?_)
   | (refine g_drawC mix rfl rfl ?_; refine drun_ th rfl ?_)
   | (refine g_drawEC mix rfl rfl ?_; refine erun_ th rfl ?_)
   | refine SOps.nil ?_
   | refine DOps.nil ?_
   | refine EOps.nil ?_ rfl rfl
   | (refine s_split rfl rfl (fun hb => ?_) (fun hb => ?_) <;> (try simp only [hbL] at hb) <;> first | (exfalso; omega) | refine run_ th rfl ?_)
   | (refine d_split rfl rfl rfl (fun hb => ?_) (fun hb => ?_) <;> (try simp only [hbL] at hb) <;> first | (exfalso; omega) | refine drun_ th rfl ?_)
   | (refine g_if rfl (fun hb => ?_) (fun hb => ?_) <;> (try simp only [hbL] at hb) <;> (try (exfalso; omega))))
  refine g_loop1 (fun k : Nat => k ≤ x.arms.length)
    (fun k => [(1, .v (.one (.ptr 1 0))), (3, .v (C1 (namesT (labsA (x.arms.take k))))), (7, .v (C1 (armsC x.arms))), (8, .v (C1 (.int .i64 (x.arms.length : Int)))), (9, .v (C1 (.int .i64 (k : Int))))])
    (fun _ => [(1, .box (x.cs.map SC.c))])
    (fun k => x.arms.length - k) 0 (Nat.zero_le _)
    (fun a w h => h.sub (by exact ⟨⟨_, rfl, .refl _⟩, ⟨_, rfl, .v (.one (.c (.nil 1)))⟩, ⟨_, rfl, .refl _⟩, ⟨_, rfl, le_int (by simp)⟩, ⟨_, rfl, le_int rfl⟩, trivial⟩) (by exact ⟨⟨_, rfl, .refl _⟩, trivial⟩) rfl rfl rfl) (fun k hk ih => ?_)
  by_cases hlt : k < x.arms.length
  · have hx : (x.arms.map Arm.cs)[k]? = some (x.arms[k]).cs := by simp [hlt]
    have hpl := labsA_len (x.arms.take k)
    rw [List.length_take] at hpl
    have hput := put_c (labsA (x.arms.take k)) x.arms[k].label (by omega)
    have hih := ih (k + 1) hlt (by omega)
    rw [labsA_snoc hlt] at hih
    repeat' (first
     | refine gc_ rfl ?_
     | (refine g_region ?_; refine run_ th rfl ?_)
     | (refine g_drawC mix rfl rfl ?_; refine drun_ th rfl ?_)
     | (refine g_drawEC mix rfl rfl ?_; refine erun_ th rfl ?_)
     | refine SOps.nil ?_
     | refine DOps.nil ?_
     | refine EOps.nil ?_ rfl rfl
     | (refine s_split rfl rfl (fun hb => ?_) (fun hb => ?_) <;> (try simp only [hbL] at hb) <;> first | (exfalso; omega) | refine run_ th rfl ?_)
     | (refine d_split rfl rfl rfl (fun hb => ?_) (fun hb => ?_) <;> (try simp only [hbL] at hb) <;> first | (exfalso; omega) | refine drun_ th rfl ?_)
     | (refine g_if rfl (fun hb => ?_) (fun hb => ?_) <;> (try simp only [hbL] at hb) <;> (try (exfalso; omega)))
     | (refine s_idx th rfl rfl rfl rfl rfl rfl rfl rfl rfl k _ rfl hx ?_; refine run_ th rfl ?_)
     | (refine s_call hput [] rfl rfl rfl rfl rfl rfl rfl rfl rfl rfl ?_; refine run_ th rfl ?_)
     | (refine s_add rfl rfl rfl rfl rfl rfl (by omega) ?_; refine run_ th rfl ?_))
    exact g_sub (by exact ⟨⟨_, rfl, .refl _⟩, ⟨_, rfl, .refl _⟩, ⟨_, rfl, .refl _⟩, ⟨_, rfl, .refl _⟩, ⟨_, rfl, le_int (by omega)⟩, trivial⟩) (by exact ⟨⟨_, rfl, .refl _⟩, trivial⟩) rfl rfl rfl hih
  · rw [show labsL x = labsA (x.arms.take k) by rw [show x.arms.take k = x.arms from List.take_of_length_le (by omega)]; rfl]
    repeat' (first
     | refine gc_ rfl ?_
     | (refine g_region ?_; refine run_ th rfl ?_)
     | (refine g_drawC mix rfl rfl ?_; refine drun_ th rfl ?_)
     | (refine g_drawEC mix rfl rfl ?_; refine erun_ th rfl ?_)
     | refine SOps.nil ?_
     | refine DOps.nil ?_
     | refine EOps.nil ?_ rfl rfl
     | (refine s_split rfl rfl (fun hb => ?_) (fun hb => ?_) <;> (try simp only [hbL] at hb) <;> first | (exfalso; omega) | refine run_ th rfl ?_)
     | (refine d_split rfl rfl rfl (fun hb => ?_) (fun hb => ?_) <;> (try simp only [hbL] at hb) <;> first | (exfalso; omega) | refine drun_ th rfl ?_)
     | (refine g_if rfl (fun hb => ?_) (fun hb => ?_) <;> (try simp only [hbL] at hb) <;> (try (exfalso; omega)))
     | refine g_endL th Tryd.func44 (.inr ⟨_, rfl⟩) rfl rfl rfl ?_ rfl)
    exact .refl _
end Go.Sy
