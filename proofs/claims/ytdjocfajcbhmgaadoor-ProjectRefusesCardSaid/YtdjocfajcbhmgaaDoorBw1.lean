/- Contracts of the reference, bundle Bw1. -/
import Derived.Test.YtdjocfajcbhmgaaDoorBl2
import Derived.Test.YtdjocfajcbhmgaaDoorBu2
import Derived.Test.YtdjocfajcbhmgaaDoorBu3
import Derived.Test.YtdjocfajcbhmgaaDoorBu4
import Derived.Test.YtdjocfajcbhmgaaDoorBn1
import Derived.Test.YtdjocfajcbhmgaaDoorBu1
set_option linter.unusedSimpArgs false
set_option linter.unusedVariables false
set_option linter.unusedSectionVars false
namespace Go.Sy
open Go.Proofs
set_option maxRecDepth 100000
attribute [local irreducible] SOps Goes DOps EOps
def PrtBig (p : Prt) : Prop := ∀ x ∈ p.points, ArmsBig x.arms
theorem gr_big {p : Prt} (h : PrtBig p) : LocBig (grL p) := fun t ht => by
  obtain ⟨x, hx, rfl⟩ := List.mem_map.1 (show t ∈ List.map ptT p.points from ht)
  rw [ptT_arms]; exact h x hx
theorem end_no {x : Pnt} (h : ¬ x.from_ = ⟨#[]⟩ ∨ ¬ x.to = ⟨#[]⟩ ∨ (0 : Int) < (x.arms.length : Int)) : ptT x = ⟨1, x.to, x.arms⟩ := by
  unfold ptT endP
  rw [if_neg]
  rcases h with h | h | h
  · simp [h]
  · simp [h]
  · rw [isEmpty_len, decide_eq_true h]; simp
theorem end_yes {x : Pnt} (h1 : x.from_ = ⟨#[]⟩) (h2 : x.to = ⟨#[]⟩) (h3 : ¬ (0 : Int) < (x.arms.length : Int)) : ptT x = ⟨0, ⟨#[]⟩, x.arms⟩ := by
  unfold ptT endP
  rw [if_pos]
  rw [isEmpty_len, decide_eq_false h3, decide_eq_true h1, decide_eq_true h2]; rfl
set_option maxHeartbeats 8000000 in
theorem graph_c (p : Prt) (hl : p.points.length ≤ 24) : Con Tryd.prog 38 [] [Ag p.cs] (.v (Ag (grL p).cs)) [] := by
  refine con_of (c := _) Tryd.func38 rfl rfl rfl (by decide) fun w M0 H Z => ?_
  repeat' (first
   | refine gc_ rfl ?_
   | (refine g_region ?_; refine run_ th rfl ?_)
   | (refine g_drawC mix rfl rfl ?_; refine drun_ th rfl ?_)
   | (refine g_drawEC mix rfl rfl ?_; refine erun_ th rfl ?_)
   | refine SOps.nil ?_
   | refine DOps.nil ?_
   | refine EOps.nil ?_ rfl rfl
   | (refine s_split rfl rfl (fun hb => ?_) (fun hb => ?_) <;> (try simp only [hbL] at hb) <;> first | (exfalso; omega) | refine run_ th rfl ?_)
   | (refine d_split rfl rfl rfl (fun hb => ?_) (fun hb => ?_) <;> (try simp only [hbL] at hb) <;> first | (exfalso; omega) | refine drun_ th rfl ?_)
   | (refine g_if rfl (fun hb => ?_) (fun hb => ?_) <;> (try simp only [hbL] at hb) <;> (try (exfalso; omega))))
  refine g_adoptB 3 1 200 55 3 rfl rfl rfl rfl ?_
  refine g_loop1 (fun k : Nat => k ≤ p.points.length)
    (fun k => [(1, .v (.one (.ptr 1 0))), (2, .v (.one (.ptr 2 0))), (3, .v (.one (.ptr 3 0))), (8, .v (C1 (pointsC p.points))), (9, .v (C1 (.int .i64 (p.points.length : Int)))), (10, .v (C1 (.int .i64 (k : Int))))])
    (fun k => [(200, .arr false 55 3 (((p.points.take k).map ptT).map Trn.cs)), (3, .box [.c (.str ⟨#[]⟩), .own 200]), (2, .box [.c (.str ⟨#[]⟩), .c .nils]), (1, .box (p.cs.map SC.c))])
    (fun k => p.points.length - k) 0 (Nat.zero_le _)
    (fun a w h => h.sub (by exact ⟨⟨_, rfl, .refl _⟩, ⟨_, rfl, .refl _⟩, ⟨_, rfl, .refl _⟩, ⟨_, rfl, .refl _⟩, ⟨_, rfl, le_int (by simp)⟩, ⟨_, rfl, le_int rfl⟩, trivial⟩) (by exact ⟨⟨_, rfl, le_arr rfl⟩, ⟨_, rfl, .refl _⟩, ⟨_, rfl, .refl _⟩, ⟨_, rfl, .refl _⟩, trivial⟩) rfl rfl rfl) (fun k hk ih => ?_)
  by_cases hlt : k < p.points.length
  · have hx : (p.points.map Pnt.cs)[k]? = some (p.points[k]).cs := by simp [hlt]
    have hsn : ((p.points.take (k + 1)).map ptT).map Trn.cs = ((p.points.take k).map ptT).map Trn.cs ++ [(ptT p.points[k]).cs] := by
      rw [List.take_succ_eq_append_getElem hlt, List.map_append, List.map_append]; rfl
    have hih := ih (k + 1) hlt (by omega)
    rw [hsn] at hih
    have htk : (p.points.take k).length = k := by simp; omega
    repeat' (first
     | refine gc_ rfl ?_
     | (refine g_region ?_; refine run_ th rfl ?_)
     | (refine g_drawC mix rfl rfl ?_; refine drun_ th rfl ?_)
     | (refine g_drawEC mix rfl rfl ?_; refine erun_ th rfl ?_)
     | refine SOps.nil ?_
     | refine DOps.nil ?_
     | refine EOps.nil ?_ rfl rfl
     | (refine s_split rfl rfl (fun hb => ?_) (fun hb => ?_) <;> (try simp only [hbL] at hb) <;> first | (exfalso; omega) | refine run_ th rfl ?_)
     | (refine d_split rfl rfl rfl (fun hb => ?_) (fun hb => ?_) <;> (try simp only [hbL] at hb) <;> first | (exfalso; omega) | refine drun_ th rfl ?_)
     | (refine g_if rfl (fun hb => ?_) (fun hb => ?_) <;> (try simp only [hbL] at hb) <;> (try (exfalso; omega)))
     | (refine s_idx th rfl rfl rfl rfl rfl rfl rfl rfl rfl k _ rfl hx ?_; refine run_ th rfl ?_)
     | (refine s_anyB 3 1 rfl ?_; refine s_append th rfl rfl rfl rfl rfl rfl rfl rfl rfl rfl rfl rfl rfl rfl rfl (by constructor <;> simp [htk] <;> omega) ?_; refine run_ th rfl ?_)
     | (refine s_add rfl rfl rfl rfl rfl rfl (by omega) ?_; refine run_ th rfl ?_))
    all_goals first
      | rw [end_no (.inl (by assumption))] at hih
      | rw [end_no (.inr (.inl (by assumption)))] at hih
      | rw [end_no (.inr (.inr (by assumption)))] at hih
      | rw [end_yes (by assumption) (by assumption) (by assumption)] at hih
    all_goals exact g_sub (by exact ⟨⟨_, rfl, .refl _⟩, ⟨_, rfl, .refl _⟩, ⟨_, rfl, .refl _⟩, ⟨_, rfl, .refl _⟩, ⟨_, rfl, .refl _⟩, ⟨_, rfl, le_int (by omega)⟩, trivial⟩) (by exact ⟨⟨_, rfl, le_arr rfl⟩, ⟨_, rfl, .refl _⟩, ⟨_, rfl, .refl _⟩, ⟨_, rfl, .refl _⟩, trivial⟩) rfl rfl rfl hih
  · rw [show p.points.take k = p.points from List.take_of_length_le (by omega)]
    repeat' (first
     | (refine g_freeze 200 rfl rfl ?_)
     | refine gc_ rfl ?_
     | (refine g_region ?_; refine run_ th rfl ?_)
     | (refine g_drawC mix rfl rfl ?_; refine drun_ th rfl ?_)
     | (refine g_drawEC mix rfl rfl ?_; refine erun_ th rfl ?_)
     | refine SOps.nil ?_
     | refine DOps.nil ?_
     | refine EOps.nil ?_ rfl rfl
     | (refine s_split rfl rfl (fun hb => ?_) (fun hb => ?_) <;> (try simp only [hbL] at hb) <;> first | (exfalso; omega) | refine run_ th rfl ?_)
     | (refine d_split rfl rfl rfl (fun hb => ?_) (fun hb => ?_) <;> (try simp only [hbL] at hb) <;> first | (exfalso; omega) | refine drun_ th rfl ?_)
     | (refine g_if rfl (fun hb => ?_) (fun hb => ?_) <;> (try simp only [hbL] at hb) <;> (try (exfalso; omega))))
    refine g_endL th Tryd.func38 (.inr ⟨_, rfl⟩) rfl rfl rfl ?_ rfl
    exact .refl _
end Go.Sy
namespace Go.Sy
open Go.Proofs
set_option maxRecDepth 100000
attribute [local irreducible] SOps Goes DOps EOps
theorem all_false {α : Type} {f : α → Bool} {l : List α} {i : Nat} (hi : i < l.length) (h : f l[i] = false) : l.all f = false := List.all_eq_false.2 ⟨l[i], List.getElem_mem hi, by rw [h]; decide⟩
theorem all_snoc {α : Type} {f : α → Bool} {l : List α} {i : Nat} (hi : i < l.length) (hok : (l.take i).all f = true) (h : f l[i] = true) : (l.take (i + 1)).all f = true := by
  rw [List.take_succ_eq_append_getElem hi, List.all_append, hok]; simp [h]
theorem endP_iff (x : Pnt) : endP x = (decide (x.from_ = ⟨#[]⟩) && (decide (x.to = ⟨#[]⟩) && decide ((x.arms.length : Int) = 0))) := by
  unfold endP
  cases h : x.arms <;> simp
  intro _ _; omega
section
variable {roles : List ByteArray} {x : Pnt}
theorem rol_end (h1 : x.from_ = ⟨#[]⟩) (h2 : x.to = ⟨#[]⟩) (h3 : (x.arms.length : Int) = 0) : rolB roles x = true := by
  unfold rolB; rw [endP_iff, decide_eq_true h1, decide_eq_true h2, decide_eq_true h3]; rfl
theorem end_not (h : ¬ x.from_ = ⟨#[]⟩ ∨ ¬ x.to = ⟨#[]⟩ ∨ ¬ (x.arms.length : Int) = 0) : endP x = false := by
  rw [endP_iff]
  rcases h with h | h | h
  · rw [decide_eq_false h]; rfl
  · rw [decide_eq_false h]; simp
  · rw [decide_eq_false h]; simp
theorem rol_bad1 (h : ¬ x.from_ = ⟨#[]⟩ ∨ ¬ x.to = ⟨#[]⟩ ∨ ¬ (x.arms.length : Int) = 0) (h1 : hasB roles x.from_ = false) : rolB roles x = false := by
  unfold rolB; rw [end_not h, h1]; rfl
theorem rol_bad2 (h : ¬ x.from_ = ⟨#[]⟩ ∨ ¬ x.to = ⟨#[]⟩ ∨ ¬ (x.arms.length : Int) = 0) (h1 : hasB roles x.to = false) : rolB roles x = false := by
  unfold rolB; rw [end_not h, h1]; simp
theorem rol_bad3 (h : ¬ x.from_ = ⟨#[]⟩ ∨ ¬ x.to = ⟨#[]⟩ ∨ ¬ (x.arms.length : Int) = 0) (h1 : x.from_ = x.to) : rolB roles x = false := by
  unfold rolB; rw [end_not h, decide_eq_false (p := x.from_ ≠ x.to) (fun h2 => h2 h1)]; simp
theorem rol_good (h : ¬ x.from_ = ⟨#[]⟩ ∨ ¬ x.to = ⟨#[]⟩ ∨ ¬ (x.arms.length : Int) = 0) (h1 : hasB roles x.from_ = true) (h2 : hasB roles x.to = true) (h3 : ¬ x.from_ = x.to) : rolB roles x = true := by
  unfold rolB; rw [end_not h, h1, h2, decide_eq_true (p := x.from_ ≠ x.to) h3]; rfl
end
set_option maxHeartbeats 16000000 in
theorem gmay_c (p : Prt) (hB : PrtBig p) : Con Tryd.prog 19 [] [Ag p.cs] (Rv (.bool (prtB p))) [] := by
  rw [← prt_may]
  refine con_of (c := _) Tryd.func19 rfl rfl rfl (by decide) fun w M0 H Z => ?_
  repeat' (first
   | (refine g_lenB 1 1 rfl rfl fun hll => ?_; simp only [List.length_map] at hll; refine g_region ?_; refine run_ th rfl ?_)
   | refine gc_ rfl ?_
   | (refine g_region ?_; refine run_ th rfl ?_)
   | (refine g_drawC mix rfl rfl ?_; refine drun_ th rfl ?_)
   | (refine g_drawEC mix rfl rfl ?_; refine erun_ th rfl ?_)
   | refine SOps.nil ?_
   | refine DOps.nil ?_
   | refine EOps.nil ?_ rfl rfl
   | (refine s_split rfl rfl (fun hb => ?_) (fun hb => ?_) <;> (try simp only [hbL] at hb) <;> first | (exfalso; omega) | refine run_ th rfl ?_)
   | (refine d_split rfl rfl rfl (fun hb => ?_) (fun hb => ?_) <;> (try simp only [hbL] at hb) <;> first | (exfalso; omega) | refine drun_ th rfl ?_)
   | (refine g_if rfl (fun hb => ?_) (fun hb => ?_) <;> (try simp only [hbL] at hb) <;> (try (exfalso; omega)))
   | refine g_endL th Tryd.func19 (.inr ⟨_, rfl⟩) rfl rfl rfl ?_ rfl
   | (refine s_call (may_c p.name) [] rfl rfl rfl rfl rfl rfl rfl rfl rfl rfl ?_; refine run_ th rfl ?_)
   | (refine s_call (once_c p.roles) [] rfl rfl rfl rfl rfl rfl rfl rfl rfl rfl ?_; refine run_ th rfl ?_))
  · exact le_ct (by unfold gmayB; simp [*])
  · exact le_ct (by unfold gmayB; rw [decide_eq_false (p := 2 ≤ p.roles.length) (by omega)]; simp)
  · exact le_ct (by unfold gmayB; rw [decide_eq_false (p := p.roles.length ≤ 5) (by omega)]; simp)
  · exact le_ct (by unfold gmayB; simp [*])
  · exact le_ct (by unfold gmayB; rw [decide_eq_false (p := p.points.length ≤ 24) (by omega)]; simp)
  have hnm : nameB p.name = true := by assumption
  have hon : onceB p.roles = true := by assumption
  have hr2 : decide (2 ≤ p.roles.length) = true := decide_eq_true (by omega)
  have hr5 : decide (p.roles.length ≤ 5) = true := decide_eq_true (by omega)
  have hp24 : decide (p.points.length ≤ 24) = true := decide_eq_true (by omega)
  have hg : gmayB p = (p.roles.all nameB && (p.points.all (rolB p.roles) && locB (grL p))) := by
    unfold gmayB; rw [hnm, hr2, hr5, hon, hp24]; simp
  rw [hg]
  have hp24' : p.points.length ≤ 24 := by omega
  have hr5' : p.roles.length ≤ 5 := by omega
  clear hg hnm hon hr2 hr5 hp24
  refine g_loop1 (fun i : Nat => i ≤ p.roles.length ∧ (p.roles.take i).all nameB = true)
    (fun i => [(1, .v (.one (.ptr 1 0))), (36, .v (C1 (namesT p.roles))), (37, .v (C1 (.int .i64 (p.roles.length : Int)))), (38, .v (C1 (.int .i64 (i : Int))))])
    (fun i => [(1, .box (p.cs.map SC.c))])
    (fun i => p.roles.length - i) 0 ⟨Nat.zero_le _, rfl⟩
    (fun a w h => h.sub (by exact ⟨⟨_, rfl, .refl _⟩, ⟨_, rfl, .refl _⟩, ⟨_, rfl, le_int (by simp)⟩, ⟨_, rfl, le_int rfl⟩, trivial⟩) (by exact ⟨⟨_, rfl, .refl _⟩, trivial⟩) rfl rfl rfl) (fun i hi ih => ?_)
  obtain ⟨hi, hok⟩ := hi
  by_cases hlt : i < p.roles.length
  · have hx : (p.roles.map fun s => [CT.str s])[i]? = some [.str p.roles[i]] := by simp [hlt]
    repeat' (first
     | refine gc_ rfl ?_
     | (refine g_region ?_; refine run_ th rfl ?_)
     | (refine g_drawC mix rfl rfl ?_; refine drun_ th rfl ?_)
     | (refine g_drawEC mix rfl rfl ?_; refine erun_ th rfl ?_)
     | refine SOps.nil ?_
     | refine DOps.nil ?_
     | refine EOps.nil ?_ rfl rfl
     | (refine s_split rfl rfl (fun hb => ?_) (fun hb => ?_) <;> (try simp only [hbL] at hb) <;> first | (exfalso; omega) | refine run_ th rfl ?_)
     | (refine d_split rfl rfl rfl (fun hb => ?_) (fun hb => ?_) <;> (try simp only [hbL] at hb) <;> first | (exfalso; omega) | refine drun_ th rfl ?_)
     | (refine g_if rfl (fun hb => ?_) (fun hb => ?_) <;> (try simp only [hbL] at hb) <;> (try (exfalso; omega)))
     | refine g_endL th Tryd.func19 (.inr ⟨_, rfl⟩) rfl rfl rfl ?_ rfl
     | (refine s_idx th rfl rfl rfl rfl rfl rfl rfl rfl rfl i _ rfl hx ?_; refine run_ th rfl ?_)
     | (refine s_call (may_c p.roles[i]) [] rfl rfl rfl rfl rfl rfl rfl rfl rfl rfl ?_; refine run_ th rfl ?_)
     | (refine s_add rfl rfl rfl rfl rfl rfl (by omega) ?_; refine run_ th rfl ?_))
    · exact le_ct (by rw [all_false hlt (by assumption)]; rfl)
    · exact g_sub (by exact ⟨⟨_, rfl, .refl _⟩, ⟨_, rfl, .refl _⟩, ⟨_, rfl, .refl _⟩, ⟨_, rfl, le_int (by omega)⟩, trivial⟩) (by exact ⟨⟨_, rfl, .refl _⟩, trivial⟩) rfl rfl rfl (ih (i + 1) ⟨hlt, all_snoc hlt hok (by assumption)⟩ (by omega))
  have hke : i = p.roles.length := by omega
  rw [hke, List.take_length] at hok
  rw [hok, Bool.true_and]
  repeat' (first
   | refine gc_ rfl ?_
   | (refine g_region ?_; refine run_ th rfl ?_)
   | (refine g_drawC mix rfl rfl ?_; refine drun_ th rfl ?_)
   | (refine g_drawEC mix rfl rfl ?_; refine erun_ th rfl ?_)
   | refine SOps.nil ?_
   | refine DOps.nil ?_
   | refine EOps.nil ?_ rfl rfl
   | (refine s_split rfl rfl (fun hb => ?_) (fun hb => ?_) <;> (try simp only [hbL] at hb) <;> first | (exfalso; omega) | refine run_ th rfl ?_)
   | (refine d_split rfl rfl rfl (fun hb => ?_) (fun hb => ?_) <;> (try simp only [hbL] at hb) <;> first | (exfalso; omega) | refine drun_ th rfl ?_)
   | (refine g_if rfl (fun hb => ?_) (fun hb => ?_) <;> (try simp only [hbL] at hb) <;> (try (exfalso; omega))))
  refine g_loop1 (fun i : Nat => i ≤ p.points.length ∧ (p.points.take i).all (rolB p.roles) = true)
    (fun i => [(1, .v (.one (.ptr 1 0))), (47, .v (C1 (pointsC p.points))), (48, .v (C1 (.int .i64 (p.points.length : Int)))), (49, .v (C1 (.int .i64 (i : Int))))])
    (fun i => [(1, .box (p.cs.map SC.c))])
    (fun i => p.points.length - i) 0 ⟨Nat.zero_le _, rfl⟩
    (fun a w h => h.sub (by exact ⟨⟨_, rfl, .refl _⟩, ⟨_, rfl, .refl _⟩, ⟨_, rfl, le_int (by simp)⟩, ⟨_, rfl, le_int rfl⟩, trivial⟩) (by exact ⟨⟨_, rfl, .refl _⟩, trivial⟩) rfl rfl rfl) (fun i hi ih => ?_)
  obtain ⟨hi, hok⟩ := hi
  by_cases hlt : i < p.points.length
  · have hx : (p.points.map Pnt.cs)[i]? = some (p.points[i]).cs := by simp [hlt]
    obtain ⟨x, hxx⟩ : ∃ x, x = p.points[i] := ⟨_, rfl⟩
    rw [← hxx] at hx
    have hbad : rolB p.roles x = false → p.points.all (rolB p.roles) = false := fun h => all_false hlt (by rw [← hxx]; exact h)
    have hgood : rolB p.roles x = true → (p.points.take (i + 1)).all (rolB p.roles) = true := fun h => all_snoc hlt hok (by rw [← hxx]; exact h)
    clear hxx
    repeat' (first
     | refine gc_ rfl ?_
     | (refine g_region ?_; refine run_ th rfl ?_)
     | (refine g_drawC mix rfl rfl ?_; refine drun_ th rfl ?_)
     | (refine g_drawEC mix rfl rfl ?_; refine erun_ th rfl ?_)
     | refine SOps.nil ?_
     | refine DOps.nil ?_
     | refine EOps.nil ?_ rfl rfl
     | (refine s_split rfl rfl (fun hb => ?_) (fun hb => ?_) <;> (try simp only [hbL] at hb) <;> first | (exfalso; omega) | refine run_ th rfl ?_)
     | (refine d_split rfl rfl rfl (fun hb => ?_) (fun hb => ?_) <;> (try simp only [hbL] at hb) <;> first | (exfalso; omega) | refine drun_ th rfl ?_)
     | (refine g_if rfl (fun hb => ?_) (fun hb => ?_) <;> (try simp only [hbL] at hb) <;> (try (exfalso; omega)))
     | refine g_endL th Tryd.func19 (.inr ⟨_, rfl⟩) rfl rfl rfl ?_ rfl
     | (refine s_idx th rfl rfl rfl rfl rfl rfl rfl rfl rfl i _ rfl hx ?_; refine run_ th rfl ?_)
     | (refine s_call (has_c p.roles x.from_) [] rfl rfl rfl rfl rfl rfl rfl rfl rfl rfl ?_; refine run_ th rfl ?_)
     | (refine s_call (has_c p.roles x.to) [] rfl rfl rfl rfl rfl rfl rfl rfl rfl rfl ?_; refine run_ th rfl ?_)
     | (refine s_add rfl rfl rfl rfl rfl rfl (by omega) ?_; refine run_ th rfl ?_))
    all_goals first
      | exact le_ct (by rw [hbad (rol_bad1 (by first | exact .inl (by assumption) | exact .inr (.inl (by assumption)) | exact .inr (.inr (by assumption))) (by assumption))]; rfl)
      | exact le_ct (by rw [hbad (rol_bad2 (by first | exact .inl (by assumption) | exact .inr (.inl (by assumption)) | exact .inr (.inr (by assumption))) (by assumption))]; rfl)
      | exact le_ct (by rw [hbad (rol_bad3 (by first | exact .inl (by assumption) | exact .inr (.inl (by assumption)) | exact .inr (.inr (by assumption))) (by assumption))]; rfl)
      | (have hih := ih (i + 1) ⟨hlt, hgood (rol_end (by assumption) (by assumption) (by assumption))⟩ (by omega)
         exact g_sub (by exact ⟨⟨_, rfl, .refl _⟩, ⟨_, rfl, .refl _⟩, ⟨_, rfl, .refl _⟩, ⟨_, rfl, le_int (by omega)⟩, trivial⟩) (by exact ⟨⟨_, rfl, .refl _⟩, trivial⟩) rfl rfl rfl hih)
      | (have hih := ih (i + 1) ⟨hlt, hgood (rol_good (by first | exact .inl (by assumption) | exact .inr (.inl (by assumption)) | exact .inr (.inr (by assumption))) (by assumption) (by assumption) (by assumption))⟩ (by omega)
         exact g_sub (by exact ⟨⟨_, rfl, .refl _⟩, ⟨_, rfl, .refl _⟩, ⟨_, rfl, .refl _⟩, ⟨_, rfl, le_int (by omega)⟩, trivial⟩) (by exact ⟨⟨_, rfl, .refl _⟩, trivial⟩) rfl rfl rfl hih)
  have hke : i = p.points.length := by omega
  rw [hke, List.take_length] at hok
  rw [hok, Bool.true_and]
  repeat' (first
   | refine gc_ rfl ?_
   | (refine g_region ?_; refine run_ th rfl ?_)
   | (refine g_drawC mix rfl rfl ?_; refine drun_ th rfl ?_)
   | (refine g_drawEC mix rfl rfl ?_; refine erun_ th rfl ?_)
   | refine SOps.nil ?_
   | refine DOps.nil ?_
   | refine EOps.nil ?_ rfl rfl
   | (refine s_split rfl rfl (fun hb => ?_) (fun hb => ?_) <;> (try simp only [hbL] at hb) <;> first | (exfalso; omega) | refine run_ th rfl ?_)
   | (refine d_split rfl rfl rfl (fun hb => ?_) (fun hb => ?_) <;> (try simp only [hbL] at hb) <;> first | (exfalso; omega) | refine drun_ th rfl ?_)
   | (refine g_if rfl (fun hb => ?_) (fun hb => ?_) <;> (try simp only [hbL] at hb) <;> (try (exfalso; omega)))
   | refine g_endL th Tryd.func19 (.inr ⟨_, rfl⟩) rfl rfl rfl ?_ rfl
   | (refine s_call (graph_c p hp24') [] rfl rfl rfl rfl rfl rfl rfl rfl rfl rfl ?_; refine run_ th rfl ?_)
   | (refine s_call (tmay_c (grL p) (gr_big hB)) [] rfl rfl rfl rfl rfl rfl rfl rfl rfl rfl ?_; refine run_ th rfl ?_))
  exact .refl _
end Go.Sy
namespace Go.Sy
open Go.Proofs Go.RowKit
set_option maxRecDepth 100000
attribute [local irreducible] Goes DOps EOps FOps
section
variable {C : Ctx} {n : Nat} {tm : TM} {mm : MM} {L l : List Oper} {T : TM → MM → Prop} {o : Oper} {d : Nat}
theorem s_pappend {Θ : Tab} (hΘ : tabOK C.P Θ) {t : TypeId} {x y : Operand} {z bts e : Nat} {ag : Bool} {zt : Option (List CT)} {ei : TyI} {zr : List CT} {i : Nat} {nn' : Bool} {sz : Nat} {xs ys : List (List CT)} {qs : PQ} {v : Value}
    (ho : o.op = .call { callee := .builtin .append, args := ⟨[x, y]⟩, argTypes := ⟨[t, t]⟩ }) (ht : tyGet Θ t = some ⟨z, bts, ag, zt, .slice e⟩) (hei : tyGet Θ e = some ei) (hz : ei.zero = some zr)
    (hsz : Nat.beq ei.size sz = true) (hs0 : Nat.blt 0 ei.size = true) (hx : evalC tm x = some (.c (.val v))) (hi : getM mm i = some (.pool e sz qs)) (hy : evalC tm y = some (.c (.slice nn' sz ys)))
    (hig : Nat.blt i given = true) (hno : noUse i mm = true) (hd : o.dst = some d) (hn : Nat.blt d n = true) (hg : guardL L tm o = some true) (k : Nat) (hk : qs[k]? = some (v, xs))
    (hbig : xs.length + ys.length ≤ 9223372036854775807 ∧ (xs.length + ys.length) * ei.bytes ≤ 140737488355328)
    (g : ∀ v', SOps C n L.toArray l ((d, .v (.one (.c (.val v')))) :: delL (dropU i tm) d) (updM mm i (.pool e sz (qs.set k (v', xs ++ ys)))) T) : SOps C n L.toArray (o :: l) tm mm T := by
  intro a w hh
  unfold wpList
  rw [if_pos (wanted_of (guardL_eq hg) hh)]
  refine .inl ?_
  obtain ⟨v', w', hrun, hres⟩ := op_pappend hΘ ho ht hei hz hsz hs0 hx hi hk hy hig hno hd hn hbig hh
  unfold Oper.wp
  rw [hrun]
  exact g v' _ _ hres
end
attribute [local irreducible] SOps
def metM (l : List Int) : List (Int × CT) := l.map fun x => (x, CT.bool true)
theorem met_look (l : List Int) (a : Int) : lookC (metM l) a (.bool false) = .bool (decide (a ∈ l)) := by
  unfold lookC metM
  induction l with
  | nil => simp
  | cons x l ih =>
    simp only [List.map_cons, List.find?_cons]
    by_cases h : a = x
    · subst h; simp
    · simp only [h, decide_false]
      rw [ih]
      simp [h]
theorem met_put {l : List Int} {a : Int} (h : a ∉ l) : putC (metM l) a (.bool true) = metM (l ++ [a]) := by
  have hn : (metM l).findIdx? (fun q => decide (a = q.1)) = none := by
    rw [List.findIdx?_eq_none_iff]
    intro q hq
    obtain ⟨x, hx, rfl⟩ := List.mem_map.1 hq
    simpa using fun e : a = x => h (e ▸ hx)
  unfold putC
  rw [hn]
  simp [metM]
def meetL (n : Nat) (l : List Int) (a : Int) : List Int := if 0 ≤ a ∧ a < (n : Int) ∧ a ∉ l then l ++ [a] else l
abbrev rowI' (l : List Int) : List (List CT) := l.map fun r => [CT.int .i64 r]
def nearMM (p : Prt) (l : List Int) (v : Value) : MM :=
  [(given, .box (p.cs.map SC.c)), (given + 1, .box [.mp (given + 2)]), (given + 2, .mpo (entF intF (metM l))), (given + 3, .box [.c (.val v)]), (1, .pool 3 1 [(v, rowI' l)])]
set_option maxHeartbeats 8000000 in
theorem meet_c (p : Prt) (l : List Int) (v : Value) (a : Int) (hl : l.length ≤ 24) :
    ConM Tryd.prog 56 (nearMM p l v) [C1 (.int .i64 a), .one (.ptr given 0), .one (.ptr (given + 1) 0), .one (.ptr (given + 3) 0)]
      (fun _ : Value => True) (fun _ => .tup []) (fun v' => nearMM p (meetL p.points.length l a) v') := by
  have hlk := met_look l a
  by_cases hm : 0 ≤ a ∧ a < (p.points.length : Int) ∧ a ∉ l
  · rw [show meetL p.points.length l a = l ++ [a] from if_pos hm]
    have hput := met_put hm.2.2
    have hrow : rowI' l ++ [[CT.int .i64 a]] = rowI' (l ++ [a]) := by simp
    refine conM_of (c := _) Tryd.func56 rfl rfl rfl (by decide) rfl fun w M0 H Z hd => ?_
    repeat' (first
     | refine gc_ rfl ?_
     | (refine g_region ?_; refine run_ th rfl ?_)
     | (refine g_drawC mix rfl rfl ?_; refine drun_ th rfl ?_)
     | (refine g_drawEC mix rfl rfl ?_; refine erun_ th rfl ?_)
     | refine SOps.nil ?_
     | refine DOps.nil ?_
     | refine EOps.nil ?_ rfl rfl
     | (refine s_split rfl rfl (fun hb => ?_) (fun hb => ?_) <;> (try simp only [hbL] at hb) <;> first | (exfalso; omega) | refine run_ th rfl ?_)
     | (refine d_split rfl rfl rfl (fun hb => ?_) (fun hb => ?_) <;> (try simp only [hbL] at hb) <;> first | (exfalso; omega) | refine drun_ th rfl ?_)
     | (refine g_if rfl (fun hb => ?_) (fun hb => ?_) <;> (try simp only [hbL] at hb) <;> (try (exfalso; omega)))
     | (refine s_lookI th (m := metM l) rfl rfl rfl rfl rfl rfl rfl rfl rfl rfl rfl rfl ?_; rw [hlk]; refine run_ th rfl ?_)
     | (refine s_putI th (m := metM l) (.inl rfl) rfl rfl rfl rfl rfl rfl rfl rfl ?_; rw [hput]; refine run_ th rfl ?_)
     | (refine s_freeze 24 rfl rfl ?_; refine s_pappend th (i := 1) rfl rfl rfl rfl rfl rfl rfl rfl rfl rfl rfl rfl rfl rfl 0 rfl (by constructor <;> simp <;> omega) (fun v' => ?_); refine run_ th rfl ?_))
    all_goals first
      | (exfalso; revert hb; simp [hm]; done)
      | (exfalso; omega)
      | (rename_i v'
         simp only [List.set_cons_zero]
         rw [hrow]
         exact g_endM (hd := hd) th Tryd.func56 v' (.inl rfl) rfl rfl rfl rfl ⟨rfl, rfl, rfl, rfl, rfl, trivial⟩ rfl rfl rfl trivial)
  · rw [show meetL p.points.length l a = l from if_neg hm]
    refine conM_of (c := _) Tryd.func56 rfl rfl rfl (by decide) rfl fun w M0 H Z hd => ?_
    repeat' (first
     | refine gc_ rfl ?_
     | (refine g_region ?_; refine run_ th rfl ?_)
     | (refine g_drawC mix rfl rfl ?_; refine drun_ th rfl ?_)
     | (refine g_drawEC mix rfl rfl ?_; refine erun_ th rfl ?_)
     | refine SOps.nil ?_
     | refine DOps.nil ?_
     | refine EOps.nil ?_ rfl rfl
     | (refine s_split rfl rfl (fun hb => ?_) (fun hb => ?_) <;> (try simp only [hbL] at hb) <;> first | (exfalso; omega) | refine run_ th rfl ?_)
     | (refine d_split rfl rfl rfl (fun hb => ?_) (fun hb => ?_) <;> (try simp only [hbL] at hb) <;> first | (exfalso; omega) | refine drun_ th rfl ?_)
     | (refine g_if rfl (fun hb => ?_) (fun hb => ?_) <;> (try simp only [hbL] at hb) <;> (try (exfalso; omega)))
     | (refine s_lookI th (m := metM l) rfl rfl rfl rfl rfl rfl rfl rfl rfl rfl rfl rfl ?_; rw [hlk]; refine run_ th rfl ?_))
    · exact absurd ⟨by assumption, by assumption, by assumption⟩ hm
    all_goals exact g_endM (hd := hd) th Tryd.func56 v (.inl rfl) rfl rfl rfl rfl ⟨rfl, rfl, rfl, rfl, rfl, trivial⟩ rfl rfl rfl trivial
end Go.Sy
