/- Contracts of the reference, bundle Bg1. -/
import Derived.Test.YtohalikeabmimaaDoorBf1
import Derived.Test.YtohalikeabmimaaDoorSy6
import Derived.Test.YtohalikeabmimaaDoorSy8
/- Contracts for layer 13: ab, given, names.Place, names.Once, slices.Clone. -/
set_option linter.unusedSimpArgs false
set_option linter.unusedVariables false
set_option linter.unusedSectionVars false
namespace Go.Sy
open Go.Proofs
set_option maxRecDepth 100000
attribute [local irreducible] SOps Goes DOps EOps

/-- Where in the row it first holds, or -1. -/
def idxG {α : Type} (p : α → Bool) (l : List α) : Int :=
  match l.findIdx? p with
  | some i => (i : Int)
  | none => -1
theorem idxG_hit {α : Type} {p : α → Bool} {l : List α} {k : Nat} (hk : k < l.length) (ha : ∀ i (h : i < k), p (l[i]'(by omega)) = false) (hp : p l[k] = true) : idxG p l = (k : Int) := by
  have : l.findIdx? p = some k := by
    rw [List.findIdx?_eq_some_iff_getElem]
    exact ⟨hk, hp, fun j hj => by simp [ha j hj]⟩
  simp [idxG, this]
theorem idxG_none {α : Type} {p : α → Bool} {l : List α} (ha : ∀ i (h : i < l.length), p l[i] = false) : idxG p l = -1 := by
  have : l.findIdx? p = none := by
    rw [List.findIdx?_eq_none_iff]
    intro x hx
    obtain ⟨i, hi, rfl⟩ := List.mem_iff_getElem.1 hx
    simp [ha i hi]
  simp [idxG, this]
def placeI (l : List ByteArray) (s : ByteArray) : Int := idxG (fun x => decide (x = s)) l

set_option maxHeartbeats 4000000 in
theorem place_c (l : List ByteArray) (s : ByteArray) : Con Tryd.prog 65 [] [C1 (namesT l), C1 (.str s)] (Rv (.int .i64 (placeI l s))) [] := by
  refine con_of (c := _) Tryd.func65 rfl rfl rfl (by decide) fun w M0 H Z => ?_
  refine g_len 0 rfl fun hll => ?_
  simp only [List.length_map] at hll
  repeat' (first
   | refine gc_ rfl ?_
   | (refine g_region ?_; refine run_ th rfl ?_)
   | (refine g_drawC mix rfl rfl ?_; refine drun_ th rfl ?_)
   | (refine g_drawEC mix rfl rfl ?_; refine erun_ th rfl ?_)
   | refine SOps.nil ?_
   | refine DOps.nil ?_
   | refine EOps.nil ?_ rfl rfl
   | (refine s_split rfl rfl (fun hb => ?_) (fun hb => ?_) <;> (try simp only [hbL] at hb) <;> first | (exfalso; omega) | refine run_ th rfl ?_)
   | (refine d_split rfl rfl rfl (fun hb => ?_) (fun hb => ?_) <;> (try simp only [hbL] at hb) <;> first | (exfalso; omega) | refine drun_ th rfl ?_)
   | (refine g_if rfl (fun hb => ?_) (fun hb => ?_) <;> (try simp only [hbL] at hb) <;> (try (exfalso; omega))))
  refine g_loop1 (fun k : Nat => k ≤ l.length ∧ ∀ i (h : i < k) (h' : i < l.length), decide (l[i] = s) = false)
    (fun k => [(0, .v (C1 (namesT l))), (0 + 1, .v (C1 (.str s))), (7, .v (C1 (.int .i64 (l.length : Int)))), (8, .v (C1 (.int .i64 (k : Int))))])
    (fun _ => []) (fun k => l.length - k) 0 ⟨Nat.zero_le _, fun i h => by omega⟩
    (fun a w h => h.sub (by exact ⟨⟨_, rfl, .refl _⟩, ⟨_, rfl, .refl _⟩, ⟨_, rfl, le_int (by simp)⟩, ⟨_, rfl, le_int rfl⟩, trivial⟩) (by exact trivial) rfl rfl rfl) (fun k hk ih => ?_)
  obtain ⟨hk, ha⟩ := hk
  by_cases hlt : k < l.length
  · have hx : (l.map fun s => [CT.str s])[k]? = some [.str l[k]] := by simp [hlt]
    repeat' (first
     | refine gc_ rfl ?_
     | (refine g_region ?_; refine run_ th rfl ?_)
     | (refine g_drawC mix rfl rfl ?_; refine drun_ th rfl ?_)
     | (refine g_drawEC mix rfl rfl ?_; refine erun_ th rfl ?_)
     | refine SOps.nil ?_
     | refine DOps.nil ?_
     | refine EOps.nil ?_ rfl rfl
     | (refine s_split rfl rfl (fun hb => ?_) (fun hb => ?_) <;> (try simp only [hbL] at hb) <;> first | (exfalso; omega) | refine run_ th rfl ?_)
     | (refine d_split rfl rfl rfl (fun hb => ?_) (fun hb => ?_) <;> (try simp only [hbL] at hb) <;> first | (exfalso; omega) | refine drun_ th rfl ?_)
     | (refine g_if rfl (fun hb => ?_) (fun hb => ?_) <;> (try simp only [hbL] at hb) <;> (try (exfalso; omega)))
     | refine g_endL th Tryd.func65 (.inr ⟨_, rfl⟩) rfl rfl rfl ?_ rfl
     | (refine s_idx th rfl rfl rfl rfl rfl rfl rfl rfl rfl k _ rfl hx ?_; refine run_ th rfl ?_)
     | (refine s_add rfl rfl rfl rfl rfl rfl (by omega) ?_; refine run_ th rfl ?_))
    · rw [show placeI l s = (k : Int) from idxG_hit hlt (fun i h => ha i h (by omega)) (by simpa using hb)]
      exact .refl _
    · exact g_sub (by exact ⟨⟨_, rfl, .refl _⟩, ⟨_, rfl, .refl _⟩, ⟨_, rfl, .refl _⟩, ⟨_, rfl, le_int (by omega)⟩, trivial⟩) (by exact trivial) rfl rfl rfl (ih (k + 1) ⟨hlt, fun i h h' => by
        by_cases hik : i = k
        · subst hik; simpa using hb
        · exact ha i (by omega) h'⟩ (by omega))
  · have hke : k = l.length := by omega
    subst hke
    repeat' (first
     | refine gc_ rfl ?_
     | (refine g_region ?_; refine run_ th rfl ?_)
     | (refine g_drawC mix rfl rfl ?_; refine drun_ th rfl ?_)
     | (refine g_drawEC mix rfl rfl ?_; refine erun_ th rfl ?_)
     | refine SOps.nil ?_
     | refine DOps.nil ?_
     | refine EOps.nil ?_ rfl rfl
     | (refine s_split rfl rfl (fun hb => ?_) (fun hb => ?_) <;> (try simp only [hbL] at hb) <;> first | (exfalso; omega) | refine run_ th rfl ?_)
     | (refine d_split rfl rfl rfl (fun hb => ?_) (fun hb => ?_) <;> (try simp only [hbL] at hb) <;> first | (exfalso; omega) | refine drun_ th rfl ?_)
     | (refine g_if rfl (fun hb => ?_) (fun hb => ?_) <;> (try simp only [hbL] at hb) <;> (try (exfalso; omega)))
     | refine g_endL th Tryd.func65 (.inr ⟨_, rfl⟩) rfl rfl rfl ?_ rfl)
    rw [show placeI l s = -1 from idxG_none (fun i h => ha i h h)]
    exact .refl _
end Go.Sy

/- Contracts for layer 13: names.Once, slices.Clone, stages, what is looked for in a row of queues. -/
namespace Go.Sy
open Go.Proofs
set_option maxRecDepth 100000
attribute [local irreducible] SOps Goes DOps EOps

def onceAt (l : List ByteArray) (i : Nat) : Bool := decide (placeI l ((l[i]?).getD ⟨#[]⟩) = (i : Int))
def onceB (l : List ByteArray) : Bool := (List.range l.length).all (onceAt l)

set_option maxHeartbeats 4000000 in
theorem once_c (l : List ByteArray) : Con Tryd.prog 63 [] [C1 (namesT l)] (Rv (.bool (onceB l))) [] := by
  refine con_of (c := _) Tryd.func63 rfl rfl rfl (by decide) fun w M0 H Z => ?_
  refine g_len 0 rfl fun hll => ?_
  simp only [List.length_map] at hll
  repeat' (first
   | refine gc_ rfl ?_
   | (refine g_region ?_; refine run_ th rfl ?_)
   | (refine g_drawC mix rfl rfl ?_; refine drun_ th rfl ?_)
   | (refine g_drawEC mix rfl rfl ?_; refine erun_ th rfl ?_)
   | refine SOps.nil ?_
   | refine DOps.nil ?_
   | refine EOps.nil ?_ rfl rfl
   | (refine s_split rfl rfl (fun hb => ?_) (fun hb => ?_) <;> (try simp only [hbL] at hb) <;> first | (exfalso; omega) | refine run_ th rfl ?_)
   | (refine d_split rfl rfl rfl (fun hb => ?_) (fun hb => ?_) <;> (try simp only [hbL] at hb) <;> first | (exfalso; omega) | refine drun_ th rfl ?_)
   | (refine g_if rfl (fun hb => ?_) (fun hb => ?_) <;> (try simp only [hbL] at hb) <;> (try (exfalso; omega))))
  refine g_loop1 (fun k : Nat => k ≤ l.length ∧ ∀ i, i < k → onceAt l i = true)
    (fun k => [(0, .v (C1 (namesT l))), (5, .v (C1 (.int .i64 (l.length : Int)))), (6, .v (C1 (.int .i64 (k : Int))))])
    (fun _ => []) (fun k => l.length - k) 0 ⟨Nat.zero_le _, fun i h => by omega⟩
    (fun a w h => h.sub (by exact ⟨⟨_, rfl, .refl _⟩, ⟨_, rfl, le_int (by simp)⟩, ⟨_, rfl, le_int rfl⟩, trivial⟩) (by exact trivial) rfl rfl rfl) (fun k hk ih => ?_)
  obtain ⟨hk, ha⟩ := hk
  by_cases hlt : k < l.length
  · have hx : (l.map fun s => [CT.str s])[k]? = some [.str l[k]] := by simp [hlt]
    have hat : onceAt l k = decide (placeI l l[k] = (k : Int)) := by simp [onceAt, hlt]
    repeat' (first
     | refine gc_ rfl ?_
     | (refine g_region ?_; refine run_ th rfl ?_)
     | (refine g_drawC mix rfl rfl ?_; refine drun_ th rfl ?_)
     | (refine g_drawEC mix rfl rfl ?_; refine erun_ th rfl ?_)
     | refine SOps.nil ?_
     | refine DOps.nil ?_
     | refine EOps.nil ?_ rfl rfl
     | (refine s_split rfl rfl (fun hb => ?_) (fun hb => ?_) <;> (try simp only [hbL] at hb) <;> first | (exfalso; omega) | refine run_ th rfl ?_)
     | (refine d_split rfl rfl rfl (fun hb => ?_) (fun hb => ?_) <;> (try simp only [hbL] at hb) <;> first | (exfalso; omega) | refine drun_ th rfl ?_)
     | (refine g_if rfl (fun hb => ?_) (fun hb => ?_) <;> (try simp only [hbL] at hb) <;> (try (exfalso; omega)))
     | refine g_endL th Tryd.func63 (.inr ⟨_, rfl⟩) rfl rfl rfl ?_ rfl
     | (refine s_idx th rfl rfl rfl rfl rfl rfl rfl rfl rfl k _ rfl hx ?_; refine run_ th rfl ?_)
     | (refine s_call (place_c l l[k]) [] rfl rfl rfl rfl rfl rfl rfl rfl rfl rfl ?_; refine run_ th rfl ?_)
     | (refine s_add rfl rfl rfl rfl rfl rfl (by omega) ?_; refine run_ th rfl ?_))
    all_goals first
      | (have hf : onceB l = false := List.all_eq_false.2 ⟨k, List.mem_range.2 hlt, by rw [hat]; simpa using hb⟩
         rw [hf]; exact .refl _)
      | (rename_i hq
         exact g_sub (by exact ⟨⟨_, rfl, .refl _⟩, ⟨_, rfl, .refl _⟩, ⟨_, rfl, le_int (by omega)⟩, trivial⟩) (by exact trivial) rfl rfl rfl (ih (k + 1) ⟨hlt, fun i h => by
          by_cases hik : i = k
          · subst hik; rw [hat]; simpa using hb
          · exact ha i (by omega)⟩ (by omega)))
  · have hke : k = l.length := by omega
    subst hke
    repeat' (first
     | refine gc_ rfl ?_
     | (refine g_region ?_; refine run_ th rfl ?_)
     | (refine g_drawC mix rfl rfl ?_; refine drun_ th rfl ?_)
     | (refine g_drawEC mix rfl rfl ?_; refine erun_ th rfl ?_)
     | refine SOps.nil ?_
     | refine DOps.nil ?_
     | refine EOps.nil ?_ rfl rfl
     | (refine s_split rfl rfl (fun hb => ?_) (fun hb => ?_) <;> (try simp only [hbL] at hb) <;> first | (exfalso; omega) | refine run_ th rfl ?_)
     | (refine d_split rfl rfl rfl (fun hb => ?_) (fun hb => ?_) <;> (try simp only [hbL] at hb) <;> first | (exfalso; omega) | refine drun_ th rfl ?_)
     | (refine g_if rfl (fun hb => ?_) (fun hb => ?_) <;> (try simp only [hbL] at hb) <;> (try (exfalso; omega)))
     | refine g_endL th Tryd.func63 (.inr ⟨_, rfl⟩) rfl rfl rfl ?_ rfl)
    rw [show onceB l = true from List.all_eq_true.2 fun i hi => ha i (List.mem_range.1 hi)]
    exact .refl _

theorem cloneI_c (l : List Int) (hbig : l.length * 8 ≤ 140737488355328) : Con Tryd.prog 45 [] [C1 (intsT l)] (Rv (intsT l)) [] := by
  refine con_of (c := _) Tryd.func45 rfl rfl rfl (by decide) fun w M0 H Z => ?_
  repeat' (first
   | refine gc_ rfl ?_
   | (refine g_region ?_; refine run_ th rfl ?_)
   | (refine g_drawC mix rfl rfl ?_; refine drun_ th rfl ?_)
   | (refine g_drawEC mix rfl rfl ?_; refine erun_ th rfl ?_)
   | refine SOps.nil ?_
   | refine DOps.nil ?_
   | refine EOps.nil ?_ rfl rfl
   | (refine s_split rfl rfl (fun hb => ?_) (fun hb => ?_) <;> (try simp only [hbL] at hb) <;> first | (exfalso; omega) | refine run_ th rfl ?_)
   | (refine d_split rfl rfl rfl (fun hb => ?_) (fun hb => ?_) <;> (try simp only [hbL] at hb) <;> first | (exfalso; omega) | refine drun_ th rfl ?_)
   | (refine g_if rfl (fun hb => ?_) (fun hb => ?_) <;> (try simp only [hbL] at hb) <;> (try (exfalso; omega)))
   | refine g_endL th Tryd.func45 (.inr ⟨_, rfl⟩) rfl rfl rfl ?_ rfl
   | (refine s_assignAny rfl rfl rfl rfl ?_; refine run_ th rfl ?_)
   | (refine s_isNil th rfl rfl rfl rfl rfl rfl rfl (fun b hnil => ?_); refine run_ th rfl ?_)
   | (refine s_appendF th rfl rfl rfl rfl rfl rfl rfl rfl rfl rfl rfl rfl rfl rfl (by constructor <;> simp <;> omega) ?_; refine s_freeze 5 rfl rfl ?_; refine run_ th rfl ?_))
  all_goals first
    | exact .refl _
    | (have hl : l = [] := by simpa using hnil hb
       subst hl
       exact .v (.one (.c (.nil 1))))
structure Stg where
  at_ : List Int
  mail : List (List ByteArray)
abbrev mailT (l : List (List ByteArray)) : CT := .slice false 1 (l.map fun m => [namesT m])
abbrev Stg.cs (s : Stg) : List CT := [intsT s.at_, mailT s.mail]

theorem may1_c (m : List ByteArray) : Con Tryd.prog 64 [] [C1 (namesT m)] (Rv (.bool (decide (64 < m.length)))) [] := by
  refine con_of (c := _) Tryd.func64 rfl rfl rfl (by decide) fun w M0 H Z => ?_
  repeat' (first
   | refine gc_ rfl ?_
   | (refine g_region ?_; refine run_ th rfl ?_)
   | (refine g_drawC mix rfl rfl ?_; refine drun_ th rfl ?_)
   | (refine g_drawEC mix rfl rfl ?_; refine erun_ th rfl ?_)
   | refine SOps.nil ?_
   | refine DOps.nil ?_
   | refine EOps.nil ?_ rfl rfl
   | (refine s_split rfl rfl (fun hb => ?_) (fun hb => ?_) <;> (try simp only [hbL] at hb) <;> first | (exfalso; omega) | refine run_ th rfl ?_)
   | (refine d_split rfl rfl rfl (fun hb => ?_) (fun hb => ?_) <;> (try simp only [hbL] at hb) <;> first | (exfalso; omega) | refine drun_ th rfl ?_)
   | (refine g_if rfl (fun hb => ?_) (fun hb => ?_) <;> (try simp only [hbL] at hb) <;> (try (exfalso; omega)))
   | refine g_endL th Tryd.func64 (.inr ⟨_, rfl⟩) rfl rfl rfl ?_ rfl)
  rw [show decide (64 < m.length) = decide ((64 : Int) < ((m.map fun s => [CT.str s]).length : Int)) by rw [decide_eq_decide]; simp; omega]
  exact .refl _

set_option maxHeartbeats 4000000 in
theorem indexMail_c (p : List ByteArray → Bool) (l : List (List ByteArray)) (g : Nat) (hc : ∀ m, Con Tryd.prog g [] [C1 (namesT m)] (Rv (.bool (p m))) []) :
    Con Tryd.prog 67 [] [C1 (mailT l), .one (.clo g [])] (Rv (.int .i64 (idxG p l))) [] := by
  refine con_of (c := _) Tryd.func67 rfl rfl rfl (by decide) fun w M0 H Z => ?_
  refine g_len 0 rfl fun hll => ?_
  simp only [List.length_map] at hll
  repeat' (first
   | refine gc_ rfl ?_
   | (refine g_region ?_; refine run_ th rfl ?_)
   | (refine g_drawC mix rfl rfl ?_; refine drun_ th rfl ?_)
   | (refine g_drawEC mix rfl rfl ?_; refine erun_ th rfl ?_)
   | refine SOps.nil ?_
   | refine DOps.nil ?_
   | refine EOps.nil ?_ rfl rfl
   | (refine s_split rfl rfl (fun hb => ?_) (fun hb => ?_) <;> (try simp only [hbL] at hb) <;> first | (exfalso; omega) | refine run_ th rfl ?_)
   | (refine d_split rfl rfl rfl (fun hb => ?_) (fun hb => ?_) <;> (try simp only [hbL] at hb) <;> first | (exfalso; omega) | refine drun_ th rfl ?_)
   | (refine g_if rfl (fun hb => ?_) (fun hb => ?_) <;> (try simp only [hbL] at hb) <;> (try (exfalso; omega))))
  refine g_loop1 (fun k : Nat => k ≤ l.length ∧ ∀ i (h : i < k) (h' : i < l.length), p l[i] = false)
    (fun k => [(0, .v (C1 (mailT l))), (0 + 1, .v (.one (.clo g []))), (7, .v (C1 (.int .i64 (l.length : Int)))), (8, .v (C1 (.int .i64 (k : Int))))])
    (fun _ => []) (fun k => l.length - k) 0 ⟨Nat.zero_le _, fun i h => by omega⟩
    (fun a w h => h.sub (by exact ⟨⟨_, rfl, .refl _⟩, ⟨_, rfl, .refl _⟩, ⟨_, rfl, le_int (by simp)⟩, ⟨_, rfl, le_int rfl⟩, trivial⟩) (by exact trivial) rfl rfl rfl) (fun k hk ih => ?_)
  obtain ⟨hk, ha⟩ := hk
  by_cases hlt : k < l.length
  · have hx : (l.map fun m => [namesT m])[k]? = some [namesT l[k]] := by simp [hlt]
    repeat' (first
     | refine gc_ rfl ?_
     | (refine g_region ?_; refine run_ th rfl ?_)
     | (refine g_drawC mix rfl rfl ?_; refine drun_ th rfl ?_)
     | (refine g_drawEC mix rfl rfl ?_; refine erun_ th rfl ?_)
     | refine SOps.nil ?_
     | refine DOps.nil ?_
     | refine EOps.nil ?_ rfl rfl
     | (refine s_split rfl rfl (fun hb => ?_) (fun hb => ?_) <;> (try simp only [hbL] at hb) <;> first | (exfalso; omega) | refine run_ th rfl ?_)
     | (refine d_split rfl rfl rfl (fun hb => ?_) (fun hb => ?_) <;> (try simp only [hbL] at hb) <;> first | (exfalso; omega) | refine drun_ th rfl ?_)
     | (refine g_if rfl (fun hb => ?_) (fun hb => ?_) <;> (try simp only [hbL] at hb) <;> (try (exfalso; omega)))
     | refine g_endL th Tryd.func67 (.inr ⟨_, rfl⟩) rfl rfl rfl ?_ rfl
     | (refine s_idx th rfl rfl rfl rfl rfl rfl rfl rfl rfl k _ rfl hx ?_; refine run_ th rfl ?_)
     | (refine s_clo (hc l[k]) [] rfl rfl rfl rfl rfl rfl rfl rfl rfl rfl rfl rfl ?_; refine run_ th rfl ?_)
     | (refine s_add rfl rfl rfl rfl rfl rfl (by omega) ?_; refine run_ th rfl ?_))
    · rw [idxG_hit hlt (fun i h => ha i h (by omega)) hb]
      exact .refl _
    · exact g_sub (by exact ⟨⟨_, rfl, .refl _⟩, ⟨_, rfl, .refl _⟩, ⟨_, rfl, .refl _⟩, ⟨_, rfl, le_int (by omega)⟩, trivial⟩) (by exact trivial) rfl rfl rfl (ih (k + 1) ⟨hlt, fun i h h' => by
        by_cases hik : i = k
        · subst hik; exact hb
        · exact ha i (by omega) h'⟩ (by omega))
  · have hke : k = l.length := by omega
    subst hke
    repeat' (first
     | refine gc_ rfl ?_
     | (refine g_region ?_; refine run_ th rfl ?_)
     | (refine g_drawC mix rfl rfl ?_; refine drun_ th rfl ?_)
     | (refine g_drawEC mix rfl rfl ?_; refine erun_ th rfl ?_)
     | refine SOps.nil ?_
     | refine DOps.nil ?_
     | refine EOps.nil ?_ rfl rfl
     | (refine s_split rfl rfl (fun hb => ?_) (fun hb => ?_) <;> (try simp only [hbL] at hb) <;> first | (exfalso; omega) | refine run_ th rfl ?_)
     | (refine d_split rfl rfl rfl (fun hb => ?_) (fun hb => ?_) <;> (try simp only [hbL] at hb) <;> first | (exfalso; omega) | refine drun_ th rfl ?_)
     | (refine g_if rfl (fun hb => ?_) (fun hb => ?_) <;> (try simp only [hbL] at hb) <;> (try (exfalso; omega)))
     | refine g_endL th Tryd.func67 (.inr ⟨_, rfl⟩) rfl rfl rfl ?_ rfl)
    rw [idxG_none (fun i h => ha i h h)]
    exact .refl _
theorem containsMail_c (p : List ByteArray → Bool) (l : List (List ByteArray)) (g : Nat) (hc : ∀ m, Con Tryd.prog g [] [C1 (namesT m)] (Rv (.bool (p m))) []) :
    Con Tryd.prog 43 [] [C1 (mailT l), .one (.clo g [])] (Rv (.bool (l.any p))) [] := by
  have hidx : decide (idxG p l ≥ 0) = l.any p := by
    cases hi : l.findIdx? p with
    | none =>
      rw [show idxG p l = -1 by simp [idxG, hi]]
      rw [List.findIdx?_eq_none_iff] at hi
      symm; simp; exact hi
    | some i =>
      rw [show idxG p l = (i : Int) by simp [idxG, hi]]
      rw [List.findIdx?_eq_some_iff_getElem] at hi
      obtain ⟨h1, h2, _⟩ := hi
      symm; simp; exact ⟨l[i], List.getElem_mem h1, h2⟩
  rw [← hidx]
  refine con_of (c := _) Tryd.func43 rfl rfl rfl (by decide) fun w M0 H Z => ?_
  repeat' (first
   | refine gc_ rfl ?_
   | (refine g_region ?_; refine run_ th rfl ?_)
   | (refine g_drawC mix rfl rfl ?_; refine drun_ th rfl ?_)
   | (refine g_drawEC mix rfl rfl ?_; refine erun_ th rfl ?_)
   | refine SOps.nil ?_
   | refine DOps.nil ?_
   | refine EOps.nil ?_ rfl rfl
   | (refine s_split rfl rfl (fun hb => ?_) (fun hb => ?_) <;> (try simp only [hbL] at hb) <;> first | (exfalso; omega) | refine run_ th rfl ?_)
   | (refine d_split rfl rfl rfl (fun hb => ?_) (fun hb => ?_) <;> (try simp only [hbL] at hb) <;> first | (exfalso; omega) | refine drun_ th rfl ?_)
   | (refine g_if rfl (fun hb => ?_) (fun hb => ?_) <;> (try simp only [hbL] at hb) <;> (try (exfalso; omega)))
   | refine g_endL th Tryd.func43 (.inr ⟨_, rfl⟩) rfl rfl rfl ?_ rfl
   | (refine s_call (indexMail_c p l g hc) [] rfl rfl rfl rfl rfl rfl rfl rfl rfl rfl ?_; refine run_ th rfl ?_))
  all_goals exact .refl _
end Go.Sy

/- Contracts: stage.May. -/
namespace Go.Sy
open Go.Proofs
set_option maxRecDepth 100000
attribute [local irreducible] SOps Goes DOps EOps

theorem mulB (n : Nat) (h : n ≤ 5) : 0 ≤ (n : Int) * n ∧ (n : Int) * n ≤ 25 := by
  have h1 : n * n ≤ 5 * 5 := Nat.mul_le_mul h h
  have h2 : ((n * n : Nat) : Int) = (n : Int) * n := by simp
  omega
def atB (b : Bk) (a : Int) : Bool := decide (0 ≤ a) && decide (a < (b.nodes.length : Int))
def longB (m : List ByteArray) : Bool := decide (64 < m.length)
/-- A valid stage (P13.1). -/
def mayS (b : Bk) (roles : List ByteArray) (s : Stg) : Bool :=
  bookB b && (decide (1 ≤ roles.length) && (decide (roles.length ≤ 5) && (onceB roles && (decide (s.at_.length = roles.length) && (decide (s.mail.length = roles.length * roles.length) && (s.at_.all (atB b) && !(s.mail.any longB)))))))

set_option maxHeartbeats 8000000 in
theorem stagemay_c (b : Bk) (roles : List ByteArray) (s : Stg) : Con Tryd.prog 38 [] [Ag b.cs, C1 (namesT roles), Ag s.cs] (Rv (.bool (mayS b roles s))) [] := by
  have hcon := containsMail_c longB s.mail _ may1_c
  have hob := once_c roles
  have hbk := bookmay_c b
  cases hB : bookB b with
  | false =>
    rw [hB] at hbk
    rw [show mayS b roles s = false by simp [mayS, hB]]
    refine con_of (c := _) Tryd.func38 rfl rfl rfl (by decide) fun w M0 H Z => ?_
    repeat' (first
     | refine gc_ rfl ?_
     | (refine g_region ?_; refine run_ th rfl ?_)
     | (refine g_drawC mix rfl rfl ?_; refine drun_ th rfl ?_)
     | (refine g_drawEC mix rfl rfl ?_; refine erun_ th rfl ?_)
     | refine SOps.nil ?_
     | refine DOps.nil ?_
     | refine EOps.nil ?_ rfl rfl
     | (refine s_split rfl rfl (fun hb => ?_) (fun hb => ?_) <;> (try simp only [hbL] at hb) <;> first | (exfalso; omega) | refine run_ th rfl ?_)
     | (refine d_split rfl rfl rfl (fun hb => ?_) (fun hb => ?_) <;> (try simp only [hbL] at hb) <;> first | (exfalso; omega) | refine drun_ th rfl ?_)
     | (refine g_if rfl (fun hb => ?_) (fun hb => ?_) <;> (try simp only [hbL] at hb) <;> (try (exfalso; omega)))
     | refine g_endL th Tryd.func38 (.inr ⟨_, rfl⟩) rfl rfl rfl ?_ rfl
     | (refine s_call hbk [] rfl rfl rfl rfl rfl rfl rfl rfl rfl rfl ?_; refine run_ th rfl ?_))
    all_goals exact .refl _
  | true =>
    rw [hB] at hbk
    cases hO : onceB roles with
    | false =>
      rw [hO] at hob
      rw [show mayS b roles s = false by simp [mayS, hO]]
      refine con_of (c := _) Tryd.func38 rfl rfl rfl (by decide) fun w M0 H Z => ?_
      repeat' (first
       | refine gc_ rfl ?_
       | (refine g_region ?_; refine run_ th rfl ?_)
       | (refine g_drawC mix rfl rfl ?_; refine drun_ th rfl ?_)
       | (refine g_drawEC mix rfl rfl ?_; refine erun_ th rfl ?_)
       | refine SOps.nil ?_
       | refine DOps.nil ?_
       | refine EOps.nil ?_ rfl rfl
       | (refine s_split rfl rfl (fun hb => ?_) (fun hb => ?_) <;> (try simp only [hbL] at hb) <;> first | (exfalso; omega) | refine run_ th rfl ?_)
       | (refine d_split rfl rfl rfl (fun hb => ?_) (fun hb => ?_) <;> (try simp only [hbL] at hb) <;> first | (exfalso; omega) | refine drun_ th rfl ?_)
       | (refine g_if rfl (fun hb => ?_) (fun hb => ?_) <;> (try simp only [hbL] at hb) <;> (try (exfalso; omega)))
       | refine g_endL th Tryd.func38 (.inr ⟨_, rfl⟩) rfl rfl rfl ?_ rfl
       | (refine s_call hbk [] rfl rfl rfl rfl rfl rfl rfl rfl rfl rfl ?_; refine run_ th rfl ?_)
       | (refine s_call hob [] rfl rfl rfl rfl rfl rfl rfl rfl rfl rfl ?_; refine run_ th rfl ?_)
       | (exfalso; revert hb; decide))
      all_goals exact .refl _
    | true =>
      rw [hO] at hob
      have hnn : (((roles.length * roles.length : Nat)) : Int) = (roles.length : Int) * roles.length := by simp
      have hmn : roles.length ≤ 5 → (roles.length : Int) * roles.length ≤ 25 ∧ 0 ≤ (roles.length : Int) * roles.length := fun h => ⟨(mulB _ h).2, (mulB _ h).1⟩
      by_cases hg : 1 ≤ roles.length ∧ roles.length ≤ 5 ∧ s.at_.length = roles.length ∧ s.mail.length = roles.length * roles.length
      · obtain ⟨hg1, hg2, hg3, hg4⟩ := hg
        have hmn := hmn hg2
        have hI : (s.mail.length : Int) = (roles.length : Int) * roles.length := by rw [hg4]; exact hnn
        rw [show mayS b roles s = (s.at_.all (atB b) && !(s.mail.any longB)) by simp [mayS, hB, hO, hg1, hg2, hg3, hg4]]
        refine con_of (c := _) Tryd.func38 rfl rfl rfl (by decide) fun w M0 H Z => ?_
        repeat' (first
         | refine gc_ rfl ?_
         | (refine g_region ?_; refine run_ th rfl ?_)
         | (refine g_drawC mix rfl rfl ?_; refine drun_ th rfl ?_)
         | (refine g_drawEC mix rfl rfl ?_; refine erun_ th rfl ?_)
         | refine SOps.nil ?_
         | refine DOps.nil ?_
         | refine EOps.nil ?_ rfl rfl
         | (refine s_split rfl rfl (fun hb => ?_) (fun hb => ?_) <;> (try simp only [hbL] at hb) <;> first | (exfalso; omega) | refine run_ th rfl ?_)
         | (refine d_split rfl rfl rfl (fun hb => ?_) (fun hb => ?_) <;> (try simp only [hbL] at hb) <;> first | (exfalso; omega) | refine drun_ th rfl ?_)
         | (refine g_if rfl (fun hb => ?_) (fun hb => ?_) <;> (try simp only [hbL] at hb) <;> (try (exfalso; omega)))
         | (refine s_call hbk [] rfl rfl rfl rfl rfl rfl rfl rfl rfl rfl ?_; refine run_ th rfl ?_)
         | (refine s_call hob [] rfl rfl rfl rfl rfl rfl rfl rfl rfl rfl ?_; refine run_ th rfl ?_)
         | (refine s_mul rfl rfl rfl rfl rfl rfl (by simp only [List.length_map]; omega) ?_; refine run_ th rfl ?_))
        refine g_loop1 (fun k : Nat => k ≤ s.at_.length ∧ ∀ i (h : i < k) (h' : i < s.at_.length), atB b s.at_[i] = true)
          (fun k => [(3, .v (.one (.ptr 3 0))), (5, .v (.one (.ptr 5 0))), (45, .v (C1 (intsT s.at_))), (46, .v (C1 (.int .i64 (s.at_.length : Int)))), (47, .v (C1 (.int .i64 (k : Int))))])
          (fun _ => [(5, .box [.c (intsT s.at_), .c (mailT s.mail)]), (3, .box [.c (nodesT b.nodes), .c (namesT b.names), .c (intsT b.roots)])]) (fun k => s.at_.length - k) 0 ⟨Nat.zero_le _, fun i h => by omega⟩
          (fun a w h => h.sub (by exact ⟨⟨_, rfl, .refl _⟩, ⟨_, rfl, .refl _⟩, ⟨_, rfl, .refl _⟩, ⟨_, rfl, le_int (by simp)⟩, ⟨_, rfl, le_int rfl⟩, trivial⟩) (by exact ⟨⟨_, rfl, .refl _⟩, ⟨_, rfl, .refl _⟩, trivial⟩) rfl rfl rfl) (fun k hk ih => ?_)
        obtain ⟨hk, ha⟩ := hk
        by_cases hlt : k < s.at_.length
        · have hx : (s.at_.map fun r => [CT.int .i64 r])[k]? = some [.int .i64 s.at_[k]] := by simp [hlt]
          repeat' (first
           | refine gc_ rfl ?_
           | (refine g_region ?_; refine run_ th rfl ?_)
           | (refine g_drawC mix rfl rfl ?_; refine drun_ th rfl ?_)
           | (refine g_drawEC mix rfl rfl ?_; refine erun_ th rfl ?_)
           | refine SOps.nil ?_
           | refine DOps.nil ?_
           | refine EOps.nil ?_ rfl rfl
           | (refine s_split rfl rfl (fun hb => ?_) (fun hb => ?_) <;> (try simp only [hbL] at hb) <;> first | (exfalso; omega) | refine run_ th rfl ?_)
           | (refine d_split rfl rfl rfl (fun hb => ?_) (fun hb => ?_) <;> (try simp only [hbL] at hb) <;> first | (exfalso; omega) | refine drun_ th rfl ?_)
           | (refine g_if rfl (fun hb => ?_) (fun hb => ?_) <;> (try simp only [hbL] at hb) <;> (try (exfalso; omega)))
           | refine g_endL th Tryd.func38 (.inr ⟨_, rfl⟩) rfl rfl rfl ?_ rfl
           | (refine s_idx th rfl rfl rfl rfl rfl rfl rfl rfl rfl k _ rfl hx ?_; refine run_ th rfl ?_)
           | (refine s_add rfl rfl rfl rfl rfl rfl (by omega) ?_; refine run_ th rfl ?_))
          all_goals first
            | (have hf : s.at_.all (atB b) = false := List.all_eq_false.2 ⟨s.at_[k], List.getElem_mem hlt, by simp [atB]; omega⟩
               rw [hf]; exact .refl _)
            | exact g_sub (by exact ⟨⟨_, rfl, .refl _⟩, ⟨_, rfl, .refl _⟩, ⟨_, rfl, .refl _⟩, ⟨_, rfl, .refl _⟩, ⟨_, rfl, le_int (by omega)⟩, trivial⟩) (by exact ⟨⟨_, rfl, .refl _⟩, ⟨_, rfl, .refl _⟩, trivial⟩) rfl rfl rfl (ih (k + 1) ⟨hlt, fun i h h' => by
                by_cases hik : i = k
                · subst hik; simp [atB]; omega
                · exact ha i (by omega) h'⟩ (by omega))
        · have hke : k = s.at_.length := by omega
          subst hke
          rw [show s.at_.all (atB b) = true from List.all_eq_true.2 fun x hx => by obtain ⟨i, hi, rfl⟩ := List.mem_iff_getElem.1 hx; exact ha i hi hi]
          repeat' (first
           | refine gc_ rfl ?_
           | (refine g_region ?_; refine run_ th rfl ?_)
           | (refine g_drawC mix rfl rfl ?_; refine drun_ th rfl ?_)
           | (refine g_drawEC mix rfl rfl ?_; refine erun_ th rfl ?_)
           | refine SOps.nil ?_
           | refine DOps.nil ?_
           | refine EOps.nil ?_ rfl rfl
           | (refine s_split rfl rfl (fun hb => ?_) (fun hb => ?_) <;> (try simp only [hbL] at hb) <;> first | (exfalso; omega) | refine run_ th rfl ?_)
           | (refine d_split rfl rfl rfl (fun hb => ?_) (fun hb => ?_) <;> (try simp only [hbL] at hb) <;> first | (exfalso; omega) | refine drun_ th rfl ?_)
           | (refine g_if rfl (fun hb => ?_) (fun hb => ?_) <;> (try simp only [hbL] at hb) <;> (try (exfalso; omega)))
           | refine g_endL th Tryd.func38 (.inr ⟨_, rfl⟩) rfl rfl rfl ?_ rfl
           | (refine s_call hcon [] rfl rfl rfl rfl rfl rfl rfl rfl rfl rfl ?_; refine run_ th rfl ?_))
          all_goals exact .refl _
      · rw [show mayS b roles s = false by
          cases hm : mayS b roles s with
          | false => rfl
          | true => simp only [mayS, Bool.and_eq_true, decide_eq_true_eq] at hm; exact absurd ⟨hm.2.1, hm.2.2.1, hm.2.2.2.2.1, hm.2.2.2.2.2.1⟩ hg]
        refine con_of (c := _) Tryd.func38 rfl rfl rfl (by decide) fun w M0 H Z => ?_
        repeat' (first
         | refine gc_ rfl ?_
         | (refine g_region ?_; refine run_ th rfl ?_)
         | (refine g_drawC mix rfl rfl ?_; refine drun_ th rfl ?_)
         | (refine g_drawEC mix rfl rfl ?_; refine erun_ th rfl ?_)
         | refine SOps.nil ?_
         | refine DOps.nil ?_
         | refine EOps.nil ?_ rfl rfl
         | (refine s_split rfl rfl (fun hb => ?_) (fun hb => ?_) <;> (try simp only [hbL] at hb) <;> first | (exfalso; omega) | refine run_ th rfl ?_)
         | (refine d_split rfl rfl rfl (fun hb => ?_) (fun hb => ?_) <;> (try simp only [hbL] at hb) <;> first | (exfalso; omega) | refine drun_ th rfl ?_)
         | (refine g_if rfl (fun hb => ?_) (fun hb => ?_) <;> (try simp only [hbL] at hb) <;> (try (exfalso; omega)))
         | refine g_endL th Tryd.func38 (.inr ⟨_, rfl⟩) rfl rfl rfl ?_ rfl
         | (refine s_call hbk [] rfl rfl rfl rfl rfl rfl rfl rfl rfl rfl ?_; refine run_ th rfl ?_)
         | (refine s_call hob [] rfl rfl rfl rfl rfl rfl rfl rfl rfl rfl ?_; refine run_ th rfl ?_)
         | (refine s_mul rfl rfl rfl rfl rfl rfl (by simp only [List.length_map]; omega) ?_; refine run_ th rfl ?_))
        all_goals first
          | exact .refl _
          | (exfalso; omega)

end Go.Sy

/- Contracts for layer 13: slices.Equal, EqualFunc, stage.Same. -/
namespace Go.Sy
open Go.Proofs
set_option maxRecDepth 100000
attribute [local irreducible] SOps Goes DOps EOps

theorem eqL_no {α : Type} {l m : List α} {k : Nat} (hl : k < l.length) (hm : k < m.length) (h : l[k] ≠ m[k]) : l ≠ m := by
  intro e; subst e; exact h rfl
theorem eqL_yes {α : Type} {l m : List α} (hlen : l.length = m.length) (h : ∀ i (h1 : i < l.length) (h2 : i < m.length), l[i] = m[i]) : l = m := List.ext_getElem hlen h

end Go.Sy

/- Contracts: slices.Clone as a row of one's own; stage.copied. -/
namespace Go.Sy
open Go.Proofs
set_option maxRecDepth 100000
attribute [local irreducible] SOps Goes DOps EOps FOps

theorem cloneIO_c (l : List Int) (hbig : l.length * 8 ≤ 140737488355328) : ConO Tryd.prog 45 [C1 (intsT l)] (fun _ : Value => True) (fun v => .v (C1 (.val v))) (fun v => [(3, 1, [(v, l.map fun r => [CT.int .i64 r])])]) := by
  refine conO_of (c := _) Tryd.func45 rfl rfl rfl (by decide) fun w M0 H => ?_
  repeat' (first
   | refine gc_ rfl ?_
   | (refine g_region ?_; refine run_ th rfl ?_)
   | (refine g_drawC mix rfl rfl ?_; refine drun_ th rfl ?_)
   | (refine g_drawEC mix rfl rfl ?_; refine erun_ th rfl ?_)
   | refine SOps.nil ?_
   | refine DOps.nil ?_
   | refine EOps.nil ?_ rfl rfl
   | (refine s_split rfl rfl (fun hb => ?_) (fun hb => ?_) <;> (try simp only [hbL] at hb) <;> first | (exfalso; omega) | refine run_ th rfl ?_)
   | (refine d_split rfl rfl rfl (fun hb => ?_) (fun hb => ?_) <;> (try simp only [hbL] at hb) <;> first | (exfalso; omega) | refine drun_ th rfl ?_)
   | (refine g_if rfl (fun hb => ?_) (fun hb => ?_) <;> (try simp only [hbL] at hb) <;> (try (exfalso; omega)))
   | (refine s_assignAny rfl rfl rfl rfl ?_; refine run_ th rfl ?_)
   | (refine s_isNil th rfl rfl rfl rfl rfl rfl rfl (fun b hnil => ?_); refine run_ th rfl ?_)
   | (refine s_appendF th rfl rfl rfl rfl rfl rfl rfl rfl rfl rfl rfl rfl rfl rfl (by constructor <;> simp <;> omega) ?_; refine run_ th rfl ?_))
  · have hl : l = [] := by simpa using hnil hb
    subst hl
    refine g_newPool 5 3 1 rfl rfl ?_
    refine g_nilPool 5 rfl rfl rfl rfl ?_
    refine g_nilT 2 rfl ?_
    exact g_endO th Tryd.func45 [5] (.slice none 0 0) (.inr ⟨_, rfl⟩) rfl rfl rfl rfl rfl rfl trivial
  · refine g_toPool 5 rfl rfl fun v => ?_
    exact g_endO th Tryd.func45 [5] v (.inr ⟨_, rfl⟩) rfl rfl rfl rfl rfl rfl trivial
theorem cloneSO_c (l : List ByteArray) (hbig : l.length * 16 ≤ 140737488355328) : ConO Tryd.prog 69 [C1 (namesT l)] (fun _ : Value => True) (fun v => .v (C1 (.val v))) (fun v => [(9, 1, [(v, l.map fun r => [CT.str r])])]) := by
  refine conO_of (c := _) Tryd.func69 rfl rfl rfl (by decide) fun w M0 H => ?_
  repeat' (first
   | refine gc_ rfl ?_
   | (refine g_region ?_; refine run_ th rfl ?_)
   | (refine g_drawC mix rfl rfl ?_; refine drun_ th rfl ?_)
   | (refine g_drawEC mix rfl rfl ?_; refine erun_ th rfl ?_)
   | refine SOps.nil ?_
   | refine DOps.nil ?_
   | refine EOps.nil ?_ rfl rfl
   | (refine s_split rfl rfl (fun hb => ?_) (fun hb => ?_) <;> (try simp only [hbL] at hb) <;> first | (exfalso; omega) | refine run_ th rfl ?_)
   | (refine d_split rfl rfl rfl (fun hb => ?_) (fun hb => ?_) <;> (try simp only [hbL] at hb) <;> first | (exfalso; omega) | refine drun_ th rfl ?_)
   | (refine g_if rfl (fun hb => ?_) (fun hb => ?_) <;> (try simp only [hbL] at hb) <;> (try (exfalso; omega)))
   | (refine s_assignAny rfl rfl rfl rfl ?_; refine run_ th rfl ?_)
   | (refine s_isNil th rfl rfl rfl rfl rfl rfl rfl (fun b hnil => ?_); refine run_ th rfl ?_)
   | (refine s_appendF th rfl rfl rfl rfl rfl rfl rfl rfl rfl rfl rfl rfl rfl rfl (by constructor <;> simp <;> omega) ?_; refine run_ th rfl ?_))
  · have hl : l = [] := by simpa using hnil hb
    subst hl
    refine g_newPool 5 9 1 rfl rfl ?_
    refine g_nilPool 5 rfl rfl rfl rfl ?_
    refine g_nilT 2 rfl ?_
    exact g_endO th Tryd.func69 [5] (.slice none 0 0) (.inr ⟨_, rfl⟩) rfl rfl rfl rfl rfl rfl trivial
  · refine g_toPool 5 rfl rfl fun v => ?_
    exact g_endO th Tryd.func69 [5] v (.inr ⟨_, rfl⟩) rfl rfl rfl rfl rfl rfl trivial

abbrev qrow (m : List ByteArray) : List (List CT) := m.map fun r => [CT.str r]
abbrev irow (l : List Int) : List (List CT) := l.map fun r => [CT.int .i64 r]
abbrev vrow (l : List Value) : List (List CT) := l.map fun h => [CT.val h]
abbrev qpool (hs : List Value) (ms : List (List ByteArray)) : PQ := (hs.zip ms).map fun q => (q.1, qrow q.2)
abbrev stgPools (s : Stg) (x : Value × Value × List Value) : PL := [(3, 1, [(x.1, irow s.at_)]), (23, 1, [(x.2.1, vrow x.2.2)]), (9, 1, qpool x.2.2 s.mail)]
structure StgBig (s : Stg) : Prop where
  at_ : s.at_.length * 8 ≤ 140737488355328
  mail : s.mail.length * 24 ≤ 140737488355328
  each : ∀ m ∈ s.mail, m.length * 16 ≤ 140737488355328

def cpET : Nat → Value × Value → TM
  | 1, x => [(20, .v (C1 (.val x.1)))]
  | 2, x => [(21, .v (C1 (.slice true 1 [[.val x.1]])))]
  | 3, x => [(22, .v (C1 (.val x.2)))]
  | _, _ => []
def cpMM (m : List ByteArray) (at_ : List Int) (qs : PQ) (vA vM : Value) (hs : List Value) : Nat → Value × Value → MM
  | 0, _ => [(93, .pool 9 1 qs), (92, .pool 23 1 [(vM, vrow hs)]), (91, .pool 3 1 [(vA, irow at_)]), (3, .box [.c (.val vA), .c (.val vM)]), (2, .box [.c .nils, .c .nils])]
  | 1, x | 2, x => [(99, .pool 9 1 [(x.1, qrow m)]), (93, .pool 9 1 qs), (92, .pool 23 1 [(vM, vrow hs)]), (91, .pool 3 1 [(vA, irow at_)]), (3, .box [.c (.val vA), .c (.val vM)]), (2, .box [.c .nils, .c .nils])]
  | 3, x => [(99, .pool 9 1 [(x.1, qrow m)]), (93, .pool 9 1 qs), (92, .pool 23 1 [(x.2, vrow hs ++ [[.val x.1]])]), (91, .pool 3 1 [(vA, irow at_)]), (3, .box [.c (.val vA), .c (.val vM)]), (2, .box [.c .nils, .c .nils])]
  | _, x => [(99, .pool 9 1 [(x.1, qrow m)]), (93, .pool 9 1 qs), (92, .pool 23 1 [(x.2, vrow hs ++ [[.val x.1]])]), (91, .pool 3 1 [(vA, irow at_)]), (3, .box [.c (.val vA), .c (.val x.2)]), (2, .box [.c .nils, .c .nils])]

set_option maxHeartbeats 4000000 in
theorem copied_c (s : Stg) (hb : StgBig s) : ConO Tryd.prog 47 [Ag s.cs] (fun x : Value × Value × List Value => x.2.2.length = s.mail.length) (fun x => .v (.agg [.c (.val x.1), .c (.val x.2.1)])) (stgPools s) := by
  refine conO_of (c := _) Tryd.func47 rfl rfl rfl (by decide) fun w M0 H => ?_
  repeat' (first
   | refine gc_ rfl ?_
   | (refine g_region ?_; refine run_ th rfl ?_)
   | (refine g_drawC mix rfl rfl ?_; refine drun_ th rfl ?_)
   | (refine g_drawEC mix rfl rfl ?_; refine erun_ th rfl ?_)
   | refine SOps.nil ?_
   | refine DOps.nil ?_
   | refine EOps.nil ?_ rfl rfl
   | (refine s_split rfl rfl (fun hb => ?_) (fun hb => ?_) <;> (try simp only [hbL] at hb) <;> first | (exfalso; omega) | refine run_ th rfl ?_)
   | (refine d_split rfl rfl rfl (fun hb => ?_) (fun hb => ?_) <;> (try simp only [hbL] at hb) <;> first | (exfalso; omega) | refine drun_ th rfl ?_)
   | (refine g_if rfl (fun hb => ?_) (fun hb => ?_) <;> (try simp only [hbL] at hb) <;> (try (exfalso; omega)))
   | (refine s_callO (cloneIO_c s.at_ hb.at_) [91] rfl rfl rfl rfl rfl rfl rfl rfl rfl (fun _ => rfl) (fun vA _ => ?_); refine run_ th rfl ?_))
  refine g_nilVal 3 1 rfl rfl ?_
  refine g_newPool 92 23 1 rfl rfl ?_
  refine g_nilPool 92 rfl rfl rfl rfl ?_
  refine g_newPool 93 9 1 rfl rfl ?_
  refine g_loop3 (fun (k : Nat) (_ : Value) (hs : List Value) => k ≤ s.mail.length ∧ hs.length = k)
    (fun k _ _ => [(2, .v (.one (.ptr 2 0))), (3, .v (.one (.ptr 3 0))), (11, .v (C1 (mailT s.mail))), (12, .v (C1 (.int .i64 (s.mail.length : Int)))), (13, .v (C1 (.int .i64 (k : Int))))])
    (fun k vM hs => [(93, .pool 9 1 (qpool hs (s.mail.take k))), (92, .pool 23 1 [(vM, vrow hs)]), (91, .pool 3 1 [(vA, irow s.at_)]), (3, .box [.c (.val vA), .c (.val vM)]), (2, .box [.c .nils, .c .nils])])
    (fun k _ _ => s.mail.length - k) 0 (.slice none 0 0) [] ⟨Nat.zero_le _, rfl⟩
    (fun a w h => h.sub (by exact ⟨⟨_, rfl, .refl _⟩, ⟨_, rfl, .refl _⟩, ⟨_, rfl, .refl _⟩, ⟨_, rfl, le_int (by simp)⟩, ⟨_, rfl, le_int rfl⟩, trivial⟩)
      (by exact ⟨⟨_, rfl, .refl _⟩, ⟨_, rfl, .refl _⟩, ⟨_, rfl, .refl _⟩, ⟨_, rfl, .refl _⟩, ⟨_, rfl, .refl _⟩, trivial⟩) rfl rfl rfl) (fun k vM hs hk ih => ?_)
  obtain ⟨hk, hhs⟩ := hk
  by_cases hlt : k < s.mail.length
  · have hx : (s.mail.map fun m => [namesT m])[k]? = some [namesT s.mail[k]] := by simp [hlt]
    have hbm := hb.each s.mail[k] (List.getElem_mem hlt)
    have hbn := hb.mail
    repeat' (first
     | (refine g_drawF (ι := Value × Value) [3, 4, 5, 7] [92] cpET (cpMM s.mail[k] s.at_ (qpool hs (s.mail.take k)) vA vM hs) (vM, vM) mix rfl (fun k x hk => by match k, hk with | 0, _ => (refine subG_spec ?_; repeat (first | exact trivial | refine ⟨rfl, ?_⟩)) | 1, _ => (refine subG_spec ?_; repeat (first | exact trivial | refine ⟨rfl, ?_⟩)) | 2, _ => (refine subG_spec ?_; repeat (first | exact trivial | refine ⟨rfl, ?_⟩)) | 3, _ => (refine subG_spec ?_; repeat (first | exact trivial | refine ⟨rfl, ?_⟩))) rfl (fun k x => by match k with | 0 => rfl | 1 => rfl | 2 => rfl | 3 => rfl | _ + 4 => rfl) rfl rfl (by simp) rfl rfl ?_; refine frun_ th rfl ?_)
     | refine gc_ rfl ?_
     | (refine g_region ?_; refine run_ th rfl ?_)
     | (refine g_drawC mix rfl rfl ?_; refine drun_ th rfl ?_)
     | (refine g_drawEC mix rfl rfl ?_; refine erun_ th rfl ?_)
     | refine SOps.nil ?_
     | refine DOps.nil ?_
     | refine EOps.nil ?_ rfl rfl
     | (refine s_split rfl rfl (fun hb => ?_) (fun hb => ?_) <;> (try simp only [hbL] at hb) <;> first | (exfalso; omega) | refine run_ th rfl ?_)
     | (refine d_split rfl rfl rfl (fun hb => ?_) (fun hb => ?_) <;> (try simp only [hbL] at hb) <;> first | (exfalso; omega) | refine drun_ th rfl ?_)
     | (refine g_if rfl (fun hb => ?_) (fun hb => ?_) <;> (try simp only [hbL] at hb) <;> (try (exfalso; omega)))
     | (refine s_idx th rfl rfl rfl rfl rfl rfl rfl rfl rfl k _ rfl hx ?_; refine run_ th rfl ?_))
    · refine FOps.nil ⟨Effs.cons rfl (fun x => ?_) (Effs.cons rfl (fun x => ?_) (Effs.cons rfl (fun x => ?_) (Effs.cons rfl (fun x => ?_) Effs.nil))), fun x => ?_⟩
      · exact ef_callO (cloneSO_c s.mail[k] hbm) [99] rfl rfl rfl rfl rfl rfl rfl rfl rfl rfl (fun _ => rfl) (fun v => (v, x.2)) (fun _ => rfl) (fun _ => rfl)
      · exact ef_val (op_lit th rfl rfl rfl rfl rfl rfl rfl rfl rfl (.refl _) rfl rfl) rfl rfl rfl rfl
      · exact ef_append (i := 92) th rfl rfl rfl rfl rfl rfl rfl rfl rfl rfl rfl rfl rfl rfl rfl rfl 0 rfl (by constructor <;> simp [hhs] <;> omega) (fun v' => (x.1, v')) (fun _ => rfl) (fun _ => rfl)
      · exact ef_store (i := 3) th rfl rfl rfl rfl rfl rfl rfl rfl rfl rfl rfl rfl
      · refine g_merge 99 93 rfl rfl rfl rfl rfl rfl rfl rfl rfl ?_
        repeat' (first
         | refine gc_ rfl ?_
         | (refine g_region ?_; refine run_ th rfl ?_)
         | (refine g_drawC mix rfl rfl ?_; refine drun_ th rfl ?_)
         | (refine g_drawEC mix rfl rfl ?_; refine erun_ th rfl ?_)
         | refine SOps.nil ?_
         | refine DOps.nil ?_
         | refine EOps.nil ?_ rfl rfl
         | (refine s_split rfl rfl (fun hb => ?_) (fun hb => ?_) <;> (try simp only [hbL] at hb) <;> first | (exfalso; omega) | refine run_ th rfl ?_)
         | (refine d_split rfl rfl rfl (fun hb => ?_) (fun hb => ?_) <;> (try simp only [hbL] at hb) <;> first | (exfalso; omega) | refine drun_ th rfl ?_)
         | (refine g_if rfl (fun hb => ?_) (fun hb => ?_) <;> (try simp only [hbL] at hb) <;> (try (exfalso; omega)))
         | (refine s_add rfl rfl rfl rfl rfl rfl (by omega) ?_; refine run_ th rfl ?_))
        have hq : qpool hs (s.mail.take k) ++ [(x.1, qrow s.mail[k])] = qpool (hs ++ [x.1]) (s.mail.take (k + 1)) := by
          rw [qpool, qpool, List.take_succ_eq_append_getElem hlt, List.zip_append (by simp; omega), List.map_append]; rfl
        have hv : vrow hs ++ [[.val x.1]] = vrow (hs ++ [x.1]) := by simp
        have hih := ih (k + 1) x.2 (hs ++ [x.1]) ⟨hlt, by simp [hhs]⟩ (by omega)
        exact g_sub (by exact ⟨⟨_, rfl, .refl _⟩, ⟨_, rfl, .refl _⟩, ⟨_, rfl, .refl _⟩, ⟨_, rfl, .refl _⟩, ⟨_, rfl, le_int (by omega)⟩, trivial⟩)
          (by exact ⟨⟨_, rfl, le_pool hq⟩, ⟨_, rfl, le_pool (by rw [hv])⟩, ⟨_, rfl, .refl _⟩, ⟨_, rfl, .refl _⟩, ⟨_, rfl, .refl _⟩, trivial⟩) rfl rfl rfl hih
  · have hke : k = s.mail.length := by omega
    repeat' (first
     | refine gc_ rfl ?_
     | (refine g_region ?_; refine run_ th rfl ?_)
     | (refine g_drawC mix rfl rfl ?_; refine drun_ th rfl ?_)
     | (refine g_drawEC mix rfl rfl ?_; refine erun_ th rfl ?_)
     | refine SOps.nil ?_
     | refine DOps.nil ?_
     | refine EOps.nil ?_ rfl rfl
     | (refine s_split rfl rfl (fun hb => ?_) (fun hb => ?_) <;> (try simp only [hbL] at hb) <;> first | (exfalso; omega) | refine run_ th rfl ?_)
     | (refine d_split rfl rfl rfl (fun hb => ?_) (fun hb => ?_) <;> (try simp only [hbL] at hb) <;> first | (exfalso; omega) | refine drun_ th rfl ?_)
     | (refine g_if rfl (fun hb => ?_) (fun hb => ?_) <;> (try simp only [hbL] at hb) <;> (try (exfalso; omega))))
    refine g_endO th Tryd.func47 [91, 92, 93] (vA, vM, hs) (.inr ⟨_, rfl⟩) rfl rfl rfl ?_ rfl rfl (by simp [hhs, hke])
    subst hke
    rw [List.take_length]
    rfl
end Go.Sy

/- Contracts of layer 13: what is looked for among edges, peer, queue, Over. -/
namespace Go.Sy
open Go.Proofs
set_option maxRecDepth 100000
attribute [local irreducible] SOps Goes DOps EOps

theorem contains1_c (p : Edge → Bool) (l : List Edge) (g : Nat) (c0 : CT)
    (hc : ∀ e : Edge, Con Tryd.prog g [[c0]] [Ag e.cs, .one (.ptr given 0)] (Rv (.bool (p e))) [[c0]]) :
    Con Tryd.prog 41 [[c0]] [C1 (armsT l), .one (.clo g [given])] (Rv (.bool (l.any p))) [[c0]] := by
  have hcon := indexFunc_c p l g c0 hc
  have hidx : decide (idxI p l ≥ 0) = l.any p := by
    cases hi : l.findIdx? p with
    | none =>
      rw [show idxI p l = -1 by simp [idxI, hi]]
      rw [List.findIdx?_eq_none_iff] at hi
      symm; simp; exact hi
    | some i =>
      rw [show idxI p l = (i : Int) by simp [idxI, hi]]
      rw [List.findIdx?_eq_some_iff_getElem] at hi
      obtain ⟨h1, h2, _⟩ := hi
      symm; simp; exact ⟨l[i], List.getElem_mem h1, h2⟩
  rw [← hidx]
  refine con_of (c := _) Tryd.func41 rfl rfl rfl (by decide) fun w M0 H Z => ?_
  repeat' (first
   | refine gc_ rfl ?_
   | (refine g_region ?_; refine run_ th rfl ?_)
   | (refine g_drawC mix rfl rfl ?_; refine drun_ th rfl ?_)
   | (refine g_drawEC mix rfl rfl ?_; refine erun_ th rfl ?_)
   | refine SOps.nil ?_
   | refine DOps.nil ?_
   | refine EOps.nil ?_ rfl rfl
   | (refine s_split rfl rfl (fun hb => ?_) (fun hb => ?_) <;> (try simp only [hbL] at hb) <;> first | (exfalso; omega) | refine run_ th rfl ?_)
   | (refine d_split rfl rfl rfl (fun hb => ?_) (fun hb => ?_) <;> (try simp only [hbL] at hb) <;> first | (exfalso; omega) | refine drun_ th rfl ?_)
   | (refine g_if rfl (fun hb => ?_) (fun hb => ?_) <;> (try simp only [hbL] at hb) <;> (try (exfalso; omega)))
   | refine g_end th Tryd.func41 (.inr ⟨_, rfl⟩) rfl rfl rfl ⟨?_, rfl⟩
   | (refine s_call hcon [given] rfl rfl rfl rfl rfl rfl rfl rfl rfl rfl ?_; refine run_ th rfl ?_))
  all_goals simp [packS]

theorem moves1_c (m : ByteArray) (r : List ByteArray) (e : Edge) : Con Tryd.prog 42 [[namesT (m :: r)]] [Ag e.cs, .one (.ptr given 0)] (Rv (.bool (decide (e.label = m)))) [[namesT (m :: r)]] := by
  have hx : ((m :: r).map fun s => [CT.str s])[0]? = some [.str m] := rfl
  refine con_of (c := _) Tryd.func42 rfl rfl rfl (by decide) fun w M0 H Z => ?_
  repeat' (first
   | refine gc_ rfl ?_
   | (refine g_region ?_; refine run_ th rfl ?_)
   | (refine g_drawC mix rfl rfl ?_; refine drun_ th rfl ?_)
   | (refine g_drawEC mix rfl rfl ?_; refine erun_ th rfl ?_)
   | refine SOps.nil ?_
   | refine DOps.nil ?_
   | refine EOps.nil ?_ rfl rfl
   | (refine s_split rfl rfl (fun hb => ?_) (fun hb => ?_) <;> (try simp only [hbL] at hb) <;> first | (exfalso; omega) | refine run_ th rfl ?_)
   | (refine d_split rfl rfl rfl (fun hb => ?_) (fun hb => ?_) <;> (try simp only [hbL] at hb) <;> first | (exfalso; omega) | refine drun_ th rfl ?_)
   | (refine g_if rfl (fun hb => ?_) (fun hb => ?_) <;> (try simp only [hbL] at hb) <;> (try (exfalso; omega)))
   | refine g_end th Tryd.func42 (.inr ⟨_, rfl⟩) rfl rfl rfl ⟨?_, rfl⟩
   | (refine d_idx th rfl rfl rfl rfl rfl rfl rfl rfl rfl 0 _ rfl hx ?_; refine drun_ th rfl ?_))
  all_goals simp [packS]

/-- The node of a role, its peer. -/
def atN (s : Stg) (r : Nat) : Nat := ((s.at_[r]?).getD 0).toNat
def stNd (b : Bk) (s : Stg) (r : Nat) : Nd := (b.nodes[atN s r]?).getD ⟨0, ⟨#[]⟩, []⟩
def peerI (b : Bk) (roles : List ByteArray) (s : Stg) (r : Nat) : Int :=
  if placeI roles (stNd b s r).peer = (r : Int) then -1 else placeI roles (stNd b s r).peer
structure RoleOk (b : Bk) (s : Stg) (r : Nat) : Prop where
  lt : r < s.at_.length
  ge : 0 ≤ s.at_[r]
  le : s.at_[r] < (b.nodes.length : Int)
theorem RoleOk.idx {b : Bk} {s : Stg} {r : Nat} (h : RoleOk b s r) : (s.at_.map fun r => [CT.int .i64 r])[r]? = some [.int .i64 (atN s r : Int)] ∧ (b.nodes.map Nd.cs)[atN s r]? = some (stNd b s r).cs := by
  have h1 := h.lt
  have h2 := h.ge
  have h3 := h.le
  have e : atN s r = (s.at_[r]).toNat := by simp [atN, h1]
  constructor
  · rw [e]; simp [h1, Int.toNat_of_nonneg h2]
  · have hl : (s.at_[r]).toNat < b.nodes.length := by omega
    simp [stNd, e, hl]

theorem peer_c (b : Bk) (roles : List ByteArray) (s : Stg) (r : Nat) (h : RoleOk b s r) : Con Tryd.prog 39 [] [Ag b.cs, C1 (namesT roles), Ag s.cs, C1 (.int .i64 (r : Int))] (Rv (.int .i64 (peerI b roles s r))) [] := by
  obtain ⟨hx, hy⟩ := h.idx
  refine con_of (c := _) Tryd.func39 rfl rfl rfl (by decide) fun w M0 H Z => ?_
  repeat' (first
   | refine gc_ rfl ?_
   | (refine g_region ?_; refine run_ th rfl ?_)
   | (refine g_drawC mix rfl rfl ?_; refine drun_ th rfl ?_)
   | (refine g_drawEC mix rfl rfl ?_; refine erun_ th rfl ?_)
   | refine SOps.nil ?_
   | refine DOps.nil ?_
   | refine EOps.nil ?_ rfl rfl
   | (refine s_split rfl rfl (fun hb => ?_) (fun hb => ?_) <;> (try simp only [hbL] at hb) <;> first | (exfalso; omega) | refine run_ th rfl ?_)
   | (refine d_split rfl rfl rfl (fun hb => ?_) (fun hb => ?_) <;> (try simp only [hbL] at hb) <;> first | (exfalso; omega) | refine drun_ th rfl ?_)
   | (refine g_if rfl (fun hb => ?_) (fun hb => ?_) <;> (try simp only [hbL] at hb) <;> (try (exfalso; omega)))
   | refine g_endL th Tryd.func39 (.inr ⟨_, rfl⟩) rfl rfl rfl ?_ rfl
   | (refine d_idx th rfl rfl rfl rfl rfl rfl rfl rfl rfl r _ rfl hx ?_; refine drun_ th rfl ?_)
   | (refine d_idx th rfl rfl rfl rfl rfl rfl rfl rfl rfl (atN s r) _ rfl hy ?_; refine drun_ th rfl ?_)
   | (refine d_call (place_c roles (stNd b s r).peer) [] rfl rfl rfl rfl rfl rfl rfl rfl rfl rfl rfl ?_; refine drun_ th rfl ?_))
  · rw [show peerI b roles s r = -1 by simp [peerI, hb]]
    exact .refl _
  · rw [show peerI b roles s r = placeI roles (stNd b s r).peer by simp [peerI, hb]]
    exact .refl _

theorem queue_c (roles : List ByteArray) (f t : Nat) (hn : roles.length ≤ 5) (hf : f < 5) (ht : t < 5) : Con Tryd.prog 40 [] [C1 (namesT roles), C1 (.int .i64 (f : Int)), C1 (.int .i64 (t : Int))] (Rv (.int .i64 ((f * roles.length + t : Nat) : Int))) [] := by
  have hm : f * roles.length ≤ 5 * 5 := Nat.mul_le_mul (by omega) hn
  have hmI : (f : Int) * (roles.length : Int) = ((f * roles.length : Nat) : Int) := by simp
  refine con_of (c := _) Tryd.func40 rfl rfl rfl (by decide) fun w M0 H Z => ?_
  repeat' (first
   | refine gc_ rfl ?_
   | (refine g_region ?_; refine run_ th rfl ?_)
   | (refine g_drawC mix rfl rfl ?_; refine drun_ th rfl ?_)
   | (refine g_drawEC mix rfl rfl ?_; refine erun_ th rfl ?_)
   | refine SOps.nil ?_
   | refine DOps.nil ?_
   | refine EOps.nil ?_ rfl rfl
   | (refine s_split rfl rfl (fun hb => ?_) (fun hb => ?_) <;> (try simp only [hbL] at hb) <;> first | (exfalso; omega) | refine run_ th rfl ?_)
   | (refine d_split rfl rfl rfl (fun hb => ?_) (fun hb => ?_) <;> (try simp only [hbL] at hb) <;> first | (exfalso; omega) | refine drun_ th rfl ?_)
   | (refine g_if rfl (fun hb => ?_) (fun hb => ?_) <;> (try simp only [hbL] at hb) <;> (try (exfalso; omega)))
   | refine g_endL th Tryd.func40 (.inr ⟨_, rfl⟩) rfl rfl rfl ?_ rfl
   | (refine s_mul rfl rfl rfl rfl rfl rfl (by simp only [List.length_map]; omega) ?_; refine run_ th rfl ?_)
   | (refine s_add rfl rfl rfl rfl rfl rfl (by simp only [List.length_map]; omega) ?_; refine run_ th rfl ?_))
  exact le_int (by simp)

theorem over1_c (m : List ByteArray) : Con Tryd.prog 44 [] [C1 (namesT m)] (Rv (.bool (decide (0 < m.length)))) [] := by
  refine con_of (c := _) Tryd.func44 rfl rfl rfl (by decide) fun w M0 H Z => ?_
  repeat' (first
   | refine gc_ rfl ?_
   | (refine g_region ?_; refine run_ th rfl ?_)
   | (refine g_drawC mix rfl rfl ?_; refine drun_ th rfl ?_)
   | (refine g_drawEC mix rfl rfl ?_; refine erun_ th rfl ?_)
   | refine SOps.nil ?_
   | refine DOps.nil ?_
   | refine EOps.nil ?_ rfl rfl
   | (refine s_split rfl rfl (fun hb => ?_) (fun hb => ?_) <;> (try simp only [hbL] at hb) <;> first | (exfalso; omega) | refine run_ th rfl ?_)
   | (refine d_split rfl rfl rfl (fun hb => ?_) (fun hb => ?_) <;> (try simp only [hbL] at hb) <;> first | (exfalso; omega) | refine drun_ th rfl ?_)
   | (refine g_if rfl (fun hb => ?_) (fun hb => ?_) <;> (try simp only [hbL] at hb) <;> (try (exfalso; omega)))
   | refine g_endL th Tryd.func44 (.inr ⟨_, rfl⟩) rfl rfl rfl ?_ rfl)
  rw [show decide (0 < m.length) = decide ((0 : Int) < ((m.map fun s => [CT.str s]).length : Int)) by rw [decide_eq_decide]; simp]
  exact .refl _

theorem mayS_at {b : Bk} {roles : List ByteArray} {s : Stg} (h : mayS b roles s = true) : 1 ≤ roles.length ∧ roles.length ≤ 5 ∧ s.at_.length = roles.length ∧ s.mail.length = roles.length * roles.length ∧ ∀ r, r < roles.length → RoleOk b s r := by
  simp only [mayS, Bool.and_eq_true, decide_eq_true_eq, List.all_eq_true] at h
  obtain ⟨_, h1, h2, _, h3, h4, h5, _⟩ := h
  refine ⟨h1, h2, h3, h4, fun r hr => ?_⟩
  have hr' : r < s.at_.length := by omega
  have := h5 _ (List.getElem_mem hr')
  simp only [atB, Bool.and_eq_true, decide_eq_true_eq] at this
  exact ⟨hr', this.1, this.2⟩

/-- A stage that is over (P13.3). -/
def overS (b : Bk) (roles : List ByteArray) (s : Stg) : Bool :=
  mayS b roles s && ((List.range s.at_.length).all (fun r => decide ((stNd b s r).kind = 0)) && !(s.mail.any fun m => decide (0 < m.length)))

set_option maxHeartbeats 4000000 in
theorem over_c (b : Bk) (roles : List ByteArray) (s : Stg) : Con Tryd.prog 19 [] [Ag b.cs, C1 (namesT roles), Ag s.cs] (Rv (.bool (overS b roles s))) [] := by
  have hmay := stagemay_c b roles s
  have hcon := containsMail_c (fun m => decide (0 < m.length)) s.mail _ over1_c
  cases hM : mayS b roles s with
  | false =>
    rw [hM] at hmay
    rw [show overS b roles s = false by simp [overS, hM]]
    refine con_of (c := _) Tryd.func19 rfl rfl rfl (by decide) fun w M0 H Z => ?_
    repeat' (first
     | refine gc_ rfl ?_
     | (refine g_region ?_; refine run_ th rfl ?_)
     | (refine g_drawC mix rfl rfl ?_; refine drun_ th rfl ?_)
     | (refine g_drawEC mix rfl rfl ?_; refine erun_ th rfl ?_)
     | refine SOps.nil ?_
     | refine DOps.nil ?_
     | refine EOps.nil ?_ rfl rfl
     | (refine s_split rfl rfl (fun hb => ?_) (fun hb => ?_) <;> (try simp only [hbL] at hb) <;> first | (exfalso; omega) | refine run_ th rfl ?_)
     | (refine d_split rfl rfl rfl (fun hb => ?_) (fun hb => ?_) <;> (try simp only [hbL] at hb) <;> first | (exfalso; omega) | refine drun_ th rfl ?_)
     | (refine g_if rfl (fun hb => ?_) (fun hb => ?_) <;> (try simp only [hbL] at hb) <;> (try (exfalso; omega)))
     | refine g_endL th Tryd.func19 (.inr ⟨_, rfl⟩) rfl rfl rfl ?_ rfl
     | (refine s_call hmay [] rfl rfl rfl rfl rfl rfl rfl rfl rfl rfl ?_; refine run_ th rfl ?_))
    all_goals first | exact .refl _ | (exfalso; revert hb; decide)
  | true =>
    rw [hM] at hmay
    obtain ⟨hn1, hn2, hn3, hn4, hro⟩ := mayS_at hM
    rw [show overS b roles s = ((List.range s.at_.length).all (fun r => decide ((stNd b s r).kind = 0)) && !(s.mail.any fun m => decide (0 < m.length))) by simp [overS, hM]]
    refine con_of (c := _) Tryd.func19 rfl rfl rfl (by decide) fun w M0 H Z => ?_
    repeat' (first
     | refine gc_ rfl ?_
     | (refine g_region ?_; refine run_ th rfl ?_)
     | (refine g_drawC mix rfl rfl ?_; refine drun_ th rfl ?_)
     | (refine g_drawEC mix rfl rfl ?_; refine erun_ th rfl ?_)
     | refine SOps.nil ?_
     | refine DOps.nil ?_
     | refine EOps.nil ?_ rfl rfl
     | (refine s_split rfl rfl (fun hb => ?_) (fun hb => ?_) <;> (try simp only [hbL] at hb) <;> first | (exfalso; omega) | refine run_ th rfl ?_)
     | (refine d_split rfl rfl rfl (fun hb => ?_) (fun hb => ?_) <;> (try simp only [hbL] at hb) <;> first | (exfalso; omega) | refine drun_ th rfl ?_)
     | (refine g_if rfl (fun hb => ?_) (fun hb => ?_) <;> (try simp only [hbL] at hb) <;> (try (exfalso; omega)))
     | (refine s_call hmay [] rfl rfl rfl rfl rfl rfl rfl rfl rfl rfl ?_; refine run_ th rfl ?_))
    all_goals try (exfalso; revert hb; decide)
    refine g_loop1 (fun k : Nat => k ≤ s.at_.length ∧ ∀ i (h : i < k), (stNd b s i).kind = 0)
      (fun k => [(3, .v (.one (.ptr 3 0))), (5, .v (.one (.ptr 5 0))), (15, .v (C1 (intsT s.at_))), (16, .v (C1 (.int .i64 (s.at_.length : Int)))), (17, .v (C1 (.int .i64 (k : Int))))])
      (fun _ => [(5, .box [.c (intsT s.at_), .c (mailT s.mail)]), (3, .box [.c (nodesT b.nodes), .c (namesT b.names), .c (intsT b.roots)])]) (fun k => s.at_.length - k) 0 ⟨Nat.zero_le _, fun i h => by omega⟩
      (fun a w h => h.sub (by exact ⟨⟨_, rfl, .refl _⟩, ⟨_, rfl, .refl _⟩, ⟨_, rfl, .refl _⟩, ⟨_, rfl, le_int (by simp)⟩, ⟨_, rfl, le_int rfl⟩, trivial⟩) (by exact ⟨⟨_, rfl, .refl _⟩, ⟨_, rfl, .refl _⟩, trivial⟩) rfl rfl rfl) (fun k hk ih => ?_)
    obtain ⟨hk, ha⟩ := hk
    by_cases hlt : k < s.at_.length
    · obtain ⟨hx, hy⟩ := (hro k (by omega)).idx
      repeat' (first
       | refine gc_ rfl ?_
       | (refine g_region ?_; refine run_ th rfl ?_)
       | (refine g_drawC mix rfl rfl ?_; refine drun_ th rfl ?_)
       | (refine g_drawEC mix rfl rfl ?_; refine erun_ th rfl ?_)
       | refine SOps.nil ?_
       | refine DOps.nil ?_
       | refine EOps.nil ?_ rfl rfl
       | (refine s_split rfl rfl (fun hb => ?_) (fun hb => ?_) <;> (try simp only [hbL] at hb) <;> first | (exfalso; omega) | refine run_ th rfl ?_)
       | (refine d_split rfl rfl rfl (fun hb => ?_) (fun hb => ?_) <;> (try simp only [hbL] at hb) <;> first | (exfalso; omega) | refine drun_ th rfl ?_)
       | (refine g_if rfl (fun hb => ?_) (fun hb => ?_) <;> (try simp only [hbL] at hb) <;> (try (exfalso; omega)))
       | refine g_endL th Tryd.func19 (.inr ⟨_, rfl⟩) rfl rfl rfl ?_ rfl
       | (refine s_idx th rfl rfl rfl rfl rfl rfl rfl rfl rfl k _ rfl hx ?_; refine run_ th rfl ?_)
       | (refine s_idx th rfl rfl rfl rfl rfl rfl rfl rfl rfl (atN s k) _ rfl hy ?_; refine run_ th rfl ?_)
       | (refine s_add rfl rfl rfl rfl rfl rfl (by omega) ?_; refine run_ th rfl ?_))
      all_goals first
        | (have hf : (List.range s.at_.length).all (fun r => decide ((stNd b s r).kind = 0)) = false := List.all_eq_false.2 ⟨k, List.mem_range.2 hlt, by simpa using hb⟩
           rw [hf]; exact .refl _)
        | exact g_sub (by exact ⟨⟨_, rfl, .refl _⟩, ⟨_, rfl, .refl _⟩, ⟨_, rfl, .refl _⟩, ⟨_, rfl, .refl _⟩, ⟨_, rfl, le_int (by omega)⟩, trivial⟩) (by exact ⟨⟨_, rfl, .refl _⟩, ⟨_, rfl, .refl _⟩, trivial⟩) rfl rfl rfl (ih (k + 1) ⟨hlt, fun i h => by
            by_cases hik : i = k
            · subst hik; simpa using hb
            · exact ha i (by omega)⟩ (by omega))
    · have hke : k = s.at_.length := by omega
      subst hke
      rw [show (List.range s.at_.length).all (fun r => decide ((stNd b s r).kind = 0)) = true from List.all_eq_true.2 fun i hi => by simpa using ha i (List.mem_range.1 hi)]
      repeat' (first
       | refine gc_ rfl ?_
       | (refine g_region ?_; refine run_ th rfl ?_)
       | (refine g_drawC mix rfl rfl ?_; refine drun_ th rfl ?_)
       | (refine g_drawEC mix rfl rfl ?_; refine erun_ th rfl ?_)
       | refine SOps.nil ?_
       | refine DOps.nil ?_
       | refine EOps.nil ?_ rfl rfl
       | (refine s_split rfl rfl (fun hb => ?_) (fun hb => ?_) <;> (try simp only [hbL] at hb) <;> first | (exfalso; omega) | refine run_ th rfl ?_)
       | (refine d_split rfl rfl rfl (fun hb => ?_) (fun hb => ?_) <;> (try simp only [hbL] at hb) <;> first | (exfalso; omega) | refine drun_ th rfl ?_)
       | (refine g_if rfl (fun hb => ?_) (fun hb => ?_) <;> (try simp only [hbL] at hb) <;> (try (exfalso; omega)))
       | refine g_endL th Tryd.func19 (.inr ⟨_, rfl⟩) rfl rfl rfl ?_ rfl
       | (refine s_call hcon [] rfl rfl rfl rfl rfl rfl rfl rfl rfl rfl ?_; refine run_ th rfl ?_))
      all_goals exact .refl _
end Go.Sy
