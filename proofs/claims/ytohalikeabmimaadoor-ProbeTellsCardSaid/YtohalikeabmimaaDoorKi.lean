/- Contracts: the laws of layer 14: sameInts, the first example, made. -/
import Derived.Test.YtohalikeabmimaaDoorKh
import Derived.Test.YtohalikeabmimaaDoorBf2
import Derived.Test.YtohalikeabmimaaDoorBq1
set_option linter.unusedSimpArgs false
set_option linter.unusedVariables false
set_option linter.unusedSectionVars false
namespace Go.Sy
open Go.Proofs
set_option maxRecDepth 100000
attribute [local irreducible] SOps Goes DOps EOps FOps

theorem eqP_no {α : Type} {l m : List α} {k : Nat} (hl : k < l.length) (hm : k < m.length) (h : l[k] ≠ m[k]) : l ≠ m := by
  rintro rfl; exact h rfl
theorem eqP_yes {α : Type} {l m : List α} (hlen : l.length = m.length) (h : ∀ i (h1 : i < l.length) (h2 : i < m.length), l[i] = m[i]) : l = m := List.ext_getElem hlen h
set_option maxHeartbeats 4000000 in
theorem sameIntsP_c (l m : List Int) : Con Tryd.prog 15 [] [C1 (intsT l), C1 (intsT m)] (Rv (.bool (decide (l = m)))) [] := by
  refine con_of (c := _) Tryd.func15 rfl rfl rfl (by decide) fun w M0 H Z => ?_
  refine g_len 0 rfl fun hll => ?_
  simp only [List.length_map] at hll
  by_cases hlen : l.length = m.length
  · have hlenI : ((l.map fun r => [CT.int .i64 r]).length : Int) = ((m.map fun r => [CT.int .i64 r]).length : Int) := by simp [hlen]
    repeat' (first
     | refine gc_ rfl ?_
     | (refine g_region ?_; refine run_ th rfl ?_)
     | (refine g_drawC mix rfl rfl ?_; refine drun_ th rfl ?_)
     | (refine g_drawEC mix rfl rfl ?_; refine erun_ th rfl ?_)
     | refine SOps.nil ?_
     | refine DOps.nil ?_
     | refine EOps.nil ?_ rfl rfl
     | (refine s_split rfl rfl (fun hb => ?_) (fun hb => ?_) <;> (try simp only [hbL] at hb) <;> first | (exfalso; omega) | refine run_ th rfl ?_)
     | (refine d_split rfl rfl rfl (fun hb => ?_) (fun hb => ?_) <;> (try simp only [hbL] at hb) <;> first | (exfalso; omega) | refine drun_ th rfl ?_)
     | (refine g_if rfl (fun hb => ?_) (fun hb => ?_) <;> (try simp only [hbL] at hb) <;> (try (exfalso; omega)))
     | (exfalso; revert hb; simp [hlen]; done))
    refine g_loop1 (fun k : Nat => k ≤ l.length ∧ ∀ i (h : i < k) (h1 : i < l.length) (h2 : i < m.length), l[i] = m[i])
      (fun k => [(0, .v (C1 (intsT l))), (0 + 1, .v (C1 (intsT m))), (5, .v (C1 (.int .i64 (k : Int))))])
      (fun _ => []) (fun k => l.length - k) 0 ⟨Nat.zero_le _, fun i h => by omega⟩
      (fun a w h => h.sub (by exact ⟨⟨_, rfl, .refl _⟩, ⟨_, rfl, .refl _⟩, ⟨_, rfl, le_int rfl⟩, trivial⟩) (by exact trivial) rfl rfl rfl) (fun k hk ih => ?_)
    obtain ⟨hk, ha⟩ := hk
    by_cases hlt : k < l.length
    · have hlt2 : k < m.length := by omega
      have hx : (l.map fun r => [CT.int .i64 r])[k]? = some [.int .i64 l[k]] := by simp [hlt]
      have hy : (m.map fun r => [CT.int .i64 r])[k]? = some [.int .i64 m[k]] := by simp [hlt2]
      repeat' (first
       | refine gc_ rfl ?_
       | (refine g_region ?_; refine run_ th rfl ?_)
       | (refine g_drawC mix rfl rfl ?_; refine drun_ th rfl ?_)
       | (refine g_drawEC mix rfl rfl ?_; refine erun_ th rfl ?_)
       | refine SOps.nil ?_
       | refine DOps.nil ?_
       | refine EOps.nil ?_ rfl rfl
       | (refine s_split rfl rfl (fun hb => ?_) (fun hb => ?_) <;> (try simp only [hbL] at hb) <;> first | (exfalso; omega) | refine run_ th rfl ?_)
       | (refine d_split rfl rfl rfl (fun hb => ?_) (fun hb => ?_) <;> (try simp only [hbL] at hb) <;> first | (exfalso; omega) | refine drun_ th rfl ?_)
       | (refine g_if rfl (fun hb => ?_) (fun hb => ?_) <;> (try simp only [hbL] at hb) <;> (try (exfalso; omega)))
       | refine g_endL th Tryd.func15 (.inr ⟨_, rfl⟩) rfl rfl rfl ?_ rfl
       | (refine d_idx th rfl rfl rfl rfl rfl rfl rfl rfl rfl k _ rfl hx ?_; refine drun_ th rfl ?_)
       | (refine d_idx th rfl rfl rfl rfl rfl rfl rfl rfl rfl k _ rfl hy ?_; refine drun_ th rfl ?_)
       | (refine s_add rfl rfl rfl rfl rfl rfl (by omega) ?_; refine run_ th rfl ?_)
       | (exfalso; revert hb; simp; done))
      all_goals first
        | (have hne : l ≠ m := eqP_no hlt hlt2 (by omega)
           rw [show decide (l = m) = false by simpa using hne]; exact .refl _)
        | exact g_sub (by exact ⟨⟨_, rfl, .refl _⟩, ⟨_, rfl, .refl _⟩, ⟨_, rfl, le_int (by omega)⟩, trivial⟩) (by exact trivial) rfl rfl rfl (ih (k + 1) ⟨hlt, fun i h h1 h2 => by
            by_cases hik : i = k
            · subst hik; omega
            · exact ha i (by omega) h1 h2⟩ (by omega))
    · have he : l = m := eqP_yes hlen fun i h1 h2 => ha i (by omega) h1 h2
      repeat' (first
       | refine gc_ rfl ?_
       | (refine g_region ?_; refine run_ th rfl ?_)
       | (refine g_drawC mix rfl rfl ?_; refine drun_ th rfl ?_)
       | (refine g_drawEC mix rfl rfl ?_; refine erun_ th rfl ?_)
       | refine SOps.nil ?_
       | refine DOps.nil ?_
       | refine EOps.nil ?_ rfl rfl
       | (refine s_split rfl rfl (fun hb => ?_) (fun hb => ?_) <;> (try simp only [hbL] at hb) <;> first | (exfalso; omega) | refine run_ th rfl ?_)
       | (refine d_split rfl rfl rfl (fun hb => ?_) (fun hb => ?_) <;> (try simp only [hbL] at hb) <;> first | (exfalso; omega) | refine drun_ th rfl ?_)
       | (refine g_if rfl (fun hb => ?_) (fun hb => ?_) <;> (try simp only [hbL] at hb) <;> (try (exfalso; omega)))
       | refine g_endL th Tryd.func15 (.inr ⟨_, rfl⟩) rfl rfl rfl ?_ rfl)
      rw [show decide (l = m) = true by simpa using he]; exact .refl _
  · have hne : l ≠ m := fun e => hlen (by rw [e])
    rw [show decide (l = m) = false by simpa using hne]
    repeat' (first
     | refine gc_ rfl ?_
     | (refine g_region ?_; refine run_ th rfl ?_)
     | (refine g_drawC mix rfl rfl ?_; refine drun_ th rfl ?_)
     | (refine g_drawEC mix rfl rfl ?_; refine erun_ th rfl ?_)
     | refine SOps.nil ?_
     | refine DOps.nil ?_
     | refine EOps.nil ?_ rfl rfl
     | (refine s_split rfl rfl (fun hb => ?_) (fun hb => ?_) <;> (try simp only [hbL] at hb) <;> first | (exfalso; omega) | refine run_ th rfl ?_)
     | (refine d_split rfl rfl rfl (fun hb => ?_) (fun hb => ?_) <;> (try simp only [hbL] at hb) <;> first | (exfalso; omega) | refine drun_ th rfl ?_)
     | (refine g_if rfl (fun hb => ?_) (fun hb => ?_) <;> (try simp only [hbL] at hb) <;> (try (exfalso; omega)))
     | refine g_endL th Tryd.func15 (.inr ⟨_, rfl⟩) rfl rfl rfl ?_ rfl
     | (exfalso; revert hb; simp [hlen]; done))
    all_goals first
      | exact .refl _
      | (exfalso; omega)

def xE0 (k : Int) : Edge := ⟨⟨#[120]⟩, 0, 0, k⟩
def crossedB : Bk := ⟨[⟨1, ⟨#[98]⟩, [xE0 1]⟩, ⟨2, ⟨#[98]⟩, [xE0 4]⟩, ⟨1, ⟨#[97]⟩, [xE0 3]⟩, ⟨2, ⟨#[97]⟩, [xE0 4]⟩, ⟨0, ⟨#[]⟩, []⟩], [], []⟩
abbrev armsT1 (l : List Edge) : CT := .slice true 4 (l.map Edge.cs)
set_option maxHeartbeats 8000000 in
theorem crossed_c0 : Con Tryd.prog 23 [] [] (.v (Ag [.slice true 3 [[.int .i64 1, .str ⟨#[98]⟩, armsT1 [xE0 1]], [.int .i64 2, .str ⟨#[98]⟩, armsT1 [xE0 4]], [.int .i64 1, .str ⟨#[97]⟩, armsT1 [xE0 3]], [.int .i64 2, .str ⟨#[97]⟩, armsT1 [xE0 4]], [.int .i64 0, .str ⟨#[]⟩, .nils]], .nils, .nils])) [] := by
  refine con_of (c := _) Tryd.func23 rfl rfl rfl (by decide) fun w M0 H Z => ?_
  repeat' (first
   | refine gc_ rfl ?_
   | (refine g_region ?_; refine run_ th rfl ?_)
   | (refine g_drawC mix rfl rfl ?_; refine drun_ th rfl ?_)
   | (refine g_drawEC mix rfl rfl ?_; refine erun_ th rfl ?_)
   | refine SOps.nil ?_
   | refine DOps.nil ?_
   | refine EOps.nil ?_ rfl rfl
   | (refine s_split rfl rfl (fun hb => ?_) (fun hb => ?_) <;> (try simp only [hbL] at hb) <;> first | (exfalso; omega) | refine run_ th rfl ?_)
   | (refine d_split rfl rfl rfl (fun hb => ?_) (fun hb => ?_) <;> (try simp only [hbL] at hb) <;> first | (exfalso; omega) | refine drun_ th rfl ?_)
   | (refine g_if rfl (fun hb => ?_) (fun hb => ?_) <;> (try simp only [hbL] at hb) <;> (try (exfalso; omega)))
   | (refine s_freeze 6 rfl rfl ?_; refine s_freeze 8 rfl rfl ?_; refine s_freeze 10 rfl rfl ?_; refine s_freeze 12 rfl rfl ?_; refine run_ th rfl ?_)
   | (refine g_freeze 22 rfl rfl ?_)
   | refine g_endL th Tryd.func23 (.inr ⟨_, rfl⟩) rfl rfl rfl ?_ rfl)
  all_goals exact .refl _
theorem crossed_c : Con Tryd.prog 23 [] [] (.v (Ag crossedB.cs)) [] := by
  refine (crossed_c0.le (res' := .v (Ag [.slice true 3 (crossedB.nodes.map Nd.cs), .slice false 1 [], .slice false 1 []])) ?_).le ?_
  · refine .v (.agg (.cons (.c (le_deep ?_)) (.cons (.c (.nil 1)) (.cons (.c (.nil 1)) .nil))))
    have h1 : ∀ (k : Int) (p : ByteArray) (e : Edge), LeCs [.int .i64 k, .str p, armsT1 [e]] (Nd.cs ⟨k, p, [e]⟩) := fun k p e => .cons (.refl _) (.cons (.refl _) (.cons (.nn true 4 _) .nil))
    exact .cons (h1 _ _ _) (.cons (h1 _ _ _) (.cons (h1 _ _ _) (.cons (h1 _ _ _) (.cons (.cons (.refl _) (.cons (.refl _) (.cons (.nil 4) .nil))) .nil))))
  · exact .v (.agg (.cons (.c (.nn true 3 _)) (.cons (.refl _) (.cons (.refl _) .nil))))
def abP : List ByteArray := [⟨#[97]⟩, ⟨#[98]⟩]
theorem search_crossed : searchO crossedB abP [0, 2] 100 = (⟨7, true, false, [], [0, 1, 1, 0]⟩, 0) := by kernel_rfl
theorem play_crossed : ∃ s, playO crossedB abP [0, 2] [0, 0, 0, 0] = (s, 0) ∧ overS crossedB abP s = true := ⟨_, rfl, by kernel_rfl⟩

set_option maxHeartbeats 8000000 in
theorem first14_c : Con Tryd.prog 8 [] [] (Rv (.bool true)) [] := by
  have hse := search_c crossedB abP [0, 2] 100 (by decide) (by decide)
  rw [search_crossed] at hse
  obtain ⟨s, hp, ho⟩ := play_crossed
  have hpl := play_c crossedB abP [0, 2] [0, 0, 0, 0] (by decide)
  rw [hp] at hpl
  have hov := over_c crossedB abP s
  rw [ho] at hov
  have hsi := sameIntsP_c [0, 1, 1, 0] [0, 1, 1, 0]
  rw [show decide (([0, 1, 1, 0] : List Int) = [0, 1, 1, 0]) = true by decide] at hsi
  clear hp ho
  refine con_of (c := _) Tryd.func8 rfl rfl rfl (by decide) fun w M0 H Z => ?_
  repeat' (first
   | refine gc_ rfl ?_
   | (refine g_region ?_; refine run_ th rfl ?_)
   | (refine g_drawC mix rfl rfl ?_; refine drun_ th rfl ?_)
   | (refine g_drawEC mix rfl rfl ?_; refine erun_ th rfl ?_)
   | refine SOps.nil ?_
   | refine DOps.nil ?_
   | refine EOps.nil ?_ rfl rfl
   | (refine s_split rfl rfl (fun hb => ?_) (fun hb => ?_) <;> (try simp only [hbL] at hb) <;> first | (exfalso; omega) | refine run_ th rfl ?_)
   | (refine d_split rfl rfl rfl (fun hb => ?_) (fun hb => ?_) <;> (try simp only [hbL] at hb) <;> first | (exfalso; omega) | refine drun_ th rfl ?_)
   | (refine g_if rfl (fun hb => ?_) (fun hb => ?_) <;> (try simp only [hbL] at hb) <;> (try (exfalso; omega)))
   | (refine s_call crossed_c [] rfl rfl rfl rfl rfl rfl rfl rfl rfl rfl ?_; refine run_ th rfl ?_)
   | (refine s_freeze 8 rfl rfl ?_; refine s_freeze 7 rfl rfl ?_; refine s_leT 8 (.v (C1 (intsT [0, 2]))) rfl (.v (.one (.c (.nn true 1 _)))) ?_; refine s_leT 7 (.v (C1 (namesT abP))) rfl (.v (.one (.c (.nn true 1 _)))) ?_; refine s_call hse [] rfl rfl rfl rfl rfl rfl rfl rfl rfl rfl ?_; refine run_ th rfl ?_)
   | (refine s_freeze 16 rfl rfl ?_; refine s_freeze 15 rfl rfl ?_; refine s_freeze 14 rfl rfl ?_; refine s_leT 16 (.v (C1 (intsT [0, 0, 0, 0]))) rfl (.v (.one (.c (.nn true 1 _)))) ?_; refine s_leT 15 (.v (C1 (intsT [0, 2]))) rfl (.v (.one (.c (.nn true 1 _)))) ?_; refine s_leT 14 (.v (C1 (namesT abP))) rfl (.v (.one (.c (.nn true 1 _)))) ?_; refine s_call hpl [] rfl rfl rfl rfl rfl rfl rfl rfl rfl rfl ?_; refine run_ th rfl ?_)
   | (refine DOps.step rfl (op_lit th rfl rfl rfl rfl rfl rfl rfl rfl rfl (.nn true 1 _) rfl rfl) ?_; refine drun_ th rfl ?_)
   | (refine d_call crossed_c [] rfl rfl rfl rfl rfl rfl rfl rfl rfl rfl rfl ?_; refine drun_ th rfl ?_)
   | (refine d_call hsi [] rfl rfl rfl rfl rfl rfl rfl rfl rfl rfl rfl ?_; refine drun_ th rfl ?_)
   | (refine d_call hov [] rfl rfl rfl rfl rfl rfl rfl rfl rfl rfl rfl ?_; refine drun_ th rfl ?_)
   | (exfalso; revert hb; decide)
   | (exfalso; revert hb; simp; done))
  all_goals first
    | (exfalso; revert hb; simp; done)
    | refine g_endL th Tryd.func8 (.inr ⟨_, rfl⟩) rfl rfl rfl (.refl _) rfl

end Go.Sy
