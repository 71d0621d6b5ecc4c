/- Contracts of the reference, bundle Bn1. -/
import Derived.Test.YtdjocfajcbhmgaaDoorBl1
import Derived.Test.YtdjocfajcbhmgaaDoorSy6
import Derived.Test.YtdjocfajcbhmgaaDoorSy8
import Derived.Laws.StructEq
import Derived.Test.YtdjocfajcbhmgaaDoorSy4
import Derived.Test.YtdjocfajcbhmgaaDoorSy5
set_option linter.unusedSimpArgs false
set_option linter.unusedVariables false
set_option linter.unusedSectionVars false
namespace Go.Sy
open Go.Proofs
set_option maxRecDepth 100000
attribute [local irreducible] SOps Goes DOps EOps
def idxG {α : Type} (p : α → Bool) (l : List α) : Int :=
  match l.findIdx? p with
  | some i => (i : Int)
  | none => -1
theorem idxG_hit {α : Type} {p : α → Bool} {l : List α} {k : Nat} (hk : k < l.length) (ha : ∀ i (h : i < k), p (l[i]'(by omega)) = false) (hp : p l[k] = true) : idxG p l = (k : Int) := by
  have : l.findIdx? p = some k := by
    rw [List.findIdx?_eq_some_iff_getElem]
    exact ⟨hk, hp, fun j hj => by simp [ha j hj]⟩
  simp [idxG, this]
theorem idxG_none {α : Type} {p : α → Bool} {l : List α} (ha : ∀ i (h : i < l.length), p l[i] = false) : idxG p l = -1 := by
  have : l.findIdx? p = none := by
    rw [List.findIdx?_eq_none_iff]
    intro x hx
    obtain ⟨i, hi, rfl⟩ := List.mem_iff_getElem.1 hx
    simp [ha i hi]
  simp [idxG, this]
def placeI (l : List ByteArray) (s : ByteArray) : Int := idxG (fun x => decide (x = s)) l
set_option maxHeartbeats 4000000 in
theorem place_c (l : List ByteArray) (s : ByteArray) : Con Tryd.prog 35 [] [C1 (namesT l), C1 (.str s)] (Rv (.int .i64 (placeI l s))) [] := by
  refine con_of (c := _) Tryd.func35 rfl rfl rfl (by decide) fun w M0 H Z => ?_
  refine g_len 0 rfl fun hll => ?_
  simp only [List.length_map] at hll
  repeat' (first
   | refine gc_ rfl ?_
   | (refine g_region ?_; refine run_ th rfl ?_)
   | (refine g_drawC mix rfl rfl ?_; refine drun_ th rfl ?_)
   | (refine g_drawEC mix rfl rfl ?_; refine erun_ th rfl ?_)
   | refine SOps.nil ?_
   | refine DOps.nil ?_
   | refine EOps.nil ?_ rfl rfl
   | (refine s_split rfl rfl (fun hb => ?_) (fun hb => ?_) <;> (try simp only [hbL] at hb) <;> first | (exfalso; omega) | refine run_ th rfl ?_)
   | (refine d_split rfl rfl rfl (fun hb => ?_) (fun hb => ?_) <;> (try simp only [hbL] at hb) <;> first | (exfalso; omega) | refine drun_ th rfl ?_)
   | (refine g_if rfl (fun hb => ?_) (fun hb => ?_) <;> (try simp only [hbL] at hb) <;> (try (exfalso; omega))))
  refine g_loop1 (fun k : Nat => k ≤ l.length ∧ ∀ i (h : i < k) (h' : i < l.length), decide (l[i] = s) = false)
    (fun k => [(0, .v (C1 (namesT l))), (0 + 1, .v (C1 (.str s))), (7, .v (C1 (.int .i64 (l.length : Int)))), (8, .v (C1 (.int .i64 (k : Int))))])
    (fun _ => []) (fun k => l.length - k) 0 ⟨Nat.zero_le _, fun i h => by omega⟩
    (fun a w h => h.sub (by exact ⟨⟨_, rfl, .refl _⟩, ⟨_, rfl, .refl _⟩, ⟨_, rfl, le_int (by simp)⟩, ⟨_, rfl, le_int rfl⟩, trivial⟩) (by exact trivial) rfl rfl rfl) (fun k hk ih => ?_)
  obtain ⟨hk, ha⟩ := hk
  by_cases hlt : k < l.length
  · have hx : (l.map fun s => [CT.str s])[k]? = some [.str l[k]] := by simp [hlt]
    repeat' (first
     | refine gc_ rfl ?_
     | (refine g_region ?_; refine run_ th rfl ?_)
     | (refine g_drawC mix rfl rfl ?_; refine drun_ th rfl ?_)
     | (refine g_drawEC mix rfl rfl ?_; refine erun_ th rfl ?_)
     | refine SOps.nil ?_
     | refine DOps.nil ?_
     | refine EOps.nil ?_ rfl rfl
     | (refine s_split rfl rfl (fun hb => ?_) (fun hb => ?_) <;> (try simp only [hbL] at hb) <;> first | (exfalso; omega) | refine run_ th rfl ?_)
     | (refine d_split rfl rfl rfl (fun hb => ?_) (fun hb => ?_) <;> (try simp only [hbL] at hb) <;> first | (exfalso; omega) | refine drun_ th rfl ?_)
     | (refine g_if rfl (fun hb => ?_) (fun hb => ?_) <;> (try simp only [hbL] at hb) <;> (try (exfalso; omega)))
     | refine g_endL th Tryd.func35 (.inr ⟨_, rfl⟩) rfl rfl rfl ?_ rfl
     | (refine s_idx th rfl rfl rfl rfl rfl rfl rfl rfl rfl k _ rfl hx ?_; refine run_ th rfl ?_)
     | (refine s_add rfl rfl rfl rfl rfl rfl (by omega) ?_; refine run_ th rfl ?_))
    · rw [show placeI l s = (k : Int) from idxG_hit hlt (fun i h => ha i h (by omega)) (by simpa using hb)]
      exact .refl _
    · exact g_sub (by exact ⟨⟨_, rfl, .refl _⟩, ⟨_, rfl, .refl _⟩, ⟨_, rfl, .refl _⟩, ⟨_, rfl, le_int (by omega)⟩, trivial⟩) (by exact trivial) rfl rfl rfl (ih (k + 1) ⟨hlt, fun i h h' => by
        by_cases hik : i = k
        · subst hik; simpa using hb
        · exact ha i (by omega) h'⟩ (by omega))
  · have hke : k = l.length := by omega
    subst hke
    repeat' (first
     | refine gc_ rfl ?_
     | (refine g_region ?_; refine run_ th rfl ?_)
     | (refine g_drawC mix rfl rfl ?_; refine drun_ th rfl ?_)
     | (refine g_drawEC mix rfl rfl ?_; refine erun_ th rfl ?_)
     | refine SOps.nil ?_
     | refine DOps.nil ?_
     | refine EOps.nil ?_ rfl rfl
     | (refine s_split rfl rfl (fun hb => ?_) (fun hb => ?_) <;> (try simp only [hbL] at hb) <;> first | (exfalso; omega) | refine run_ th rfl ?_)
     | (refine d_split rfl rfl rfl (fun hb => ?_) (fun hb => ?_) <;> (try simp only [hbL] at hb) <;> first | (exfalso; omega) | refine drun_ th rfl ?_)
     | (refine g_if rfl (fun hb => ?_) (fun hb => ?_) <;> (try simp only [hbL] at hb) <;> (try (exfalso; omega)))
     | refine g_endL th Tryd.func35 (.inr ⟨_, rfl⟩) rfl rfl rfl ?_ rfl)
    rw [show placeI l s = -1 from idxG_none (fun i h => ha i h h)]
    exact .refl _
def hasB (l : List ByteArray) (s : ByteArray) : Bool := decide (0 ≤ placeI l s)
theorem has_c (l : List ByteArray) (s : ByteArray) : Con Tryd.prog 14 [] [C1 (namesT l), C1 (.str s)] (Rv (.bool (hasB l s))) [] := by
  refine con_of (c := _) Tryd.func14 rfl rfl rfl (by decide) fun w M0 H Z => ?_
  repeat' (first
   | refine gc_ rfl ?_
   | (refine g_region ?_; refine run_ th rfl ?_)
   | (refine g_drawC mix rfl rfl ?_; refine drun_ th rfl ?_)
   | (refine g_drawEC mix rfl rfl ?_; refine erun_ th rfl ?_)
   | refine SOps.nil ?_
   | refine DOps.nil ?_
   | refine EOps.nil ?_ rfl rfl
   | (refine s_split rfl rfl (fun hb => ?_) (fun hb => ?_) <;> (try simp only [hbL] at hb) <;> first | (exfalso; omega) | refine run_ th rfl ?_)
   | (refine d_split rfl rfl rfl (fun hb => ?_) (fun hb => ?_) <;> (try simp only [hbL] at hb) <;> first | (exfalso; omega) | refine drun_ th rfl ?_)
   | (refine g_if rfl (fun hb => ?_) (fun hb => ?_) <;> (try simp only [hbL] at hb) <;> (try (exfalso; omega)))
   | refine g_endL th Tryd.func14 (.inr ⟨_, rfl⟩) rfl rfl rfl ?_ rfl
   | (refine s_call (place_c l s) [] rfl rfl rfl rfl rfl rfl rfl rfl rfl rfl ?_; refine run_ th rfl ?_))
  all_goals exact .refl _
end Go.Sy
namespace Go.Sy
open Go.Proofs
set_option maxRecDepth 100000
attribute [local irreducible] SOps Goes DOps EOps
def onceAt (l : List ByteArray) (i : Nat) : Bool := decide (placeI l ((l[i]?).getD ⟨#[]⟩) = (i : Int))
def onceB (l : List ByteArray) : Bool := (List.range l.length).all (onceAt l)
set_option maxHeartbeats 4000000 in
theorem once_c (l : List ByteArray) : Con Tryd.prog 36 [] [C1 (namesT l)] (Rv (.bool (onceB l))) [] := by
  refine con_of (c := _) Tryd.func36 rfl rfl rfl (by decide) fun w M0 H Z => ?_
  refine g_len 0 rfl fun hll => ?_
  simp only [List.length_map] at hll
  repeat' (first
   | refine gc_ rfl ?_
   | (refine g_region ?_; refine run_ th rfl ?_)
   | (refine g_drawC mix rfl rfl ?_; refine drun_ th rfl ?_)
   | (refine g_drawEC mix rfl rfl ?_; refine erun_ th rfl ?_)
   | refine SOps.nil ?_
   | refine DOps.nil ?_
   | refine EOps.nil ?_ rfl rfl
   | (refine s_split rfl rfl (fun hb => ?_) (fun hb => ?_) <;> (try simp only [hbL] at hb) <;> first | (exfalso; omega) | refine run_ th rfl ?_)
   | (refine d_split rfl rfl rfl (fun hb => ?_) (fun hb => ?_) <;> (try simp only [hbL] at hb) <;> first | (exfalso; omega) | refine drun_ th rfl ?_)
   | (refine g_if rfl (fun hb => ?_) (fun hb => ?_) <;> (try simp only [hbL] at hb) <;> (try (exfalso; omega))))
  refine g_loop1 (fun k : Nat => k ≤ l.length ∧ ∀ i, i < k → onceAt l i = true)
    (fun k => [(0, .v (C1 (namesT l))), (5, .v (C1 (.int .i64 (l.length : Int)))), (6, .v (C1 (.int .i64 (k : Int))))])
    (fun _ => []) (fun k => l.length - k) 0 ⟨Nat.zero_le _, fun i h => by omega⟩
    (fun a w h => h.sub (by exact ⟨⟨_, rfl, .refl _⟩, ⟨_, rfl, le_int (by simp)⟩, ⟨_, rfl, le_int rfl⟩, trivial⟩) (by exact trivial) rfl rfl rfl) (fun k hk ih => ?_)
  obtain ⟨hk, ha⟩ := hk
  by_cases hlt : k < l.length
  · have hx : (l.map fun s => [CT.str s])[k]? = some [.str l[k]] := by simp [hlt]
    have hat : onceAt l k = decide (placeI l l[k] = (k : Int)) := by simp [onceAt, hlt]
    repeat' (first
     | refine gc_ rfl ?_
     | (refine g_region ?_; refine run_ th rfl ?_)
     | (refine g_drawC mix rfl rfl ?_; refine drun_ th rfl ?_)
     | (refine g_drawEC mix rfl rfl ?_; refine erun_ th rfl ?_)
     | refine SOps.nil ?_
     | refine DOps.nil ?_
     | refine EOps.nil ?_ rfl rfl
     | (refine s_split rfl rfl (fun hb => ?_) (fun hb => ?_) <;> (try simp only [hbL] at hb) <;> first | (exfalso; omega) | refine run_ th rfl ?_)
     | (refine d_split rfl rfl rfl (fun hb => ?_) (fun hb => ?_) <;> (try simp only [hbL] at hb) <;> first | (exfalso; omega) | refine drun_ th rfl ?_)
     | (refine g_if rfl (fun hb => ?_) (fun hb => ?_) <;> (try simp only [hbL] at hb) <;> (try (exfalso; omega)))
     | refine g_endL th Tryd.func36 (.inr ⟨_, rfl⟩) rfl rfl rfl ?_ rfl
     | (refine s_idx th rfl rfl rfl rfl rfl rfl rfl rfl rfl k _ rfl hx ?_; refine run_ th rfl ?_)
     | (refine s_call (place_c l l[k]) [] rfl rfl rfl rfl rfl rfl rfl rfl rfl rfl ?_; refine run_ th rfl ?_)
     | (refine s_add rfl rfl rfl rfl rfl rfl (by omega) ?_; refine run_ th rfl ?_))
    all_goals first
      | (have hf : onceB l = false := List.all_eq_false.2 ⟨k, List.mem_range.2 hlt, by rw [hat]; simpa using hb⟩
         rw [hf]; exact .refl _)
      | (rename_i hq
         exact g_sub (by exact ⟨⟨_, rfl, .refl _⟩, ⟨_, rfl, .refl _⟩, ⟨_, rfl, le_int (by omega)⟩, trivial⟩) (by exact trivial) rfl rfl rfl (ih (k + 1) ⟨hlt, fun i h => by
          by_cases hik : i = k
          · subst hik; rw [hat]; simpa using hb
          · exact ha i (by omega)⟩ (by omega)))
  · have hke : k = l.length := by omega
    subst hke
    repeat' (first
     | refine gc_ rfl ?_
     | (refine g_region ?_; refine run_ th rfl ?_)
     | (refine g_drawC mix rfl rfl ?_; refine drun_ th rfl ?_)
     | (refine g_drawEC mix rfl rfl ?_; refine erun_ th rfl ?_)
     | refine SOps.nil ?_
     | refine DOps.nil ?_
     | refine EOps.nil ?_ rfl rfl
     | (refine s_split rfl rfl (fun hb => ?_) (fun hb => ?_) <;> (try simp only [hbL] at hb) <;> first | (exfalso; omega) | refine run_ th rfl ?_)
     | (refine d_split rfl rfl rfl (fun hb => ?_) (fun hb => ?_) <;> (try simp only [hbL] at hb) <;> first | (exfalso; omega) | refine drun_ th rfl ?_)
     | (refine g_if rfl (fun hb => ?_) (fun hb => ?_) <;> (try simp only [hbL] at hb) <;> (try (exfalso; omega)))
     | refine g_endL th Tryd.func36 (.inr ⟨_, rfl⟩) rfl rfl rfl ?_ rfl)
    rw [show onceB l = true from List.all_eq_true.2 fun i hi => ha i (List.mem_range.1 hi)]
    exact .refl _
end Go.Sy
namespace Go.Sy
open Go.Proofs
set_option maxRecDepth 100000
attribute [local irreducible] SOps Goes DOps EOps FOps
abbrev rowS (l : List ByteArray) : List (List CT) := l.map fun r => [CT.str r]
abbrev rowA (l : List Arm) : List (List CT) := l.map Arm.cs
theorem cloneStrO_c (l : List ByteArray) (hbig : l.length * 16 ≤ 140737488355328) : ConO Tryd.prog 50 [C1 (namesT l)] (fun _ : Value => True) (fun v => .v (C1 (.val v))) (fun v => [(9, 1, [(v, rowS l)])]) := by
  refine conO_of (c := _) Tryd.func50 rfl rfl rfl (by decide) fun w M0 H => ?_
  repeat' (first
   | refine gc_ rfl ?_
   | (refine g_region ?_; refine run_ th rfl ?_)
   | (refine g_drawC mix rfl rfl ?_; refine drun_ th rfl ?_)
   | (refine g_drawEC mix rfl rfl ?_; refine erun_ th rfl ?_)
   | refine SOps.nil ?_
   | refine DOps.nil ?_
   | refine EOps.nil ?_ rfl rfl
   | (refine s_split rfl rfl (fun hb => ?_) (fun hb => ?_) <;> (try simp only [hbL] at hb) <;> first | (exfalso; omega) | refine run_ th rfl ?_)
   | (refine d_split rfl rfl rfl (fun hb => ?_) (fun hb => ?_) <;> (try simp only [hbL] at hb) <;> first | (exfalso; omega) | refine drun_ th rfl ?_)
   | (refine g_if rfl (fun hb => ?_) (fun hb => ?_) <;> (try simp only [hbL] at hb) <;> (try (exfalso; omega)))
   | (refine s_assignAny rfl rfl rfl rfl ?_; refine run_ th rfl ?_)
   | (refine s_isNil th rfl rfl rfl rfl rfl rfl rfl (fun b hnil => ?_); refine run_ th rfl ?_)
   | (refine s_appendF th rfl rfl rfl rfl rfl rfl rfl rfl rfl rfl rfl rfl rfl rfl (by constructor <;> simp <;> omega) ?_; refine run_ th rfl ?_))
  · have hl : l = [] := by simpa using hnil hb
    subst hl
    refine g_newPool 5 9 1 rfl rfl ?_
    refine g_nilPool 5 rfl rfl rfl rfl ?_
    refine g_nilT 2 rfl ?_
    exact g_endO th Tryd.func50 [5] (.slice none 0 0) (.inr ⟨_, rfl⟩) rfl rfl rfl rfl rfl rfl trivial
  · refine g_toPool 5 rfl rfl fun v => ?_
    exact g_endO th Tryd.func50 [5] v (.inr ⟨_, rfl⟩) rfl rfl rfl rfl rfl rfl trivial
theorem cloneArmO_c (l : List Arm) (hbig : l.length * 48 ≤ 140737488355328) : ConO Tryd.prog 60 [C1 (armsC l)] (fun _ : Value => True) (fun v => .v (C1 (.val v))) (fun v => [(27, 4, [(v, rowA l)])]) := by
  refine conO_of (c := _) Tryd.func60 rfl rfl rfl (by decide) fun w M0 H => ?_
  repeat' (first
   | refine gc_ rfl ?_
   | (refine g_region ?_; refine run_ th rfl ?_)
   | (refine g_drawC mix rfl rfl ?_; refine drun_ th rfl ?_)
   | (refine g_drawEC mix rfl rfl ?_; refine erun_ th rfl ?_)
   | refine SOps.nil ?_
   | refine DOps.nil ?_
   | refine EOps.nil ?_ rfl rfl
   | (refine s_split rfl rfl (fun hb => ?_) (fun hb => ?_) <;> (try simp only [hbL] at hb) <;> first | (exfalso; omega) | refine run_ th rfl ?_)
   | (refine d_split rfl rfl rfl (fun hb => ?_) (fun hb => ?_) <;> (try simp only [hbL] at hb) <;> first | (exfalso; omega) | refine drun_ th rfl ?_)
   | (refine g_if rfl (fun hb => ?_) (fun hb => ?_) <;> (try simp only [hbL] at hb) <;> (try (exfalso; omega)))
   | (refine s_assignAny rfl rfl rfl rfl ?_; refine run_ th rfl ?_)
   | (refine s_isNil th rfl rfl rfl rfl rfl rfl rfl (fun b hnil => ?_); refine run_ th rfl ?_)
   | (refine s_appendF th rfl rfl rfl rfl rfl rfl rfl rfl rfl rfl rfl rfl rfl rfl (by constructor <;> simp <;> omega) ?_; refine run_ th rfl ?_))
  · have hl : l = [] := by simpa using hnil hb
    subst hl
    refine g_newPool 5 27 4 rfl rfl ?_
    refine g_nilPool 5 rfl rfl rfl rfl ?_
    refine g_nilT 2 rfl ?_
    exact g_endO th Tryd.func60 [5] (.slice none 0 0) (.inr ⟨_, rfl⟩) rfl rfl rfl rfl rfl rfl trivial
  · refine g_toPool 5 rfl rfl fun v => ?_
    exact g_endO th Tryd.func60 [5] v (.inr ⟨_, rfl⟩) rfl rfl rfl rfl rfl rfl trivial
end Go.Sy
namespace Go.Sy
open Go.Proofs
set_option maxRecDepth 100000
attribute [local irreducible] SOps Goes DOps EOps
def Arm.val (m : Arm) : Value := .agg #[.string m.label, .int .i64 m.kind, .string m.name, .int .i64 m.next]
theorem eqArm (x y : Arm) (w : World) : (Op.equalIn 10000 27 x.val y.val).run Tryd.prog w = .ok (decide (x = y)) w := by
  have u3 := Tryd.underlying3
  have a3 := Tryd.isAgg3
  have z3 := Tryd.sizeOf3
  have u9 := Tryd.underlying9
  have a9 := Tryd.isAgg9
  have z9 := Tryd.sizeOf9
  have hS : Tryd.prog.underlying 27 = some (.struct (Tryd.prog.fieldsOf 27)) := by kernel_rfl
  have hp : Tryd.prog.stoodInHeld 27 = false := by kernel_rfl
  obtain ⟨a, b, c, e⟩ := x
  obtain ⟨a', b', c', e'⟩ := y
  simp only [Arm.val]
  rw [show (10000 : Nat) = 9999 + 1 from rfl, run_equalIn_agg w 9999 27 _ _ hS hp]
  simp only [Program.fieldsOf, Tryd.underlying27]
  go_simp
  have key : ∀ c c' : ByteArray, (c.toList = c'.toList) ↔ c = c' := by
    intro c c'
    rw [ByteArray.toList_eq, ByteArray.toList_eq]
    obtain ⟨⟨x⟩⟩ := c
    obtain ⟨⟨y⟩⟩ := c'
    simp
  by_cases h1 : a = a' <;> by_cases h2 : b = b' <;> by_cases h3 : c = c' <;> by_cases h4 : e = e' <;> simp [h1, h2, h3, h4, key]
section
variable {C : Ctx} {n : Nat} {tm : TM} {mm : MM} {o : Oper} {d : Nat}
theorem arm_rep {I : Nat → Prop} {H : Nat → Value} {Z : Nat → Nat} {w : World} {M : Nat → Prop} {v : Value} {m : Arm} (h : RepSV I H Z w M v (Ag m.cs)) : v = m.val := by
  obtain ⟨vs, rfl, hs, hr⟩ := h
  obtain ⟨u0, g0, r0⟩ := hr 0 _ rfl
  obtain ⟨u1, g1, r1⟩ := hr 1 _ rfl
  obtain ⟨u2, g2, r2⟩ := hr 2 _ rfl
  obtain ⟨u3, g3, r3⟩ := hr 3 _ rfl
  have r0 := RepC.str_inv r0
  have r1 := RepC.int_inv r1
  have r2 := RepC.str_inv r2
  have r3 := RepC.int_inv r3
  subst r0 r1 r2 r3
  have hs : vs.size = 4 := hs
  congr 1
  apply Array.ext
  · simpa using hs
  · intro i hi hi'
    have : i = 0 ∨ i = 1 ∨ i = 2 ∨ i = 3 := by omega
    rcases this with rfl | rfl | rfl | rfl
    · rw [Array.getElem?_eq_getElem hi] at g0; injection g0 with g0
    · rw [Array.getElem?_eq_getElem hi] at g1; injection g1 with g1
    · rw [Array.getElem?_eq_getElem hi] at g2; injection g2 with g2
    · rw [Array.getElem?_eq_getElem hi] at g3; injection g3 with g3
theorem op_cmpArm {p : BinOp} {t' : Nat} {x y : Operand} {a b : Arm} (hP : C.P = Tryd.prog) (ho : o.op = .binOp p 27 x y t') (hp : p = .eql ∨ p = .neq) (hx : evalV tm x = some (Ag a.cs)) (hy : evalV tm y = some (Ag b.cs)) (hd : o.dst = some d) (hn : Nat.blt d n = true) :
    OpV C n o tm mm d (.v (.one (.c (.bool (match p with | .eql => decide (a = b) | _ => !decide (a = b)))))) :=
  OpV.val hd hn _ fun H Z A w hm => by
    have h1 : A.eval x = a.val := arm_rep (evalV_rep hm hx)
    have h2 : A.eval y = b.val := arm_rep (evalV_rep hm hy)
    have hq : Tryd.prog.eqGuardType Tryd.prog.depth 27 = false := by kernel_rfl
    have heq := eqArm a b w
    simp only [Arm.val] at h1 h2 heq
    refine ⟨.bool (match p with | .eql => decide (a = b) | _ => !decide (a = b)), ?_, .bool _⟩
    rw [hP]
    rcases hp with rfl | rfl
    · simp only [execOp, ho, h1, h2, Sem.run_bind, run_eqGuard_agg w _ _ _ _ _ _ hq, Result.andThen_ok, run_eql_struct, heq, Sem.run_pure]
    · simp only [execOp, ho, h1, h2, Sem.run_bind, run_eqGuard_agg w _ _ _ _ _ _ hq, Result.andThen_ok, run_neq_struct, heq, Sem.run_pure]
end
section
variable {C : Ctx} {n : Nat} {tm tm0 : TM} {mm : MM} {L l : List Oper} {T : TM → Prop} {o : Oper} {d : Nat} {x y : Operand}
theorem d_neArm {t' : Nat} {a b : Arm} (hP : C.P = Tryd.prog) (ho : o.op = .binOp .neq 27 x y t') (hx : evalV (onlyE (looksE L o) tm) x = some (Ag a.cs)) (hy : evalV (onlyE (looksE L o) tm) y = some (Ag b.cs)) (hd : o.dst = some d) (hn : Nat.blt d n = true) (hg : guardL L (onlyE (looksE L o) tm) o = some true)
    (k : DOps C n mm L tm0 l ((d, .v (.one (.c (.bool (!decide (a = b)))))) :: delL tm d) T) : DOps C n mm L tm0 (o :: l) tm T :=
  d_step (op_cmpArm (p := .neq) hP ho (.inr rfl) hx hy hd hn) hg k
end
theorem eqL_no {α : Type} {l m : List α} {k : Nat} (hl : k < l.length) (hm : k < m.length) (h : l[k] ≠ m[k]) : l ≠ m := by
  intro e; subst e; exact h rfl
theorem eqL_yes {α : Type} {l m : List α} (hlen : l.length = m.length) (h : ∀ i (h1 : i < l.length) (h2 : i < m.length), l[i] = m[i]) : l = m := List.ext_getElem hlen h
set_option maxHeartbeats 4000000 in
theorem equalS_c (l m : List ByteArray) : Con Tryd.prog 45 [] [C1 (namesT l), C1 (namesT m)] (Rv (.bool (decide (l = m)))) [] := by
  refine con_of (c := _) Tryd.func45 rfl rfl rfl (by decide) fun w M0 H Z => ?_
  refine g_len 0 rfl fun hll => ?_
  simp only [List.length_map] at hll
  by_cases hlen : l.length = m.length
  · have hlenI : ((rowS l).length : Int) = ((rowS m).length : Int) := by simp [hlen]
    repeat' (first
     | refine gc_ rfl ?_
     | (refine g_region ?_; refine run_ th rfl ?_)
     | (refine g_drawC mix rfl rfl ?_; refine drun_ th rfl ?_)
     | (refine g_drawEC mix rfl rfl ?_; refine erun_ th rfl ?_)
     | refine SOps.nil ?_
     | refine DOps.nil ?_
     | refine EOps.nil ?_ rfl rfl
     | (refine s_split rfl rfl (fun hb => ?_) (fun hb => ?_) <;> (try simp only [hbL] at hb) <;> first | (exfalso; omega) | refine run_ th rfl ?_)
     | (refine d_split rfl rfl rfl (fun hb => ?_) (fun hb => ?_) <;> (try simp only [hbL] at hb) <;> first | (exfalso; omega) | refine drun_ th rfl ?_)
     | (refine g_if rfl (fun hb => ?_) (fun hb => ?_) <;> (try simp only [hbL] at hb) <;> (try (exfalso; omega))))
    refine g_loop1 (fun k : Nat => k ≤ l.length ∧ ∀ i (h : i < k) (h1 : i < l.length) (h2 : i < m.length), l[i] = m[i])
      (fun k => [(0, .v (C1 (namesT l))), (0 + 1, .v (C1 (namesT m))), (12, .v (C1 (.int .i64 (l.length : Int)))), (13, .v (C1 (.int .i64 (k : Int))))])
      (fun _ => []) (fun k => l.length - k) 0 ⟨Nat.zero_le _, fun i h => by omega⟩
      (fun a w h => h.sub (by exact ⟨⟨_, rfl, .refl _⟩, ⟨_, rfl, .refl _⟩, ⟨_, rfl, le_int (by simp)⟩, ⟨_, rfl, le_int rfl⟩, trivial⟩) (by exact trivial) rfl rfl rfl) (fun k hk ih => ?_)
    obtain ⟨hk, ha⟩ := hk
    by_cases hlt : k < l.length
    · have hlt2 : k < m.length := by omega
      have hx : (rowS l)[k]? = some [.str l[k]] := by simp [hlt]
      have hy : (rowS m)[k]? = some [.str m[k]] := by simp [hlt2]
      repeat' (first
       | refine gc_ rfl ?_
       | (refine g_region ?_; refine run_ th rfl ?_)
       | (refine g_drawC mix rfl rfl ?_; refine drun_ th rfl ?_)
       | (refine g_drawEC mix rfl rfl ?_; refine erun_ th rfl ?_)
       | refine SOps.nil ?_
       | refine DOps.nil ?_
       | refine EOps.nil ?_ rfl rfl
       | (refine s_split rfl rfl (fun hb => ?_) (fun hb => ?_) <;> (try simp only [hbL] at hb) <;> first | (exfalso; omega) | refine run_ th rfl ?_)
       | (refine d_split rfl rfl rfl (fun hb => ?_) (fun hb => ?_) <;> (try simp only [hbL] at hb) <;> first | (exfalso; omega) | refine drun_ th rfl ?_)
       | (refine g_if rfl (fun hb => ?_) (fun hb => ?_) <;> (try simp only [hbL] at hb) <;> (try (exfalso; omega)))
       | refine g_endL th Tryd.func45 (.inr ⟨_, rfl⟩) rfl rfl rfl ?_ rfl
       | (refine d_idx th rfl rfl rfl rfl rfl rfl rfl rfl rfl k _ rfl hx ?_; refine drun_ th rfl ?_)
       | (refine d_idx th rfl rfl rfl rfl rfl rfl rfl rfl rfl k _ rfl hy ?_; refine drun_ th rfl ?_)
       | (refine d_neArm (a := l[k]) (b := m[k]) rfl rfl rfl rfl rfl rfl rfl ?_; refine drun_ th rfl ?_)
       | (refine s_add rfl rfl rfl rfl rfl rfl (by omega) ?_; refine run_ th rfl ?_))
      all_goals first
        | (have hne : l ≠ m := eqL_no hlt hlt2 (by simpa using hb)
           rw [show decide (l = m) = false by simpa using hne]; exact .refl _)
        | exact g_sub (by exact ⟨⟨_, rfl, .refl _⟩, ⟨_, rfl, .refl _⟩, ⟨_, rfl, .refl _⟩, ⟨_, rfl, le_int (by omega)⟩, trivial⟩) (by exact trivial) rfl rfl rfl (ih (k + 1) ⟨hlt, fun i h h1 h2 => by
            by_cases hik : i = k
            · subst hik; simpa using hb
            · exact ha i (by omega) h1 h2⟩ (by omega))
    · have he : l = m := eqL_yes hlen fun i h1 h2 => ha i (by omega) h1 h2
      repeat' (first
       | refine gc_ rfl ?_
       | (refine g_region ?_; refine run_ th rfl ?_)
       | (refine g_drawC mix rfl rfl ?_; refine drun_ th rfl ?_)
       | (refine g_drawEC mix rfl rfl ?_; refine erun_ th rfl ?_)
       | refine SOps.nil ?_
       | refine DOps.nil ?_
       | refine EOps.nil ?_ rfl rfl
       | (refine s_split rfl rfl (fun hb => ?_) (fun hb => ?_) <;> (try simp only [hbL] at hb) <;> first | (exfalso; omega) | refine run_ th rfl ?_)
       | (refine d_split rfl rfl rfl (fun hb => ?_) (fun hb => ?_) <;> (try simp only [hbL] at hb) <;> first | (exfalso; omega) | refine drun_ th rfl ?_)
       | (refine g_if rfl (fun hb => ?_) (fun hb => ?_) <;> (try simp only [hbL] at hb) <;> (try (exfalso; omega)))
       | refine g_endL th Tryd.func45 (.inr ⟨_, rfl⟩) rfl rfl rfl ?_ rfl)
      rw [show decide (l = m) = true by simpa using he]; exact .refl _
  · have hne : l ≠ m := fun e => hlen (by rw [e])
    rw [show decide (l = m) = false by simpa using hne]
    repeat' (first
     | refine gc_ rfl ?_
     | (refine g_region ?_; refine run_ th rfl ?_)
     | (refine g_drawC mix rfl rfl ?_; refine drun_ th rfl ?_)
     | (refine g_drawEC mix rfl rfl ?_; refine erun_ th rfl ?_)
     | refine SOps.nil ?_
     | refine DOps.nil ?_
     | refine EOps.nil ?_ rfl rfl
     | (refine s_split rfl rfl (fun hb => ?_) (fun hb => ?_) <;> (try simp only [hbL] at hb) <;> first | (exfalso; omega) | refine run_ th rfl ?_)
     | (refine d_split rfl rfl rfl (fun hb => ?_) (fun hb => ?_) <;> (try simp only [hbL] at hb) <;> first | (exfalso; omega) | refine drun_ th rfl ?_)
     | (refine g_if rfl (fun hb => ?_) (fun hb => ?_) <;> (try simp only [hbL] at hb) <;> (try (exfalso; omega)))
     | refine g_endL th Tryd.func45 (.inr ⟨_, rfl⟩) rfl rfl rfl ?_ rfl)
    all_goals exact .refl _
end Go.Sy
namespace Go.Sy
open Go.Proofs
set_option maxRecDepth 100000
attribute [local irreducible] SOps Goes DOps EOps
end Go.Sy
namespace Go.Sy
theorem place_mem {l : List ByteArray} {s : ByteArray} (h : s ∈ l) : ∃ k, ∃ hk : k < l.length, placeI l s = (k : Int) ∧ l[k] = s := by
  cases hf : l.findIdx? fun x => decide (x = s) with
  | none =>
    rw [List.findIdx?_eq_none_iff] at hf
    have := hf s h
    simp at this
  | some k =>
    have hf' := hf
    rw [List.findIdx?_eq_some_iff_getElem] at hf'
    obtain ⟨hk, hp, _⟩ := hf'
    exact ⟨k, hk, by unfold placeI idxG; rw [hf], by simpa using hp⟩
theorem hasB_iff {l : List ByteArray} {s : ByteArray} : hasB l s = true ↔ s ∈ l := by
  unfold hasB
  rw [decide_eq_true_eq]
  constructor
  · intro h
    rcases Classical.em (s ∈ l) with hm | hm
    · exact hm
    · have : placeI l s = -1 := idxG_none fun i hi => by
        simpa using fun e : l[i] = s => hm (e ▸ List.getElem_mem hi)
      omega
  · intro h; obtain ⟨k, _, e, _⟩ := place_mem h; omega
theorem onceB_of {l : List ByteArray} (h : l.Nodup) : onceB l = true := by
  refine List.all_eq_true.2 fun i hi => ?_
  have hlt := List.mem_range.1 hi
  obtain ⟨k, hk, e, he⟩ := place_mem (List.getElem_mem hlt)
  unfold onceAt
  rw [List.getElem?_eq_getElem hlt, Option.getD_some, e]
  have hne := List.pairwise_iff_getElem.1 (List.nodup_iff_pairwise_ne.1 h)
  have : k = i := by
    rcases Nat.lt_trichotomy k i with h3 | h3 | h3
    · exact absurd he (hne k i hk hlt h3)
    · exact h3
    · exact absurd he.symm (hne i k hlt hk h3)
  simp [this]
theorem act_peer {n : Int} {t : Trn} (h : trnB n t = true) (hk : t.kind ≠ 0) : nameB t.peer = true := by
  unfold trnB at h
  rw [if_neg hk] at h
  split at h
  · simp only [Bool.and_eq_true] at h; exact h.1
  · cases h
theorem peers_L {l : Loc} (h : locB l = true) : peersL l = peersS l (reachG l.g) := if_pos h
theorem peers_mem {l : Loc} (h : locB l = true) {x : Int} (hx : x ∈ reachG l.g) (hk : (trnAt l x).kind ≠ 0) : (trnAt l x).peer ∈ peersL l := by
  rw [peers_L h, peersS_mem]; exact ⟨x, hx, hk, rfl⟩
theorem peers_asc (l : Loc) : Asc (peersL l) := by
  unfold peersL; split
  · exact peersS_asc _ _
  · exact List.Pairwise.nil
theorem peers_name {l : Loc} (h : locB l = true) {s : ByteArray} (hs : s ∈ peersL l) : nameB s = true := by
  rw [peers_L h, peersS_mem] at hs
  obtain ⟨x, hx, hk, rfl⟩ := hs
  obtain ⟨hg, h0, _⟩ := loc_g h
  have hp := reach_pos hg h0 hx
  exact act_peer (trn_ok h _ (trnAt_mem (by simpa [Loc.g] using hp))) hk
theorem peers_some {l : Loc} (h : locB l = true) (h0 : (trnAt l 0).kind ≠ 0) : 1 ≤ (peersL l).length :=
  List.length_pos_of_mem (peers_mem h (zero_mem l.g) h0)
end Go.Sy
namespace Go.Sy
open Go.Proofs
set_option maxRecDepth 100000
attribute [local irreducible] SOps Goes DOps EOps
def rolesL : List ByteArray := [⟨#[97]⟩, ⟨#[98]⟩, ⟨#[99]⟩, ⟨#[100]⟩, ⟨#[101]⟩]
def labelsL : List ByteArray := [⟨#[119]⟩, ⟨#[120]⟩, ⟨#[121]⟩, ⟨#[122]⟩]
theorem roles_c : Con Tryd.prog 23 [] [] (Rv (.slice true 1 (rolesL.map fun s => [CT.str s]))) [] := by
  refine con_of (c := _) Tryd.func23 rfl rfl rfl (by decide) fun w M0 H Z => ?_
  repeat' (first
   | refine gc_ rfl ?_
   | (refine g_region ?_; refine run_ th rfl ?_)
   | (refine g_drawC mix rfl rfl ?_; refine drun_ th rfl ?_)
   | (refine g_drawEC mix rfl rfl ?_; refine erun_ th rfl ?_)
   | refine SOps.nil ?_
   | refine DOps.nil ?_
   | refine EOps.nil ?_ rfl rfl
   | (refine s_split rfl rfl (fun hb => ?_) (fun hb => ?_) <;> (try simp only [hbL] at hb) <;> first | (exfalso; omega) | refine run_ th rfl ?_)
   | (refine d_split rfl rfl rfl (fun hb => ?_) (fun hb => ?_) <;> (try simp only [hbL] at hb) <;> first | (exfalso; omega) | refine drun_ th rfl ?_)
   | (refine g_if rfl (fun hb => ?_) (fun hb => ?_) <;> (try simp only [hbL] at hb) <;> (try (exfalso; omega)))
   | refine g_endL th Tryd.func23 (.inr ⟨_, rfl⟩) rfl rfl rfl ?_ rfl
   | (refine g_freeze 1 rfl rfl ?_))
  all_goals exact .refl _
theorem labels_c : Con Tryd.prog 46 [] [] (Rv (.slice true 1 (labelsL.map fun s => [CT.str s]))) [] := by
  refine con_of (c := _) Tryd.func46 rfl rfl rfl (by decide) fun w M0 H Z => ?_
  repeat' (first
   | refine gc_ rfl ?_
   | (refine g_region ?_; refine run_ th rfl ?_)
   | (refine g_drawC mix rfl rfl ?_; refine drun_ th rfl ?_)
   | (refine g_drawEC mix rfl rfl ?_; refine erun_ th rfl ?_)
   | refine SOps.nil ?_
   | refine DOps.nil ?_
   | refine EOps.nil ?_ rfl rfl
   | (refine s_split rfl rfl (fun hb => ?_) (fun hb => ?_) <;> (try simp only [hbL] at hb) <;> first | (exfalso; omega) | refine run_ th rfl ?_)
   | (refine d_split rfl rfl rfl (fun hb => ?_) (fun hb => ?_) <;> (try simp only [hbL] at hb) <;> first | (exfalso; omega) | refine drun_ th rfl ?_)
   | (refine g_if rfl (fun hb => ?_) (fun hb => ?_) <;> (try simp only [hbL] at hb) <;> (try (exfalso; omega)))
   | refine g_endL th Tryd.func46 (.inr ⟨_, rfl⟩) rfl rfl rfl ?_ rfl
   | (refine g_freeze 1 rfl rfl ?_))
  all_goals exact .refl _
end Go.Sy
namespace Go.Sy
open Go.Proofs
set_option maxRecDepth 100000
attribute [local irreducible] SOps Goes DOps EOps
theorem wrapU_nn (x : Int) : 0 ≤ IntKind.u64.wrap x := by
  simp only [IntKind.wrap, IntKind.signed, IntKind.bits, Bool.false_and, Bool.false_eq_true, if_false]
  omega
theorem wrapU_id {x : Int} (h0 : 0 ≤ x) (h1 : x ≤ 9223372036854775807) : IntKind.u64.wrap x = x := by
  simp only [IntKind.wrap, IntKind.signed, IntKind.bits, Bool.false_and, Bool.false_eq_true, if_false]
  omega
theorem wrapI_id {x : Int} (h0 : 0 ≤ x) (h1 : x ≤ 9223372036854775807) : IntKind.i64.wrap x = x := by
  have h2 : x % (2 ^ 64 : Int) = x := by omega
  simp only [IntKind.wrap, IntKind.signed, IntKind.bits, Bool.true_and, h2]
  rw [if_neg (by simp; omega)]
theorem remU {x n : Int} (h0 : 1 ≤ n) (h1 : n ≤ 9223372036854775807) : 0 ≤ (IntKind.u64.wrap x).tmod n ∧ (IntKind.u64.wrap x).tmod n < n := by
  have h2 := wrapU_nn x
  exact ⟨Int.tmod_nonneg _ h2, Int.tmod_lt_of_pos _ (by omega)⟩
theorem pick_v {x n : Int} (h0 : 1 ≤ n) (h1 : n ≤ 9223372036854775807) :
    0 ≤ IntKind.i64.wrap ((IntKind.u64.wrap x).tmod (IntKind.u64.wrap n)) ∧ IntKind.i64.wrap ((IntKind.u64.wrap x).tmod (IntKind.u64.wrap n)) < n := by
  have h2 := remU (x := x) h0 h1
  rw [wrapU_id (by omega) h1, wrapI_id h2.1 (by omega)]
  exact h2
end Go.Sy
namespace Go.Sy
open Go.Proofs
set_option maxRecDepth 100000
attribute [local irreducible] SOps Goes DOps EOps
theorem new_c (l : List Int) (hb : l.length * 8 ≤ 140737488355328) : ConN Tryd.prog 10 [C1 (intsT l)] [intsT l, .int .i64 0] := by
  refine conN_of (c := _) Tryd.func10 rfl rfl rfl (by decide) fun w M0 H => ?_
  repeat' (first
   | refine gc_ rfl ?_
   | (refine g_region ?_; refine run_ th rfl ?_)
   | (refine g_drawC mix rfl rfl ?_; refine drun_ th rfl ?_)
   | (refine g_drawEC mix rfl rfl ?_; refine erun_ th rfl ?_)
   | refine SOps.nil ?_
   | refine DOps.nil ?_
   | refine EOps.nil ?_ rfl rfl
   | (refine s_split rfl rfl (fun hb => ?_) (fun hb => ?_) <;> (try simp only [hbL] at hb) <;> first | (exfalso; omega) | refine run_ th rfl ?_)
   | (refine d_split rfl rfl rfl (fun hb => ?_) (fun hb => ?_) <;> (try simp only [hbL] at hb) <;> first | (exfalso; omega) | refine drun_ th rfl ?_)
   | (refine g_if rfl (fun hb => ?_) (fun hb => ?_) <;> (try simp only [hbL] at hb) <;> (try (exfalso; omega)))
   | (refine s_assignAny rfl rfl rfl rfl ?_; refine run_ th rfl ?_)
   | (refine s_appendN th 4 rfl rfl rfl rfl rfl rfl rfl rfl rfl rfl rfl rfl rfl rfl (by constructor <;> simp <;> omega) ?_; refine run_ th rfl ?_)
   | (refine g_freeze 4 rfl rfl ?_)
   | exact g_endN th Tryd.func10 (.inr ⟨_, rfl⟩) rfl rfl rfl rfl rfl)
end Go.Sy
