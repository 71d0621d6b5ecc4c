/- Contracts: cmp.Compare at texts, the closure of turns.rising, slices.SortFunc at arms: rows of one's own are sorted in place. -/
import Derived.Shelf.SlSortCmp.NoneTotal
import Derived.WalkKit
import Derived.Test.YtadimhaolhpglaaLayq
import Derived.Test.YtadimhaolhpglaaLf
import Derived.Test.YtadimhaolhpglaaSy8
namespace Go.Proofs
set_option linter.unusedSimpArgs false
set_option linter.unusedVariables false
open Go.Shelf Go.RowKit Go.Lib Go.Sort Go.Sy

def cmpS (x y : ByteArray) : Int := if sLt x y then -1 else if sLt y x then 1 else 0

theorem isNaNS (x : ByteArray) (w : World) : Calls Try.prog 103 #[.string x] w fun e w' => e = .returned (.bool false) ∧ w' = w := by
  go_enter Try.func103, Try.ntmps103
  go_wp2
  go_ret
  exact ⟨rfl, rfl⟩

set_option maxHeartbeats 1000000 in
theorem compareS (x y : ByteArray) (w : World) : Calls Try.prog 83 #[.string x, .string y] w fun e w' => e = .returned (.int .i64 (cmpS x y)) ∧ w' = w := by
  have hn := isNaNS
  cases h1 : Op.bytesLess x.toList y.toList with
  | true =>
    have hc : cmpS x y = -1 := by unfold cmpS sLt; rw [if_pos h1]
    rw [hc]; clear hc
    go_enter Try.func83, Try.ntmps83
    go_wp2_with (go_at_call 103; refine (hn _ _).mono ?_; rintro e w' ⟨rfl, rfl⟩)
    all_goals go_ret
    all_goals exact ⟨rfl, rfl⟩
  | false =>
    cases h2 : Op.bytesLess y.toList x.toList with
    | true =>
      have hc : cmpS x y = 1 := by unfold cmpS sLt; rw [if_neg (by rw [h1]; decide), if_pos h2]
      have h3 : ¬ x = y := fun e => by subst e; rw [h1] at h2; cases h2
      have h4 : ¬ x.toList = y.toList := fun e => h3 (ba_toList_inj e)
      have h5 : (x.toList == y.toList) = false := by simpa using h4
      have hb : ∀ w, (binOp BinOp.gtr 9 (.string x) (.string y)).run Try.prog w = .ok (.bool true) w := fun w => by simp [binOp, Op.stringOp, eqGuard, h1, h5]
      rw [hc]; clear hc
      go_enter Try.func83, Try.ntmps83
      go_wp2_with (go_at_call 103; refine (hn _ _).mono ?_; rintro e w' ⟨rfl, rfl⟩)
      all_goals first
        | (go_ret; exact ⟨rfl, rfl⟩)
        | trace_state
    | false =>
      have hc : cmpS x y = 0 := by unfold cmpS sLt; rw [if_neg (by rw [h1]; decide), if_neg (by rw [h2]; decide)]
      obtain rfl : x = y := sLt_tri h1 h2
      have hb : ∀ w, (binOp BinOp.gtr 9 (.string x) (.string x)).run Try.prog w = .ok (.bool false) w := fun w => by simp [binOp, Op.stringOp, eqGuard, h1]
      rw [hc]; clear hc
      go_enter Try.func83, Try.ntmps83
      go_wp2_with (go_at_call 103; refine (hn _ _).mono ?_; rintro e w' ⟨rfl, rfl⟩)
      all_goals first
        | (go_ret; exact ⟨rfl, rfl⟩)
        | trace_state

instance : Inhabited Arm := ⟨⟨⟨#[]⟩, 0, ⟨#[]⟩, 0⟩⟩
/-- An arm's four cells. -/
def encA (a : Arm) : List Value := [.string a.label, .int .i64 a.kind, .string a.name, .int .i64 a.next]
abbrev cmpA (x y : Arm) : Int := cmpS x.label y.label
theorem ltA (x y : Arm) : ltOf cmpA x y = sLt x.label y.label := by
  unfold ltOf cmpA cmpS
  cases h1 : sLt x.label y.label
  · cases h2 : sLt y.label x.label <;> simp [h1, h2]
  · simp
theorem swoA : SWO (ltOf cmpA) where
  irrefl x := by rw [ltA]; exact sLt_irr _
  trans x y z h1 h2 := by rw [ltA] at *; exact sLt_trans h1 h2
  ntrans x y z h1 h2 := by
    rw [ltA] at *
    cases h3 : sLt x.label z.label with
    | false => rfl
    | true =>
      exfalso
      cases h4 : sLt y.label x.label with
      | true =>
        have := sLt_trans h4 h3
        rw [this] at h2; cases h2
      | false =>
        have := sLt_tri h1 h4
        rw [this, h2] at h3; cases h3

set_option maxHeartbeats 1000000 in
theorem rising1 (x y : Arm) (W : World) : Calls Try.prog 82 #[.agg (encA x).toArray, .agg (encA y).toArray] W fun e w' => e = .returned (.int .i64 (cmpA x y)) ∧ ∃ q os', w' = grow (W.drewN q) os' := by
  have hcon := fun W' => compareS x.label y.label W'
  unfold cmpA
  generalize cmpS x.label y.label = r at hcon ⊢
  unfold encA
  go_enter Try.func82, Try.ntmps82
  go_wp2_with (go_at_call 83; refine (hcon _).mono ?_; rintro e w' ⟨rfl, rfl⟩)
  go_ret
  exact ⟨rfl, 0, _, by rw [alloc_eq_grow, alloc_eq_grow, grow_grow]; rfl⟩
theorem cmpLaysA (blk off size : Nat) (w : World) : CmpLays Try.prog 82 #[] encA 4 cmpA blk off size w :=
  fun _ _ _ _ x y => rising1 x y _
end Go.Proofs
