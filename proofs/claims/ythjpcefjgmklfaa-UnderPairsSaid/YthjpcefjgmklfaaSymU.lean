/- Symbolic states: maps: what the model does with a key. -/
import Derived.Test.YthjpcefjgmklfaaSymS
import Derived.Laws.StructEq
namespace Go.Sy
set_option linter.unusedSimpArgs false
set_option linter.unusedVariables false
set_option linter.unusedSectionVars false
open Go.RowKit

/-- How a kind of keys behaves. -/
structure KeyL (P : Program) (k : TypeId) {α : Type} [DecidableEq α] (rep : α → Value) : Prop where
  chk : ∀ em a w, (Instr.checkKey em 10000 k (rep a)).run P w = .ok () w
  find : ∀ (a : α) (es : List MapEntry) (m : List α) (w : World), es.map (·.key) = m.map rep →
    (Instr.findKey k (rep a) es).run P w = .ok ((m.findIdx? (fun b => decide (a = b))).bind fun i => (es[i]?).map fun e => (i, e.val)) w
  bits : ∀ a, Instr.sameBits 10000 (rep a) (rep a) = true

theorem run_equal_pair {P : Program} {k e : TypeId} {ik ie : TyI} {infk infe : TypeInfo} (hk : TyF P k ik infk (.array 2 e)) (he : TyF P e ie infe (.int .i64)) (hs : ie.size = 1) (ha : ie.agg = false) (a b c d : Int) (w : World) :
    (Op.equal k (.agg #[.int .i64 a, .int .i64 b]) (.agg #[.int .i64 c, .int .i64 d])).run P w = .ok (decide ((a, b) = (c, d))) w := by
  have u3 := he.und
  have a3 : ∀ w, (isAgg e).run P w = .ok false w := fun w => by rw [← ha]; exact he.isAgg
  have z3 : ∀ w, (sizeOf e).run P w = .ok 1 w := fun w => by rw [← hs]; exact he.sizeOf
  unfold Op.equal
  rw [show Op.maxDepth = 9999 + 1 from rfl, Op.equalIn]
  simp only [Sem.run_bind, run_underlying hk.und, Result.andThen_ok, z3]
  simp only [Std.Legacy.Range.forIn_eq_forIn_range', Std.Legacy.Range.size, Nat.sub_zero, Nat.add_sub_cancel, Nat.div_one, List.range'_succ, List.range'_zero, List.forIn_cons, List.forIn_nil]
  have hp0 : ∀ (x y : Int) (w : World), (part e #[.int .i64 x, .int .i64 y] 0).run P w = .ok (.int .i64 x) w := fun x y w => by simp [part, Sem.run_bind, a3]
  have hp1 : ∀ (x y : Int) (w : World), (part e #[.int .i64 x, .int .i64 y] 1).run P w = .ok (.int .i64 y) w := fun x y w => by simp [part, Sem.run_bind, a3]
  have heq : ∀ (x y : Int) (w : World), (Op.equalIn 9999 e (.int .i64 x) (.int .i64 y)).run P w = .ok (x == y) w := by
    intro x y w
    rw [show (9999 : Nat) = 9998 + 1 from rfl, Op.equalIn]
    simp [Sem.run_bind, run_underlying u3]
  by_cases h1 : a = c <;> by_cases h2 : b = d <;>
    simp [Sem.run_bind, hp0, hp1, heq, h1, h2]

def pairV (p : Int × Int) : Value := .agg #[.int .i64 p.1, .int .i64 p.2]

theorem pair_keyL {P : Program} {k e : TypeId} {ik ie : TyI} {infk infe : TypeInfo} (hk : TyF P k ik infk (.array 2 e)) (he : TyF P e ie infe (.int .i64)) (hs : ie.size = 1) (ha : ie.agg = false) : KeyL P k pairV := by
  have a3 : ∀ w, (isAgg e).run P w = .ok false w := fun w => by rw [← ha]; exact he.isAgg
  have z3 : ∀ w, (sizeOf e).run P w = .ok 1 w := fun w => by rw [← hs]; exact he.sizeOf
  refine ⟨fun em a w => ?_, fun a es m w hm => ?_, fun a => by simp [pairV, Instr.sameBits]⟩
  · have hp0 : ∀ (x y : Int) (w : World), (part e #[.int .i64 x, .int .i64 y] 0).run P w = .ok (.int .i64 x) w := fun x y w => by simp [part, Sem.run_bind, a3]
    have hp1 : ∀ (x y : Int) (w : World), (part e #[.int .i64 x, .int .i64 y] 1).run P w = .ok (.int .i64 y) w := fun x y w => by simp [part, Sem.run_bind, a3]
    have hc : ∀ (x : Int) (w : World), (Instr.checkKey em 9999 e (.int .i64 x)).run P w = .ok () w := by
      intro x w
      rw [show (9999 : Nat) = 9998 + 1 from rfl, Instr.checkKey]
      simp [Sem.run_bind, run_underlying he.und]
    rw [show (10000 : Nat) = 9999 + 1 from rfl, Instr.checkKey]
    simp only [Sem.run_bind, run_underlying hk.und, Result.andThen_ok, pairV]
    simp only [Std.Legacy.Range.forIn_eq_forIn_range', Std.Legacy.Range.size, Nat.sub_zero, Nat.add_sub_cancel, Nat.div_one, List.range'_succ, List.range'_zero, List.forIn_cons, List.forIn_nil]
    simp [Sem.run_bind, z3, hp0, hp1, hc]
  · have key : ∀ (es : List MapEntry) (m : List (Int × Int)) (i : Nat), es.map (·.key) = m.map pairV →
        (Instr.findAsking k (pairV a) es i).run P w = .ok ((m.findIdx? (fun b => decide (a = b))).bind fun j => (es[j]?).map fun x => (j + i, x.val)) w := by
      intro es
      induction es with
      | nil => intro m i h; cases m <;> simp at h; simp [Instr.findAsking]
      | cons x es ih =>
        intro m i h
        cases m with
        | nil => simp at h
        | cons b m =>
          simp at h
          obtain ⟨h1, h2⟩ := h
          rw [Instr.findAsking]
          rw [h1]
          simp only [Sem.run_bind, pairV, run_equal_pair hk he hs ha, Result.andThen_ok]
          by_cases hab : a = b
          · subst hab; simp [List.findIdx?_cons]
          · have hab' : ¬ (a.1, a.2) = (b.1, b.2) := hab
            have := ih m (i + 1) (by simpa using h2)
            simp only [pairV] at this
            simp only [hab', decide_false, Bool.false_eq_true, if_false, this, List.findIdx?_cons, hab]
            cases m.findIdx? fun b => decide (a = b) with
            | none => simp
            | some j =>
              have : j + (i + 1) = j + 1 + i := by omega
              simp [this]
    unfold Instr.findKey
    simp only [Sem.run_bind, run_underlying hk.und, Result.andThen_ok]
    cases es with
    | nil =>
      cases m with
      | nil => simp [Instr.findNow]
      | cons b m => simp at hm
    | cons x es =>
      have h0 : Instr.findNow (.array 2 e) (pairV a) (x :: es) 0 = none := by
        simp [Instr.findNow, Instr.sameNow]
      rw [h0]
      simpa using key (x :: es) m 0 hm
end Go.Sy
