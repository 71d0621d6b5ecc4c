/- The plain law of equality: keys as rows of bytes, the numbering of keys. -/
import Derived.Lib.ItoaNum
set_option linter.unusedSimpArgs false
set_option linter.unusedVariables false
set_option linter.unusedSectionVars false
namespace Go.Sy
def pln (l : List UInt8) : Prop := ∀ c ∈ l, c ≠ 32 ∧ c ≠ 44 ∧ c ≠ 58
theorem pln.tail {c : UInt8} {u : List UInt8} (h : pln (c :: u)) : pln u := fun x hx => h x (List.mem_cons_of_mem _ hx)
def digs (k : Nat) : List UInt8 := if k < 10 then [UInt8.ofNat (48 + k)] else [UInt8.ofNat (48 + k / 10), UInt8.ofNat (48 + k % 10)]
theorem digs_eq {k : Nat} (h : k < 100) : Lib.decDigits k = digs k := by
  unfold digs
  rw [Lib.decDigits]
  split
  · simp_all
  · rename_i hk
    rw [Lib.decDigits, dif_pos (by omega)]; rfl
section
variable {α β : Type} [DecidableEq α] [DecidableEq β]
end
end Go.Sy
