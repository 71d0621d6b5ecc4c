/- Symbolic states: what a slice's length is at most; existential contracts. -/
import Derived.Test.YthjpcefjgmklfaaSymM
namespace Go.Sy
set_option linter.unusedSimpArgs false
set_option linter.unusedVariables false
set_option linter.unusedSectionVars false
open Go.RowKit
section
variable {C : Ctx} {f : FuncId} {n : Nat} {R : Ending → World → Prop} {k : List Item} {tm tm' : TM} {mm mm' : MM}

theorem RepC.len_le {w : World} {M : Nat → Prop} {v : Value} {nn : Bool} {sz : Nat} {xs : List (List CT)} (h : RepC w M v (.slice nn sz xs)) : xs.length ≤ maxLen := by
  cases h with
  | slice u hlen hcap hmax _ _ _ _ => omega
theorem g_len (t : Nat) {nn : Bool} {sz : Nat} {xs : List (List CT)} (ht : getT tm t = some (.v (.one (.c (.slice nn sz xs))))) (g : xs.length ≤ 9223372036854775807 → Goes C f n R k tm mm) : Goes C f n R k tm mm := by
  intro a w hh
  obtain ⟨H, Z, hm⟩ := hh
  have := RepC.len_le (hm.tmps _ (getT_mem ht))
  exact g (Nat.le_trans this (by decide)) a w ⟨H, Z, hm⟩
end
end Go.Sy
