/- Contracts of the reference, bundle Bl2. -/
import Derived.Test.YtadimhaolhpglaaBl1
import Derived.Test.YtadimhaolhpglaaBn1
/- The plain law of protocols: validity, near points as what is reached through points in which a role takes no part. -/
set_option linter.unusedSimpArgs false
set_option linter.unusedVariables false
set_option linter.unusedSectionVars false
namespace Go.Sy

/-! ### What is reached from some places -/
inductive Rch (h : Int → List Arm) (s : List Int) : Int → Prop
  | base {x : Int} (hx : x ∈ s) : Rch h s x
  | step {x : Int} (hx : Rch h s x) {a : Arm} (ha : a ∈ h x) : Rch h s a.next
theorem Rch.mono {h : Int → List Arm} {s t : List Int} (hs : ∀ x ∈ s, x ∈ t) {x : Int} (hx : Rch h s x) : Rch h t x := by
  induction hx with
  | base hx => exact .base (hs _ hx)
  | step _ ha ih => exact ih.step ha
/-! ### Protocols -/
def Prt.g (p : Prt) : Grp := p.points.map Pnt.arms
end Go.Sy

/- The plain law of near points (P7.3). -/
namespace Go.Sy

section
variable {p : Prt} {role : ByteArray}
end
end Go.Sy

/- The plain law of protocols: what is valid; Trim of a protocol is its own Trim. -/
namespace Go.Sy

section
variable {p : Prt}
end
end Go.Sy

/- The plain law of protocols: a trimmed protocol is its own Trim; it is valid; labels lead to the corresponding points. -/
namespace Go.Sy

section
variable {p : Prt}
end
end Go.Sy

/- The plain law of protocols as types: globe.graph, what is valid. -/
namespace Go.Sy

end Go.Sy

/- The plain law of globe.Near's loops. -/
namespace Go.Sy

end Go.Sy
