/- Contracts of the reference, bundle Bw1. -/
import Derived.Test.YtadimhaolhpglaaBl2
import Derived.Test.YtadimhaolhpglaaBu2
import Derived.Test.YtadimhaolhpglaaBu3
import Derived.Test.YtadimhaolhpglaaBu4
import Derived.Test.YtadimhaolhpglaaBn1
import Derived.Test.YtadimhaolhpglaaBu1
/- Contracts: globe.graph, May, Reach, Walk. -/
set_option linter.unusedSimpArgs false
set_option linter.unusedVariables false
set_option linter.unusedSectionVars false
namespace Go.Sy
open Go.Proofs
set_option maxRecDepth 100000
attribute [local irreducible] SOps Goes DOps EOps

end Go.Sy

/- Contracts: globe.May, Reach, Walk. -/
namespace Go.Sy
open Go.Proofs
set_option maxRecDepth 100000
attribute [local irreducible] SOps Goes DOps EOps

section
variable {roles : List ByteArray} {x : Pnt}
end
end Go.Sy

/- Contracts: the closure of globe.Near. -/
namespace Go.Sy
open Go.Proofs Go.RowKit
set_option maxRecDepth 100000
attribute [local irreducible] Goes DOps EOps FOps

section
variable {C : Ctx} {n : Nat} {tm : TM} {mm : MM} {L l : List Oper} {T : TM → MM → Prop} {o : Oper} {d : Nat}
/-- append to a row of a pool. -/
theorem s_pappend {Θ : Tab} (hΘ : tabOK C.P Θ) {t : TypeId} {x y : Operand} {z bts e : Nat} {ag : Bool} {zt : Option (List CT)} {ei : TyI} {zr : List CT} {i : Nat} {nn' : Bool} {sz : Nat} {xs ys : List (List CT)} {qs : PQ} {v : Value}
    (ho : o.op = .call { callee := .builtin .append, args := ⟨[x, y]⟩, argTypes := ⟨[t, t]⟩ }) (ht : tyGet Θ t = some ⟨z, bts, ag, zt, .slice e⟩) (hei : tyGet Θ e = some ei) (hz : ei.zero = some zr)
    (hsz : Nat.beq ei.size sz = true) (hs0 : Nat.blt 0 ei.size = true) (hx : evalC tm x = some (.c (.val v))) (hi : getM mm i = some (.pool e sz qs)) (hy : evalC tm y = some (.c (.slice nn' sz ys)))
    (hig : Nat.blt i given = true) (hno : noUse i mm = true) (hd : o.dst = some d) (hn : Nat.blt d n = true) (hg : guardL L tm o = some true) (k : Nat) (hk : qs[k]? = some (v, xs))
    (hbig : xs.length + ys.length ≤ 9223372036854775807 ∧ (xs.length + ys.length) * ei.bytes ≤ 140737488355328)
    (g : ∀ v', SOps C n L.toArray l ((d, .v (.one (.c (.val v')))) :: delL (dropU i tm) d) (updM mm i (.pool e sz (qs.set k (v', xs ++ ys)))) T) : SOps C n L.toArray (o :: l) tm mm T := by
  intro a w hh
  unfold wpList
  rw [if_pos (wanted_of (guardL_eq hg) hh)]
  refine .inl ?_
  obtain ⟨v', w', hrun, hres⟩ := op_pappend hΘ ho ht hei hz hsz hs0 hx hi hk hy hig hno hd hn hbig hh
  unfold Oper.wp
  rw [hrun]
  exact g v' _ _ hres
end
attribute [local irreducible] SOps
end Go.Sy
