/- Steps on maps that number their keys. -/
import Derived.Test.YtadimhaolhpglaaQd
set_option linter.unusedSimpArgs false
set_option linter.unusedVariables false
set_option linter.unusedSectionVars false
namespace Go.Sy
open Go.RowKit
set_option maxRecDepth 100000
attribute [local irreducible] SOps Goes DOps EOps

/-! ### Steps on maps that number their keys -/
def memB {α : Type} [DecidableEq α] (l : List α) (a : α) : Bool := decide (a ∈ l)
section
variable {C : Ctx} {n : Nat} {tm : TM} {mm : MM} {L l : List Oper} {T : TM → MM → Prop} {o : Oper} {d : Nat} {x y vx : Operand}
theorem num_hasB {α : Type} [DecidableEq α] (l : List α) (a : α) : hasC (numM l) a = memB l a := num_has l a
theorem s_lookNS {Θ : Tab} (hΘ : tabOK C.P Θ) {t k e : TypeId} {z bts zk bk ze be : Nat} {ag agk : Bool} {zt ztk : Option (List CT)} {she : Sh} {i : Nat} {m : List ByteArray} {a0 : ByteArray}
    (ho : o.op = .lookup t x y true) (ht : tyGet Θ t = some ⟨z, bts, ag, zt, .map k e⟩) (hk : tyGet Θ k = some ⟨zk, bk, agk, ztk, .string⟩) (hei : tyGet Θ e = some ⟨ze, be, false, some [.int .i64 0], she⟩)
    (hx : evalC tm x = some (.mp i)) (hi : getM mm i = some (.mpo (entF strF (numM m)))) (hy : evalV tm y = some (.one (.c (.str a0)))) (hd : o.dst = some d) (hn : Nat.blt d n = true) (hg : guardL L tm o = some true)
    (g : SOps C n L.toArray l ((d, .tup [.one (.c (.int .i64 ((numI m a0 : Nat) : Int))), .one (.c (.bool (memB m a0)))]) :: delL tm d) mm T) : SOps C n L.toArray (o :: l) tm mm T := by
  have h := op_lookSOk (n := n) (zc := .int .i64 0) hΘ ho ht hk hei rfl rfl hx hi hy hd hn
  rw [num_look, num_hasB] at h
  exact s_step h.wp hg g
theorem s_putNS {Θ : Tab} (hΘ : tabOK C.P Θ) {t k e : TypeId} {z bts zk bk : Nat} {ag agk : Bool} {zt ztk : Option (List CT)} {i : Nat} {m : List ByteArray} {a0 : ByteArray} {c : Int}
    (ho : o.op = .mapUpdate t x y vx ∨ o.op = .insert t x y vx) (ht : tyGet Θ t = some ⟨z, bts, ag, zt, .map k e⟩) (hk : tyGet Θ k = some ⟨zk, bk, agk, ztk, .string⟩)
    (hx : evalC tm x = some (.mp i)) (hi : getM mm i = some (.mpo (entF strF (numM m)))) (hy : evalV tm y = some (.one (.c (.str a0)))) (hvx : evalD tm vx = some (.one (.c (.int .i64 c)))) (hd : o.dst = none) (hg : guardL L tm o = some true)
    (hc : c = (m.length : Int)) (hm : a0 ∉ m)
    (g : SOps C n L.toArray l tm (updM mm i (.mpo (entF strF (numM (m ++ [a0]))))) T) : SOps C n L.toArray (o :: l) tm mm T := by
  subst hc
  rw [← num_put hm] at g
  exact s_putS hΘ ho ht hk hx hi hy hvx hd hg g
end
theorem numM_len {α : Type} [DecidableEq α] {kf : α → FV} (l : List α) : (entF kf (numM l)).length = l.length := by unfold entF numM; rw [List.length_map, numK_len]

end Go.Sy
