/- Symbolic states: a cell of a variable is forgotten; a call with a number as result that is known by a property. -/
import Derived.Test.YthjpcefjgmklfaaSymZa
namespace Go.Sy
set_option linter.unusedSimpArgs false
set_option linter.unusedVariables false
set_option linter.unusedSectionVars false
open Go.RowKit
section
variable {C : Ctx} {n : Nat} {tm : TM} {mm : MM} {L l : List Oper} {T : TM → MM → Prop} {o : Oper} {d : Nat} {f : FuncId} {R : Ending → World → Prop} {k : List Item}

theorem Has.anyB {i j : Nat} {cs : List SC} (hi : getM mm i = some (.box cs)) {a : Act} {w : World} (h : Has C n tm mm a w) :
    Has C n tm (updM mm i (.box (setL cs j .any))) a w := by
  obtain ⟨H, Z, hm⟩ := h
  obtain ⟨b, ty, vs, h1, h2, h3, h4⟩ := hm.mem _ (getM_mem hi)
  have hI : ∀ q, Iof mm q → Iof (updM mm i (.box (setL cs j .any))) q := fun q hq => (updM_ids q).2 hq
  refine ⟨H, Z, hm.upd (b0 := b) ⟨_, getM_mem hi, rfl⟩ (by rw [show H i = _ from h1]; rfl) (Ext.refl _ _) hm.defers hm.size ?_ (fun q hq => ⟨hq, rfl⟩)⟩
  intro hMM hfr
  refine ⟨b, ty, vs, h1, h2, by rw [setL_eq]; simpa using h3, fun j' c hc => ?_⟩
  rw [setL_eq, List.getElem?_set] at hc
  split at hc
  · rename_i hjj
    subst hjj
    split at hc
    · rename_i hlt
      injection hc with hc
      subst hc
      obtain ⟨u, hu, ho, _⟩ := h4 j _ (List.getElem?_eq_getElem hlt)
      exact ⟨u, hu, ho, trivial⟩
    · cases hc
  · obtain ⟨u', hu', ho', hr'⟩ := h4 j' c hc
    exact ⟨u', hu', ho', hr'.mono (fun q _ hq => ⟨hI q hq, rfl, rfl⟩) (Nat.le_refl _) (fun _ _ _ => rfl) hMM⟩
theorem s_anyB (i j : Nat) {cs : List SC} (hi : getM mm i = some (.box cs)) (g : SOps C n L.toArray l tm (updM mm i (.box (setL cs j .any))) T) : SOps C n L.toArray l tm mm T :=
  g.mono fun _ _ h => h.anyB hi
theorem s_openB (i j : Nat) {cs : List SC} {kd : IntKind} {p : Int → Prop} (hi : getM mm i = some (.box cs)) (hj : nthC cs j = some (.c (.intP kd p)))
    (g : ∀ m, p m → SOps C n L.toArray l tm (updM mm i (.box (setL cs j (.c (.int kd m))))) T) : SOps C n L.toArray l tm mm T := by
  intro a w hh
  obtain ⟨m, hp, h⟩ := hh.openB hi hj
  exact g m hp a w h
theorem s_callP {g : FuncId} {pre post : List (List CT)} {args args' : List SV} {kd : IntKind} {p : Int → Prop} (hc : Con C.P g pre args (.v (.one (.c (.intP kd p)))) post) (ids : List Nat) {xs : Array Operand} {ts : Array TypeId}
    (ho : o.op = .call { callee := .value (.func g), args := xs, argTypes := ts }) (hargs : evalArgs tm xs.toList = some args') (hren : renVs ids args = some args') (hpre : preE mm ids = some pre)
    (hnd : noDup ids = true) (hlen : post.length = pre.length) (hd : o.dst = some d) (hn : Nat.blt d n = true) (hg : guardL L tm o = some true)
    (k : ∀ m, p m → SOps C n L.toArray l ((d, .v (.one (.c (.int kd m)))) :: delL ((d, .v (.one (.c (.intP kd p)))) :: delL tm d) d) (updMs mm ids post) T) : SOps C n L.toArray (o :: l) tm mm T :=
  s_call hc ids ho hargs hren hpre hnd hlen rfl hd hn hg (s_openT d (by simp [getT]) k)
end
end Go.Sy
