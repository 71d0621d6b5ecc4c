/- Contracts: own, what a role says and hears along a walk. -/
import Derived.Test.YtademmkjmpgplaaGreatDoorJk
import Derived.Test.YtademmkjmpgplaaGreatDoorJo
set_option linter.unusedSimpArgs false
set_option linter.unusedVariables false
set_option linter.unusedSectionVars false
namespace Go.Sy
open Go.Proofs
set_option maxRecDepth 100000
attribute [local irreducible] SOps Goes DOps EOps GOps

def lastN (l : List Arm) (s : ByteArray) (t : Int) : Int := l.foldl (fun t a => if a.label = s then a.next else t) t
theorem lastN_snoc {l : List Arm} {k : Nat} (h : k < l.length) (s : ByteArray) (t : Int) : lastN (l.take (k + 1)) s t = if l[k].label = s then l[k].next else lastN (l.take k) s t := by
  unfold lastN
  rw [List.take_succ_eq_append_getElem h, List.foldl_append]; rfl
theorem last_find (s : ByteArray) : ∀ (l : List Arm) (t : Int), (l.map Arm.label).Nodup → lastN l s t = match l.find? (fun a => decide (a.label = s)) with | none => t | some a => a.next
  | [], t, _ => rfl
  | b :: l, t, hd => by
    rw [List.map_cons, List.nodup_cons] at hd
    show lastN l s (if b.label = s then b.next else t) = _
    rw [last_find s l _ hd.2, List.find?_cons]
    by_cases e : b.label = s
    · rw [if_pos e, decide_eq_true e]
      have : l.find? (fun a => decide (a.label = s)) = none := List.find?_eq_none.2 fun a ha h => hd.1 (by rw [e, ← of_decide_eq_true h]; exact List.mem_map_of_mem ha)
      rw [this]
    · rw [if_neg e, decide_eq_false e]
theorem pnt_arms6 {p : Prt} (hv : prtB p = true) (x : Int) : (pntAt p x).arms.length ≤ 6 ∧ ((pntAt p x).arms.map Arm.label).Nodup := by
  rcases pntAt_or p x with hm | hm
  · rcases pnt_kind (prt_pnt hv _ hm) with ⟨_, _, e⟩ | ⟨_, _, _, h⟩
    · rw [e]; exact ⟨by simp, List.nodup_nil⟩
    · exact ⟨(arms_all h).1.2, (arms_all h).2.2⟩
  · rw [hm]; exact ⟨by decide, List.nodup_nil⟩
end Go.Sy
