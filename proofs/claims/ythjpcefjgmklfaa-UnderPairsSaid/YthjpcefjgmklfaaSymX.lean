/- Symbolic states: what is known by a property is opened. -/
import Derived.Test.YthjpcefjgmklfaaSymW
namespace Go.Sy
set_option linter.unusedSimpArgs false
set_option linter.unusedVariables false
set_option linter.unusedSectionVars false
open Go.RowKit
section
variable {C : Ctx} {f : FuncId} {n : Nat} {R : Ending → World → Prop} {k : List Item} {tm : TM} {mm : MM} {L l : List Oper} {T : TM → MM → Prop}

theorem Has.openT {t : Nat} {kd : IntKind} {p : Int → Prop} (ht : getT tm t = some (.v (.one (.c (.intP kd p))))) {a : Act} {w : World} (h : Has C n tm mm a w) :
    ∃ m, p m ∧ Has C n ((t, .v (.one (.c (.int kd m)))) :: delL tm t) mm a w := by
  obtain ⟨H, Z, hm⟩ := h
  obtain ⟨m, hp, hv⟩ := RepC.intP_inv (hm.tmps _ (getT_mem ht))
  refine ⟨m, hp, H, Z, { hm with tmps := fun q hq => ?_ }⟩
  rcases List.mem_cons.1 hq with rfl | hq
  · show RepC _ _ (a.tmps.getD t undef) _
    have hv : a.tmps.getD t undef = .int kd m := hv
    rw [hv]; exact .int _ _
  · exact hm.tmps q (delL_mem hq).1
theorem g_openT (t : Nat) {kd : IntKind} {p : Int → Prop} (ht : getT tm t = some (.v (.one (.c (.intP kd p)))))
    (g : ∀ m, p m → Goes C f n R k ((t, .v (.one (.c (.int kd m)))) :: delL tm t) mm) : Goes C f n R k tm mm := by
  intro a w hh
  obtain ⟨m, hp, h⟩ := hh.openT ht
  exact g m hp a w h
theorem s_openT (t : Nat) {kd : IntKind} {p : Int → Prop} (ht : getT tm t = some (.v (.one (.c (.intP kd p)))))
    (g : ∀ m, p m → SOps C n L.toArray l ((t, .v (.one (.c (.int kd m)))) :: delL tm t) mm T) : SOps C n L.toArray l tm mm T := by
  intro a w hh
  obtain ⟨m, hp, h⟩ := hh.openT ht
  exact g m hp a w h

def setL {α : Type} : List α → Nat → α → List α
  | [], _, _ => []
  | _ :: l, 0, x => x :: l
  | a :: l, j + 1, x => a :: setL l j x
theorem setL_eq {α : Type} : ∀ (l : List α) (j : Nat) (x : α), setL l j x = l.set j x
  | [], _, _ => rfl
  | _ :: _, 0, _ => rfl
  | a :: l, j + 1, x => by simp [setL, setL_eq l j x]
def nthC : List SC → Nat → Option SC
  | [], _ => none
  | a :: _, 0 => some a
  | _ :: l, j + 1 => nthC l j
theorem nthC_eq : ∀ (l : List SC) (j : Nat), nthC l j = l[j]?
  | [], _ => by simp [nthC]
  | _ :: _, 0 => rfl
  | a :: l, j + 1 => by simpa [nthC] using nthC_eq l j

theorem Has.openB {i j : Nat} {cs : List SC} {kd : IntKind} {p : Int → Prop} (hi : getM mm i = some (.box cs)) (hj : nthC cs j = some (.c (.intP kd p))) {a : Act} {w : World} (h : Has C n tm mm a w) :
    ∃ m, p m ∧ Has C n tm (updM mm i (.box (setL cs j (.c (.int kd m))))) a w := by
  obtain ⟨H, Z, hm⟩ := h
  rw [nthC_eq] at hj
  obtain ⟨b, ty, vs, h1, h2, h3, h4⟩ := hm.mem _ (getM_mem hi)
  obtain ⟨u, hu, ho, hr⟩ := h4 j _ hj
  obtain ⟨m, hp, hv⟩ := RepC.intP_inv hr
  have hjl := (List.getElem?_eq_some_iff.1 hj).1
  have hI : ∀ q, Iof mm q → Iof (updM mm i (.box (setL cs j (.c (.int kd m))))) q := fun q hq => (updM_ids q).2 hq
  refine ⟨m, hp, H, Z, hm.upd (b0 := b) ⟨_, getM_mem hi, rfl⟩ (by rw [show H i = _ from h1]; rfl) (Ext.refl _ _) hm.defers hm.size ?_ (fun q hq => ⟨hq, rfl⟩)⟩
  intro hMM hfr
  refine ⟨b, ty, vs, h1, h2, by rw [setL_eq]; simpa using h3, fun j' c hc => ?_⟩
  rw [setL_eq, List.getElem?_set] at hc
  split at hc
  · rename_i hjj
    subst hjj
    injection hc with hc
    subst hc
    exact ⟨u, hu, ho, by rw [hv]; exact RepC.int _ _⟩
  · obtain ⟨u', hu', ho', hr'⟩ := h4 j' c hc
    exact ⟨u', hu', ho', hr'.mono (fun q _ hq => ⟨hI q hq, rfl, rfl⟩) (Nat.le_refl _) (fun _ _ _ => rfl) hMM⟩
theorem g_openB (i j : Nat) {cs : List SC} {kd : IntKind} {p : Int → Prop} (hi : getM mm i = some (.box cs)) (hj : nthC cs j = some (.c (.intP kd p)))
    (g : ∀ m, p m → Goes C f n R k tm (updM mm i (.box (setL cs j (.c (.int kd m)))))) : Goes C f n R k tm mm := by
  intro a w hh
  obtain ⟨m, hp, h⟩ := hh.openB hi hj
  exact g m hp a w h
theorem g_lenB (i j : Nat) {cs : List SC} {nn : Bool} {sz : Nat} {xs : List (List CT)} (hi : getM mm i = some (.box cs)) (hj : nthC cs j = some (.c (.slice nn sz xs))) (g : xs.length ≤ 9223372036854775807 → Goes C f n R k tm mm) : Goes C f n R k tm mm := by
  intro a w hh
  obtain ⟨H, Z, hm⟩ := hh
  rw [nthC_eq] at hj
  obtain ⟨b, ty, vs, h1, h2, h3, h4⟩ := hm.mem _ (getM_mem hi)
  obtain ⟨u, hu, ho, hr⟩ := h4 j _ hj
  have := RepC.len_le hr
  exact g (Nat.le_trans this (by decide)) a w ⟨H, Z, hm⟩
/-- The temporaries that a region writes are forgotten ahead of it. -/
def cutT (ds : List Nat) : TM → TM
  | [] => []
  | (t, s) :: r => match memN ds t with
    | true => cutT ds r
    | false => (t, s) :: cutT ds r
theorem cutT_mem {ds : List Nat} {p : Nat × ST} : ∀ {l : TM}, p ∈ cutT ds l → p ∈ l
  | [], h => by cases h
  | (t, s) :: r, h => by
    unfold cutT at h
    split at h
    · exact List.mem_cons_of_mem _ (cutT_mem h)
    · rcases List.mem_cons.1 h with rfl | h
      · exact List.mem_cons_self
      · exact List.mem_cons_of_mem _ (cutT_mem h)
theorem g_drawC {id : Nat} (hmix : C.P.follows .mixedOrders = true) (hok : okR L [] L 0 = true) (hu : uniT (dstsE L) (cutT (dstsE L) tm) = true)
    (h : DOps C n mm L (cutT (dstsE L) tm) L (cutT (dstsE L) tm) (fun tm' => Goes C f n R k tm' mm)) : Goes C f n R (.code (.region id L.toArray true) :: k) tm mm :=
  (g_draw hmix hok hu h).mono fun _ _ hh => hh.incl fun _ hp => cutT_mem hp
theorem g_drawEC {id : Nat} (hmix : C.P.follows .mixedOrders = true) (hok : okR2 L [] L 0 = true) (hu : uniT (dstsE L) (cutT (dstsE L) tm) = true)
    (h : EOps C n mm L (cutT (dstsE L) tm) 0 L (cutT (dstsE L) tm) [] (fun tm' mm' => Goes C f n R k tm' mm')) : Goes C f n R (.code (.region id L.toArray true) :: k) tm mm :=
  (g_drawE hmix hok hu h).mono fun _ _ hh => hh.incl fun _ hp => cutT_mem hp
end
end Go.Sy
