/- Symbolic states: weaker results, weaker cells. -/
import Derived.Test.YthjpcefjgmklfaaSymZb
namespace Go.Sy
set_option linter.unusedSimpArgs false
set_option linter.unusedVariables false
set_option linter.unusedSectionVars false
open Go.RowKit

theorem Con.le {P : Program} {f : FuncId} {pre post : List (List CT)} {args : List SV} {res res' : ST} (h : Con P f pre args res post) (hl : LeT res res') : Con P f pre args res' post :=
  ⟨h.ok, fun w M0 H Z vs hp hv => (h.calls w M0 H Z vs hp hv).mono fun _ _ ⟨v, h1, h2, h3, h4⟩ => ⟨v, h1, h2, h3, hl.rep h4⟩⟩

theorem LeCs.get2 : ∀ {x y : List CT}, LeCs x y → x.length = y.length ∧ ∀ (j : Nat) (c d : CT), x[j]? = some c → y[j]? = some d → LeC c d
  | _, _, .nil => ⟨rfl, fun j c d h _ => by simp at h⟩
  | _, _, .cons h k => by
    obtain ⟨k1, k2⟩ := k.get2
    refine ⟨by simp [k1], fun j c d hc hd => ?_⟩
    cases j with
    | zero => simp at hc hd; subst hc hd; exact h
    | succ j => exact k2 j c d (by simpa using hc) (by simpa using hd)
theorem LeX.get2 : ∀ {xs ys : List (List CT)}, LeX xs ys → xs.length = ys.length ∧ ∀ (i : Nat) (x y : List CT), xs[i]? = some x → ys[i]? = some y → x.length = y.length ∧ ∀ (j : Nat) (c d : CT), x[j]? = some c → y[j]? = some d → LeC c d
  | _, _, .refl l => ⟨rfl, fun i x y hx hy => by
      rw [hx] at hy; injection hy with hy; subst hy
      exact ⟨rfl, fun j c d hc hd => by rw [hc] at hd; injection hd with hd; subst hd; exact .refl _⟩⟩
  | _, _, .nil => ⟨rfl, fun i x y h _ => by simp at h⟩
  | _, _, .cons h k => by
    obtain ⟨k1, k2⟩ := k.get2
    refine ⟨by simp [k1], fun i x y hx hy => ?_⟩
    cases i with
    | zero => simp at hx hy; subst hx hy; exact h.get2
    | succ i => exact k2 i x y (by simpa using hx) (by simpa using hy)
  | _, _, .append (a := a) (b := b) h k => by
    obtain ⟨h1, h2⟩ := h.get2
    obtain ⟨k1, k2⟩ := k.get2
    refine ⟨by simp [h1, k1], fun i x y hx hy => ?_⟩
    by_cases hi : i < a.length
    · rw [List.getElem?_append_left hi] at hx
      rw [List.getElem?_append_left (by omega)] at hy
      exact h2 i x y hx hy
    · rw [List.getElem?_append_right (by omega)] at hx
      rw [List.getElem?_append_right (by omega)] at hy
      rw [← h1] at hy
      exact k2 _ x y hx hy
theorem le_deep {nn : Bool} {sz : Nat} {xs ys : List (List CT)} (h : LeX xs ys) : LeC (.slice nn sz xs) (.slice nn sz ys) :=
  .deep h.get2.1 (fun i x y hx hy => (h.get2.2 i x y hx hy).1) (fun i j x y c d hx hy hc hd => (h.get2.2 i x y hx hy).2 j c d hc hd)

section
variable {C : Ctx} {n : Nat} {tm : TM} {mm : MM} {L l : List Oper} {T : TM → MM → Prop} {o : Oper} {d : Nat} {f : FuncId} {R : Ending → World → Prop} {k : List Item}
theorem Has.leB {i j : Nat} {cs : List SC} {x y : CT} (hi : getM mm i = some (.box cs)) (hj : nthC cs j = some (.c x)) (hle : LeC x y) {a : Act} {w : World} (h : Has C n tm mm a w) :
    Has C n tm (updM mm i (.box (setL cs j (.c y)))) a w := by
  obtain ⟨H, Z, hm⟩ := h
  rw [nthC_eq] at hj
  obtain ⟨b, ty, vs, h1, h2, h3, h4⟩ := hm.mem _ (getM_mem hi)
  obtain ⟨u, hu, ho, hr⟩ := h4 j _ hj
  have hI : ∀ q, Iof mm q → Iof (updM mm i (.box (setL cs j (.c y)))) q := fun q hq => (updM_ids q).2 hq
  have hjl := (List.getElem?_eq_some_iff.1 hj).1
  refine ⟨H, Z, hm.upd (b0 := b) ⟨_, getM_mem hi, rfl⟩ (by rw [show H i = _ from h1]; rfl) (Ext.refl _ _) hm.defers hm.size ?_ (fun q hq => ⟨hq, rfl⟩)⟩
  intro hMM hfr
  refine ⟨b, ty, vs, h1, h2, by rw [setL_eq]; simpa using h3, fun j' c hc => ?_⟩
  rw [setL_eq, List.getElem?_set] at hc
  split at hc
  · rename_i hjj
    subst hjj
    injection hc with hc
    subst hc
    exact ⟨u, hu, ho, RepC.mono (hle.rep hr) (Nat.le_refl _) (fun _ _ _ => rfl) hMM⟩
  · obtain ⟨u', hu', ho', hr'⟩ := h4 j' c hc
    exact ⟨u', hu', ho', hr'.mono (fun q _ hq => ⟨hI q hq, rfl, rfl⟩) (Nat.le_refl _) (fun _ _ _ => rfl) hMM⟩
theorem s_leB (i j : Nat) {cs : List SC} {x : CT} (y : CT) (hi : getM mm i = some (.box cs)) (hj : nthC cs j = some (.c x)) (hle : LeC x y)
    (g : SOps C n L.toArray l tm (updM mm i (.box (setL cs j (.c y)))) T) : SOps C n L.toArray l tm mm T := g.mono fun _ _ h => h.leB hi hj hle
end
end Go.Sy
