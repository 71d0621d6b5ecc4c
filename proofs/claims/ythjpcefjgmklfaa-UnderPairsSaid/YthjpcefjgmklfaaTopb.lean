/- From a row's reading to the layer: a slice of pairs of numbers. -/
import Derived.Test.YthjpcefjgmklfaaTop
import Derived.Deep.Slices
import Derived.OpenShut
import Derived.ChangeOld
namespace Go.Sy
set_option linter.unusedSimpArgs false
set_option linter.unusedVariables false
set_option linter.unusedSectionVars false
open Go.RowKit

theorem spot_of {w : World} {x : Addr} {v : Value} (h0 : w.cell? (x.add 0) = some v) : x.spot = none ∧ x.block < w.heap.size := by
  have e0 : x.add 0 = x := by simp [Addr.add]
  rw [e0] at h0
  unfold World.cell? at h0
  split at h0
  · rename_i h1
    refine ⟨?_, (Array.getElem?_eq_some_iff.1 h1).1⟩
    split at h0
    · cases h0
    · rename_i hs
      cases hx : x.spot with
      | none => rfl
      | some s => simp [hx] at hs
  · cases h0

theorem rep_pairs {H : Type} {enc : TypeId × Value → H} {P : Program} {w : World} {base : Nat} {spare : Nat → Bool} {held : Bool} {t e k : TypeId} {fuel : Nat} {a : Option Addr} {len cap : Nat} {x : DataW H × List MemPlace}
    (ht : P.underlying t = some (.slice e)) (he : P.underlying e = some (.array 2 k)) (hk : P.underlying k = some (.int .i64)) (hc : P.cellsOf e = 2) (hck : P.cellsOf k = 1)
    (h : DataW.trod enc P w base spare held fuel t [.slice a len cap] = some x) : ∃ ps : List (Int × Int), RepC w (fun _ => False) (.slice a len cap) (pairsT ps) := by
  rcases Go.Deep.open_slice ht h with ⟨hcs, _⟩ | ⟨ad, len', cap', m, n, D, Pl, hcs, _, hl, hm, hmm, _, hel⟩
  · simp at hcs
    obtain ⟨rfl, rfl, rfl⟩ := hcs
    exact ⟨[], rep_nil⟩
  · simp at hcs
    obtain ⟨rfl, rfl, rfl⟩ := hcs
    have hlm : len ≤ m := by rw [hmm]; split <;> omega
    have each : ∀ i, i < len → ∃ p : Int × Int, w.cell? (ad.add (i * 2 + 0)) = some (.int .i64 p.1) ∧ w.cell? (ad.add (i * 2 + 1)) = some (.int .i64 p.2) := by
      intro i hi
      obtain ⟨cs', h1, h2⟩ := hel i (by omega)
      rw [hc] at h1
      obtain ⟨_, hcl, hcc⟩ := World.cells?_some h1
      obtain ⟨xs, m', _, _, _, hxl, hx⟩ := DataW.trod_array he h2
      match cs', hcl with
      | [c0, c1], _ =>
        have h0 := hx 0 (by omega)
        have h1' := hx 1 (by omega)
        rw [hck] at h0 h1'
        have hx0 : xs[0]? = some xs[0] := List.getElem?_eq_getElem (by omega)
        have hx1 : xs[1]? = some xs[1] := List.getElem?_eq_getElem (by omega)
        rw [hx0] at h0
        rw [hx1] at h1'
        simp at h0 h1'
        obtain ⟨n0, e0, _, _⟩ := DataW.trod_int hk h0
        obtain ⟨n1, e1, _, _⟩ := DataW.trod_int hk h1'
        simp at e0 e1
        subst e0 e1
        have k0 := hcc 0 (by omega)
        have k1 := hcc 1 (by omega)
        simp at k0 k1
        have ea : ∀ j, (ad.add (i * 2)).add j = ad.add (i * 2 + j) := fun j => add_add _ _ _
        exact ⟨(n0, n1), by rw [← ea 0]; simpa [Addr.add] using k0, by rw [← ea 1]; exact k1⟩
    have hch : ∃ f : Nat → Int × Int, ∀ i, i < len → w.cell? (ad.add (i * 2 + 0)) = some (.int .i64 (f i).1) ∧ w.cell? (ad.add (i * 2 + 1)) = some (.int .i64 (f i).2) := by
      classical
      exact ⟨fun i => if h : i < len then (each i h).choose else (0, 0), fun i hi => by simp only [dif_pos hi]; exact (each i hi).choose_spec⟩
    obtain ⟨f, hf⟩ := hch
    have hget : ∀ (i : Nat) (y : List CT), (((List.range len).map f).map pairC)[i]? = some y → i < len ∧ y = pairC (f i) := by
      intro i y hy
      rw [List.getElem?_map, List.getElem?_map] at hy
      by_cases hi : i < len
      · rw [List.getElem?_range hi] at hy
        simp at hy
        exact ⟨hi, hy.symm⟩
      · rw [List.getElem?_eq_none (by simp; omega)] at hy
        cases hy
    refine ⟨(List.range len).map f, .slice (fun i j => if j = 0 then .int .i64 (f i).1 else .int .i64 (f i).2) (by simp) hl hm (fun h => by cases h) (fun y hy => ?_) (fun hp => ⟨ad, rfl, ?_, ?_, fun h => h, fun i y hy j c hcj => ?_⟩) (fun i y hy j c hcj => ?_)⟩
    · obtain ⟨r, _, rfl⟩ := List.mem_map.1 hy; rfl
    · exact (spot_of (hf 0 (by simp at hp; omega)).1).1
    · exact (spot_of (hf 0 (by simp at hp; omega)).1).2
    · obtain ⟨h1, rfl⟩ := hget i y hy
      obtain ⟨q0, q1⟩ := hf i h1
      match j, hcj with
      | 0, _ => simpa using q0
      | 1, _ => simpa using q1
      | j + 2, hcj => simp at hcj
    · obtain ⟨h1, rfl⟩ := hget i y hy
      match j, hcj with
      | 0, hcj => simp at hcj; subst hcj; exact .int _ _
      | 1, hcj => simp at hcj; subst hcj; exact .int _ _
      | j + 2, hcj => simp at hcj
end Go.Sy
