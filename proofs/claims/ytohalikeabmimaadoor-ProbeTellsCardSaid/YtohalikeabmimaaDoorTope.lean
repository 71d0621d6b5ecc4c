/- From a row's reading to the layer: slices, structs, strings, as deep as they go. -/
import Derived.Test.YtohalikeabmimaaDoorTop
import Derived.Test.YtohalikeabmimaaDoorBf1
import Derived.Test.YtohalikeabmimaaDoorRows
import Derived.Deep.Slices
import Derived.Deep.Strs
import Derived.OpenShut
import Derived.ChangeOld
set_option linter.unusedSimpArgs false
set_option linter.unusedVariables false
set_option linter.unusedSectionVars false
namespace Go.Sy
open Go.RowKit Go.Proofs Go.ChangeShapes

/-- Whatever is read at a type, the layer can tell its cells. -/
def Rd (P : Program) (t : TypeId) {D : Type} (f : D → List CT) : Prop :=
  ∀ (H : Type) (enc : TypeId × Value → H) (w : World) (base : Nat) (spare : Nat → Bool) (held : Bool) (fuel : Nat) (cs : List Value) (x : DataW H × List MemPlace),
    DataW.trod enc P w base spare held fuel t cs = some x → ∃ d, Pw (fun v c => RepC w (fun _ => False) v c) cs (f d)
section
variable {P : Program} {t : TypeId}
theorem rd_int (ht : P.underlying t = some (.int .i64)) : Rd P t (fun n : Int => [.int .i64 n]) := fun H enc w base spare held fuel cs x h => by
  obtain ⟨n, rfl, _⟩ := DataW.trod_int ht h
  exact ⟨n, pw_cons (.int _ _) pw_nil⟩
theorem rd_str (ht : P.underlying t = some .string) : Rd P t (fun s : ByteArray => [.str s]) := fun H enc w base spare held fuel cs x h => by
  obtain ⟨s, rfl, _⟩ := DataW.trod_string ht h
  exact ⟨s, pw_cons (.str s) pw_nil⟩
theorem spot_at {w : World} {x : Addr} {v : Value} (h0 : w.cell? (x.add 0) = some v) : x.spot = none ∧ x.block < w.heap.size := by
  have e0 : x.add 0 = x := by simp [Addr.add]
  rw [e0] at h0
  unfold World.cell? at h0
  split at h0
  · rename_i h1
    refine ⟨?_, (Array.getElem?_eq_some_iff.1 h1).1⟩
    split at h0
    · cases h0
    · rename_i hs
      cases hx : x.spot with
      | none => rfl
      | some s => simp [hx] at hs
  · cases h0
theorem rd_slice {e : TypeId} {D : Type} {f : D → List CT} {k : Nat} (ht : P.underlying t = some (.slice e)) (hc : P.cellsOf e = k) (hk : 0 < k) (hf : ∀ d, (f d).length = k) (he : Rd P e f) :
    Rd P t (fun l : List D => [.slice false k (l.map f)]) := fun H enc w base spare held fuel cs x h => by
  rcases Go.Deep.open_slice ht h with ⟨rfl, _⟩ | ⟨a, len, cap, m, n, DD, Pl, rfl, _, hl, hm, hmm, _, hel⟩
  · exact ⟨[], pw_cons rep_nil pw_nil⟩
  · have hlm : len ≤ m := by rw [hmm]; split <;> omega
    have each : ∀ i : Fin len, ∃ d : D, ∃ cs' : List Value, (∀ j, j < k → w.cell? (a.add (i.1 * k + j)) = cs'[j]?) ∧ Pw (fun v c => RepC w (fun _ => False) v c) cs' (f d) := by
      intro i
      obtain ⟨cs', h1, h2⟩ := hel i.1 (by omega)
      rw [hc] at h1
      obtain ⟨_, hcl, hcc⟩ := World.cells?_some h1
      obtain ⟨d, hd⟩ := he _ _ _ _ _ _ _ _ _ h2
      exact ⟨d, cs', fun j hj => by rw [← add_add]; exact hcc j hj, hd⟩
    have hsome : ∀ (i : Nat) (x : List CT), ((List.ofFn fun i : Fin len => (each i).choose).map f)[i]? = some x → ∃ hi : i < len, x = f (each ⟨i, hi⟩).choose := by
      intro i x hx
      have hi : i < len := by
        have := (List.getElem?_eq_some_iff.1 hx).1
        simpa using this
      rw [List.getElem?_map, List.getElem?_eq_getElem (by simpa using hi)] at hx
      simp at hx
      exact ⟨hi, hx.symm⟩
    have hcell : ∀ (i : Nat) (hi : i < len) (j : Nat) (c : CT), (f (each ⟨i, hi⟩).choose)[j]? = some c → ∃ v, w.cell? (a.add (i * k + j)) = some v ∧ RepC w (fun _ => False) v c := by
      intro i hi j c hj
      obtain ⟨cs', g1, g2⟩ := (each ⟨i, hi⟩).choose_spec
      obtain ⟨v, hv, hr⟩ := g2.2 j c hj
      have hjk : j < k := by
        have := (List.getElem?_eq_some_iff.1 hj).1
        rw [hf] at this; exact this
      exact ⟨v, by rw [g1 j hjk]; exact hv, hr⟩
    have hsp : 0 < len → a.spot = none ∧ a.block < w.heap.size := fun hp => by
      obtain ⟨v, hv, _⟩ := hcell 0 hp 0 _ (List.getElem?_eq_getElem (by rw [hf]; exact hk))
      rw [Nat.zero_mul] at hv
      exact spot_at hv
    refine ⟨List.ofFn fun i => (each i).choose, pw_cons (.slice (fun i j => (w.cell? (a.add (i * k + j))).getD undef) (by simp) hl hm (fun h => by cases h) (fun y hy => ?_) (fun hp => ⟨a, rfl, ?_, ?_, fun h => h, fun i y hy j c hcj => ?_⟩) (fun i y hy j c hcj => ?_)) pw_nil⟩
    · obtain ⟨r, _, rfl⟩ := List.mem_map.1 hy; exact hf r
    · exact (hsp (by simpa using hp)).1
    · exact (hsp (by simpa using hp)).2
    · obtain ⟨hi, rfl⟩ := hsome i y hy
      obtain ⟨v, hv, _⟩ := hcell i hi j c hcj
      rw [hv]; rfl
    · obtain ⟨hi, rfl⟩ := hsome i y hy
      obtain ⟨v, hv, hr⟩ := hcell i hi j c hcj
      rw [hv]; exact hr
end

theorem rd_ints : Rd Tryd.prog 22 (fun l : List Int => [intsT l]) := rd_slice Tryd.underlying22 (k := 1) (by kernel_rfl) (by decide) (fun _ => rfl) (rd_int Tryd.underlying3)
theorem rd_names : Rd Tryd.prog 23 (fun l : List ByteArray => [namesT l]) := rd_slice Tryd.underlying23 (k := 1) (by kernel_rfl) (by decide) (fun _ => rfl) (rd_str Tryd.underlying9)
end Go.Sy
