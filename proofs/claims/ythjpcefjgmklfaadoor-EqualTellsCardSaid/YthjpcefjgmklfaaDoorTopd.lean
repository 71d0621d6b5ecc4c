/- From a row's reading to the layer: slices, structs, strings, as deep as they go. -/
import Derived.Test.YthjpcefjgmklfaaDoorTop
import Derived.Test.YthjpcefjgmklfaaDoorFd
import Derived.Test.YthjpcefjgmklfaaDoorRows
import Derived.Deep.Slices
import Derived.Deep.Strs
import Derived.OpenShut
import Derived.ChangeOld
set_option linter.unusedSimpArgs false
set_option linter.unusedVariables false
set_option linter.unusedSectionVars false
namespace Go.Sy
open Go.RowKit Go.Proofs Go.ChangeShapes

/-- Whatever is read at a type, the layer can tell its cells. -/
def Rd (P : Program) (t : TypeId) {D : Type} (f : D → List CT) : Prop :=
  ∀ (H : Type) (enc : TypeId × Value → H) (w : World) (base : Nat) (spare : Nat → Bool) (held : Bool) (fuel : Nat) (cs : List Value) (x : DataW H × List MemPlace),
    DataW.trod enc P w base spare held fuel t cs = some x → ∃ d, Pw (fun v c => RepC w (fun _ => False) v c) cs (f d)
section
variable {P : Program} {t : TypeId}
theorem rd_int (ht : P.underlying t = some (.int .i64)) : Rd P t (fun n : Int => [.int .i64 n]) := fun H enc w base spare held fuel cs x h => by
  obtain ⟨n, rfl, _⟩ := DataW.trod_int ht h
  exact ⟨n, pw_cons (.int _ _) pw_nil⟩
theorem rd_str (ht : P.underlying t = some .string) : Rd P t (fun s : ByteArray => [.str s]) := fun H enc w base spare held fuel cs x h => by
  obtain ⟨s, rfl, _⟩ := DataW.trod_string ht h
  exact ⟨s, pw_cons (.str s) pw_nil⟩
theorem Rd.via {D E : Type} {f : D → List CT} {g : E → List CT} (h : Rd P t f) (φ : D → E) (hg : ∀ d, f d = g (φ d)) : Rd P t g := fun H enc w base spare held fuel cs x hx => by
  obtain ⟨d, hd⟩ := h H enc w base spare held fuel cs x hx
  exact ⟨φ d, by rw [← hg]; exact hd⟩
theorem pw_app {α β : Type} {R : α → β → Prop} {a b : List α} {c d : List β} (h : Pw R a c) (k : Pw R b d) : Pw R (a ++ b) (c ++ d) := by
  refine ⟨by simp [h.1, k.1], fun j z hz => ?_⟩
  have hl : a.length = c.length := h.1
  rw [List.getElem?_append] at hz
  split at hz
  · rename_i hj
    obtain ⟨u, hu, hr⟩ := h.2 j z hz
    exact ⟨u, by rw [List.getElem?_append_left (by omega)]; exact hu, hr⟩
  · rename_i hj
    obtain ⟨u, hu, hr⟩ := k.2 _ z hz
    exact ⟨u, by rw [List.getElem?_append_right (by omega), hl]; exact hu, hr⟩
theorem spot_at {w : World} {x : Addr} {v : Value} (h0 : w.cell? (x.add 0) = some v) : x.spot = none ∧ x.block < w.heap.size := by
  have e0 : x.add 0 = x := by simp [Addr.add]
  rw [e0] at h0
  unfold World.cell? at h0
  split at h0
  · rename_i h1
    refine ⟨?_, (Array.getElem?_eq_some_iff.1 h1).1⟩
    split at h0
    · cases h0
    · rename_i hs
      cases hx : x.spot with
      | none => rfl
      | some s => simp [hx] at hs
  · cases h0
theorem rd_slice {e : TypeId} {D : Type} {f : D → List CT} {k : Nat} (ht : P.underlying t = some (.slice e)) (hc : P.cellsOf e = k) (hk : 0 < k) (hf : ∀ d, (f d).length = k) (he : Rd P e f) :
    Rd P t (fun l : List D => [.slice false k (l.map f)]) := fun H enc w base spare held fuel cs x h => by
  rcases Go.Deep.open_slice ht h with ⟨rfl, _⟩ | ⟨a, len, cap, m, n, DD, Pl, rfl, _, hl, hm, hmm, _, hel⟩
  · exact ⟨[], pw_cons rep_nil pw_nil⟩
  · have hlm : len ≤ m := by rw [hmm]; split <;> omega
    have each : ∀ i : Fin len, ∃ d : D, ∃ cs' : List Value, (∀ j, j < k → w.cell? (a.add (i.1 * k + j)) = cs'[j]?) ∧ Pw (fun v c => RepC w (fun _ => False) v c) cs' (f d) := by
      intro i
      obtain ⟨cs', h1, h2⟩ := hel i.1 (by omega)
      rw [hc] at h1
      obtain ⟨_, hcl, hcc⟩ := World.cells?_some h1
      obtain ⟨d, hd⟩ := he _ _ _ _ _ _ _ _ _ h2
      exact ⟨d, cs', fun j hj => by rw [← add_add]; exact hcc j hj, hd⟩
    have hsome : ∀ (i : Nat) (x : List CT), ((List.ofFn fun i : Fin len => (each i).choose).map f)[i]? = some x → ∃ hi : i < len, x = f (each ⟨i, hi⟩).choose := by
      intro i x hx
      have hi : i < len := by
        have := (List.getElem?_eq_some_iff.1 hx).1
        simpa using this
      rw [List.getElem?_map, List.getElem?_eq_getElem (by simpa using hi)] at hx
      simp at hx
      exact ⟨hi, hx.symm⟩
    have hcell : ∀ (i : Nat) (hi : i < len) (j : Nat) (c : CT), (f (each ⟨i, hi⟩).choose)[j]? = some c → ∃ v, w.cell? (a.add (i * k + j)) = some v ∧ RepC w (fun _ => False) v c := by
      intro i hi j c hj
      obtain ⟨cs', g1, g2⟩ := (each ⟨i, hi⟩).choose_spec
      obtain ⟨v, hv, hr⟩ := g2.2 j c hj
      have hjk : j < k := by
        have := (List.getElem?_eq_some_iff.1 hj).1
        rw [hf] at this; exact this
      exact ⟨v, by rw [g1 j hjk]; exact hv, hr⟩
    have hsp : 0 < len → a.spot = none ∧ a.block < w.heap.size := fun hp => by
      obtain ⟨v, hv, _⟩ := hcell 0 hp 0 _ (List.getElem?_eq_getElem (by rw [hf]; exact hk))
      rw [Nat.zero_mul] at hv
      exact spot_at hv
    refine ⟨List.ofFn fun i => (each i).choose, pw_cons (.slice (fun i j => (w.cell? (a.add (i * k + j))).getD undef) (by simp) hl hm (fun h => by cases h) (fun y hy => ?_) (fun hp => ⟨a, rfl, ?_, ?_, fun h => h, fun i y hy j c hcj => ?_⟩) (fun i y hy j c hcj => ?_)) pw_nil⟩
    · obtain ⟨r, _, rfl⟩ := List.mem_map.1 hy; exact hf r
    · exact (hsp (by simpa using hp)).1
    · exact (hsp (by simpa using hp)).2
    · obtain ⟨hi, rfl⟩ := hsome i y hy
      obtain ⟨v, hv, _⟩ := hcell i hi j c hcj
      rw [hv]; rfl
    · obtain ⟨hi, rfl⟩ := hsome i y hy
      obtain ⟨v, hv, hr⟩ := hcell i hi j c hcj
      rw [hv]; exact hr
theorem rd_struct2 {f0 f1 : Field} {D0 D1 : Type} {g0 : D0 → List CT} {g1 : D1 → List CT} (ht : P.underlying t = some (.struct #[f0, f1])) (h0 : Rd P f0.type g0) (h1 : Rd P f1.type g1)
    (o0 : f0.offset = 0) (o1 : f1.offset = P.cellsOf f0.type) (hc : P.cellsOf t = P.cellsOf f0.type + P.cellsOf f1.type) : Rd P t (fun d : D0 × D1 => g0 d.1 ++ g1 d.2) := fun H enc w base spare held fuel cs x h => by
  obtain ⟨y0, y1, n, _, hl, k0, k1⟩ := trod_struct2 ht h
  obtain ⟨d0, e0⟩ := h0 _ _ _ _ _ _ _ _ _ k0
  obtain ⟨d1, e1⟩ := h1 _ _ _ _ _ _ _ _ _ k1
  refine ⟨(d0, d1), ?_⟩
  have := pw_app e0 e1
  rw [o0, o1, List.drop_zero] at this
  rw [List.take_of_length_le (l := cs.drop _) (by simp; omega), List.take_append_drop] at this
  exact this
theorem rd_struct3 {f0 f1 f2 : Field} {D0 D1 D2 : Type} {g0 : D0 → List CT} {g1 : D1 → List CT} {g2 : D2 → List CT} (ht : P.underlying t = some (.struct #[f0, f1, f2])) (h0 : Rd P f0.type g0) (h1 : Rd P f1.type g1) (h2 : Rd P f2.type g2)
    (o0 : f0.offset = 0) (o1 : f1.offset = P.cellsOf f0.type) (o2 : f2.offset = P.cellsOf f0.type + P.cellsOf f1.type) (hc : P.cellsOf t = P.cellsOf f0.type + P.cellsOf f1.type + P.cellsOf f2.type) :
    Rd P t (fun d : D0 × D1 × D2 => g0 d.1 ++ (g1 d.2.1 ++ g2 d.2.2)) := fun H enc w base spare held fuel cs x h => by
  obtain ⟨y0, y1, y2, n, _, hl, k0, k1, k2⟩ := Go.Deep.trod_struct3 ht h
  obtain ⟨d0, e0⟩ := h0 _ _ _ _ _ _ _ _ _ k0
  obtain ⟨d1, e1⟩ := h1 _ _ _ _ _ _ _ _ _ k1
  obtain ⟨d2, e2⟩ := h2 _ _ _ _ _ _ _ _ _ k2
  refine ⟨(d0, d1, d2), ?_⟩
  have := pw_app e0 (pw_app e1 e2)
  rw [o0, o1, o2, List.drop_zero] at this
  rw [List.take_of_length_le (l := cs.drop (_ + _)) (by simp; omega), ← List.drop_drop, List.take_append_drop, List.take_append_drop] at this
  exact this
end

/-- What is told of an argument. -/
def RepA (w : World) (v : Value) : SV → Prop
  | .one (.c ct) => RepC w (fun _ => False) v ct
  | .agg xs => ∃ (vs : Array Value) (cts : List CT), v = .agg vs ∧ xs = cts.map SC.c ∧ Pw (fun v c => RepC w (fun _ => False) v c) vs.toList cts
  | _ => False
/-- A law's contract: it returns true and writes nothing that was there. -/
theorem Con.topA {P : Program} {f : FuncId} {sv : List SV} (hc : Con P f [] sv (Rv (.bool true)) []) {w : World} {vs : List Value}
    (hv : Pw (fun v s => RepA w v s) vs sv) : Calls P f vs.toArray w fun e w' => e = .returned (.bool true) ∧ Below w.heap.size w w' := by
  have hf : ∀ (H : Nat → Value) b, ¬ (False ∨ blksOf H (preMM given []) b) := by
    rintro H b (h | ⟨p, hp, _⟩)
    · exact h
    · simp [preMM] at hp
  refine (hc.calls w (fun _ => False) (fun _ => .nilFunc) (fun _ => 0) vs ⟨fun _ h => h.elim, fun p hp => by simp [preMM] at hp, fun p hp => by simp [preMM] at hp, fun p hp => by simp [preMM] at hp⟩ ⟨by simpa using hv.1, fun j s hs => ?_⟩).mono ?_
  · obtain ⟨u, hu, hr⟩ := hv.2 j s hs
    refine ⟨u, hu, ?_⟩
    match s, hr with
    | .one (.c ct), hr => exact RepC.mono hr (Nat.le_refl _) (fun _ _ _ => rfl) (fun b _ hb => hf _ b hb)
    | .agg xs, hr =>
      obtain ⟨vs, cts, rfl, rfl, h1, h2⟩ := hr
      refine ⟨vs, rfl, by simpa using h1, fun k c hk => ?_⟩
      rw [List.getElem?_map] at hk
      cases hq : cts[k]? with
      | none => rw [hq] at hk; cases hk
      | some ct =>
        rw [hq] at hk; injection hk with hk; subst hk
        obtain ⟨u, hu, hr⟩ := h2 k ct hq
        exact ⟨u, by simpa using hu, RepC.mono hr (Nat.le_refl _) (fun _ _ _ => rfl) (fun b _ hb => hf _ b hb)⟩
  · rintro e w' ⟨v, rfl, hext, _, hr⟩
    have hv' := RepC.bool_inv hr
    subst hv'
    exact ⟨rfl, (hext.weak (Y := fun _ => False) fun b _ hb => hf _ b (.inr hb)).below⟩

theorem rd_ints : Rd Tryd.prog 24 (fun l : List Int => [intsT l]) := rd_slice Tryd.underlying24 (k := 1) (by kernel_rfl) (by decide) (fun _ => rfl) (rd_int Tryd.underlying3)
theorem rd_names : Rd Tryd.prog 23 (fun l : List ByteArray => [namesT l]) := rd_slice Tryd.underlying23 (k := 1) (by kernel_rfl) (by decide) (fun _ => rfl) (rd_str Tryd.underlying9)
theorem rd_edge : Rd Tryd.prog 45 Edge.cs :=
  (rd_struct3 Tryd.underlying45 (rd_str Tryd.underlying9) (rd_struct2 Tryd.underlying43 (rd_int Tryd.underlying3) (rd_int Tryd.underlying3) rfl (by kernel_rfl) (by kernel_rfl)) (rd_int Tryd.underlying3) rfl (by kernel_rfl) (by kernel_rfl) (by kernel_rfl)).via
    (fun d => ⟨d.1, d.2.1.1, d.2.1.2, d.2.2⟩) (fun _ => rfl)
theorem rd_node : Rd Tryd.prog 41 Nd.cs :=
  (rd_struct3 Tryd.underlying41 (rd_int Tryd.underlying3) (rd_str Tryd.underlying9) (rd_slice Tryd.underlying39 (k := 4) (by kernel_rfl) (by decide) (fun _ => rfl) rd_edge) rfl (by kernel_rfl) (by kernel_rfl) (by kernel_rfl)).via
    (fun d => ⟨d.1, d.2.1, d.2.2⟩) (fun _ => rfl)
theorem rd_book : Rd Tryd.prog 26 Bk.cs :=
  (rd_struct3 Tryd.underlying26 (rd_slice Tryd.underlying22 (k := 3) (by kernel_rfl) (by decide) (fun _ => rfl) rd_node) rd_names rd_ints rfl (by kernel_rfl) (by kernel_rfl) (by kernel_rfl)).via
    (fun d => ⟨d.1, d.2.1, d.2.2⟩) (fun _ => rfl)
end Go.Sy
