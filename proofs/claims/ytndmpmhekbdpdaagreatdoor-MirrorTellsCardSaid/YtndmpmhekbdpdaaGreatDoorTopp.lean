/- From a row's reading to the layer, with what its weights say of the texts' sizes: protocols, local types. -/
import Derived.Test.YtndmpmhekbdpdaaGreatDoorTop
import Derived.Test.YtndmpmhekbdpdaaGreatDoorBw1
import Derived.Test.YtndmpmhekbdpdaaGreatDoorRows
import Derived.Deep.Slices
import Derived.Deep.Strs
import Derived.OpenShut
import Derived.ChangeOld
import Derived.SizedLaws
set_option linter.unusedSimpArgs false
set_option linter.unusedVariables false
set_option linter.unusedSectionVars false
namespace Go.Sy
open Go.RowKit Go.Proofs Go.ChangeShapes
def RdB (P : Program) (t : TypeId) {D : Type} (f : D → List CT) (ok : D → Prop) : Prop :=
  ∀ (H : Type) (enc : TypeId × Value → H) (w : World) (base : Nat) (spare : Nat → Bool) (held : Bool) (fuel : Nat) (cs : List Value) (x : DataW H × List MemPlace),
    DataW.trod enc P w base spare held fuel t cs = some x → (∀ n ∈ x.1.weights P t, n ≤ reachBytes) → ∃ d, Pw (fun v c => RepC w (fun _ => False) v c) cs (f d) ∧ ok d
section
variable {P : Program} {t : TypeId}
theorem rb_int (ht : P.underlying t = some (.int .i64)) : RdB P t (fun n : Int => [.int .i64 n]) (fun _ => True) := fun H enc w base spare held fuel cs x h _ => by
  obtain ⟨n, rfl, _⟩ := DataW.trod_int ht h
  exact ⟨n, pw_cons (.int _ _) pw_nil, trivial⟩
theorem rb_str (ht : P.underlying t = some .string) : RdB P t (fun s : ByteArray => [.str s]) (fun s => s.size ≤ reachBytes) := fun H enc w base spare held fuel cs x h hw => by
  obtain ⟨s, rfl, rfl, _⟩ := DataW.trod_string ht h
  refine ⟨s, pw_cons (.str s) pw_nil, ?_⟩
  have := hw s.data.toList.length (by simp [DataW.weights])
  simpa using this
theorem RdB.via {D E : Type} {f : D → List CT} {g : E → List CT} {ok : D → Prop} {ok' : E → Prop} (h : RdB P t f ok) (φ : D → E) (hg : ∀ d, f d = g (φ d)) (hk : ∀ d, ok d → ok' (φ d)) : RdB P t g ok' := fun H enc w base spare held fuel cs x hx hw => by
  obtain ⟨d, hd, ho⟩ := h H enc w base spare held fuel cs x hx hw
  exact ⟨φ d, by rw [← hg]; exact hd, hk d ho⟩
theorem pw_app {α β : Type} {R : α → β → Prop} {a b : List α} {c d : List β} (h : Pw R a c) (k : Pw R b d) : Pw R (a ++ b) (c ++ d) := by
  refine ⟨by simp [h.1, k.1], fun j z hz => ?_⟩
  have hl : a.length = c.length := h.1
  rw [List.getElem?_append] at hz
  split at hz
  · rename_i hj
    obtain ⟨u, hu, hr⟩ := h.2 j z hz
    exact ⟨u, by rw [List.getElem?_append_left (by omega)]; exact hu, hr⟩
  · rename_i hj
    obtain ⟨u, hu, hr⟩ := k.2 _ z hz
    exact ⟨u, by rw [List.getElem?_append_right (by omega), hl]; exact hu, hr⟩
theorem spot_at {w : World} {x : Addr} {v : Value} (h0 : w.cell? (x.add 0) = some v) : x.spot = none ∧ x.block < w.heap.size := by
  have e0 : x.add 0 = x := by simp [Addr.add]
  rw [e0] at h0
  unfold World.cell? at h0
  split at h0
  · rename_i h1
    refine ⟨?_, (Array.getElem?_eq_some_iff.1 h1).1⟩
    split at h0
    · cases h0
    · rename_i hs
      cases hx : x.spot with
      | none => rfl
      | some s => simp [hx] at hs
  · cases h0
theorem weights_all_mem {H : Type} {e : TypeId} {d : DataW H} : ∀ {l : List (DataW H)}, d ∈ l → ∀ n ∈ d.weights P e, n ∈ DataW.weightsAll P e l
  | y :: r, h, n, hn => by
    unfold DataW.weightsAll
    rcases List.mem_cons.1 h with rfl | h
    · exact List.mem_append.2 (.inl hn)
    · exact List.mem_append.2 (.inr (weights_all_mem h n hn))
theorem rb_slice {e : TypeId} {D : Type} {f : D → List CT} {ok : D → Prop} {k : Nat} (ht : P.underlying t = some (.slice e)) (hc : P.cellsOf e = k) (hk : 0 < k) (hf : ∀ d, (f d).length = k) (he : RdB P e f ok) :
    RdB P t (fun l : List D => [.slice false k (l.map f)]) (fun l => ∀ d ∈ l, ok d) := fun H enc w base spare held fuel cs x h hw => by
  rcases Go.Deep.open_slice ht h with ⟨rfl, _⟩ | ⟨a, len, cap, m, n, DD, Pl, rfl, _, hl, hm, hmm, rfl, hel⟩
  · exact ⟨[], pw_cons rep_nil pw_nil, fun d hd => by cases hd⟩
  · have hlm : len ≤ m := by rw [hmm]; split <;> omega
    have each : ∀ i : Fin len, ∃ d : D, ∃ cs' : List Value, (∀ j, j < k → w.cell? (a.add (i.1 * k + j)) = cs'[j]?) ∧ Pw (fun v c => RepC w (fun _ => False) v c) cs' (f d) ∧ ok d := by
      intro i
      obtain ⟨cs', h1, h2⟩ := hel i.1 (by omega)
      rw [hc] at h1
      obtain ⟨_, hcl, hcc⟩ := World.cells?_some h1
      obtain ⟨d, hd, ho⟩ := he _ _ _ _ _ _ _ _ _ h2 (fun q hq => hw q (by
        simp only [DataW.weights, ht]
        refine List.mem_cons.2 (.inr (List.mem_append.2 (.inl ?_)))
        exact weights_all_mem (d := DD i.1) (List.mem_map.2 ⟨i.1, List.mem_range.2 i.2, rfl⟩) q hq))
      exact ⟨d, cs', fun j hj => by rw [← add_add]; exact hcc j hj, hd, ho⟩
    have hsome : ∀ (i : Nat) (x : List CT), ((List.ofFn fun i : Fin len => (each i).choose).map f)[i]? = some x → ∃ hi : i < len, x = f (each ⟨i, hi⟩).choose := by
      intro i x hx
      have hi : i < len := by
        have := (List.getElem?_eq_some_iff.1 hx).1
        simpa using this
      rw [List.getElem?_map, List.getElem?_eq_getElem (by simpa using hi)] at hx
      simp at hx
      exact ⟨hi, hx.symm⟩
    have hcell : ∀ (i : Nat) (hi : i < len) (j : Nat) (c : CT), (f (each ⟨i, hi⟩).choose)[j]? = some c → ∃ v, w.cell? (a.add (i * k + j)) = some v ∧ RepC w (fun _ => False) v c := by
      intro i hi j c hj
      obtain ⟨cs', g1, g2, _⟩ := (each ⟨i, hi⟩).choose_spec
      obtain ⟨v, hv, hr⟩ := g2.2 j c hj
      have hjk : j < k := by
        have := (List.getElem?_eq_some_iff.1 hj).1
        rw [hf] at this; exact this
      exact ⟨v, by rw [g1 j hjk]; exact hv, hr⟩
    have hsp : 0 < len → a.spot = none ∧ a.block < w.heap.size := fun hp => by
      obtain ⟨v, hv, _⟩ := hcell 0 hp 0 _ (List.getElem?_eq_getElem (by rw [hf]; exact hk))
      rw [Nat.zero_mul] at hv
      exact spot_at hv
    refine ⟨List.ofFn fun i => (each i).choose, pw_cons (.slice (fun i j => (w.cell? (a.add (i * k + j))).getD undef) (by simp) hl hm (fun h => by cases h) (fun y hy => ?_) (fun hp => ⟨a, rfl, ?_, ?_, fun h => h, fun i y hy j c hcj => ?_⟩) (fun i y hy j c hcj => ?_)) pw_nil, fun d hd => ?_⟩
    · obtain ⟨r, _, rfl⟩ := List.mem_map.1 hy; exact hf r
    · exact (hsp (by simpa using hp)).1
    · exact (hsp (by simpa using hp)).2
    · obtain ⟨hi, rfl⟩ := hsome i y hy
      obtain ⟨v, hv, _⟩ := hcell i hi j c hcj
      rw [hv]; rfl
    · obtain ⟨hi, rfl⟩ := hsome i y hy
      obtain ⟨v, hv, hr⟩ := hcell i hi j c hcj
      rw [hv]; exact hr
    · obtain ⟨i, hi, rfl⟩ := List.getElem_of_mem hd
      simp only [List.getElem_ofFn]
      obtain ⟨_, _, _, ho⟩ := (each ⟨i, by simpa using hi⟩).choose_spec
      exact ho
theorem rb_struct2 {f0 f1 : Field} {D0 D1 : Type} {g0 : D0 → List CT} {g1 : D1 → List CT} {k0 : D0 → Prop} {k1 : D1 → Prop} (ht : P.underlying t = some (.struct #[f0, f1])) (h0 : RdB P f0.type g0 k0) (h1 : RdB P f1.type g1 k1)
    (o0 : f0.offset = 0) (o1 : f1.offset = P.cellsOf f0.type) (hc : P.cellsOf t = P.cellsOf f0.type + P.cellsOf f1.type) : RdB P t (fun d : D0 × D1 => g0 d.1 ++ g1 d.2) (fun d => k0 d.1 ∧ k1 d.2) := fun H enc w base spare held fuel cs x h hw => by
  obtain ⟨y0, y1, n, rfl, hl, q0, q1⟩ := trod_struct2 ht h
  obtain ⟨d0, e0, o0'⟩ := h0 _ _ _ _ _ _ _ _ _ q0 (fun n hn => hw n (by simp only [DataW.weights, ht, DataW.weightsEach, List.map_cons, List.mem_append]; simp [hn]))
  obtain ⟨d1, e1, o1'⟩ := h1 _ _ _ _ _ _ _ _ _ q1 (fun n hn => hw n (by simp only [DataW.weights, ht, DataW.weightsEach, List.map_cons, List.mem_append]; simp [hn]))
  refine ⟨(d0, d1), ?_, o0', o1'⟩
  have := pw_app e0 e1
  rw [o0, o1, List.drop_zero] at this
  rw [List.take_of_length_le (l := cs.drop _) (by simp; omega), List.take_append_drop] at this
  exact this
theorem rb_struct3 {f0 f1 f2 : Field} {D0 D1 D2 : Type} {g0 : D0 → List CT} {g1 : D1 → List CT} {g2 : D2 → List CT} {k0 : D0 → Prop} {k1 : D1 → Prop} {k2 : D2 → Prop} (ht : P.underlying t = some (.struct #[f0, f1, f2])) (h0 : RdB P f0.type g0 k0) (h1 : RdB P f1.type g1 k1) (h2 : RdB P f2.type g2 k2)
    (o0 : f0.offset = 0) (o1 : f1.offset = P.cellsOf f0.type) (o2 : f2.offset = P.cellsOf f0.type + P.cellsOf f1.type) (hc : P.cellsOf t = P.cellsOf f0.type + P.cellsOf f1.type + P.cellsOf f2.type) :
    RdB P t (fun d : D0 × D1 × D2 => g0 d.1 ++ (g1 d.2.1 ++ g2 d.2.2)) (fun d => k0 d.1 ∧ (k1 d.2.1 ∧ k2 d.2.2)) := fun H enc w base spare held fuel cs x h hw => by
  obtain ⟨y0, y1, y2, n, rfl, hl, q0, q1, q2⟩ := Go.Deep.trod_struct3 ht h
  obtain ⟨d0, e0, o0'⟩ := h0 _ _ _ _ _ _ _ _ _ q0 (fun n hn => hw n (by simp only [DataW.weights, ht, DataW.weightsEach, List.map_cons, List.mem_append]; simp [hn]))
  obtain ⟨d1, e1, o1'⟩ := h1 _ _ _ _ _ _ _ _ _ q1 (fun n hn => hw n (by simp only [DataW.weights, ht, DataW.weightsEach, List.map_cons, List.mem_append]; simp [hn]))
  obtain ⟨d2, e2, o2'⟩ := h2 _ _ _ _ _ _ _ _ _ q2 (fun n hn => hw n (by simp only [DataW.weights, ht, DataW.weightsEach, List.map_cons, List.mem_append]; simp [hn]))
  refine ⟨(d0, d1, d2), ?_, o0', o1', o2'⟩
  have := pw_app e0 (pw_app e1 e2)
  rw [o0, o1, o2, List.drop_zero] at this
  rw [List.take_of_length_le (l := cs.drop (_ + _)) (by simp; omega), ← List.drop_drop, List.take_append_drop, List.take_append_drop] at this
  exact this
end
def RepA (w : World) (v : Value) : SV → Prop
  | .one (.c ct) => RepC w (fun _ => False) v ct
  | .agg xs => ∃ (vs : Array Value) (cts : List CT), v = .agg vs ∧ xs = cts.map SC.c ∧ Pw (fun v c => RepC w (fun _ => False) v c) vs.toList cts
  | _ => False
theorem Con.topA {P : Program} {f : FuncId} {sv : List SV} (hc : Con P f [] sv (Rv (.bool true)) []) {w : World} {vs : List Value}
    (hv : Pw (fun v s => RepA w v s) vs sv) : Calls P f vs.toArray w fun e w' => e = .returned (.bool true) ∧ Below w.heap.size w w' := by
  have hf : ∀ (H : Nat → Value) b, ¬ (False ∨ blksOf H (preMM given []) b) := by
    rintro H b (h | ⟨p, hp, _⟩)
    · exact h
    · simp [preMM] at hp
  refine (hc.calls w (fun _ => False) (fun _ => .nilFunc) (fun _ => 0) vs ⟨fun _ h => h.elim, fun p hp => by simp [preMM] at hp, fun p hp => by simp [preMM] at hp, fun p hp => by simp [preMM] at hp⟩ ⟨by simpa using hv.1, fun j s hs => ?_⟩).mono ?_
  · obtain ⟨u, hu, hr⟩ := hv.2 j s hs
    refine ⟨u, hu, ?_⟩
    match s, hr with
    | .one (.c ct), hr => exact RepC.mono hr (Nat.le_refl _) (fun _ _ _ => rfl) (fun b _ hb => hf _ b hb)
    | .agg xs, hr =>
      obtain ⟨vs, cts, rfl, rfl, h1, h2⟩ := hr
      refine ⟨vs, rfl, by simpa using h1, fun k c hk => ?_⟩
      rw [List.getElem?_map] at hk
      cases hq : cts[k]? with
      | none => rw [hq] at hk; cases hk
      | some ct =>
        rw [hq] at hk; injection hk with hk; subst hk
        obtain ⟨u, hu, hr⟩ := h2 k ct hq
        exact ⟨u, by simpa using hu, RepC.mono hr (Nat.le_refl _) (fun _ _ _ => rfl) (fun b _ hb => hf _ b hb)⟩
  · rintro e w' ⟨v, rfl, hext, _, hr⟩
    have hv' := RepC.bool_inv hr
    subst hv'
    exact ⟨rfl, (hext.weak (Y := fun _ => False) fun b _ hb => hf _ b (.inr hb)).below⟩
theorem rb_arm : RdB Tryz.prog 63 Arm.cs (fun a => a.name.size ≤ bigS) :=
  (rb_struct3 Tryz.underlying63 (rb_str Tryz.underlying9) (rb_struct2 Tryz.underlying61 (rb_int Tryz.underlying3) (rb_str Tryz.underlying9) rfl (by kernel_rfl) (by kernel_rfl)) (rb_int Tryz.underlying3) rfl (by kernel_rfl) (by kernel_rfl) (by kernel_rfl)).via
    (fun d => ⟨d.1, d.2.1.1, d.2.1.2, d.2.2⟩) (fun _ => rfl) (fun d h => Nat.le_trans h.2.1.2 (by decide))
theorem rb_arms : RdB Tryz.prog 64 (fun l : List Arm => [armsC l]) ArmsBig := rb_slice Tryz.underlying64 (k := 4) (by kernel_rfl) (by decide) (fun _ => rfl) rb_arm
theorem rb_turn : RdB Tryz.prog 68 Trn.cs (fun x => ArmsBig x.arms) :=
  (rb_struct3 Tryz.underlying68 (rb_int Tryz.underlying3) (rb_str Tryz.underlying9) rb_arms rfl (by kernel_rfl) (by kernel_rfl) (by kernel_rfl)).via
    (fun d => ⟨d.1, d.2.1, d.2.2⟩) (fun _ => rfl) (fun d h => h.2.2)
theorem rb_loc : RdB Tryz.prog 24 Loc.cs LocBig :=
  (rb_struct2 Tryz.underlying24 (rb_str Tryz.underlying9) (rb_slice Tryz.underlying22 (k := 3) (by kernel_rfl) (by decide) (fun _ => rfl) rb_turn) rfl (by kernel_rfl) (by kernel_rfl)).via
    (fun d => ⟨d.1, d.2⟩) (fun _ => rfl) (fun d h => h.2)
end Go.Sy
