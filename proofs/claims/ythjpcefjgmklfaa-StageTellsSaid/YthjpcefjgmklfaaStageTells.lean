/- For every input the Go function StageTells returns true and its arguments read afterwards as they read before. No condition. -/
import Derived.Test.YthjpcefjgmklfaaRows
import Derived.Test.YthjpcefjgmklfaaTopc
import Derived.Test.YthjpcefjgmklfaaHm
import Derived.WalkKit
import Derived.SizedLaws
import Derived.ProofKit
import Derived.OpenShut
import Derived.ShutString
import Derived.ChangeOld
import Derived.Below
namespace Go.Proofs.Ythjpcefjgmklfaa.stageTells
open Go.ChangeShapes Go.WideShapes Go.ChangeAt Go.RowKit
open Go.ChangeMaps (open_string shut_string)
set_option linter.unusedVariables false

theorem own : ownKnob Try.prog.godebug = none := by kernel_rfl
theorem laidOut : laidOutB Try.prog = true := by kernel_rfl

def IsRow (k : IntKind) (w : World) (a : Option Addr) (len cap : Nat) (zs : List Int) : Prop :=
  (a = none ∧ len = 0 ∧ cap = 0 ∧ zs = []) ∨
  ∃ x, a = some x ∧ len ≤ cap ∧ cap ≤ maxLen ∧ zs.length = cap ∧ (∀ i, i < zs.length → w.cell? (x.add i) = some (.int k (zs.getD i 0))) ∧ (∀ n ∈ zs, (Lit.int k n).wf = true) ∧ zs.length * 8 ≤ 140737488351232

abbrev Tells (w : World) (v : Value) (c : Go.Sy.CT) : Prop := Go.Sy.RepC w (fun _ => False) v c
theorem pw_one {α β : Type} {R : α → β → Prop} {a : α} {b : β} (h : Go.Sy.Pw R [a] [b]) : R a b := by
  obtain ⟨u, hu, hr⟩ := h.2 0 b rfl
  have : a = u := by simpa using hu
  rw [this]; exact hr

/-! ### The walk: the Go text returns true and writes nothing that was there. -/
theorem walk (c0 : Array Value) (b : Go.Sy.Bk) (a1 : Option Addr) (len1 cap1 : Nat) (z1 : List Int) (a2 : Option Addr) (len2 cap2 : Nat) (roles : List ByteArray) (a3 : Option Addr) (len3 cap3 : Nat) (roots : List Int) (c4 : Array Value) (s : Go.Sy.Stg) (c5 : Array Value) (m : Go.Sy.Mv)
    (w : World) (w0 : Go.Sy.RepA w (.agg c0) (Go.Sy.Ag b.cs)) (w1 : IsRow .i64 w a1 len1 cap1 z1) (w2 : Tells w (.slice a2 len2 cap2) (Go.Sy.namesT roles)) (w3 : Tells w (.slice a3 len3 cap3) (Go.Sy.intsT roots)) (w4 : Go.Sy.RepA w (.agg c4) (Go.Sy.Ag s.cs)) (w5 : Go.Sy.RepA w (.agg c5) (Go.Sy.Ag m.cs)) :
    Calls Try.prog 7 #[.agg c0, .slice a1 len1 cap1, .slice a2 len2 cap2, .slice a3 len3 cap3, .agg c4, .agg c5] w fun e w' => e = .returned (.bool true) ∧ Below w.heap.size w w' := by
  obtain ⟨l, hl0, hl1⟩ : ∃ l : List Int, l.length * 8 ≤ 140737488351232 ∧ Tells w (.slice a1 len1 cap1) (Go.Sy.intsT l) := by
    rcases w1 with ⟨rfl, rfl, rfl, rfl⟩ | ⟨x, rfl, hl, hm, hz, hcell, _, hs⟩
    · exact ⟨[], by simp, Go.Sy.rep_nil⟩
    · exact ⟨z1.take len1, by simp; omega, Go.Sy.rep_ints hl hm hz hcell⟩
  exact (Go.Sy.stageTells_c b l roles roots s m (by omega)).topA (vs := [.agg c0, .slice a1 len1 cap1, .slice a2 len2 cap2, .slice a3 len3 cap3, .agg c4, .agg c5])
    (Go.Sy.pw_cons w0 (Go.Sy.pw_cons hl1 (Go.Sy.pw_cons w2 (Go.Sy.pw_cons w3 (Go.Sy.pw_cons w4 (Go.Sy.pw_cons w5 Go.Sy.pw_nil))))))

set_option maxRecDepth 100000 in
theorem lifted (os : Os) (started : os.Started) (H : Type) (enc : TypeId × Value → H) :
    ReturnsInHanded {} Try.checked os 7 .any (Rows.stageTellsSpec.pre6 enc Try.prog Try.f7 Rows.stageTellsRow.domain false) (Rows.stageTellsSpec.post enc Try.prog Try.f7 false true false false) := by
  refine returnsInHanded_of_change_sized (C := Try.checked) own started (by kernel_rfl) Try.func7
    (ChangeSpec.witness6 (enc := enc) (C := Try.checked) false ⟨#[], #[.agg #[.slice none 0 0, .slice none 0 0, .slice none 0 0], .slice none 0 0, .slice none 0 0, .slice none 0 0, .agg #[.slice none 0 0, .slice none 0 0], .agg #[.int .i64 0, .int .i64 0, .string ⟨#[]⟩]], []⟩ 8 (by kernel_rfl) (by kernel_rfl) (by kernel_rfl) (by kernel_rfl)) ?_
  intro W base args ds gs before hval0 hW hcnd hsz0 _
  have hval : ∀ (j : Nat) t v, Try.f7.params[j]? = some t → args[j]? = some v → Value.okWide Try.prog W .any base t v := hval0
  have hW' := hW
  obtain ⟨p, q, hA0, hV, rfl, hfz, hnd⟩ := hW
  have hA : DataW.TrodAll enc Try.prog W 0 (fun _ => true) true Try.f7.params.toList args.toList ds p := hA0
  have hsz : (DataW.weightsEach Try.prog (Try.f7.params.toList ++ Rows.stageTellsSpec.plain.varTypes Try.prog) (ds ++ gs)).all (· ≤ reachBytes) = true := hsz0
  rw [Try.params7] at hA hval hsz
  obtain ⟨v0, vs0, d0, ds0, p0, q0, hargs, rfl, rfl, h0, r0⟩ := trodAll_cons hA
  obtain ⟨v1, vs1, d1, ds1, p1, q1, rfl, rfl, rfl, h1, r1⟩ := trodAll_cons r0
  obtain ⟨v2, vs2, d2, ds2, p2, q2, rfl, rfl, rfl, h2, r2⟩ := trodAll_cons r1
  obtain ⟨v3, vs3, d3, ds3, p3, q3, rfl, rfl, rfl, h3, r3⟩ := trodAll_cons r2
  obtain ⟨v4, vs4, d4, ds4, p4, q4, rfl, rfl, rfl, h4, r4⟩ := trodAll_cons r3
  obtain ⟨v5, vs5, d5, ds5, p5, q5, rfl, rfl, rfl, h5, r5⟩ := trodAll_cons r4
  obtain ⟨rfl, rfl, rfl⟩ := trodAll_nil r5
  obtain rfl : args = #[v0, v1, v2, v3, v4, v5] := by cases args; simp_all
  obtain ⟨rfl, rfl⟩ := trodVars_none hV
  obtain ⟨c0, rfl, hc0⟩ := okWide_struct Try.underlying27 (hval 0 27 v0 rfl rfl)
  have k0 := h0
  have lt0 : ∀ x ∈ p0, x.block < W.heap.size := by obtain ⟨m, hm⟩ := k0; exact DataW.trod_lt m _ _ _ hm
  obtain ⟨b, w0⟩ : ∃ x : Go.Sy.Bk, Go.Sy.RepA W (.agg c0) (Go.Sy.Ag x.cs) := by
    obtain ⟨fuel, hf⟩ := h0
    obtain ⟨d, hd⟩ := Go.Sy.rd_book _ _ _ _ _ _ _ _ _ hf
    exact ⟨d, c0, _, rfl, rfl, hd⟩
  obtain ⟨a1, len1, cap1, rfl⟩ := okWide_slice Try.underlying22 (hval 1 22 v1 rfl rfl)
  have k1 := h1
  have lt1 : ∀ x ∈ p1, x.block < W.heap.size := by obtain ⟨m, hm⟩ := k1; exact DataW.trod_lt m _ _ _ hm
  obtain ⟨z1, w1⟩ : ∃ zs, IsRow .i64 W a1 len1 cap1 zs := by
    obtain ⟨fuel, hf⟩ := h1
    rcases open_ints Try.underlying22 Try.underlying3 (by kernel_rfl) hf with ⟨hcs, _⟩ | ⟨x, l, c, zs, hcs, _, hl, hm, hz, hx, hcell, hwz⟩
    · simp [Value.cells] at hcs
      obtain ⟨rfl, rfl, rfl⟩ := hcs
      exact ⟨[], .inl ⟨rfl, rfl, rfl, rfl⟩⟩
    · simp [Value.cells] at hcs
      obtain ⟨rfl, rfl, rfl⟩ := hcs
      have hd1 := congrArg Prod.fst hx
      simp only at hd1
      have hs := sized_slice hsz (j := 1) (t := 22) (e := 3) rfl (by first | exact congrArg some hd1 | rw [hd1]; rfl) Try.underlying22
      rw [show Try.prog.bytesOf 3 = 8 by kernel_rfl] at hs
      have hs : zs.length * 8 ≤ 140737488351232 := by
        simp only [lits, List.length_map, List.length_take, List.length_drop, reachBytes] at hs
        omega
      exact ⟨zs, .inr ⟨_, rfl, hl, hm, by simpa using hz, hcell, hwz, hs⟩⟩
  obtain ⟨a2, len2, cap2, rfl⟩ := okWide_slice Try.underlying25 (hval 2 25 v2 rfl rfl)
  have k2 := h2
  have lt2 : ∀ x ∈ p2, x.block < W.heap.size := by obtain ⟨m, hm⟩ := k2; exact DataW.trod_lt m _ _ _ hm
  obtain ⟨roles, w2⟩ : ∃ x : List ByteArray, Tells W (.slice a2 len2 cap2) (Go.Sy.namesT x) := by
    obtain ⟨fuel, hf⟩ := h2
    obtain ⟨d, hd⟩ := Go.Sy.rd_names _ _ _ _ _ _ _ _ _ hf
    exact ⟨d, pw_one hd⟩
  obtain ⟨a3, len3, cap3, rfl⟩ := okWide_slice Try.underlying22 (hval 3 22 v3 rfl rfl)
  have k3 := h3
  have lt3 : ∀ x ∈ p3, x.block < W.heap.size := by obtain ⟨m, hm⟩ := k3; exact DataW.trod_lt m _ _ _ hm
  obtain ⟨roots, w3⟩ : ∃ x : List Int, Tells W (.slice a3 len3 cap3) (Go.Sy.intsT x) := by
    obtain ⟨fuel, hf⟩ := h3
    obtain ⟨d, hd⟩ := Go.Sy.rd_ints _ _ _ _ _ _ _ _ _ hf
    exact ⟨d, pw_one hd⟩
  obtain ⟨c4, rfl, hc4⟩ := okWide_struct Try.underlying51 (hval 4 51 v4 rfl rfl)
  have k4 := h4
  have lt4 : ∀ x ∈ p4, x.block < W.heap.size := by obtain ⟨m, hm⟩ := k4; exact DataW.trod_lt m _ _ _ hm
  obtain ⟨s, w4⟩ : ∃ x : Go.Sy.Stg, Go.Sy.RepA W (.agg c4) (Go.Sy.Ag x.cs) := by
    obtain ⟨fuel, hf⟩ := h4
    obtain ⟨d, hd⟩ := Go.Sy.rd_stage _ _ _ _ _ _ _ _ _ hf
    exact ⟨d, c4, _, rfl, rfl, hd⟩
  obtain ⟨c5, rfl, hc5⟩ := okWide_struct Try.underlying53 (hval 5 53 v5 rfl rfl)
  have k5 := h5
  have lt5 : ∀ x ∈ p5, x.block < W.heap.size := by obtain ⟨m, hm⟩ := k5; exact DataW.trod_lt m _ _ _ hm
  obtain ⟨m, w5⟩ : ∃ x : Go.Sy.Mv, Go.Sy.RepA W (.agg c5) (Go.Sy.Ag x.cs) := by
    obtain ⟨fuel, hf⟩ := h5
    obtain ⟨d, hd⟩ := Go.Sy.rd_move _ _ _ _ _ _ _ _ _ hf
    exact ⟨d, c5, _, rfl, rfl, hd⟩
  clear hA0 hval0
  refine (walk c0 b a1 len1 cap1 z1 a2 len2 cap2 roles a3 len3 cap3 roots c4 s c5 m W w0 w1 w2 w3 w4 w5).mono fun e W' ⟨he, bel⟩ => ?_
  subst he
  exact ⟨_, rfl, _, _, _, [], _, [], hW', trodAll_mk1 (shut_bool Try.underlying4 _), (trodAll_cons_mk (Below.trod laidOut (by kernel_rfl) (of_decide_eq_true (by kernel_rfl)) k0 bel lt0) (trodAll_cons_mk (Below.trod laidOut (by kernel_rfl) (of_decide_eq_true (by kernel_rfl)) k1 bel lt1) (trodAll_cons_mk (Below.trod laidOut (by kernel_rfl) (of_decide_eq_true (by kernel_rfl)) k2 bel lt2) (trodAll_cons_mk (Below.trod laidOut (by kernel_rfl) (of_decide_eq_true (by kernel_rfl)) k3 bel lt3) (trodAll_cons_mk (Below.trod laidOut (by kernel_rfl) (of_decide_eq_true (by kernel_rfl)) k4 bel lt4) (trodAll_cons_mk (Below.trod laidOut (by kernel_rfl) (of_decide_eq_true (by kernel_rfl)) k5 bel lt5) trodAll_mk0)))))), rfl, bel.frame _, fun h => by cases h⟩

theorem over : Rows.stageTellsRow.holds Try.pinned (OpenSpec.ofChange Rows.stageTellsSpec) :=
  OpenClaim.holds_of_wide 7 Try.f7 rfl rfl rfl rfl rfl rfl rfl ⟨rfl, rfl, rfl, rfl, rfl⟩ rfl rfl rfl rfl rfl (by kernel_rfl) Try.func7 (by kernel_rfl)
    (of_decide_eq_true (by kernel_rfl)) (by unfold Func.isWrapper; first | (rw [if_pos (by decide +kernel)]; kernel_rfl) | (rw [if_neg (by decide +kernel)]; exact ⟨rfl, rfl⟩))
    (fun os started H enc _ => lifted os started H enc)

/-- ████ THE STATEMENT ████ -/
theorem proved : Rows.StageTellsSaid := over
end Go.Proofs.Ythjpcefjgmklfaa.stageTells


