/- Contracts: project.All. -/
import Derived.Test.YtdjocfajcbhmgaaDoorJi
import Derived.Test.YtdjocfajcbhmgaaDoorZ14
import Derived.Test.YtdjocfajcbhmgaaDoorZ13
set_option linter.unusedSimpArgs false
set_option linter.unusedVariables false
set_option linter.unusedSectionVars false
namespace Go.Sy
open Go.Proofs
set_option maxRecDepth 100000
attribute [local irreducible] SOps Goes DOps EOps FOps GOps
end Go.Sy

/- The plain law of projection: a projection is valid; what a role says and hears along a walk of the protocol is a walk of its projection. -/
set_option linter.unusedSimpArgs false
set_option linter.unusedVariables false
set_option linter.unusedSectionVars false
namespace Go.Sy
variable {p : Prt} {role : ByteArray} {S : List (List Int)} {l : Loc}
theorem putF_asc : ∀ (l out : List ByteArray), Asc out → Asc (l.foldl putN out)
  | [], _, h => h
  | s :: l, out, _ => by rw [List.foldl_cons]; exact putF_asc l _ (putN_asc out s)
theorem putF_mem : ∀ (l out : List ByteArray) (x : ByteArray), x ∈ l.foldl putN out ↔ x ∈ out ∨ x ∈ l
  | [], out, x => by simp
  | s :: l, out, x => by
    rw [List.foldl_cons, putF_mem l, putN_mem, List.mem_cons]
    constructor
    · rintro ((h | h) | h)
      · exact .inl h
      · exact .inr (.inl h)
      · exact .inr (.inr h)
    · rintro (h | h | h)
      · exact .inl (.inl h)
      · exact .inl (.inr h)
      · exact .inr h
theorem labsL_map (x : Pnt) : labsL x = (x.arms.map Arm.label).foldl putN [] := by unfold labsL; rw [List.foldl_map]
theorem asc_nil : Asc [] := List.Pairwise.nil
theorem labsL_asc (x : Pnt) : Asc (labsL x) := by rw [labsL_map]; exact putF_asc _ _ asc_nil
theorem labsL_mem (x : Pnt) (s : ByteArray) : s ∈ labsL x ↔ ∃ a ∈ x.arms, a.label = s := by
  rw [labsL_map, putF_mem]; simp
theorem labsL_count {x : Pnt} (h : (x.arms.map Arm.label).Nodup) : (labsL x).length = x.arms.length := by
  have h1 := nodup_sub (asc_nodup (labsL_asc x)) (m := x.arms.map Arm.label) fun s hs => by
    obtain ⟨a, ha, rfl⟩ := (labsL_mem x s).1 hs; exact List.mem_map_of_mem ha
  have h2 := nodup_sub h (m := labsL x) fun s hs => by
    obtain ⟨a, ha, rfl⟩ := List.mem_map.1 hs; exact (labsL_mem x _).2 ⟨a, ha, rfl⟩
  rw [List.length_map] at h1 h2
  omega
theorem allF_asc (p : Prt) : ∀ (near : List Int) (out : List ByteArray), Asc out → Asc (near.foldl (fun all x => (labsL (pntAt p x)).foldl putN all) out)
  | [], _, h => h
  | x :: r, out, h => by rw [List.foldl_cons]; exact allF_asc p r _ (putF_asc _ _ h)
theorem allF_mem (p : Prt) : ∀ (near : List Int) (out : List ByteArray) (s : ByteArray), s ∈ near.foldl (fun all x => (labsL (pntAt p x)).foldl putN all) out ↔ s ∈ out ∨ ∃ x ∈ near, s ∈ labsL (pntAt p x)
  | [], out, s => by simp
  | x :: r, out, s => by
    rw [List.foldl_cons, allF_mem p r, putF_mem]
    simp only [List.mem_cons, exists_eq_or_imp, or_assoc]
theorem allL_asc (p : Prt) (near : List Int) : Asc (allL p near) := allF_asc p near [] asc_nil
theorem armsN_mem {a : Arm} {near : List Int} : a ∈ armsN p near ↔ ∃ x ∈ near, a ∈ (pntAt p x).arms := by simp [armsN]
theorem allL_mem {s : ByteArray} {near : List Int} : s ∈ allL p near ↔ ∃ a ∈ armsN p near, a.label = s := by
  show s ∈ near.foldl _ [] ↔ _
  rw [allF_mem]
  constructor
  · rintro (h | ⟨x, hx, hs⟩)
    · cases h
    · obtain ⟨a, ha, e⟩ := (labsL_mem _ _).1 hs
      exact ⟨a, armsN_mem.2 ⟨x, hx, ha⟩, e⟩
  · rintro ⟨a, ha, e⟩
    obtain ⟨x, hx, h⟩ := armsN_mem.1 ha
    exact .inr ⟨x, hx, (labsL_mem _ _).2 ⟨a, h, e⟩⟩
theorem carA_some {arr : List Arm} {s : ByteArray} (h : ∃ a ∈ arr, a.label = s) : ∃ a ∈ arr, a.label = s ∧ carA arr s = (a.kind, a.name) := by
  obtain ⟨b, hb, e⟩ := h
  unfold carA carO
  cases hf : arr.find? fun a => decide (a.label = s) with
  | none => exact absurd (List.find?_eq_none.1 hf b hb) (by simp [e])
  | some a => exact ⟨a, List.mem_of_find?_eq_some hf, by simpa using List.find?_some hf, rfl⟩
theorem carA_all {arr : List Arm} (h : clashB arr = false) {a : Arm} (ha : a ∈ arr) : carA arr a.label = (a.kind, a.name) := by
  unfold clashB at h
  have := List.any_eq_false.1 h a ha
  simp only [decide_eq_true_eq, ne_eq, Decidable.not_not] at this
  unfold carA; rw [this]; rfl
structure InPnt (p : Prt) (role : ByteArray) (x : Pnt) : Prop where
  fr : x.from_ ∈ p.roles
  to : x.to ∈ p.roles
  ne : x.from_ ≠ x.to
  arms : armsOK p.points.length x.arms = true
theorem Proj.near (h : Proj p role S l) : ∀ (i : Nat) (m : List Int), S[i]? = some m → ∃ set, m = nearL p role set ∧ mixE p role set = false ∧ (∀ y ∈ set, 0 ≤ y ∧ y < (p.points.length : Int)) := by
  have hpl := prt_len h.may
  have hmet : ∀ (ts : List Trn) (row : List Int) (x : Int), x ∈ ts.foldl (fun row t => bfsIn row t.arms) row → x ∈ row ∨ ∃ t ∈ ts, ∃ a ∈ t.arms, a.next = x := by
    intro ts
    induction ts with
    | nil => intro row x hx; exact .inl hx
    | cons t ts ih =>
      intro row x hx
      rw [List.foldl_cons] at hx
      rcases ih _ x hx with h1 | ⟨t', ht', h1⟩
      · rcases (bfsIn_mem _ _ _).1 h1 with h2 | ⟨a, ha, e⟩
        · exact .inl h2
        · exact .inr ⟨t, List.mem_cons_self, a, ha, e⟩
      · exact .inr ⟨t', List.mem_cons_of_mem _ ht', h1⟩
  intro i m hm
  have hi := (List.getElem?_eq_some_iff.1 hm).1
  have hin : (i : Int) ∈ l.turns.foldl (fun row t => bfsIn row t.arms) [0] := by rw [h.met]; exact rng_mem.2 ⟨by omega, by omega⟩
  rcases hmet _ _ _ hin with h1 | ⟨t, ht, a, ha, e⟩
  · have : i = 0 := by have := List.mem_singleton.1 h1; omega
    subst this
    rw [h.zero] at hm; injection hm with hm
    exact ⟨[0], hm.symm, h.one, fun y hy => by rw [List.mem_singleton] at hy; omega⟩
  · obtain ⟨j, hj, rfl⟩ := List.mem_iff_getElem.1 ht
    have hjS : j < S.length := by rw [← h.turns]; exact hj
    rcases h.turn j S[j] l.turns[j] (List.getElem?_eq_getElem hjS) (List.getElem?_eq_getElem hj) with ⟨_, h2⟩ | ⟨_, h2⟩
    · rw [h2] at ha; cases ha
    · obtain ⟨_, q2, q3, q4⟩ := h2.arm a ha
      rw [e] at q4
      rw [Int.toNat_natCast, hm] at q4
      injection q4 with q4
      refine ⟨_, q4, q2, fun y hy => ?_⟩
      unfold nextN at hy
      obtain ⟨b, hb, rfl⟩ := List.mem_map.1 hy
      obtain ⟨x, _, hx⟩ := armsN_mem.1 (List.mem_filter.1 hb).1
      exact prt_in h.may x b hx
theorem Proj.isin (h : Proj p role S l) {i : Nat} {m : List Int} (hm : S[i]? = some m) : ∀ x ∈ m, inP (pntAt p x) role = true := by
  obtain ⟨set, rfl, _⟩ := h.near i m hm
  exact fun x hx => near_isin (prt_in h.may) hx
theorem Proj.at (h : Proj p role S l) {t : Int} {m : List Int} (h0 : 0 ≤ t) (hm : S[t.toNat]? = some m) : TurnOf p role S m (trnAt l t) ∧ t < (l.turns.length : Int) := by
  have hi := (List.getElem?_eq_some_iff.1 hm).1
  have hi2 : t.toNat < l.turns.length := by rw [h.turns]; exact hi
  refine ⟨?_, by omega⟩
  have := h.turn t.toNat m l.turns[t.toNat] hm (List.getElem?_eq_getElem hi2)
  rwa [show trnAt l t = l.turns[t.toNat] by unfold trnAt; rw [List.getD_eq_getElem?_getD, List.getElem?_eq_getElem hi2]; rfl]
end Go.Sy

/- Contracts: reparteemake.Protocol where the first number picks two roles; what comes of free points is valid, for every number of roles. -/
set_option linter.unusedSimpArgs false
set_option linter.unusedVariables false
set_option linter.unusedSectionVars false
namespace Go.Sy
open Go.Proofs
set_option maxRecDepth 100000
attribute [local irreducible] SOps Goes DOps EOps GOps
end Go.Sy
