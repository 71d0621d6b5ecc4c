/- The plain law of a book of which each node stands twice. -/
import Derived.Test.YthjpcefjgmklfaaDoorQn
set_option linter.unusedSimpArgs false
set_option linter.unusedVariables false
set_option linter.unusedSectionVars false
namespace Go.Sy

def dupE (n : Int) (a : Edge) : Edge := ⟨a.label, a.kind, if a.kind = 5 then a.at_ + n else a.at_, a.next + n⟩
def dupN (n : Int) (x : Nd) : Nd := ⟨x.kind, x.peer, x.arms.map (dupE n)⟩
def twoB (b : Bk) : Bk := ⟨b.nodes ++ b.nodes.map (dupN b.nodes.length), b.names, b.roots⟩
def hI (n : Nat) (x : Int) : Int := if x < n then x else x - n

theorem eqB_bis {b : Bk} (hb : bookB b = true) (hn : b.nodes.length ≤ 99) {x y : Int} (h0 : 0 ≤ x) (h1 : x < b.nodes.length) (h2 : 0 ≤ y) (h3 : y < b.nodes.length) : eqB b x y = true ↔ Bis b x y := by
  rw [eqB_eq hb h0 h1 h2 h3, decide_eq_true_eq]
  exact cl_bis hb hn h0 h1 h2 h3
theorem keep_char {b : Bk} (hb : bookB b = true) (hn : b.nodes.length ≤ 99) {k : Nat} (hk : k < b.nodes.length) : k ∈ keepS b ↔ ∀ j, j < k → ¬ Bis b (j : Int) (k : Int) := by
  constructor
  · intro h j hj hB
    have h1 := (cl_bis hb hn (x := (j : Int)) (y := (k : Int)) (by omega) (by omega) (by omega) (by omega)).2 hB
    rw [keep_cl hb h] at h1
    have h2 := cls_leI hb (x := (j : Int)) (by omega) (by omega)
    omega
  · intro h
    have h1 := rep_bis hb hn (x := (k : Int)) (by omega) (by omega)
    have h2 := cls_leI hb (x := (k : Int)) (by omega) (by omega)
    have h3 := rep_keep hb (x := (k : Int)) (by omega) (by omega)
    by_cases he : cl (classesS b) (k : Int) = k
    · rw [he] at h3; exact h3
    · exact absurd h1 (h _ (by omega))

section
variable {b : Bk}
theorem two_len : (twoB b).nodes.length = b.nodes.length + b.nodes.length := by simp [twoB]
theorem two_lo {k : Nat} (hk : k < b.nodes.length) : ndE (twoB b) (k : Int) = b.nodes[k] := by simp [ndE, twoB, List.getElem?_append_left hk, hk]
theorem two_hi {k : Nat} (hk : k < b.nodes.length) : ndE (twoB b) ((k : Int) + b.nodes.length) = dupN b.nodes.length b.nodes[k] := by
  have : ((k : Int) + b.nodes.length).toNat = b.nodes.length + k := by omega
  simp [ndE, twoB, this, List.getElem?_append_right, hk]
theorem hI_range {x : Int} (h0 : 0 ≤ x) (h1 : x < (twoB b).nodes.length) : 0 ≤ hI b.nodes.length x ∧ hI b.nodes.length x < b.nodes.length := by
  rw [two_len] at h1
  unfold hI
  split <;> omega
theorem hI_lo {x : Int} (h1 : x < b.nodes.length) : hI b.nodes.length x = x := if_pos h1
theorem hI_hi {x : Int} (h0 : 0 ≤ x) : hI b.nodes.length (x + b.nodes.length) = x := by unfold hI; split <;> omega
/-- A node of the doubled book, and the node that it is or copies. -/
structure TwoF (n : Nat) (y x : Nd) : Prop where
  kind : y.kind = x.kind
  peer : y.peer = x.peer
  len : y.arms.length = x.arms.length
  arm : ∀ i (h : i < y.arms.length) (h' : i < x.arms.length), y.arms[i].label = x.arms[i].label ∧ y.arms[i].kind = x.arms[i].kind ∧ (0 ≤ y.arms[i].next ∧ y.arms[i].next < (n : Int) + n) ∧ hI n y.arms[i].next = x.arms[i].next ∧
    (x.arms[i].kind = 5 → (0 ≤ y.arms[i].at_ ∧ y.arms[i].at_ < (n : Int) + n) ∧ hI n y.arms[i].at_ = x.arms[i].at_)
variable (hb : bookB b = true)
include hb
theorem two_fit {x : Int} (h0 : 0 ≤ x) (h1 : x < (twoB b).nodes.length) : TwoF b.nodes.length (ndE (twoB b) x) (ndE b (hI b.nodes.length x)) := by
  rw [two_len] at h1
  by_cases hx : x < b.nodes.length
  · have hk : x.toNat < b.nodes.length := by omega
    have e : x = ((x.toNat : Nat) : Int) := by omega
    rw [hI_lo hx, e, two_lo hk, ndE_nat hk]
    have hg := q_gb hb _ (List.getElem_mem hk)
    generalize b.nodes[x.toNat] = y at *
    refine ⟨rfl, rfl, rfl, fun i h h' => ?_⟩
    have ga := hg.arm _ (List.getElem_mem h)
    exact ⟨rfl, rfl, ⟨ga.nx.1, by have := ga.nx.2; omega⟩, hI_lo ga.nx.2, fun h5 => ⟨⟨(ga.at_ h5).1, by have := (ga.at_ h5).2; omega⟩, hI_lo (ga.at_ h5).2⟩⟩
  · obtain ⟨k, hk⟩ : ∃ k : Nat, x = (k : Int) + b.nodes.length := ⟨(x - b.nodes.length).toNat, by omega⟩
    have hkl : k < b.nodes.length := by omega
    rw [hk, hI_hi (by omega), two_hi hkl, ndE_nat hkl]
    have hg := q_gb hb _ (List.getElem_mem hkl)
    generalize b.nodes[k] = y at *
    refine ⟨rfl, rfl, by simp [dupN], fun i h h' => ?_⟩
    have ga := hg.arm _ (List.getElem_mem h')
    have e : (dupN b.nodes.length y).arms[i] = dupE b.nodes.length y.arms[i] := by simp [dupN]
    rw [e]
    have n0 := ga.nx.1
    have n1 := ga.nx.2
    refine ⟨rfl, rfl, ⟨by show 0 ≤ y.arms[i].next + _; omega, by show y.arms[i].next + _ < _; omega⟩, hI_hi n0, fun h5 => ?_⟩
    have a0 := (ga.at_ h5).1
    have a1 := (ga.at_ h5).2
    have e5 : (dupE b.nodes.length y.arms[i]).at_ = y.arms[i].at_ + b.nodes.length := if_pos h5
    rw [e5]
    exact ⟨⟨by omega, by omega⟩, hI_hi a0⟩
theorem two_of {x y : Int} (h : inQ (twoB b).nodes.length x y) (hB : Bis b (hI b.nodes.length x) (hI b.nodes.length y)) : Bis (twoB b) x y := by
  refine ⟨fun x y => inQ (twoB b).nodes.length x y ∧ Bis b (hI b.nodes.length x) (hI b.nodes.length y), ?_, h, hB⟩
  rintro x y ⟨⟨h0, h1, h2, h3⟩, hB⟩
  have f := hB.fit
  have fx := two_fit hb h0 h1
  have fy := two_fit hb h2 h3
  have hl := two_len (b := b)
  refine ⟨⟨h0, h1, h2, h3⟩, by rw [fx.kind, fy.kind, f.kind], by rw [fx.peer, fy.peer, f.peer], by rw [fx.len, fy.len, f.len], fun i hi hi' => ?_⟩
  have hi1 : i < (ndE b (hI b.nodes.length x)).arms.length := by rw [← fx.len]; exact hi
  have hi2 : i < (ndE b (hI b.nodes.length y)).arms.length := by rw [← fy.len]; exact hi'
  obtain ⟨a1, a2, a3, a4, a5⟩ := fx.arm i hi hi1
  obtain ⟨c1, c2, c3, c4, c5⟩ := fy.arm i hi' hi2
  have fa := f.arm i hi1 hi2
  refine ⟨by rw [a1, c1, fa.label], by rw [a2, c2, fa.kind], ⟨⟨a3.1, by omega, c3.1, by omega⟩, by rw [a4, c4]; exact fa.next⟩, fun h5 => ?_⟩
  have h5x := a2.symm.trans h5
  have h5y := fa.kind.symm.trans h5x
  obtain ⟨p1, p2⟩ := a5 h5x
  obtain ⟨q1, q2⟩ := c5 h5y
  exact ⟨⟨p1.1, by omega, q1.1, by omega⟩, by rw [p2, q2]; exact fa.at_ h5x⟩
theorem two_low {x y : Int} (h : inQ b.nodes.length x y) (hB : Bis (twoB b) x y) : Bis b x y := by
  refine ⟨fun x y => inQ b.nodes.length x y ∧ Bis (twoB b) x y, ?_, h, hB⟩
  rintro x y ⟨⟨h0, h1, h2, h3⟩, hB⟩
  have f := hB.fit
  have e1 : ndE (twoB b) x = ndE b x := by
    have hk : x.toNat < b.nodes.length := by omega
    have e : x = ((x.toNat : Nat) : Int) := by omega
    rw [e, two_lo hk, ndE_nat hk]
  have e2 : ndE (twoB b) y = ndE b y := by
    have hk : y.toNat < b.nodes.length := by omega
    have e : y = ((y.toNat : Nat) : Int) := by omega
    rw [e, two_lo hk, ndE_nat hk]
  rw [e1, e2] at f
  have gx := (q_gb hb).at h0 h1
  have gy := (q_gb hb).at h2 h3
  refine ⟨⟨h0, h1, h2, h3⟩, f.kind, f.peer, f.len, fun i hi hi' => ?_⟩
  have fa := f.arm i hi hi'
  have ga := gx.arm _ (List.getElem_mem hi)
  have gc := gy.arm _ (List.getElem_mem hi')
  exact ⟨fa.label, fa.kind, ⟨⟨ga.nx.1, ga.nx.2, gc.nx.1, gc.nx.2⟩, fa.next⟩, fun h5 => ⟨⟨(ga.at_ h5).1, (ga.at_ h5).2, (gc.at_ (fa.kind ▸ h5)).1, (gc.at_ (fa.kind ▸ h5)).2⟩, fa.at_ h5⟩⟩
theorem two_copy {x : Int} (h0 : 0 ≤ x) (h1 : x < (twoB b).nodes.length) : Bis (twoB b) x (hI b.nodes.length x) := by
  have hr := hI_range h0 h1
  have hl := two_len (b := b)
  refine two_of hb ⟨h0, h1, hr.1, by omega⟩ ?_
  rw [hI_lo hr.2]
  exact bis_refl (q_gb hb) hr.1 hr.2
theorem two_bis {x y : Int} (h : inQ (twoB b).nodes.length x y) : Bis (twoB b) x y ↔ Bis b (hI b.nodes.length x) (hI b.nodes.length y) := by
  refine ⟨fun hB => ?_, two_of hb h⟩
  obtain ⟨h0, h1, h2, h3⟩ := h
  have rx := hI_range h0 h1
  have ry := hI_range h2 h3
  exact two_low hb ⟨rx.1, rx.2, ry.1, ry.2⟩ (bis_trans (bis_symm (two_copy hb h0 h1)) (bis_trans hB (two_copy hb h2 h3)))

theorem dup_node {n : Nat} {x : Nd} (hN : nodeB n x = true) (hE : ∀ e ∈ x.arms, GE n e) : nodeB ((n : Int) + n) (dupN n x) = true := by
  unfold nodeB at hN ⊢
  split at hN
  · rename_i h0
    rw [if_pos (show (dupN n x).kind = 0 from h0)]
    simp only [Bool.and_eq_true, decide_eq_true_eq] at hN ⊢
    exact ⟨hN.1, by show (x.arms.map (dupE n)).length = 0; rw [List.length_map]; exact hN.2⟩
  · rename_i h0
    rw [if_neg (show ¬ (dupN n x).kind = 0 from h0)]
    simp only [Bool.and_eq_true] at hN ⊢
    obtain ⟨g1, g2, g3, g4, g5⟩ := hN
    refine ⟨g1, g2, by simpa [dupN] using g3, by simpa [dupN] using g4, ?_⟩
    obtain ⟨q1, q2⟩ := armsB_iff.1 g5
    refine armsB_iff.2 ⟨fun e he => ?_, ?_⟩
    · obtain ⟨a, ha, rfl⟩ := List.mem_map.1 he
      obtain ⟨w1, w2, w3, w4⟩ := q1 a ha
      refine ⟨w1, by show 0 ≤ a.next + _; omega, by show a.next + _ < _; omega, ?_⟩
      have hg := hE a ha
      unfold sortB at w4 ⊢
      by_cases h5 : a.kind = 5
      · have a0 := (hg.at_ h5).1
        have a1 := (hg.at_ h5).2
        rw [if_pos (show (dupE n a).kind = 5 from h5)]
        show (decide ((if a.kind = 5 then a.at_ + (n : Int) else a.at_) ≥ 0) && decide ((if a.kind = 5 then a.at_ + (n : Int) else a.at_) < _)) = true
        rw [if_pos h5]
        simp only [Bool.and_eq_true, decide_eq_true_eq]
        omega
      · rw [if_neg h5] at w4
        rw [if_neg (show ¬ (dupE n a).kind = 5 from h5)]
        simpa [dupE, h5] using w4
    · rw [dupN, List.pairwise_map]
      exact q2
theorem two_book (hn : b.nodes.length ≤ 99) : bookB (twoB b) = true := by
  have hb' := hb
  simp only [bookB, Bool.and_eq_true, decide_eq_true_eq] at hb'
  obtain ⟨h1, h2, h3, h4⟩ := hb'
  have hl := two_len (b := b)
  simp only [bookB, Bool.and_eq_true, decide_eq_true_eq]
  refine ⟨by omega, h2, ?_, ?_⟩
  · rw [List.all_eq_true]
    intro i hi
    have hi : i < b.roots.length := by simpa [twoB] using hi
    have h5 := List.all_eq_true.1 h3 i (List.mem_range.2 hi)
    unfold rootAt at h5 ⊢
    rw [List.getElem?_eq_getElem hi] at h5
    rw [hl]
    have e : (twoB b).roots[i]? = some b.roots[i] := by simp [twoB, hi]
    have en : (twoB b).names = b.names := rfl
    rw [e, en]
    simp only [Bool.and_eq_true, decide_eq_true_eq] at h5 ⊢
    exact ⟨h5.1, by have := h5.2.1; omega, h5.2.2⟩
  · rw [List.all_eq_true]
    intro x hx
    rw [hl]
    have hx : x ∈ b.nodes ++ b.nodes.map (dupN b.nodes.length) := hx
    rcases List.mem_append.1 hx with hx | hx
    · exact nodeB_mono (by omega) (q_node hb hx)
    · obtain ⟨y, hy, rfl⟩ := List.mem_map.1 hx
      have := dup_node hb (q_node hb hy) (fun e he => q_ge (q_node hb hy) he)
      exact_mod_cast this
theorem two_eqB (hn : b.nodes.length ≤ 49) {x y : Int} (h : inQ (twoB b).nodes.length x y) : eqB (twoB b) x y = eqB b (hI b.nodes.length x) (hI b.nodes.length y) := by
  obtain ⟨h0, h1, h2, h3⟩ := h
  have rx := hI_range h0 h1
  have ry := hI_range h2 h3
  have hl := two_len (b := b)
  rw [Bool.eq_iff_iff, eqB_bis (two_book hb (by omega)) (by omega) h0 h1 h2 h3, eqB_bis hb (by omega) rx.1 rx.2 ry.1 ry.2]
  exact two_bis hb ⟨h0, h1, h2, h3⟩
theorem two_keep (hn : b.nodes.length ≤ 49) : (keepS (twoB b)).length = (keepS b).length := by
  have hb2 := two_book hb (by omega)
  have hl := two_len (b := b)
  have hc2 := cls_length hb2
  have hc1 := cls_length hb
  have : keepS (twoB b) = keepS b := by
    have k2 : ∀ k, k < (twoB b).nodes.length → (decide ((classesS (twoB b))[k]? = some k) = true ↔ ∀ j, j < k → ¬ Bis (twoB b) (j : Int) (k : Int)) := by
      intro k hk
      rw [decide_eq_true_eq, ← keep_iff hb2, keep_char hb2 (by omega) hk]
    have k1 : ∀ k, k < b.nodes.length → (decide ((classesS b)[k]? = some k) = true ↔ ∀ j, j < k → ¬ Bis b (j : Int) (k : Int)) := by
      intro k hk
      rw [decide_eq_true_eq, ← keep_iff hb, keep_char hb (by omega) hk]
    rw [keepS, keepS, keepN, keepN, hc2, hc1, hl, List.range_add, List.filter_append]
    have e2 : List.filter (fun k => decide ((classesS (twoB b))[k]? = some k)) (List.map (fun x => b.nodes.length + x) (List.range b.nodes.length)) = [] := by
      rw [List.filter_eq_nil_iff]
      intro k hk
      obtain ⟨j, hj, rfl⟩ := List.mem_map.1 hk
      have hj := List.mem_range.1 hj
      rw [k2 _ (by omega)]
      intro hall
      refine hall j (by omega) (bis_symm ?_)
      have hc := two_copy hb (x := ((b.nodes.length + j : Nat) : Int)) (by omega) (by omega)
      have : hI b.nodes.length ((b.nodes.length + j : Nat) : Int) = (j : Int) := by unfold hI; split <;> omega
      rwa [this] at hc
    rw [e2, List.append_nil]
    apply List.filter_congr
    intro k hk
    have hk := List.mem_range.1 hk
    rw [Bool.eq_iff_iff, k2 k (by omega), k1 k hk]
    constructor
    · intro h j hj hB
      refine h j hj ((two_bis hb ⟨by omega, by omega, by omega, by omega⟩).2 ?_)
      rw [hI_lo (by omega), hI_lo (by omega)]; exact hB
    · intro h j hj hB
      have := (two_bis hb ⟨by omega, by omega, by omega, by omega⟩).1 hB
      rw [hI_lo (by omega), hI_lo (by omega)] at this
      exact h j hj this
  rw [this]
end
end Go.Sy
