/- The plain law of Shrink. -/
import Derived.Test.YthjpcefjgmklfaaDoorQj
import Derived.Test.YthjpcefjgmklfaaDoorQm
import Derived.Test.YthjpcefjgmklfaaDoorPf
set_option linter.unusedSimpArgs false
set_option linter.unusedVariables false
set_option linter.unusedSectionVars false
namespace Go.Sy

section
variable {α : Type} [DecidableEq α] {l : List α} {a : α}
theorem numI_eq (h : a ∈ l) : numI l a = l.idxOf a := if_pos h
theorem numI_lt (h : a ∈ l) : numI l a < l.length := by rw [numI_eq h]; exact List.idxOf_lt_length_iff.2 h
theorem numI_get (h : a ∈ l) : l[numI l a]? = some a := by
  have := numI_lt h
  rw [List.getElem?_eq_getElem this]
  congr 1
  simp only [numI_eq h]
  exact List.getElem_idxOf _
theorem numI_inj {c : α} (h : a ∈ l) (h' : c ∈ l) (he : numI l a = numI l c) : a = c := by
  have h1 := numI_get h
  rw [he, numI_get h'] at h1
  exact (Option.some.inj h1).symm
theorem numI_at (hn : l.Nodup) {i : Nat} (hi : i < l.length) : numI l l[i] = i := by
  rw [numI_eq (List.getElem_mem hi)]
  refine idxOf_least hi rfl fun j hj e => ?_
  have := (List.pairwise_iff_getElem.1 hn) j i (by omega) hi hj
  exact this e
end
theorem intL_num (l : List Nat) (k : Nat) : numI (intL l) (k : Int) = numI l k := by
  by_cases h : k ∈ l
  · have h' : (k : Int) ∈ intL l := List.mem_map_of_mem h
    have h1 := numI_lt h
    have h2 := numI_get h
    rw [numI_eq h']
    refine idxOf_least (by simpa using h1) ?_ fun j hj e => ?_
    · rw [List.getElem?_eq_getElem h1] at h2
      have := Option.some.inj h2
      simp [this]
    · simp only [List.getElem_map] at e
      have e : l[j]'(by omega) = k := by omega
      have h3 : l.idxOf l[j] ≤ j := idxOf_first (by omega)
      rw [e] at h3
      rw [numI_eq h] at hj
      omega
  · have h' : (k : Int) ∉ intL l := by
      intro hh
      obtain ⟨m, hm, e⟩ := List.mem_map.1 hh
      have : m = k := by omega
      exact h (this ▸ hm)
    rw [numI, numI, if_neg h, if_neg h']
theorem keepN_nodup (c : List Nat) (i : Nat) : (keepN c i).Nodup := List.Nodup.sublist List.filter_sublist List.nodup_range
theorem Bis.range {b : Bk} {x y : Int} (h : Bis b x y) : inQ b.nodes.length x y := (bis_self b x y h).1
theorem Bis.fit {b : Bk} {x y : Int} (h : Bis b x y) : FitP (Bis b) (ndE b x) (ndE b y) := (bis_self b x y h).2

section
variable {b : Bk} (hb : bookB b = true) (hn : b.nodes.length ≤ 99)
include hb
theorem keep_iff {k : Nat} : k ∈ keepS b ↔ (classesS b)[k]? = some k := by
  simp only [keepS, keepN, List.mem_filter, List.mem_range, decide_eq_true_eq]
  exact ⟨fun h => h.2, fun h => ⟨(List.getElem?_eq_some_iff.1 h).1, h⟩⟩
theorem keep_lt {k : Nat} (h : k ∈ keepS b) : k < b.nodes.length := by
  have := (List.getElem?_eq_some_iff.1 ((keep_iff hb).1 h)).1
  rwa [cls_length hb] at this
theorem keep_cl {k : Nat} (h : k ∈ keepS b) : cl (classesS b) (k : Int) = k := by
  have := (keep_iff hb).1 h
  simp [cl, this]
section
variable {x y : Int} (h0 : 0 ≤ x) (h1 : x < b.nodes.length) (h2 : 0 ≤ y) (h3 : y < b.nodes.length)
include h0 h1
theorem rep_keep : cl (classesS b) x ∈ keepS b := by
  have h2 := cls_at hb h0 h1
  rw [← cls_least hb] at h2
  have h3 := least_fix h2
  rw [cls_least hb] at h3
  exact (keep_iff hb).2 h3
theorem pl_eqN : plS b x = ((numI (keepS b) (cl (classesS b) x) : Nat) : Int) := by rw [plS, plI, intL_num]
theorem pl_range : 0 ≤ plS b x ∧ plS b x < (keepS b).length := by
  have := numI_lt (rep_keep hb h0 h1)
  rw [pl_eqN hb h0 h1]
  omega
include hn
theorem rep_bis : Bis b ((cl (classesS b) x : Nat) : Int) x := by
  have hl := cls_lt hb h0 h1
  have hx : x = (x.toNat : Int) := by omega
  have := (cls_bis hb hn (i := cl (classesS b) x) (j := x.toNat) hl (by omega)).1 (by
    rw [cls_at hb h0 h1]
    exact (keep_iff hb).1 (rep_keep hb h0 h1))
  rwa [← hx] at this
include h2 h3
theorem cl_bis : cl (classesS b) x = cl (classesS b) y ↔ Bis b x y := by
  have hx : x = (x.toNat : Int) := by omega
  have hy : y = (y.toNat : Int) := by omega
  have h := cls_bis hb hn (i := x.toNat) (j := y.toNat) (by omega) (by omega)
  rw [cls_at hb h0 h1, cls_at hb h2 h3, ← hx, ← hy] at h
  rw [← h]
  simp
theorem pl_bis : plS b x = plS b y ↔ Bis b x y := by
  rw [← cl_bis hb hn h0 h1 h2 h3, pl_eqN hb h0 h1, pl_eqN hb h2 h3]
  constructor
  · intro h
    exact numI_inj (rep_keep hb h0 h1) (rep_keep hb h2 h3) (by omega)
  · intro h; rw [h]
end
theorem shr_eq : shrinkS b = ⟨(keepS b).map fun i : Nat => shrN (plS b) (ndE b (i : Int)), b.names, b.roots.map (plS b)⟩ := by simp [shrinkS, hb]
theorem shr_len : (shrinkS b).nodes.length = (keepS b).length := by rw [shr_eq hb]; simp
theorem shr_le : (keepS b).length ≤ b.nodes.length := by
  have := keepN_len (classesS b) (classesS b).length
  rw [cls_length hb] at this
  rw [keepS, cls_length hb]; exact this
theorem shr_nd {x : Int} (h0 : 0 ≤ x) (h1 : x < b.nodes.length) : ndE (shrinkS b) (plS b x) = shrN (plS b) (ndE b ((cl (classesS b) x : Nat) : Int)) := by
  have h := numI_get (rep_keep hb h0 h1)
  rw [pl_eqN hb h0 h1, ndE, shr_eq hb]
  simp [h]
theorem shr_idx {i : Nat} (hi : i < (keepS b).length) : (keepS b)[i] < b.nodes.length ∧ plS b (((keepS b)[i] : Nat) : Int) = i := by
  have hk := List.getElem_mem hi
  have hlt := keep_lt hb hk
  refine ⟨hlt, ?_⟩
  rw [pl_eqN hb (by omega) (by omega), keep_cl hb hk, numI_at (l := keepS b) (keepN_nodup _ _) hi]

/-- A node of the shrunk book, and one of the class that it stands for. -/
structure ShrF (f : Int → Int) (y x : Nd) : Prop where
  kind : y.kind = x.kind
  peer : y.peer = x.peer
  len : y.arms.length = x.arms.length
  arm : ∀ i (h : i < y.arms.length) (h' : i < x.arms.length), y.arms[i].label = x.arms[i].label ∧ y.arms[i].kind = x.arms[i].kind ∧ y.arms[i].next = f x.arms[i].next ∧ (x.arms[i].kind = 5 → y.arms[i].at_ = f x.arms[i].at_)
include hn
theorem shr_fit {x : Int} (h0 : 0 ≤ x) (h1 : x < b.nodes.length) : ShrF (plS b) (ndE (shrinkS b) (plS b x)) (ndE b x) := by
  have hB := rep_bis hb hn h0 h1
  have hf := hB.fit
  have hg := q_gb hb
  rw [shr_nd hb h0 h1]
  refine ⟨hf.kind, hf.peer, by simpa [shrN] using hf.len, fun i h h' => ?_⟩
  have hi : i < (ndE b ((cl (classesS b) x : Nat) : Int)).arms.length := by simpa [shrN] using h
  have fa := hf.arm i hi h'
  have hr := fa.next.range
  have e : (shrN (plS b) (ndE b ((cl (classesS b) x : Nat) : Int))).arms[i] = shrE (plS b) (ndE b ((cl (classesS b) x : Nat) : Int)).arms[i] := by simp [shrN]
  rw [e]
  refine ⟨fa.label, fa.kind, (pl_bis hb hn hr.1 hr.2.1 hr.2.2.1 hr.2.2.2).2 fa.next, fun h5 => ?_⟩
  have h5' := fa.kind.trans h5
  have ha := fa.at_ h5'
  have hr := ha.range
  show (if _ then _ else _) = _
  rw [if_pos h5']
  exact (pl_bis hb hn hr.1 hr.2.1 hr.2.2.1 hr.2.2.2).2 ha

theorem shr_back {x y : Int} (hxy : inQ b.nodes.length x y) (h : Bis (shrinkS b) (plS b x) (plS b y)) : Bis b x y := by
  refine ⟨fun x y => inQ b.nodes.length x y ∧ Bis (shrinkS b) (plS b x) (plS b y), ?_, hxy, h⟩
  rintro x y ⟨⟨h0, h1, h2, h3⟩, hxy⟩
  have f := hxy.fit
  have fx := shr_fit hb hn h0 h1
  have fy := shr_fit hb hn h2 h3
  have gx := (q_gb hb).at h0 h1
  have gy := (q_gb hb).at h2 h3
  have hlen : (ndE b x).arms.length = (ndE b y).arms.length := by rw [← fx.len, ← fy.len, f.len]
  refine ⟨⟨h0, h1, h2, h3⟩, by rw [← fx.kind, ← fy.kind, f.kind], by rw [← fx.peer, ← fy.peer, f.peer], hlen, fun i hi hi' => ?_⟩
  have hi1 : i < (ndE (shrinkS b) (plS b x)).arms.length := by rw [fx.len]; exact hi
  have hi2 : i < (ndE (shrinkS b) (plS b y)).arms.length := by rw [fy.len]; exact hi'
  obtain ⟨a1, a2, a3, a4⟩ := fx.arm i hi1 hi
  obtain ⟨c1, c2, c3, c4⟩ := fy.arm i hi2 hi'
  have fa := f.arm i hi1 hi2
  have ga := gx.arm _ (List.getElem_mem hi)
  have gc := gy.arm _ (List.getElem_mem hi')
  have hk : (ndE b x).arms[i].kind = (ndE b y).arms[i].kind := by rw [← a2, ← c2, fa.kind]
  refine ⟨by rw [← a1, ← c1, fa.label], hk, ⟨⟨ga.nx.1, ga.nx.2, gc.nx.1, gc.nx.2⟩, ?_⟩, fun h5 => ⟨⟨(ga.at_ h5).1, (ga.at_ h5).2, (gc.at_ (hk ▸ h5)).1, (gc.at_ (hk ▸ h5)).2⟩, ?_⟩⟩
  · rw [← a3, ← c3]; exact fa.next
  · rw [← a4 h5, ← c4 (hk ▸ h5)]
    exact fa.at_ (a2.trans h5)

/-! The shrunk book is valid. -/
omit hn in
theorem shr_nodeB {k : Nat} (hk : k < b.nodes.length) : nodeB (keepS b).length (shrN (plS b) (ndE b (k : Int))) = true := by
  rw [ndE_nat hk]
  have hN := q_node hb (List.getElem_mem hk)
  have hE := fun e he => q_ge hN (e := e) he
  generalize b.nodes[k] = x at *
  unfold nodeB at hN ⊢
  split at hN
  · rename_i h0
    rw [if_pos (show (shrN (plS b) x).kind = 0 from h0)]
    simp only [Bool.and_eq_true, decide_eq_true_eq] at hN ⊢
    exact ⟨hN.1, by show (x.arms.map (shrE (plS b))).length = 0; rw [List.length_map]; exact hN.2⟩
  · rename_i h0
    rw [if_neg (show ¬ (shrN (plS b) x).kind = 0 from h0)]
    simp only [Bool.and_eq_true] at hN ⊢
    obtain ⟨g1, g2, g3, g4, g5⟩ := hN
    refine ⟨g1, g2, by simpa [shrN] using g3, by simpa [shrN] using g4, ?_⟩
    obtain ⟨q1, q2⟩ := armsB_iff.1 g5
    refine armsB_iff.2 ⟨fun e he => ?_, ?_⟩
    · obtain ⟨a, ha, rfl⟩ := List.mem_map.1 he
      obtain ⟨w1, w2, w3, w4⟩ := q1 a ha
      have hr := pl_range hb w2 w3
      refine ⟨w1, hr.1, hr.2, ?_⟩
      have hg := hE a ha
      unfold sortB at w4 ⊢
      by_cases h5 : a.kind = 5
      · have hr5 := pl_range hb (hg.at_ h5).1 (hg.at_ h5).2
        rw [if_pos (show (shrE (plS b) a).kind = 5 from h5)]
        show (decide ((if a.kind = 5 then plS b a.at_ else a.at_) ≥ 0) && decide ((if a.kind = 5 then plS b a.at_ else a.at_) < _)) = true
        rw [if_pos h5]
        simp [hr5.1, hr5.2]
      · rw [if_neg h5] at w4
        rw [if_neg (show ¬ (shrE (plS b) a).kind = 5 from h5)]
        simpa [shrE, h5] using w4
    · rw [shrN, List.pairwise_map]
      exact q2
omit hn in
theorem shr_book : bookB (shrinkS b) = true := by
  have hb' := hb
  simp only [bookB, Bool.and_eq_true, decide_eq_true_eq] at hb'
  obtain ⟨h1, h2, h3, h4⟩ := hb'
  have hle := shr_le hb
  have hlen := shr_len hb
  simp only [bookB, Bool.and_eq_true, decide_eq_true_eq]
  refine ⟨by omega, by rw [shr_eq hb]; simpa using h2, ?_, ?_⟩
  · rw [List.all_eq_true]
    intro i hi
    have hi : i < b.roots.length := by rw [shr_eq hb] at hi; simpa using hi
    have h5 := List.all_eq_true.1 h3 i (List.mem_range.2 hi)
    obtain ⟨r0, r1⟩ := q_root hb hi
    have hr := pl_range hb r0 r1
    unfold rootAt at h5 ⊢
    rw [List.getElem?_eq_getElem hi] at h5
    rw [hlen]
    have e : (shrinkS b).roots[i]? = some (plS b b.roots[i]) := by rw [shr_eq hb]; simp [hi]
    have en : (shrinkS b).names = b.names := by rw [shr_eq hb]
    rw [e, en]
    simp only [Bool.and_eq_true, decide_eq_true_eq] at h5 ⊢
    exact ⟨hr.1, hr.2, h5.2.2⟩
  · rw [List.all_eq_true]
    intro x hx
    rw [hlen]
    rw [shr_eq hb] at hx
    obtain ⟨k, hk, rfl⟩ := List.mem_map.1 hx
    exact shr_nodeB hb (keep_lt hb hk)

/-! It has no two equal nodes, and shrinks to itself. -/
theorem shr_cls {i : Nat} (hi : i < (keepS b).length) : (classesS (shrinkS b))[i]? = some i := by
  have hB := shr_book hb
  have hlen := shr_len hb
  have hle := shr_le hb
  have hn' : (shrinkS b).nodes.length ≤ 99 := by omega
  have h1 : ((i : Int)) < (shrinkS b).nodes.length := by omega
  have hat := cls_at hB (x := (i : Int)) (by omega) h1
  have hbis := rep_bis hB hn' (x := (i : Int)) (by omega) h1
  have hlt := cls_lt hB (x := (i : Int)) (by omega) h1
  obtain ⟨k, hk⟩ : ∃ k, cl (classesS (shrinkS b)) (i : Int) = k := ⟨_, rfl⟩
  rw [hk] at hat hbis hlt
  have hkl : k < (keepS b).length := by omega
  obtain ⟨p1, p2⟩ := shr_idx hb hkl
  obtain ⟨q1, q2⟩ := shr_idx hb hi
  rw [← p2, ← q2] at hbis
  have := shr_back hb hn ⟨by omega, by omega, by omega, by omega⟩ hbis
  have he := (pl_bis hb hn (by omega) (by omega) (by omega) (by omega)).2 this
  rw [p2, q2] at he
  have : k = i := by omega
  subst this
  simpa using hat
theorem shr_keep : keepS (shrinkS b) = List.range (keepS b).length := by
  have hB := shr_book hb
  have hl := cls_length hB
  rw [keepS, hl, shr_len hb, keepN]
  rw [List.filter_eq_self]
  intro k hk
  simpa using shr_cls hb hn (List.mem_range.1 hk)
theorem shr_pl {x : Int} (h0 : 0 ≤ x) (h1 : x < (keepS b).length) : plS (shrinkS b) x = x := by
  have hB := shr_book hb
  have hlen := shr_len hb
  have hc : cl (classesS (shrinkS b)) x = x.toNat := by
    have := shr_cls hb hn (i := x.toNat) (by omega)
    simp [cl, this]
  rw [pl_eqN hB h0 (by omega), shr_keep hb hn, hc]
  have := numI_at (l := List.range (keepS b).length) List.nodup_range (i := x.toNat) (by simp; omega)
  simp only [List.getElem_range] at this
  rw [this]; omega
theorem shr_shr : shrinkS (shrinkS b) = shrinkS b := by
  have hB := shr_book hb
  have hlen := shr_len hb
  rw [shr_eq hB, shr_keep hb hn]
  have hN : (List.range (keepS b).length).map (fun i : Nat => shrN (plS (shrinkS b)) (ndE (shrinkS b) (i : Int))) = (shrinkS b).nodes := by
    apply List.ext_getElem (by simp [hlen])
    intro i h1 h2
    simp only [List.getElem_map, List.getElem_range]
    rw [ndE_nat h2]
    have hg := q_gn (q_node hB (List.getElem_mem h2))
    generalize (shrinkS b).nodes[i] = x at *
    have : x.arms.map (shrE (plS (shrinkS b))) = x.arms := by
      apply List.ext_getElem (by simp)
      intro j j1 j2
      simp only [List.getElem_map]
      have ga := hg.arm _ (List.getElem_mem j2)
      generalize x.arms[j] = a at *
      rw [hlen] at ga
      have e1 := shr_pl hb hn ga.nx.1 ga.nx.2
      obtain ⟨la, k, at_, nx⟩ := a
      simp only [shrE] at e1 ⊢
      rw [e1]
      by_cases h5 : k = 5
      · have e2 := shr_pl hb hn (ga.at_ h5).1 (ga.at_ h5).2
        rw [if_pos h5]
        simp only at e2
        rw [e2]
      · rw [if_neg h5]
    obtain ⟨k, p, arms⟩ := x
    simp only [shrN] at this ⊢
    rw [this]
  have hR : (shrinkS b).roots.map (plS (shrinkS b)) = (shrinkS b).roots := by
    apply List.ext_getElem (by simp)
    intro j j1 j2
    simp only [List.getElem_map]
    have := q_root hB j2
    rw [hlen] at this
    exact shr_pl hb hn this.1 this.2
  rw [hN, hR]
end
end Go.Sy
