/- The plain law of TurnsMixed: a type whose turns are permuted. -/
import Derived.Test.YtadimhaolhpglaaBn1
set_option linter.unusedSimpArgs false
set_option linter.unusedVariables false
set_option linter.unusedSectionVars false
namespace Go.Sy

def phiP (place : List Int) (x : Int) : Int := place.getD x.toNat 0
def mixA (place : List Int) (t : Trn) : Trn := ⟨t.kind, t.peer, t.arms.reverse.map (renA (phiP place))⟩
def mixT (place : List Int) (ts : List Trn) (k : Nat) : List (Option Trn) :=
  (List.range ts.length).map fun j : Nat => if place.idxOf (j : Int) < k then some (mixA place (ts.getD (place.idxOf (j : Int)) noTrn)) else none
def mixCs : Option Trn → List CT
  | none => [.int .i64 0, .str ⟨#[]⟩, .nils]
  | some t => t.cs
def mixL (place : List Int) (ts : List Trn) : Loc := ⟨⟨#[117]⟩, (List.range ts.length).map fun j : Nat => mixA place (ts.getD (place.idxOf (j : Int)) noTrn)⟩
/-- A permutation that keeps 0. -/
structure PermP (n : Nat) (place : List Int) : Prop where
  perm : place.Perm ((List.range n).map Int.ofNat)
  zero : 0 < n → place[0]? = some 0
section
variable {n : Nat} {place : List Int} (h : PermP n place)
include h
theorem PermP.len : place.length = n := by rw [h.perm.length_eq]; simp
theorem PermP.nodup : place.Nodup := by
  rw [h.perm.nodup_iff, List.nodup_iff_pairwise_ne, List.pairwise_map]
  exact (List.nodup_iff_pairwise_ne.1 List.nodup_range).imp fun {a b} hab e => hab (Int.ofNat_inj.1 e)
theorem PermP.mem {j : Nat} (hj : j < n) : (j : Int) ∈ place := h.perm.mem_iff.2 (List.mem_map.2 ⟨j, List.mem_range.2 hj, rfl⟩)
theorem PermP.range {x : Int} (hx : x ∈ place) : 0 ≤ x ∧ x < (n : Int) := by
  obtain ⟨j, hj, rfl⟩ := List.mem_map.1 (h.perm.mem_iff.1 hx)
  have := List.mem_range.1 hj
  exact ⟨Int.natCast_nonneg j, Int.ofNat_lt.2 this⟩
theorem PermP.idx {j : Nat} (hj : j < n) : place.idxOf (j : Int) < n := by
  have := List.idxOf_lt_length_iff.2 (h.mem hj)
  rwa [h.len] at this
theorem PermP.get {x : Int} (hx : 0 ≤ x ∧ x < (n : Int)) : ∃ hl : x.toNat < place.length, phiP place x = place[x.toNat] ∧ 0 ≤ phiP place x ∧ phiP place x < (n : Int) := by
  have hl : x.toNat < place.length := by rw [h.len]; omega
  have e : phiP place x = place[x.toNat] := by unfold phiP; rw [List.getD_eq_getElem?_getD, List.getElem?_eq_getElem hl]; rfl
  refine ⟨hl, e, ?_⟩
  rw [e]; exact h.range (List.getElem_mem hl)
theorem PermP.inj {x y : Int} (hx : 0 ≤ x ∧ x < (n : Int)) (hy : 0 ≤ y ∧ y < (n : Int)) (e : phiP place x = phiP place y) : x = y := by
  obtain ⟨l1, e1, _⟩ := h.get hx
  obtain ⟨l2, e2, _⟩ := h.get hy
  rw [e1, e2] at e
  have := (List.getElem_inj h.nodup).1 e
  omega
end
theorem perm_id (n : Nat) : PermP n ((List.range n).map Int.ofNat) := ⟨.refl _, fun hn => by
  rw [List.getElem?_map, List.getElem?_range hn]; rfl⟩
theorem swap_perm {l : List Int} {a b : Nat} (ha : a < l.length) (hb : b < l.length) : ((l.set a l[b]).set b l[a]).Perm l := by
  have h := Array.swap_perm (xs := l.toArray) (i := a) (j := b) (by simpa using ha) (by simpa using hb)
  have h2 := h.toList
  rw [Array.swap_def] at h2
  simpa using h2
theorem PermP.swap {n : Nat} {place : List Int} (h : PermP n place) {a b : Nat} (ha : a < place.length) (hb : b < place.length) (ha1 : 1 ≤ a) (hb1 : 1 ≤ b) : PermP n ((place.set a place[b]).set b place[a]) :=
  ⟨(swap_perm ha hb).trans h.perm, fun hn => by rw [List.getElem?_set_ne (by omega), List.getElem?_set_ne (by omega)]; exact h.zero hn⟩

section
variable {place : List Int} {ts : List Trn} (h : PermP ts.length place)
include h
theorem mixT_zero : (mixT place ts 0).map mixCs = List.replicate ts.length [.int .i64 0, .str ⟨#[]⟩, .nils] := by
  unfold mixT
  rw [List.map_map, List.eq_replicate_iff]
  refine ⟨by simp, fun b hb => ?_⟩
  obtain ⟨j, _, rfl⟩ := List.mem_map.1 hb
  simp [mixCs]
theorem mixT_len (k : Nat) : (mixT place ts k).length = ts.length := by simp [mixT]
theorem mixT_set {k : Nat} (hk : k < ts.length) : ((mixT place ts k).map mixCs).set (place[k]'(by rw [h.len]; exact hk)).toNat (mixA place ts[k]).cs = (mixT place ts (k + 1)).map mixCs := by
  have hkl : k < place.length := by rw [h.len]; exact hk
  have hr := h.range (List.getElem_mem hkl)
  apply List.ext_getElem?
  intro j
  rw [List.getElem?_set]
  by_cases hj : j < ts.length
  · have hix := h.idx hj
    have hil : place.idxOf (j : Int) < place.length := by rw [h.len]; exact hix
    have hge : place[place.idxOf (j : Int)] = (j : Int) := List.getElem_idxOf hil
    unfold mixT
    simp only [List.length_map, List.length_range, List.getElem?_map, List.getElem?_range hj, Option.map_some]
    by_cases e : place[k].toNat = j
    · have e2 : place[k] = (j : Int) := by omega
      have e3 : place.idxOf (j : Int) = k := by rw [← e2]; exact h.nodup.idxOf_getElem k hkl
      rw [if_pos e, if_pos (by omega), e3, if_pos (by omega), List.getD_eq_getElem?_getD, List.getElem?_eq_getElem hk]
      rfl
    · rw [if_neg e]
      have hne : place.idxOf (j : Int) ≠ k := fun e2 => by
        subst e2
        rw [hge] at e; omega
      by_cases hlt : place.idxOf (j : Int) < k
      · rw [if_pos hlt, if_pos (by omega)]
      · rw [if_neg hlt, if_neg (by omega)]
  · have h1 : ((mixT place ts k).map mixCs)[j]? = none := List.getElem?_eq_none (by simp [mixT]; omega)
    have h2 : ((mixT place ts (k + 1)).map mixCs)[j]? = none := List.getElem?_eq_none (by simp [mixT]; omega)
    rw [h1, h2]
    split
    · rw [if_neg (by simp [mixT]; omega)]
    · rfl
theorem mixT_all : (mixT place ts ts.length).map mixCs = (mixL place ts).turns.map Trn.cs := by
  unfold mixT mixL
  rw [List.map_map, List.map_map]
  refine List.map_congr_left fun j hj => ?_
  have := h.idx (List.mem_range.1 hj)
  simp [this, mixCs]
end
section
variable {l : Loc} {place : List Int} (hv : locB l = true) (h : PermP l.turns.length place)
include hv h
theorem mix_at {x : Int} (hx : 0 ≤ x ∧ x < (l.turns.length : Int)) : trnAt (mixL place l.turns) (phiP place x) = mixA place (trnAt l x) := by
  obtain ⟨hl, e, h0, h1⟩ := h.get hx
  unfold trnAt mixL
  have e0 : ((phiP place x).toNat : Int) = place[x.toNat] := by rw [← e]; omega
  rw [List.getD_eq_getElem?_getD, List.getElem?_map, List.getElem?_range (by omega)]
  simp only [Option.map_some, Option.getD_some]
  rw [e0, h.nodup.idxOf_getElem _ hl]
theorem mix_arms (t : Trn) (ht : t ∈ l.turns) : ∀ a ∈ t.arms, 0 ≤ phiP place a.next ∧ phiP place a.next < (l.turns.length : Int) := fun a ha => by
  rcases trn_arms (trn_ok hv t ht) with h1 | h1
  · rw [h1] at ha; cases ha
  · obtain ⟨_, _, h2⟩ := h.get (arm_next ((arms_all h1).2.1 a ha))
    exact h2
theorem mix_ok {t : Trn} (ht : t ∈ l.turns) : trnB l.turns.length (mixA place t) = true := by
  have h0 := trn_ok hv t ht
  have hx := mix_arms hv h t ht
  unfold trnB at h0 ⊢
  split at h0
  · rename_i hk
    rw [if_pos (show (mixA place t).kind = 0 from hk)]
    simp only [Bool.and_eq_true, List.isEmpty_iff] at h0
    show (decide (t.peer = ⟨#[]⟩) && (List.map (renA (phiP place)) t.arms.reverse).isEmpty) = true
    rw [h0.2]
    simpa using h0.1
  · rename_i hk
    rw [if_neg (show ¬ (mixA place t).kind = 0 from hk)]
    split at h0
    · rename_i hk2
      rw [if_pos (show (mixA place t).kind = 1 ∨ (mixA place t).kind = 2 from hk2)]
      show (nameB t.peer && armsOK l.turns.length (List.map (renA (phiP place)) t.arms.reverse)) = true
      simp only [Bool.and_eq_true] at h0 ⊢
      refine ⟨h0.1, ?_⟩
      obtain ⟨⟨h1, h2⟩, h3, h4⟩ := arms_all h0.2
      simp only [armsOK, Bool.and_eq_true, decide_eq_true_eq, List.all_eq_true, List.length_map, List.length_reverse]
      refine ⟨h1, h2, fun a ha => ?_, ?_⟩
      · obtain ⟨b, hb, rfl⟩ := List.mem_map.1 ha
        have hb := List.mem_reverse.1 hb
        have h5 := h3 b hb
        have h6 := hx b hb
        simp only [armB, Bool.and_eq_true, decide_eq_true_eq] at h5 ⊢
        exact ⟨h5.1, h5.2.1, h6.1, h6.2⟩
      · rw [List.map_map]
        show ((t.arms.reverse).map Arm.label).Nodup
        exact ((List.reverse_perm t.arms).map Arm.label).nodup_iff.2 h4
    · cases h0
theorem mix_mem {t : Trn} (ht : t ∈ (mixL place l.turns).turns) : ∃ s ∈ l.turns, t = mixA place s := by
  obtain ⟨j, hj, rfl⟩ := List.mem_map.1 (show t ∈ List.map _ _ from ht)
  have hi := h.idx (List.mem_range.1 hj)
  refine ⟨l.turns[place.idxOf (j : Int)], List.getElem_mem hi, ?_⟩
  rw [List.getD_eq_getElem?_getD, List.getElem?_eq_getElem hi]; rfl
theorem mix_len : (mixL place l.turns).turns.length = l.turns.length := by simp [mixL]
theorem mix_loc : locB (mixL place l.turns) = true := by
  have hl := loc_len hv
  unfold locB
  rw [mix_len hv h, decide_eq_true hl.1, decide_eq_true hl.2, Bool.true_and, Bool.true_and, List.all_eq_true]
  intro t ht
  obtain ⟨s, hs, rfl⟩ := mix_mem hv h ht
  exact mix_ok hv h hs
theorem mix_facts : phiP place 0 = 0 ∧ (∀ x ∈ reachG l.g, ∀ y ∈ reachG l.g, phiP place x = phiP place y → x = y) ∧
    (∀ x ∈ reachG l.g, (trnAt (mixL place l.turns) (phiP place x)).kind = (trnAt l x).kind ∧ (trnAt (mixL place l.turns) (phiP place x)).peer = (trnAt l x).peer ∧
      risA (trnAt (mixL place l.turns) (phiP place x)).arms = (risA (trnAt l x).arms).map (renA (phiP place))) := by
  obtain ⟨hg, h0, hu⟩ := loc_g hv
  have hln := loc_len hv
  have hgl : l.g.length = l.turns.length := by simp [Loc.g]
  have hp : ∀ x ∈ reachG l.g, 0 ≤ x ∧ x < (l.turns.length : Int) := fun x hx => by rw [← hgl]; exact reach_pos hg h0 hx
  refine ⟨?_, fun x hx y hy e => h.inj (hp x hx) (hp y hy) e, fun x hx => ?_⟩
  · unfold phiP
    rw [List.getD_eq_getElem?_getD, Int.toNat_zero, h.zero (by omega)]; rfl
  · rw [mix_at hv h (hp x hx)]
    refine ⟨rfl, rfl, ?_⟩
    show risA ((trnAt l x).arms.reverse.map (renA (phiP place))) = _
    rw [risA_ren]
    congr 1
    have hn := hu x
    rw [armsAt_loc] at hn
    exact (risA_eq (List.reverse_perm _).symm hn).symm
theorem mix_trim : (trimT (mixL place l.turns)).turns = (trimT l).turns := by
  obtain ⟨f1, f2, f3⟩ := mix_facts hv h
  obtain ⟨hg, h0, _⟩ := loc_g hv
  have hgl : l.g.length = l.turns.length := by simp [Loc.g]
  exact trim_ren hv f1 f2 f3 (by rw [mix_len hv h, ← hgl]; exact (reach_ok hg h0).1.len)
theorem mix_reach : reachG (mixL place l.turns).g = (reachG l.g).map (phiP place) := by
  obtain ⟨f1, f2, f3⟩ := mix_facts hv h
  obtain ⟨hg, h0, _⟩ := loc_g hv
  have hgl : l.g.length = l.turns.length := by simp [Loc.g]
  refine reach_ren sLt_irr sLt_trans hg h0 f1 f2 (fun x hx => by rw [armsAt_loc, armsAt_loc]; exact (f3 x hx).2.2) ?_
  have := (reach_ok hg h0).1.len
  simp [Loc.g, mixL] at this ⊢; exact this
theorem mix_same : sameL l (mixL place l.turns) = true ∧ sameL (mixL place l.turns) l = true := by
  simp [sameL, hv, mix_loc hv h, mix_trim hv h]
theorem mix_peers : peersL (mixL place l.turns) = peersL l := by
  refine asc_ext (peers_asc _) (peers_asc _) fun s => ?_
  rw [peers_L hv, peers_L (mix_loc hv h), peersS_mem, peersS_mem, mix_reach hv h]
  obtain ⟨_, _, f3⟩ := mix_facts hv h
  constructor
  · rintro ⟨y, hy, hk, e⟩
    obtain ⟨x, hx, rfl⟩ := List.mem_map.1 hy
    exact ⟨x, hx, by rw [← (f3 x hx).1]; exact hk, by rw [← (f3 x hx).2.1]; exact e⟩
  · rintro ⟨x, hx, hk, e⟩
    exact ⟨_, List.mem_map.2 ⟨x, hx, rfl⟩, by rw [(f3 x hx).1]; exact hk, by rw [(f3 x hx).2.1]; exact e⟩
end
end Go.Sy
