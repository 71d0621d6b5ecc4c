/- The plain law of mirrors. -/
import Derived.Test.YtdjocfajcbhmgaaDoorBn1
import Derived.Test.YtdjocfajcbhmgaaDoorZ27
import Derived.Test.YtdjocfajcbhmgaaDoorBd1
import Derived.Test.YtdjocfajcbhmgaaDoorBu4
set_option linter.unusedSimpArgs false
set_option linter.unusedVariables false
set_option linter.unusedSectionVars false
namespace Go.Sy
def mirT (me : ByteArray) (t : Trn) : Trn := if t.kind = 1 then ⟨2, me, t.arms⟩ else if t.kind = 2 then ⟨1, me, t.arms⟩ else t
def mirL (me : ByteArray) (l : Loc) : Loc := ⟨l.name, (trimT l).turns.map (mirT me)⟩
def peerE (l : Loc) (me : ByteArray) : ByteArray × Int :=
  if locB l && nameB me then (if decide (1 < (peersL l).length) || hasB (peersL l) me then (⟨#[]⟩, 1201) else ((peersL l).getD 0 ⟨#[]⟩, 0)) else (⟨#[]⟩, 1200)
def ofE (l : Loc) (me : ByteArray) : Loc × Int := if (peerE l me).2 = 0 then (mirL me l, 0) else (⟨⟨#[]⟩, []⟩, (peerE l me).2)
section
variable {me : ByteArray} {l : Loc}
theorem trn_kind {n : Int} {t : Trn} (h : trnB n t = true) : t.kind = 0 ∨ ((t.kind = 1 ∨ t.kind = 2) ∧ (nameB t.peer && armsOK n t.arms) = true) := by
  unfold trnB at h
  split at h
  · exact .inl (by assumption)
  · split at h
    · exact .inr ⟨by assumption, h⟩
    · cases h
def OnePeer (a : ByteArray) (l : Loc) : Prop := ∀ t ∈ l.turns, t.kind ≠ 0 → t.peer = a
theorem trnAt_or (l : Loc) (x : Int) : trnAt l x ∈ l.turns ∨ trnAt l x = noTrn := by
  unfold trnAt
  rw [List.getD_eq_getElem?_getD]
  cases hx : l.turns[x.toNat]? with
  | none => exact .inr rfl
  | some t => exact .inl (List.mem_of_getElem? hx)
theorem one_at {a : ByteArray} (h : OnePeer a l) {x : Int} (hk : (trnAt l x).kind ≠ 0) : (trnAt l x).peer = a := by
  rcases trnAt_or l x with h1 | h1
  · exact h _ h1 hk
  · rw [h1] at hk; exact absurd rfl hk
theorem one_peers {a : ByteArray} (h : OnePeer a l) : ∀ s ∈ peersL l, s = a := fun s hs => by
  unfold peersL at hs
  split at hs
  · obtain ⟨x, _, hk, rfl⟩ := peersS_mem.1 hs
    exact one_at h hk
  · cases hs
theorem one_short {a : ByteArray} (h : OnePeer a l) : peersL l = [] ∨ peersL l = [a] := by
  have h1 := one_peers h
  have h2 := asc_nodup (peers_asc l)
  generalize peersL l = p at h1 h2
  match p, h1, h2 with
  | [], _, _ => exact .inl rfl
  | [x], h1, _ => exact .inr (by rw [h1 x List.mem_cons_self])
  | x :: y :: r, h1, h2 =>
    exfalso
    have e := (h1 x List.mem_cons_self).trans (h1 y (List.mem_cons_of_mem _ List.mem_cons_self)).symm
    subst e
    exact (List.nodup_cons.1 h2).1 List.mem_cons_self
theorem one_ok {a : ByteArray} (h : OnePeer a l) (hv : locB l = true) (hm : nameB me = true) (hne : me ≠ a) : (peerE l me).2 = 0 ∧ ofE l me = (mirL me l, 0) := by
  have hh : hasB (peersL l) me = false := by
    cases hb : hasB (peersL l) me with
    | false => rfl
    | true => exact absurd (one_peers h me (hasB_iff.1 hb)) hne
  have h1 : (peerE l me).2 = 0 := by
    unfold peerE
    rw [hv, hm, hh]
    rcases one_short h with h1 | h1 <;> rw [h1] <;> rfl
  exact ⟨h1, by unfold ofE; rw [if_pos h1]⟩
end
def liftT (me q : ByteArray) (t : Trn) : Pnt := if t.kind = 1 then ⟨me, q, t.arms⟩ else if t.kind = 2 then ⟨q, me, t.arms⟩ else noPnt
abbrev nmPair : ByteArray := ⟨#[112, 97, 105, 114]⟩
abbrev nmPeer : ByteArray := ⟨#[112, 101, 101, 114]⟩
abbrev nmPeer2 : ByteArray := ⟨#[112, 101, 101, 114, 50]⟩
def nameL (l : Loc) : ByteArray := if nameB l.name = true then l.name else nmPair
def liftP (l : Loc) (me q : ByteArray) : Prt := ⟨nameL l, [me, q], (trimT l).turns.map (liftT me q)⟩
def freshV (me : ByteArray) : ByteArray := if me = nmPeer then nmPeer2 else nmPeer
theorem nameL_ok (l : Loc) : nameB (nameL l) = true := by
  unfold nameL
  split
  · assumption
  · decide
section
variable {p : Prt} {r r' me q : ByteArray} {l : Loc}
theorem has_two : hasB [r, r'] r = true ∧ hasB [r, r'] r' = true := ⟨hasB_iff.2 (by simp), hasB_iff.2 (by simp)⟩
theorem place_two : decide (0 ≤ placeI [r, r'] r) = true ∧ decide (0 ≤ placeI [r, r'] r') = true := has_two
theorem lift_pnt {n : Int} {t : Trn} (h : trnB n t = true) (hne : me ≠ q) : pntB [me, q] n (liftT me q t) = true := by
  unfold liftT
  rcases trn_kind h with h1 | ⟨h1, h2⟩
  · rw [if_neg (by omega), if_neg (by omega)]; rfl
  · simp only [Bool.and_eq_true] at h2
    rcases h1 with h1 | h1
    · rw [if_pos h1]
      unfold pntB
      rw [place_two.1, place_two.2, decide_eq_true hne, h2.2]; simp
    · rw [if_neg (by omega), if_pos h1]
      unfold pntB
      rw [place_two.1, place_two.2, decide_eq_true (Ne.symm hne), h2.2]; simp
theorem lift_ok (h : locB l = true) (hm : nameB me = true) (hq : nameB q = true) (hne : me ≠ q) (hl : (trimT l).turns.length ≤ 24) : prtB (liftP l me q) = true := by
  have h1 := loc_len (loc_trim h)
  unfold prtB liftP
  simp only [List.length_map, List.length_cons, List.length_nil]
  rw [nameL_ok, onceB_of (by simp [hne]), decide_eq_true h1.1, decide_eq_true hl]
  have ha : (List.map (liftT me q) (trimT l).turns).all (pntB [me, q] ((trimT l).turns.length : Int)) = true := by
    rw [List.all_eq_true]
    intro x hx
    obtain ⟨t, ht, rfl⟩ := List.mem_map.1 hx
    exact lift_pnt (trn_ok (loc_trim h) t ht) hne
  rw [ha]
  simp [hm, hq]
structure Lifted (l A M B : Loc) (me q : ByteArray) (x y z u : Int) : Prop where
  rx : 0 ≤ x ∧ x < (l.turns.length : Int)
  ry : 0 ≤ y ∧ y < (A.turns.length : Int)
  rz : 0 ≤ z ∧ z < (M.turns.length : Int)
  ru : 0 ≤ u ∧ u < (B.turns.length : Int)
  ka : (trnAt l x).kind = (trnAt A y).kind
  kb : (trnAt M z).kind = (trnAt B u).kind
  peers : (trnAt A y).kind ≠ 0 → (trnAt A y).peer = q ∧ (trnAt B u).peer = me
  reach : x ∈ reachG l.g
end
end Go.Sy

/- The law TurnsTrim. -/
set_option linter.unusedSimpArgs false
set_option linter.unusedVariables false
set_option linter.unusedSectionVars false
namespace Go.Sy
open Go.Proofs
set_option maxRecDepth 100000
attribute [local irreducible] SOps Goes DOps EOps
theorem loc_ok (l : List Int) (name : ByteArray) : locB (locV name [] l 0).1 = true ∧ LocBig (locV name [] l 0).1 := by
  have h := locV_ok (name := name) (types := []) (fun t h => by cases h) (by simp) l 0
  exact ⟨h.1, h.2.1⟩
theorem trim_big {l : Loc} (h : LocBig l) : LocBig (trimT l) := by
  intro t ht a ha
  obtain ⟨x, _, rfl⟩ := List.mem_map.1 (show t ∈ List.map _ (reachG l.g) from ht)
  have ha : a ∈ movA (reachG l.g) (trnAt l x).arms := ha
  rw [movA_ren] at ha
  obtain ⟨b, hb, rfl⟩ := List.mem_map.1 ha
  have hb := risA_mem.1 hb
  unfold trnAt at hb
  rw [List.getD_eq_getElem?_getD] at hb
  cases hx : l.turns[x.toNat]? with
  | none => rw [hx] at hb; cases hb
  | some t => rw [hx] at hb; exact h t (List.mem_of_getElem? hx) b hb
theorem trim_L {l : Loc} (h : locB l = true) : trimL l = trimT l := if_pos h
end Go.Sy
