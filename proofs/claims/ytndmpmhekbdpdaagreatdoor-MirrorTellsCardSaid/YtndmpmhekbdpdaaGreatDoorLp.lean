/- The plain law of mirrors. -/
import Derived.Test.YtndmpmhekbdpdaaGreatDoorBn1
set_option linter.unusedSimpArgs false
set_option linter.unusedVariables false
set_option linter.unusedSectionVars false
namespace Go.Sy
def mirT (me : ByteArray) (t : Trn) : Trn := if t.kind = 1 then ⟨2, me, t.arms⟩ else if t.kind = 2 then ⟨1, me, t.arms⟩ else t
def mirL (me : ByteArray) (l : Loc) : Loc := ⟨l.name, (trimT l).turns.map (mirT me)⟩
def peerE (l : Loc) (me : ByteArray) : ByteArray × Int :=
  if locB l && nameB me then (if decide (1 < (peersL l).length) || hasB (peersL l) me then (⟨#[]⟩, 1201) else ((peersL l).getD 0 ⟨#[]⟩, 0)) else (⟨#[]⟩, 1200)
def ofE (l : Loc) (me : ByteArray) : Loc × Int := if (peerE l me).2 = 0 then (mirL me l, 0) else (⟨⟨#[]⟩, []⟩, (peerE l me).2)
section
variable {me : ByteArray} {l : Loc}
theorem trn_kind {n : Int} {t : Trn} (h : trnB n t = true) : t.kind = 0 ∨ ((t.kind = 1 ∨ t.kind = 2) ∧ (nameB t.peer && armsOK n t.arms) = true) := by
  unfold trnB at h
  split at h
  · exact .inl (by assumption)
  · split at h
    · exact .inr ⟨by assumption, h⟩
    · cases h
def OnePeer (a : ByteArray) (l : Loc) : Prop := ∀ t ∈ l.turns, t.kind ≠ 0 → t.peer = a
theorem trnAt_or (l : Loc) (x : Int) : trnAt l x ∈ l.turns ∨ trnAt l x = noTrn := by
  unfold trnAt
  rw [List.getD_eq_getElem?_getD]
  cases hx : l.turns[x.toNat]? with
  | none => exact .inr rfl
  | some t => exact .inl (List.mem_of_getElem? hx)
theorem one_at {a : ByteArray} (h : OnePeer a l) {x : Int} (hk : (trnAt l x).kind ≠ 0) : (trnAt l x).peer = a := by
  rcases trnAt_or l x with h1 | h1
  · exact h _ h1 hk
  · rw [h1] at hk; exact absurd rfl hk
theorem one_peers {a : ByteArray} (h : OnePeer a l) : ∀ s ∈ peersL l, s = a := fun s hs => by
  unfold peersL at hs
  split at hs
  · obtain ⟨x, _, hk, rfl⟩ := peersS_mem.1 hs
    exact one_at h hk
  · cases hs
theorem one_short {a : ByteArray} (h : OnePeer a l) : peersL l = [] ∨ peersL l = [a] := by
  have h1 := one_peers h
  have h2 := asc_nodup (peers_asc l)
  generalize peersL l = p at h1 h2
  match p, h1, h2 with
  | [], _, _ => exact .inl rfl
  | [x], h1, _ => exact .inr (by rw [h1 x List.mem_cons_self])
  | x :: y :: r, h1, h2 =>
    exfalso
    have e := (h1 x List.mem_cons_self).trans (h1 y (List.mem_cons_of_mem _ List.mem_cons_self)).symm
    subst e
    exact (List.nodup_cons.1 h2).1 List.mem_cons_self
theorem one_ok {a : ByteArray} (h : OnePeer a l) (hv : locB l = true) (hm : nameB me = true) (hne : me ≠ a) : (peerE l me).2 = 0 ∧ ofE l me = (mirL me l, 0) := by
  have hh : hasB (peersL l) me = false := by
    cases hb : hasB (peersL l) me with
    | false => rfl
    | true => exact absurd (one_peers h me (hasB_iff.1 hb)) hne
  have h1 : (peerE l me).2 = 0 := by
    unfold peerE
    rw [hv, hm, hh]
    rcases one_short h with h1 | h1 <;> rw [h1] <;> rfl
  exact ⟨h1, by unfold ofE; rw [if_pos h1]⟩
end
end Go.Sy
