/- The plain law of MirrorLifts: the lifted protocol is valid; its projections, the type and its mirror walk side by side. -/
import Derived.Test.YtademmkjmpgplaaGreatDoorJw
import Derived.Test.YtademmkjmpgplaaGreatDoorMj5
import Derived.Test.YtademmkjmpgplaaGreatDoorLp
set_option linter.unusedSimpArgs false
set_option linter.unusedVariables false
set_option linter.unusedSectionVars false
namespace Go.Sy
def liftT (me q : ByteArray) (t : Trn) : Pnt := if t.kind = 1 then ⟨me, q, t.arms⟩ else if t.kind = 2 then ⟨q, me, t.arms⟩ else noPnt
abbrev nmPair : ByteArray := ⟨#[112, 97, 105, 114]⟩
abbrev nmPeer : ByteArray := ⟨#[112, 101, 101, 114]⟩
abbrev nmPeer2 : ByteArray := ⟨#[112, 101, 101, 114, 50]⟩
def nameL (l : Loc) : ByteArray := if nameB l.name = true then l.name else nmPair
def liftP (l : Loc) (me q : ByteArray) : Prt := ⟨nameL l, [me, q], (trimT l).turns.map (liftT me q)⟩
def freshV (me : ByteArray) : ByteArray := if me = nmPeer then nmPeer2 else nmPeer
theorem nameL_ok (l : Loc) : nameB (nameL l) = true := by
  unfold nameL
  split
  · assumption
  · decide
section
variable {p : Prt} {r r' me q : ByteArray} {l : Loc}
theorem lift_arms {n : Int} {t : Trn} (h : trnB n t = true) : (liftT me q t).arms = t.arms := by
  unfold liftT
  rcases trn_kind h with h1 | ⟨h1 | h1, _⟩
  · rw [if_neg (by omega), if_neg (by omega)]
    unfold trnB at h
    rw [if_pos h1] at h
    simp only [Bool.and_eq_true, List.isEmpty_iff] at h
    rw [h.2]; rfl
  · rw [if_pos h1]
  · rw [if_neg (by omega), if_pos h1]
theorem lift_g (h : locB l = true) : (liftP l me q).g = trimG l.g := by
  rw [← trimT_g]
  unfold Prt.g Loc.g liftP
  simp only
  rw [List.map_map]
  exact List.map_congr_left fun t ht => lift_arms (trn_ok (loc_trim h) t ht)
theorem has_two : hasB [r, r'] r = true ∧ hasB [r, r'] r' = true := ⟨hasB_iff.2 (by simp), hasB_iff.2 (by simp)⟩
theorem place_two : decide (0 ≤ placeI [r, r'] r) = true ∧ decide (0 ≤ placeI [r, r'] r') = true := has_two
theorem lift_pnt {n : Int} {t : Trn} (h : trnB n t = true) (hne : me ≠ q) : pntB [me, q] n (liftT me q t) = true := by
  unfold liftT
  rcases trn_kind h with h1 | ⟨h1, h2⟩
  · rw [if_neg (by omega), if_neg (by omega)]; rfl
  · simp only [Bool.and_eq_true] at h2
    rcases h1 with h1 | h1
    · rw [if_pos h1]
      unfold pntB
      rw [place_two.1, place_two.2, decide_eq_true hne, h2.2]; simp
    · rw [if_neg (by omega), if_pos h1]
      unfold pntB
      rw [place_two.1, place_two.2, decide_eq_true (Ne.symm hne), h2.2]; simp
theorem lift_ok (h : locB l = true) (hm : nameB me = true) (hq : nameB q = true) (hne : me ≠ q) (hl : (trimT l).turns.length ≤ 24) : prtB (liftP l me q) = true := by
  have h1 := loc_len (loc_trim h)
  unfold prtB liftP
  simp only [List.length_map, List.length_cons, List.length_nil]
  rw [nameL_ok, onceB_of (by simp [hne]), decide_eq_true h1.1, decide_eq_true hl]
  have ha : (List.map (liftT me q) (trimT l).turns).all (pntB [me, q] ((trimT l).turns.length : Int)) = true := by
    rw [List.all_eq_true]
    intro x hx
    obtain ⟨t, ht, rfl⟩ := List.mem_map.1 hx
    exact lift_pnt (trn_ok (loc_trim h) t ht) hne
  rw [ha]
  simp [hm, hq]
theorem two_kindG (hv : prtB p = true) (hro : p.roles = [r, r']) (y : Int) : ((pntAt p y).from_ = ⟨#[]⟩ ∧ (pntAt p y).to = ⟨#[]⟩ ∧ (pntAt p y).arms.length = 0) ∨
    (0 < (pntAt p y).arms.length ∧ (((pntAt p y).from_ = r ∧ (pntAt p y).to = r') ∨ ((pntAt p y).from_ = r' ∧ (pntAt p y).to = r))) := by
  rcases pntAt_or p y with hm | hm
  · rcases pnt_kind (prt_pnt hv _ hm) with ⟨e1, e2, e3⟩ | ⟨h1, h2, h3, h4⟩
    · exact .inl ⟨e1, e2, by rw [e3]; rfl⟩
    · refine .inr ⟨arms_pos h4, ?_⟩
      rw [hro] at h1 h2
      simp only [List.mem_cons, List.not_mem_nil, or_false] at h1 h2
      rcases h1 with e1 | e1 <;> rcases h2 with e2 | e2
      · exact absurd (e1.trans e2.symm) h3
      · exact .inl ⟨e1, e2⟩
      · exact .inr ⟨e1, e2⟩
      · exact absurd (e1.trans e2.symm) h3
  · rw [hm]; exact .inl ⟨rfl, rfl, rfl⟩
theorem two_okG (hv : prtB p = true) (hro : p.roles = [r, r']) (hne : r ≠ r') (h1 : r ≠ ⟨#[]⟩) (h2 : r' ≠ ⟨#[]⟩) :
    TwoP p r ∧ TwoP p r' ∧ ∀ y, (pntAt p y).arms.length ≠ 0 → ∃ b, sideAt p r y = (b, r') ∧ sideAt p r' y = (!b, r) := by
  have hab : ∀ s ∈ ([r, r'] : List ByteArray), ∀ x, inP (pntAt p x) s = decide (0 < (pntAt p x).arms.length) := fun s hs x => by
    unfold inP
    simp only [List.mem_cons, List.not_mem_nil, or_false] at hs
    rcases two_kindG hv hro x with ⟨e1, e2, e3⟩ | ⟨h, ⟨e1, e2⟩ | ⟨e1, e2⟩⟩
    · rw [e1, e2, e3]; rcases hs with rfl | rfl <;> simp [Ne.symm h1, Ne.symm h2]
    · rw [e1, e2, decide_eq_true h]; rcases hs with rfl | rfl <;> simp
    · rw [e1, e2, decide_eq_true h]; rcases hs with rfl | rfl <;> simp
  refine ⟨⟨hv, by rw [hro]; exact has_two.1, hab _ (by simp)⟩, ⟨hv, by rw [hro]; exact has_two.2, hab _ (by simp)⟩, fun y hy => ?_⟩
  unfold sideAt sideL
  rcases two_kindG hv hro y with ⟨_, _, e3⟩ | ⟨_, ⟨e1, e2⟩ | ⟨e1, e2⟩⟩
  · exact absurd e3 hy
  · exact ⟨true, by rw [if_pos e1, e2], by rw [if_neg (by rw [e1]; exact hne), e1]; rfl⟩
  · exact ⟨false, by rw [if_neg (by rw [e1]; exact Ne.symm hne), e1], by rw [if_pos e1, e2]; rfl⟩
theorem at2_kind {role : ByteArray} (h : TwoP p role) {S : List (List Int)} {l : Loc} (hP : Proj p role S l) {y t : Int} (ha : At2 p S y t) :
    ((pntAt p y).arms.length = 0 → trnAt l t = noTrn) ∧ ((pntAt p y).arms.length ≠ 0 → (trnAt l t).kind = kindOf (sideAt p role y).1 ∧ (trnAt l t).peer = (sideAt p role y).2) := by
  obtain ⟨h0, h1, h2⟩ := ha
  obtain ⟨ht, _⟩ := hP.at h0 h1
  unfold oneS at ht
  refine ⟨fun hz => ?_, fun hz => ?_⟩
  · rw [if_pos hz] at ht
    rcases ht with ⟨_, et⟩ | ⟨hne, _⟩
    · exact et
    · exact absurd rfl hne
  · rw [if_neg hz] at ht
    rcases ht with ⟨e, _⟩ | ⟨_, hact⟩
    · cases e
    · rw [hact.side y (List.mem_singleton.2 rfl)]
      refine ⟨?_, rfl⟩
      rcases hact.kind with e | e
      · rw [e]; rfl
      · rw [e]; rfl
theorem lift_at {z : Int} (hz : 0 ≤ z ∧ z < ((trimT l).turns.length : Int)) : pntAt (liftP l me q) z = liftT me q (trnAt (trimT l) z) := by
  have hlt : z.toNat < (trimT l).turns.length := by omega
  unfold pntAt trnAt liftP
  simp only
  rw [List.getD_eq_getElem?_getD, List.getD_eq_getElem?_getD, List.getElem?_map, List.getElem?_eq_getElem hlt]
  rfl
theorem side_lift1 (hne : me ≠ q) {t : Trn} (h : t.kind = 1) : sideL me (liftT me q t) = (true, q) ∧ sideL q (liftT me q t) = (false, me) := by
  have e : liftT me q t = ⟨me, q, t.arms⟩ := by unfold liftT; rw [if_pos h]
  rw [e]
  exact ⟨if_pos rfl, if_neg hne⟩
theorem side_lift2 (hne : me ≠ q) {t : Trn} (h : t.kind = 2) : sideL me (liftT me q t) = (false, q) ∧ sideL q (liftT me q t) = (true, me) := by
  have e : liftT me q t = ⟨q, me, t.arms⟩ := by unfold liftT; rw [if_neg (by omega), if_pos h]
  rw [e]
  exact ⟨if_neg (Ne.symm hne), if_pos rfl⟩
structure Lifted (l A M B : Loc) (me q : ByteArray) (x y z u : Int) : Prop where
  rx : 0 ≤ x ∧ x < (l.turns.length : Int)
  ry : 0 ≤ y ∧ y < (A.turns.length : Int)
  rz : 0 ≤ z ∧ z < (M.turns.length : Int)
  ru : 0 ≤ u ∧ u < (B.turns.length : Int)
  ka : (trnAt l x).kind = (trnAt A y).kind
  kb : (trnAt M z).kind = (trnAt B u).kind
  peers : (trnAt A y).kind ≠ 0 → (trnAt A y).peer = q ∧ (trnAt B u).peer = me
  reach : x ∈ reachG l.g
theorem lift_walk (h : locB l = true) (hv : prtB (liftP l me q) = true) (hne : me ≠ q) (h1 : me ≠ ⟨#[]⟩) (h2 : q ≠ ⟨#[]⟩) {Sa Sb : List (List Int)} {A B : Loc}
    (hPa : Proj (liftP l me q) me Sa A) (hPb : Proj (liftP l me q) q Sb B) (w : List ByteArray) :
    (walkG l.g 0 w = none ∧ walkG A.g 0 w = none ∧ walkG (mirL me l).g 0 w = none ∧ walkG B.g 0 w = none) ∨
    ∃ x y z u, walkG l.g 0 w = some x ∧ walkG A.g 0 w = some y ∧ walkG (mirL me l).g 0 w = some z ∧ walkG B.g 0 w = some u ∧ Lifted l A (mirL me l) B me q x y z u := by
  obtain ⟨hA, hB, _⟩ := two_okG hv (show (liftP l me q).roles = [me, q] from rfl) hne h1 h2
  obtain ⟨hg, h0, hu⟩ := loc_g h
  have hk := walk_trim hg h0 hu w (zero_mem l.g)
  rw [plc_zero] at hk
  have wA := two_walk hA hPa w (at2_zero hA hPa)
  have wB := two_walk hB hPb w (at2_zero hB hPb)
  rw [lift_g h] at wA wB
  rw [mir_g]
  cases hw : walkG l.g 0 w with
  | none =>
    rw [hw] at hk
    have e0 : walkG (trimG l.g) 0 w = none := hk.1
    rcases wA with ⟨_, a⟩ | ⟨y', t', a, _⟩
    · rcases wB with ⟨_, b⟩ | ⟨y', t', b, _⟩
      · exact .inl ⟨rfl, a, e0, b⟩
      · rw [e0] at b; cases b
    · rw [e0] at a; cases a
  | some x =>
    rw [hw] at hk
    have e0 : walkG (trimG l.g) 0 w = some (plc (reachG l.g) x) := hk.1
    have hx := hk.2 x rfl
    have hp := reach_pos hg h0 hx
    have hgl : l.g.length = l.turns.length := by simp [Loc.g]
    have htl : (trimT l).turns.length = (reachG l.g).length := by simp [trimT]
    have hlt := List.idxOf_lt_length_iff.2 hx
    obtain ⟨z, hz⟩ : ∃ z, z = plc (reachG l.g) x := ⟨_, rfl⟩
    have hzr : 0 ≤ z ∧ z < ((trimT l).turns.length : Int) := by rw [hz, htl]; unfold plc; omega
    rcases wA with ⟨a, _⟩ | ⟨ya, y, a1, a2, a3⟩
    · rw [e0] at a; cases a
    rcases wB with ⟨b, _⟩ | ⟨yb, u, b1, b2, b3⟩
    · rw [e0] at b; cases b
    rw [e0] at a1 b1
    injection a1 with a1
    injection b1 with b1
    rw [← hz] at a1 b1 e0
    subst a1 b1
    have ht := trnAt_trim hx
    rw [← show z = plc (reachG l.g) x from hz] at ht
    have hmz := trnAt_mir (me := me) hzr
    have hpt := lift_at (me := me) (q := q) hzr
    obtain ⟨ka0, ka1⟩ := at2_kind hA hPa a3
    obtain ⟨kb0, kb1⟩ := at2_kind hB hPb b3
    have ry := (at2_turn hA hPa a3).2
    have ru := (at2_turn hB hPb b3).2
    have hok := trn_ok (loc_trim h) _ (trnAt_mem hzr)
    have hkx : (trnAt (trimT l) z).kind = (trnAt l x).kind := by rw [ht]
    have key : ((trnAt (trimT l) z).kind = 0 ∧ trnAt A y = noTrn ∧ trnAt B u = noTrn) ∨
        ((trnAt (trimT l) z).kind = 1 ∧ ((trnAt A y).kind = 1 ∧ (trnAt A y).peer = q) ∧ (trnAt B u).kind = 2 ∧ (trnAt B u).peer = me) ∨
        ((trnAt (trimT l) z).kind = 2 ∧ ((trnAt A y).kind = 2 ∧ (trnAt A y).peer = q) ∧ (trnAt B u).kind = 1 ∧ (trnAt B u).peer = me) := by
      unfold sideAt at ka1 kb1
      rw [hpt] at ka0 ka1 kb0 kb1
      rw [lift_arms hok] at ka0 ka1 kb0 kb1
      rcases trn_kind hok with e | ⟨e, h2⟩
      · have hz0 : (trnAt (trimT l) z).arms.length = 0 := by
          unfold trnB at hok
          rw [if_pos e] at hok
          simp only [Bool.and_eq_true, List.isEmpty_iff] at hok
          rw [hok.2]; rfl
        exact .inl ⟨e, ka0 hz0, kb0 hz0⟩
      · simp only [Bool.and_eq_true] at h2
        have hpos := arms_pos h2.2
        obtain ⟨k1, k2⟩ := ka1 (by omega)
        obtain ⟨k3, k4⟩ := kb1 (by omega)
        rcases e with e | e
        · obtain ⟨s1, s2⟩ := side_lift1 (me := me) (q := q) hne e
          rw [s1] at k1 k2
          rw [s2] at k3 k4
          exact .inr (.inl ⟨e, ⟨k1, k2⟩, k3, k4⟩)
        · obtain ⟨s1, s2⟩ := side_lift2 (me := me) (q := q) hne e
          rw [s1] at k1 k2
          rw [s2] at k3 k4
          exact .inr (.inr ⟨e, ⟨k1, k2⟩, k3, k4⟩)
    refine .inr ⟨x, y, z, u, rfl, a2, e0, b2, ⟨hp.1, by omega⟩, ⟨a3.1, ry⟩, ⟨hzr.1, by rw [mir_len]; exact hzr.2⟩, ⟨b3.1, ru⟩, ?_, ?_, ?_, hx⟩
    all_goals
      rcases key with ⟨e1, e2, e3⟩ | ⟨e1, ⟨e2, e3⟩, e4, e5⟩ | ⟨e1, ⟨e2, e3⟩, e4, e5⟩
    · rw [← hkx, e1, e2]; rfl
    · rw [← hkx, e1, e2]
    · rw [← hkx, e1, e2]
    · rw [hmz, e3]; unfold mirT; rw [if_neg (by omega), if_neg (by omega)]; exact e1
    · rw [hmz, e4]; unfold mirT; rw [if_pos e1]
    · rw [hmz, e4]; unfold mirT; rw [if_neg (by omega), if_pos e1]
    · rw [e2]; exact fun h => absurd rfl h
    · exact fun _ => ⟨e3, e5⟩
    · exact fun _ => ⟨e3, e5⟩
end
end Go.Sy
