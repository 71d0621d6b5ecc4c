/- Contracts of the reference, bundle Bl2. -/
import Derived.Test.YtdjocfajcbhmgaaDoorBl1
import Derived.Test.YtdjocfajcbhmgaaDoorBn1
set_option linter.unusedSimpArgs false
set_option linter.unusedVariables false
set_option linter.unusedSectionVars false
namespace Go.Sy
inductive Rch (h : Int → List Arm) (s : List Int) : Int → Prop
  | base {x : Int} (hx : x ∈ s) : Rch h s x
  | step {x : Int} (hx : Rch h s x) {a : Arm} (ha : a ∈ h x) : Rch h s a.next
theorem Rch.mono {h : Int → List Arm} {s t : List Int} (hs : ∀ x ∈ s, x ∈ t) {x : Int} (hx : Rch h s x) : Rch h t x := by
  induction hx with
  | base hx => exact .base (hs _ hx)
  | step _ ha ih => exact ih.step ha
theorem rch_stop {h : Int → List Arm} {k x : Int} (hk : h k = []) (hx : Rch h [k] x) : x = k := by
  induction hx with
  | base hx => exact List.mem_singleton.1 hx
  | step _ ha ih => rw [ih, hk] at ha; cases ha
theorem rch_step {h : Int → List Arm} {k x : Int} (hx : Rch h [k] x) : x = k ∨ Rch h ((h k).map Arm.next) x := by
  induction hx with
  | base hx => exact .inl (List.mem_singleton.1 hx)
  | step hx ha ih =>
    rcases ih with ih | ih
    · subst ih; exact .inr (.base (List.mem_map_of_mem ha))
    · exact .inr (ih.step ha)
theorem rch_unstep {h : Int → List Arm} {k x : Int} (hx : Rch h ((h k).map Arm.next) x) : Rch h [k] x := by
  induction hx with
  | base hx =>
    obtain ⟨a, ha, rfl⟩ := List.mem_map.1 hx
    exact (Rch.base (List.mem_singleton.2 rfl)).step ha
  | step _ ha ih => exact ih.step ha
def bfsH (h : Int → List Arm) : Nat → Nat → List Int → List Int
  | 0, _, out => out
  | f + 1, i, out => match out[i]? with
    | none => out
    | some x => bfsH h f (i + 1) (bfsIn out (h x))
theorem bfsH_app (h : Int → List Arm) : ∀ (f i : Nat) (out : List Int), ∃ r, bfsH h f i out = out ++ r
  | 0, _, out => ⟨[], by simp [bfsH]⟩
  | f + 1, i, out => by
    rw [bfsH]
    cases out[i]? with
    | none => exact ⟨[], by simp⟩
    | some x =>
      obtain ⟨r, hr⟩ := bfsIn_app (h x) out
      obtain ⟨q, hq⟩ := bfsH_app h f (i + 1) (bfsIn out (h x))
      exact ⟨r ++ q, by simp only; rw [hq, hr, List.append_assoc]⟩
theorem bfsH_sound {h : Int → List Arm} {s : List Int} : ∀ (f i : Nat) (out : List Int), (∀ x ∈ out, Rch h s x) → ∀ x ∈ bfsH h f i out, Rch h s x
  | 0, _, _, ho, x, hx => ho x hx
  | f + 1, i, out, ho, x, hx => by
    rw [bfsH] at hx
    cases hy : out[i]? with
    | none => rw [hy] at hx; exact ho x hx
    | some y =>
      rw [hy] at hx
      refine bfsH_sound f (i + 1) _ (fun z hz => ?_) x hx
      rcases (bfsIn_mem _ _ _).1 hz with hz | ⟨a, ha, rfl⟩
      · exact ho z hz
      · exact (ho y (List.mem_of_getElem? hy)).step ha
def ClosedH (h : Int → List Arm) (k : Nat) (out : List Int) : Prop := ∀ j x, j < k → out[j]? = some x → ∀ a ∈ h x, a.next ∈ out
theorem bfsH_ok {g : Grp} {h : Int → List Arm} (hg : ∀ x a, a ∈ h x → 0 ≤ a.next ∧ a.next < (g.length : Int)) : ∀ (f i : Nat) (out : List Int), Reached g out → ClosedH h i out → i ≤ out.length → g.length < f + i → Reached g (bfsH h f i out) ∧ ClosedH h (bfsH h f i out).length (bfsH h f i out)
  | 0, i, out, ho, _, hi, hf => by have := ho.len; omega
  | f + 1, i, out, ho, hc, hi, hf => by
    rw [bfsH]
    cases hx : out[i]? with
    | none =>
      have : out.length ≤ i := List.getElem?_eq_none_iff.1 hx
      show Reached g out ∧ ClosedH h out.length out
      exact ⟨ho, fun j x hj => hc j x (by omega)⟩
    | some x =>
      simp only
      have hlt := (List.getElem?_eq_some_iff.1 hx).1
      have h1 := bfsIn_ok (h x) ho fun a ha => hg x a ha
      obtain ⟨r, hr⟩ := bfsIn_app (h x) out
      refine bfsH_ok hg f (i + 1) _ h1 (fun j y hj hy a ha => ?_) (by rw [hr, List.length_append]; omega) (by omega)
      rw [hr, List.getElem?_append_left (by omega)] at hy
      rw [bfsIn_mem]
      by_cases hji : j = i
      · subst hji
        rw [hx] at hy; injection hy with hy; subst hy
        exact .inr ⟨a, ha, rfl⟩
      · exact .inl (hc j y (by omega) hy a ha)
theorem bfsH_mem {g : Grp} {h : Int → List Arm} (hg : ∀ x a, a ∈ h x → 0 ≤ a.next ∧ a.next < (g.length : Int)) {s : List Int} (hs : Reached g s) {x : Int} : x ∈ bfsH h (g.length + 1) 0 s ↔ Rch h s x := by
  obtain ⟨h1, h2⟩ := bfsH_ok hg (g.length + 1) 0 s hs (fun j x hj => by omega) (by omega) (by omega)
  obtain ⟨r, hr⟩ := bfsH_app h (g.length + 1) 0 s
  constructor
  · exact bfsH_sound _ _ _ (fun x hx => .base hx) x
  · intro hx
    induction hx with
    | base hx => rw [hr]; exact List.mem_append_left _ hx
    | step _ ha ih =>
      obtain ⟨j, hj, rfl⟩ := List.mem_iff_getElem.1 ih
      exact h2 j _ hj (List.getElem?_eq_getElem hj) _ ha
def Prt.g (p : Prt) : Grp := p.points.map Pnt.arms
def noPnt : Pnt := ⟨⟨#[]⟩, ⟨#[]⟩, []⟩
def pntAt (p : Prt) (x : Int) : Pnt := p.points.getD x.toNat noPnt
def inP (x : Pnt) (role : ByteArray) : Bool := decide (x.from_ = role) || decide (x.to = role)
def passA (p : Prt) (role : ByteArray) (x : Int) : List Arm := if inP (pntAt p x) role then [] else (pntAt p x).arms
def startL (n : Nat) : List Int → List Int → List Int
  | out, [] => out
  | out, x :: l => startL n (if 0 ≤ x ∧ x < (n : Int) ∧ x ∉ out then out ++ [x] else out) l
def waitL (p : Prt) (role : ByteArray) (from_ : List Int) : List Int := bfsH (passA p role) (p.points.length + 1) 0 (startL p.points.length [] from_)
def nearL (p : Prt) (role : ByteArray) (from_ : List Int) : List Int := ((List.range p.points.length).map Int.ofNat).filter fun x => decide (x ∈ waitL p role from_) && inP (pntAt p x) role
theorem startL_mem (n : Nat) : ∀ (l out : List Int) (x : Int), x ∈ startL n out l ↔ x ∈ out ∨ (x ∈ l ∧ 0 ≤ x ∧ x < (n : Int))
  | [], out, x => by simp [startL]
  | y :: l, out, x => by
    rw [startL, startL_mem n l]
    by_cases h : 0 ≤ y ∧ y < (n : Int) ∧ y ∉ out
    · rw [if_pos h]
      simp only [List.mem_append, List.mem_cons, List.not_mem_nil, or_false]
      constructor
      · rintro ((h1 | rfl) | h1)
        · exact .inl h1
        · exact .inr ⟨.inl rfl, h.1, h.2.1⟩
        · exact .inr ⟨.inr h1.1, h1.2⟩
      · rintro (h1 | ⟨rfl | h1, h2⟩)
        · exact .inl (.inl h1)
        · exact .inl (.inr rfl)
        · exact .inr ⟨h1, h2⟩
    · rw [if_neg h]
      simp only [List.mem_cons]
      constructor
      · rintro (h1 | h1)
        · exact .inl h1
        · exact .inr ⟨.inr h1.1, h1.2⟩
      · rintro (h1 | ⟨rfl | h1, h2⟩)
        · exact .inl h1
        · by_cases hm : x ∈ out
          · exact .inl hm
          · exact absurd ⟨h2.1, h2.2, hm⟩ h
        · exact .inr ⟨h1, h2⟩
theorem startL_ok {g : Grp} : ∀ (l : List Int) {out : List Int}, Reached g out → Reached g (startL g.length out l)
  | [], _, h => h
  | y :: l, out, h => by
    rw [startL]
    refine startL_ok l ?_
    split
    · rename_i hy
      refine ⟨List.nodup_append.2 ⟨h.nodup, by simp, fun x hx z hz e => ?_⟩, fun x hx => ?_⟩
      · rw [List.mem_singleton] at hz; rw [e, hz] at hx; exact hy.2.2 hx
      · rcases List.mem_append.1 hx with hx | hx
        · exact h.range x hx
        · rw [List.mem_singleton] at hx; rw [hx]; exact ⟨hy.1, hy.2.1⟩
    · exact h
end Go.Sy
namespace Go.Sy
theorem nodup_sub {α : Type} [DecidableEq α] : ∀ {l m : List α}, l.Nodup → (∀ x ∈ l, x ∈ m) → l.length ≤ m.length
  | [], _, _, _ => by simp
  | a :: l, m, hd, h => by
    obtain ⟨h1, h2⟩ := List.nodup_cons.1 hd
    have ha := h a List.mem_cons_self
    have h3 := nodup_sub (m := m.erase a) h2 fun x hx => by
      have hxa : x ≠ a := fun e => h1 (e ▸ hx)
      exact (List.mem_erase_of_ne hxa).2 (h x (List.mem_cons_of_mem _ hx))
    rw [List.length_erase_of_mem ha] at h3
    have := List.length_pos_of_mem ha
    rw [List.length_cons]; omega
section
variable {p : Prt} {role : ByteArray}
def PrtIn (p : Prt) : Prop := ∀ x a, a ∈ (pntAt p x).arms → 0 ≤ a.next ∧ a.next < (p.points.length : Int)
theorem pass_in (hp : PrtIn p) (role : ByteArray) : ∀ x a, a ∈ passA p role x → 0 ≤ a.next ∧ a.next < (p.g.length : Int) := fun x a ha => by
  unfold passA at ha
  split at ha
  · cases ha
  · have := hp x a ha
    simpa [Prt.g] using this
theorem start_ok (p : Prt) (l : List Int) : Reached p.g (startL p.points.length [] l) := by
  have := startL_ok (g := p.g) l (out := []) ⟨by simp, fun x hx => by cases hx⟩
  simpa [Prt.g] using this
theorem wait_mem (hp : PrtIn p) (l : List Int) {x : Int} : x ∈ waitL p role l ↔ Rch (passA p role) (startL p.points.length [] l) x := by
  have := bfsH_mem (pass_in hp role) (start_ok p l) (x := x)
  rwa [show p.g.length = p.points.length by simp [Prt.g]] at this
theorem wait_range (hp : PrtIn p) {l : List Int} {x : Int} (h : x ∈ waitL p role l) : 0 ≤ x ∧ x < (p.points.length : Int) := by
  have := (bfsH_ok (pass_in hp role) (p.g.length + 1) 0 _ (start_ok p l) (fun j x hj => by omega) (by omega) (by omega)).1.range x (by rw [show p.g.length = p.points.length by simp [Prt.g]]; exact h)
  rwa [show p.g.length = p.points.length by simp [Prt.g]] at this
theorem near_mem (hp : PrtIn p) (l : List Int) {x : Int} : x ∈ nearL p role l ↔ Rch (passA p role) (startL p.points.length [] l) x ∧ inP (pntAt p x) role = true := by
  unfold nearL
  simp only [List.mem_filter, List.mem_map, List.mem_range, Bool.and_eq_true, decide_eq_true_eq, wait_mem hp]
  constructor
  · exact fun h => h.2
  · intro h
    have hr := wait_range (role := role) hp ((wait_mem hp l).2 h.1)
    exact ⟨⟨x.toNat, by omega, by show ((x.toNat : Nat) : Int) = x; omega⟩, h⟩
theorem near_rise (p : Prt) (role : ByteArray) (l : List Int) : (nearL p role l).Pairwise (· < ·) := by
  refine List.Pairwise.filter _ ?_
  rw [List.pairwise_map]
  exact List.pairwise_lt_range.imp fun h => by show ((_ : Nat) : Int) < ((_ : Nat) : Int); omega
theorem near_nodup (p : Prt) (role : ByteArray) (l : List Int) : (nearL p role l).Nodup := List.nodup_iff_pairwise_ne.2 ((near_rise p role l).imp fun h e => by omega)
theorem near_ext {l m : List Int} (h : ∀ x, x ∈ nearL p role l ↔ x ∈ nearL p role m) : nearL p role l = nearL p role m := by
  unfold nearL at h ⊢
  refine List.filter_congr fun x hx => ?_
  have := h x
  simp only [List.mem_filter, hx, true_and] at this
  rw [Bool.eq_iff_iff]; exact this
theorem rch_ext {h : Int → List Arm} {s t : List Int} (he : ∀ x, x ∈ s ↔ x ∈ t) {x : Int} : Rch h s x ↔ Rch h t x := ⟨fun hx => hx.mono fun y hy => (he y).1 hy, fun hx => hx.mono fun y hy => (he y).2 hy⟩
theorem start_one {k : Int} (h : 0 ≤ k ∧ k < (p.points.length : Int)) (x : Int) : x ∈ startL p.points.length [] [k] ↔ x ∈ [k] := by
  rw [startL_mem]
  simp only [List.mem_singleton, List.not_mem_nil, false_or]
  exact ⟨fun h => h.1, fun e => ⟨e, e ▸ h⟩⟩
theorem near_in (hp : PrtIn p) {k : Int} (hk : 0 ≤ k ∧ k < (p.points.length : Int)) (h : inP (pntAt p k) role = true) {l : List Int} (hl : ∀ x, x ∈ l ↔ x = k) : nearL p role l = [k] := by
  have hm : ∀ x, x ∈ nearL p role l ↔ x = k := fun x => by
    rw [near_mem hp, rch_ext (t := [k]) (fun x => by rw [startL_mem, List.mem_singleton, hl]; constructor
                                                     · rintro (h | h)
                                                       · cases h
                                                       · exact h.1
                                                     · exact fun e => .inr ⟨e, e ▸ hk⟩)]
    constructor
    · exact fun h1 => rch_stop (by rw [passA, if_pos h]) h1.1
    · rintro rfl; exact ⟨.base (List.mem_singleton.2 rfl), h⟩
  have hn := near_nodup p role l
  cases hc : nearL p role l with
  | nil => have := (hm k).2 rfl; rw [hc] at this; cases this
  | cons a r =>
    rw [hc] at hm hn
    have ha := (hm a).1 List.mem_cons_self
    subst ha
    cases r with
    | nil => rfl
    | cons b r =>
      have hb := (hm b).1 (List.mem_cons_of_mem _ List.mem_cons_self)
      subst hb
      exact absurd List.mem_cons_self (List.nodup_cons.1 hn).1
theorem near_isin (hp : PrtIn p) {l : List Int} {x : Int} (h : x ∈ nearL p role l) : inP (pntAt p x) role = true := ((near_mem hp l).1 h).2
theorem near_nil (hp : PrtIn p) : nearL p role [] = [] := by
  cases h : nearL p role [] with
  | nil => rfl
  | cons a r =>
    have ha : a ∈ nearL p role [] := by rw [h]; exact List.mem_cons_self
    have h1 := ((near_mem hp []).1 ha).1
    exfalso
    have : ∀ {x}, Rch (passA p role) (startL p.points.length [] []) x → False := fun hx => by
      induction hx with
      | base hx => simp [startL] at hx
      | step _ _ ih => exact ih
    exact this h1
theorem near_step (hp : PrtIn p) {k : Int} (hk : 0 ≤ k ∧ k < (p.points.length : Int)) (h : inP (pntAt p k) role = false) : nearL p role [k] = nearL p role ((pntAt p k).arms.map Arm.next) := by
  have hps : passA p role k = (pntAt p k).arms := by rw [passA, if_neg (by rw [h]; decide)]
  have hs : ∀ x, x ∈ startL p.points.length [] ((pntAt p k).arms.map Arm.next) ↔ x ∈ (passA p role k).map Arm.next := fun x => by
    rw [startL_mem, hps]
    constructor
    · rintro (h1 | h1)
      · cases h1
      · exact h1.1
    · intro h1
      obtain ⟨a, ha, rfl⟩ := List.mem_map.1 h1
      exact .inr ⟨h1, hp k a ha⟩
  refine near_ext fun x => ?_
  rw [near_mem hp, near_mem hp, rch_ext (start_one hk), rch_ext hs]
  constructor
  · rintro ⟨h1, h2⟩
    rcases rch_step h1 with rfl | h1
    · rw [h] at h2; cases h2
    · exact ⟨h1, h2⟩
  · rintro ⟨h1, h2⟩
    exact ⟨rch_unstep h1, h2⟩
end
end Go.Sy
namespace Go.Sy
def endP (x : Pnt) : Bool := decide (x.from_ = ⟨#[]⟩) && (decide (x.to = ⟨#[]⟩) && x.arms.isEmpty)
def pntB (roles : List ByteArray) (n : Int) (x : Pnt) : Bool :=
  endP x || (decide (0 ≤ placeI roles x.from_) && (decide (0 ≤ placeI roles x.to) && (decide (x.from_ ≠ x.to) && armsOK n x.arms)))
def prtB (p : Prt) : Bool := nameB p.name && (decide (2 ≤ p.roles.length) && (decide (p.roles.length ≤ 5) && (onceB p.roles && (p.roles.all nameB && (decide (1 ≤ p.points.length) && (decide (p.points.length ≤ 24) && p.points.all (pntB p.roles p.points.length)))))))
section
variable {p : Prt}
theorem armsAt_prt (p : Prt) (x : Int) : armsAt p.g x = (pntAt p x).arms := by
  unfold armsAt pntAt Prt.g
  rw [List.getD_eq_getElem?_getD, List.getD_eq_getElem?_getD, List.getElem?_map]
  cases p.points[x.toNat]? <;> rfl
theorem pnt_arms {roles : List ByteArray} {n : Int} {x : Pnt} (h : pntB roles n x = true) : x.arms = [] ∨ armsOK n x.arms = true := by
  simp only [pntB, endP, Bool.or_eq_true, Bool.and_eq_true, List.isEmpty_iff] at h
  rcases h with h | h
  · exact .inl h.2.2
  · exact .inr h.2.2.2
theorem prt_pnt (h : prtB p = true) : ∀ x ∈ p.points, pntB p.roles p.points.length x = true := by
  simp only [prtB, Bool.and_eq_true, List.all_eq_true] at h
  exact h.2.2.2.2.2.2.2
theorem pntAt_arms (h : prtB p = true) (x : Int) : (pntAt p x).arms = [] ∨ armsOK p.points.length (pntAt p x).arms = true := by
  unfold pntAt
  rw [List.getD_eq_getElem?_getD]
  cases hx : p.points[x.toNat]? with
  | none => exact .inl rfl
  | some t => exact pnt_arms (prt_pnt h t (List.mem_of_getElem? hx))
theorem prt_in (h : prtB p = true) : PrtIn p := fun x a ha => by
  rcases pntAt_arms h x with h1 | h1
  · rw [h1] at ha; cases ha
  · exact arm_next ((arms_all h1).2.1 a ha)
theorem prt_g (h : prtB p = true) : InG p.g ∧ 0 < p.g.length ∧ ∀ x, ((armsAt p.g x).map Arm.label).Nodup := by
  refine ⟨fun x a ha => ?_, ?_, fun x => ?_⟩
  · rw [armsAt_prt] at ha
    have := prt_in h x a ha
    simpa [Prt.g] using this
  · simp only [prtB, Bool.and_eq_true, decide_eq_true_eq] at h
    simp only [Prt.g, List.length_map]; omega
  · rw [armsAt_prt]
    rcases pntAt_arms h x with h1 | h1
    · rw [h1]; simp
    · exact (arms_all h1).2.2
end
end Go.Sy
namespace Go.Sy
section
variable {p : Prt}
end
end Go.Sy
namespace Go.Sy
def ptT (x : Pnt) : Trn := if endP x then ⟨0, ⟨#[]⟩, x.arms⟩ else ⟨1, x.to, x.arms⟩
def grL (p : Prt) : Loc := ⟨⟨#[]⟩, p.points.map ptT⟩
def rolB (roles : List ByteArray) (x : Pnt) : Bool := endP x || (hasB roles x.from_ && (hasB roles x.to && decide (x.from_ ≠ x.to)))
def gmayB (p : Prt) : Bool := nameB p.name && (decide (2 ≤ p.roles.length) && (decide (p.roles.length ≤ 5) && (onceB p.roles && (decide (p.points.length ≤ 24) && (p.roles.all nameB && (p.points.all (rolB p.roles) && locB (grL p)))))))
theorem ptT_arms (x : Pnt) : (ptT x).arms = x.arms := by unfold ptT; split <;> rfl
theorem pt_end {n : Int} {x : Pnt} (h : endP x = true) : trnB n (ptT x) = true := by
  have h2 := h
  simp only [endP, Bool.and_eq_true, List.isEmpty_iff] at h2
  unfold ptT
  rw [if_pos h]
  unfold trnB
  rw [if_pos rfl]
  simp [h2.2.2]
theorem pt_act {n : Int} {x : Pnt} (h : endP x = false) : trnB n (ptT x) = (nameB x.to && armsOK n x.arms) := by
  unfold ptT
  rw [if_neg (by rw [h]; simp)]
  unfold trnB
  rw [if_neg (show ¬ ((1 : Int) = 0) by decide), if_pos (.inl rfl)]
theorem prt_may (p : Prt) : gmayB p = prtB p := by
  rw [Bool.eq_iff_iff]
  unfold gmayB prtB locB
  have hl : (grL p).turns.length = p.points.length := by simp [grL]
  rw [hl]
  simp only [Bool.and_eq_true, decide_eq_true_eq, List.all_eq_true]
  constructor
  · rintro ⟨h1, h2, h3, h4, h5, h6, h7, h8, h9, h10⟩
    refine ⟨h1, h2, h3, h4, h6, h8, h5, fun x hx => ?_⟩
    have h11 := h7 x hx
    have h12 := h10 (ptT x) (List.mem_map.2 ⟨x, hx, rfl⟩)
    unfold rolB at h11
    unfold pntB
    cases he : endP x with
    | true => rfl
    | false =>
      rw [he, Bool.false_or] at h11
      rw [pt_act he] at h12
      simp only [Bool.and_eq_true] at h11 h12
      unfold hasB at h11
      rw [Bool.false_or]
      simp only [Bool.and_eq_true]
      exact ⟨h11.1, h11.2.1, h11.2.2, h12.2⟩
  · rintro ⟨h1, h2, h3, h4, h6, h8, h5, h7⟩
    refine ⟨h1, h2, h3, h4, h5, h6, fun x hx => ?_, h8, by omega, fun t ht => ?_⟩
    · have h9 := h7 x hx
      unfold pntB at h9
      unfold rolB hasB
      cases he : endP x with
      | true => rfl
      | false =>
        rw [he, Bool.false_or] at h9
        simp only [Bool.and_eq_true] at h9
        rw [Bool.false_or]
        simp only [Bool.and_eq_true]
        exact ⟨h9.1, h9.2.1, h9.2.2.1⟩
    · obtain ⟨x, hx, rfl⟩ := List.mem_map.1 (show t ∈ List.map ptT p.points from ht)
      have h9 := h7 x hx
      unfold pntB at h9
      cases he : endP x with
      | true => exact pt_end he
      | false =>
        rw [he, Bool.false_or] at h9
        simp only [Bool.and_eq_true] at h9
        rw [pt_act he, h9.2.2.2, Bool.and_true]
        exact h6 _ (hasB_iff.1 (show hasB p.roles x.to = true from h9.2.1))
theorem prt_len {p : Prt} (h : prtB p = true) : 1 ≤ p.points.length ∧ p.points.length ≤ 24 ∧ 2 ≤ p.roles.length ∧ p.roles.length ≤ 5 := by
  simp only [prtB, Bool.and_eq_true, decide_eq_true_eq] at h
  exact ⟨h.2.2.2.2.2.1, h.2.2.2.2.2.2.1, h.2.1, h.2.2.1⟩
end Go.Sy
namespace Go.Sy
theorem bfsIn_append : ∀ (l m : List Arm) (out : List Int), bfsIn out (l ++ m) = bfsIn (bfsIn out l) m
  | [], _, _ => rfl
  | a :: l, m, out => by rw [List.cons_append, bfsIn, bfsIn, bfsIn_append l m]
theorem bfsIn_one {n : Nat} {out : List Int} {a : Arm} (h : 0 ≤ a.next ∧ a.next < (n : Int)) : bfsIn out [a] = if 0 ≤ a.next ∧ a.next < (n : Int) ∧ a.next ∉ out then out ++ [a.next] else out := by
  rw [bfsIn, bfsIn]
  by_cases hm : a.next ∈ out
  · rw [if_pos hm, if_neg (fun h2 => h2.2.2 hm)]
  · rw [if_neg hm, if_pos ⟨h.1, h.2, hm⟩]
def nearW (p : Prt) (role : ByteArray) (wait : List Int) (i : Nat) : List Int := (wait.take i).filter fun x => inP (pntAt p x) role
theorem nearW_snoc {p : Prt} {role : ByteArray} {wait : List Int} {i : Nat} (hi : i < wait.length) (r : List Int) :
    nearW p role (wait ++ r) (i + 1) = nearW p role wait i ++ (if inP (pntAt p wait[i]) role then [wait[i]] else []) := by
  unfold nearW
  rw [List.take_append_of_le_length (by omega), List.take_succ_eq_append_getElem hi, List.filter_append]
  congr 1
  cases h : inP (pntAt p wait[i]) role <;> simp [h]
theorem sort_near {p : Prt} {role : ByteArray} {l : List Int} (hp : PrtIn p) : ((waitL p role l).filter fun x => inP (pntAt p x) role).mergeSort (fun x y => decide (x ≤ y)) = nearL p role l := by
  have hro : Reached p.g (waitL p role l) := by
    have h := bfsH_ok (g := p.g) (h := passA p role) (pass_in hp role) (p.points.length + 1) 0 _ (start_ok p l) (fun j x hj => by omega) (Nat.zero_le _) (by simp [Prt.g])
    exact h.1
  have hnd : (waitL p role l).Nodup := hro.nodup
  have hperm : ((waitL p role l).filter fun x => inP (pntAt p x) role).Perm (nearL p role l) := by
    refine (List.perm_ext_iff_of_nodup (hnd.filter _) (near_nodup p role l)).2 fun x => ?_
    rw [List.mem_filter, near_mem hp l, wait_mem hp l]
  have h1 := (List.mergeSort_perm ((waitL p role l).filter fun x => inP (pntAt p x) role) fun x y => decide (x ≤ y)).trans hperm
  refine h1.eq_of_pairwise (le := fun a b : Int => a ≤ b) (fun a b _ _ h2 h3 => by omega) ?_ ((near_rise p role l).imp fun h => by omega)
  refine (List.pairwise_mergeSort (le := fun x y : Int => decide (x ≤ y)) (fun a b c h1 h2 => ?_) (fun a b => ?_) _).imp fun {a b} h => by simpa using h
  · simp at h1 h2 ⊢; omega
  · simp; omega
theorem bfsH_next {h : Int → List Arm} {f i : Nat} {out : List Int} (hi : i < out.length) : bfsH h (f + 1) i out = bfsH h f (i + 1) (bfsIn out (h out[i])) := by
  rw [bfsH, List.getElem?_eq_getElem hi]
theorem bfsH_end {h : Int → List Arm} {f : Nat} {out : List Int} : bfsH h (f + 1) out.length out = out := by
  rw [bfsH, List.getElem?_eq_none (Nat.le_refl _)]
end Go.Sy
