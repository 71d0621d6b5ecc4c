/- The plain law of projection (P8.1): what project.Role and project.All compute. -/
import Derived.Test.YtndmpmhekbdpdaaGreatDoorBl2
import Derived.Test.YtndmpmhekbdpdaaGreatDoorBl1
set_option linter.unusedSimpArgs false
set_option linter.unusedVariables false
set_option linter.unusedSectionVars false
namespace Go.Sy
def lostL (p : Prt) (role : ByteArray) (x : Int) : Bool := decide ((nearL p role [x]).length = 0)
def mixE (p : Prt) (role : ByteArray) (set : List Int) : Bool := (waitL p role set).any (fun x => lostL p role x) && (waitL p role set).any (fun x => !lostL p role x)
def lookS (p : Prt) (role : ByteArray) (S : List (List Int)) (set : List Int) : (Int × Int) × List (List Int) :=
  if mixE p role set then ((0, 801), S)
  else if nearL p role set ∈ S then ((((S.idxOf (nearL p role set) : Nat) : Int), 0), S)
  else if S.length = 40 then ((0, 805), S)
  else (((S.length : Int), 0), S ++ [nearL p role set])
def labsL (x : Pnt) : List ByteArray := x.arms.foldl (fun out a => putN out a.label) []
def sideL (role : ByteArray) (x : Pnt) : Bool × ByteArray := if x.from_ = role then (true, x.to) else (false, x.from_)
def sideAt (p : Prt) (role : ByteArray) (x : Int) : Bool × ByteArray := sideL role (pntAt p x)
def allL (p : Prt) (near : List Int) : List ByteArray := near.foldl (fun all x => (labsL (pntAt p x)).foldl putN all) []
def armsN (p : Prt) (near : List Int) : List Arm := near.flatMap fun x => (pntAt p x).arms
def nextN (arr : List Arm) (s : ByteArray) : List Int := (arr.filter fun a => decide (a.label = s)).map Arm.next
def carO (arr : List Arm) (s : ByteArray) : Option (Int × ByteArray) := (arr.find? fun a => decide (a.label = s)).map fun a => (a.kind, a.name)
def carA (arr : List Arm) (s : ByteArray) : Int × ByteArray := (carO arr s).getD (0, ⟨#[]⟩)
def clashB (arr : List Arm) : Bool := arr.any fun a => decide (carO arr a.label ≠ some (a.kind, a.name))
def armsS (p : Prt) (role : ByteArray) (arr : List Arm) : List ByteArray → List Arm → List (List Int) → (List Arm × Int) × List (List Int)
  | [], out, S => ((out, 0), S)
  | s :: ls, out, S =>
    if (lookS p role S (nextN arr s)).1.2 = 0 then
      armsS p role arr ls (out ++ [⟨s, (carA arr s).1, (carA arr s).2, (lookS p role S (nextN arr s)).1.1⟩]) (lookS p role S (nextN arr s)).2
    else (([], (lookS p role S (nextN arr s)).1.2), (lookS p role S (nextN arr s)).2)
def kindOf (b : Bool) : Int := if b then 1 else 2
def turnS (p : Prt) (role : ByteArray) (S : List (List Int)) (near : List Int) : (Trn × Int) × List (List Int) :=
  match near with
  | [] => ((noTrn, 0), S)
  | x0 :: r =>
    if (x0 :: r).any (fun x => decide (sideAt p role x ≠ sideAt p role x0)) then ((noTrn, 802), S)
    else if (sideAt p role x0).1 && (x0 :: r).any (fun x => decide (labsL (pntAt p x) ≠ allL p (x0 :: r))) then ((noTrn, 803), S)
    else if 6 < (allL p (x0 :: r)).length then ((noTrn, 805), S)
    else if clashB (armsN p (x0 :: r)) then ((noTrn, 804), S)
    else if (armsS p role (armsN p (x0 :: r)) (allL p (x0 :: r)) [] S).1.2 = 0 then
      ((⟨kindOf (sideAt p role x0).1, (sideAt p role x0).2, (armsS p role (armsN p (x0 :: r)) (allL p (x0 :: r)) [] S).1.1⟩, 0), (armsS p role (armsN p (x0 :: r)) (allL p (x0 :: r)) [] S).2)
    else ((noTrn, (armsS p role (armsN p (x0 :: r)) (allL p (x0 :: r)) [] S).1.2), (armsS p role (armsN p (x0 :: r)) (allL p (x0 :: r)) [] S).2)
abbrev dotB : ByteArray := ⟨#[46]⟩
def dotN (a b : ByteArray) : ByteArray := a ++ dotB ++ b
variable {p : Prt} {role : ByteArray}
theorem look_cases (S : List (List Int)) (set : List Int) :
    (mixE p role set = true ∧ lookS p role S set = ((0, 801), S)) ∨
    (mixE p role set = false ∧ nearL p role set ∈ S ∧ lookS p role S set = ((((S.idxOf (nearL p role set) : Nat) : Int), 0), S)) ∨
    (mixE p role set = false ∧ nearL p role set ∉ S ∧ S.length = 40 ∧ lookS p role S set = ((0, 805), S)) ∨
    (mixE p role set = false ∧ nearL p role set ∉ S ∧ S.length ≠ 40 ∧ lookS p role S set = (((S.length : Int), 0), S ++ [nearL p role set])) := by
  unfold lookS
  cases hm : mixE p role set with
  | true => exact .inl ⟨rfl, rfl⟩
  | false =>
    simp only [Bool.false_eq_true, if_false]
    by_cases h1 : nearL p role set ∈ S
    · rw [if_pos h1]; exact .inr (.inl ⟨by simp, h1, rfl⟩)
    · rw [if_neg h1]
      by_cases h2 : S.length = 40
      · rw [if_pos h2]; exact .inr (.inr (.inl ⟨by simp, h1, h2, rfl⟩))
      · rw [if_neg h2]; exact .inr (.inr (.inr ⟨by simp, h1, h2, rfl⟩))
structure SetsOK (S : List (List Int)) : Prop where
  nodup : S.Nodup
  len : S.length ≤ 40
theorem look_ok {S : List (List Int)} (h : SetsOK S) (set : List Int) : SetsOK (lookS p role S set).2 := by
  rcases look_cases (p := p) (role := role) S set with ⟨_, e⟩ | ⟨_, _, e⟩ | ⟨_, _, _, e⟩ | ⟨_, h1, h2, e⟩
  · rw [e]; exact h
  · rw [e]; exact h
  · rw [e]; exact h
  · rw [e]
    have := h.len
    exact ⟨by rw [List.nodup_append]; exact ⟨h.nodup, by simp, fun x hx y hy e => by simp at hy; subst hy; exact h1 (e ▸ hx)⟩, by simp; omega⟩
variable {p : Prt} {role : ByteArray}
structure ActOf (p : Prt) (role : ByteArray) (S : List (List Int)) (near : List Int) (t : Trn) : Prop where
  kind : t.kind = 1 ∨ t.kind = 2
  side : ∀ x ∈ near, sideAt p role x = (decide (t.kind = 1), t.peer)
  says : t.kind = 1 → ∀ x ∈ near, labsL (pntAt p x) = allL p near
  len : (allL p near).length ≤ 6
  labs : t.arms.map Arm.label = allL p near
  once : clashB (armsN p near) = false
  arm : ∀ a ∈ t.arms, (a.kind, a.name) = carA (armsN p near) a.label ∧ mixE p role (nextN (armsN p near) a.label) = false ∧
    0 ≤ a.next ∧ S[a.next.toNat]? = some (nearL p role (nextN (armsN p near) a.label))
def TurnOf (p : Prt) (role : ByteArray) (S : List (List Int)) (near : List Int) (t : Trn) : Prop := (near = [] ∧ t = noTrn) ∨ (near ≠ [] ∧ ActOf p role S near t)
theorem get_app {α : Type} {l r : List α} {k : Nat} {x : α} (h : l[k]? = some x) : (l ++ r)[k]? = some x := by
  rw [List.getElem?_append_left (List.getElem?_eq_some_iff.1 h).1]; exact h
theorem ActOf.grow {S : List (List Int)} {near : List Int} {t : Trn} (h : ActOf p role S near t) (r : List (List Int)) : ActOf p role (S ++ r) near t :=
  ⟨h.kind, h.side, h.says, h.len, h.labs, h.once, fun a ha => let ⟨h1, h2, h3, h4⟩ := h.arm a ha; ⟨h1, h2, h3, get_app h4⟩⟩
theorem TurnOf.grow {S : List (List Int)} {near : List Int} {t : Trn} (h : TurnOf p role S near t) (r : List (List Int)) : TurnOf p role (S ++ r) near t := by
  rcases h with h | ⟨h1, h2⟩
  · exact .inl h
  · exact .inr ⟨h1, h2.grow r⟩
def rng (n : Nat) : List Int := (List.range n).map Int.ofNat
theorem rng_mem {n : Nat} {x : Int} : x ∈ rng n ↔ 0 ≤ x ∧ x < (n : Int) := by
  unfold rng
  simp only [List.mem_map, List.mem_range]
  constructor
  · rintro ⟨k, hk, rfl⟩; exact ⟨Int.natCast_nonneg _, by show (k : Int) < n; omega⟩
  · intro h; exact ⟨x.toNat, by omega, by show ((x.toNat : Nat) : Int) = x; omega⟩
theorem rng_len (n : Nat) : (rng n).length = n := by simp [rng]
structure Half (p : Prt) (role : ByteArray) (S : List (List Int)) (out : List Trn) : Prop where
  sets : SetsOK S
  le : out.length ≤ S.length
  turn : ∀ (i : Nat) (near : List Int) (t : Trn), S[i]? = some near → out[i]? = some t → TurnOf p role S near t
  met : out.foldl (fun row t => bfsIn row t.arms) [0] = rng S.length
structure Proj (p : Prt) (role : ByteArray) (S : List (List Int)) (l : Loc) : Prop where
  may : prtB p = true
  has : hasB p.roles role = true
  name : l.name = dotN p.name role
  nodup : S.Nodup
  len : S.length ≤ 40
  turns : l.turns.length = S.length
  zero : S[0]? = some (nearL p role [0])
  one : mixE p role [0] = false
  turn : ∀ (i : Nat) (near : List Int) (t : Trn), S[i]? = some near → l.turns[i]? = some t → TurnOf p role S near t
  met : l.turns.foldl (fun row t => bfsIn row t.arms) [0] = rng S.length
variable {p : Prt} {role : ByteArray} {S : List (List Int)} {l : Loc}
theorem putF_asc : ∀ (l out : List ByteArray), Asc out → Asc (l.foldl putN out)
  | [], _, h => h
  | s :: l, out, _ => by rw [List.foldl_cons]; exact putF_asc l _ (putN_asc out s)
theorem putF_mem : ∀ (l out : List ByteArray) (x : ByteArray), x ∈ l.foldl putN out ↔ x ∈ out ∨ x ∈ l
  | [], out, x => by simp
  | s :: l, out, x => by
    rw [List.foldl_cons, putF_mem l, putN_mem, List.mem_cons]
    constructor
    · rintro ((h | h) | h)
      · exact .inl h
      · exact .inr (.inl h)
      · exact .inr (.inr h)
    · rintro (h | h | h)
      · exact .inl (.inl h)
      · exact .inl (.inr h)
      · exact .inr h
theorem labsL_map (x : Pnt) : labsL x = (x.arms.map Arm.label).foldl putN [] := by unfold labsL; rw [List.foldl_map]
theorem asc_nil : Asc [] := List.Pairwise.nil
theorem labsL_asc (x : Pnt) : Asc (labsL x) := by rw [labsL_map]; exact putF_asc _ _ asc_nil
theorem labsL_mem (x : Pnt) (s : ByteArray) : s ∈ labsL x ↔ ∃ a ∈ x.arms, a.label = s := by
  rw [labsL_map, putF_mem]; simp
theorem labsL_count {x : Pnt} (h : (x.arms.map Arm.label).Nodup) : (labsL x).length = x.arms.length := by
  have h1 := nodup_sub (asc_nodup (labsL_asc x)) (m := x.arms.map Arm.label) fun s hs => by
    obtain ⟨a, ha, rfl⟩ := (labsL_mem x s).1 hs; exact List.mem_map_of_mem ha
  have h2 := nodup_sub h (m := labsL x) fun s hs => by
    obtain ⟨a, ha, rfl⟩ := List.mem_map.1 hs; exact (labsL_mem x _).2 ⟨a, ha, rfl⟩
  rw [List.length_map] at h1 h2
  omega
theorem allF_asc (p : Prt) : ∀ (near : List Int) (out : List ByteArray), Asc out → Asc (near.foldl (fun all x => (labsL (pntAt p x)).foldl putN all) out)
  | [], _, h => h
  | x :: r, out, h => by rw [List.foldl_cons]; exact allF_asc p r _ (putF_asc _ _ h)
theorem allF_mem (p : Prt) : ∀ (near : List Int) (out : List ByteArray) (s : ByteArray), s ∈ near.foldl (fun all x => (labsL (pntAt p x)).foldl putN all) out ↔ s ∈ out ∨ ∃ x ∈ near, s ∈ labsL (pntAt p x)
  | [], out, s => by simp
  | x :: r, out, s => by
    rw [List.foldl_cons, allF_mem p r, putF_mem]
    simp only [List.mem_cons, exists_eq_or_imp, or_assoc]
theorem allL_asc (p : Prt) (near : List Int) : Asc (allL p near) := allF_asc p near [] asc_nil
theorem armsN_mem {a : Arm} {near : List Int} : a ∈ armsN p near ↔ ∃ x ∈ near, a ∈ (pntAt p x).arms := by simp [armsN]
theorem allL_mem {s : ByteArray} {near : List Int} : s ∈ allL p near ↔ ∃ a ∈ armsN p near, a.label = s := by
  show s ∈ near.foldl _ [] ↔ _
  rw [allF_mem]
  constructor
  · rintro (h | ⟨x, hx, hs⟩)
    · cases h
    · obtain ⟨a, ha, e⟩ := (labsL_mem _ _).1 hs
      exact ⟨a, armsN_mem.2 ⟨x, hx, ha⟩, e⟩
  · rintro ⟨a, ha, e⟩
    obtain ⟨x, hx, h⟩ := armsN_mem.1 ha
    exact .inr ⟨x, hx, (labsL_mem _ _).2 ⟨a, h, e⟩⟩
theorem carA_some {arr : List Arm} {s : ByteArray} (h : ∃ a ∈ arr, a.label = s) : ∃ a ∈ arr, a.label = s ∧ carA arr s = (a.kind, a.name) := by
  obtain ⟨b, hb, e⟩ := h
  unfold carA carO
  cases hf : arr.find? fun a => decide (a.label = s) with
  | none => exact absurd (List.find?_eq_none.1 hf b hb) (by simp [e])
  | some a => exact ⟨a, List.mem_of_find?_eq_some hf, by simpa using List.find?_some hf, rfl⟩
theorem carA_all {arr : List Arm} (h : clashB arr = false) {a : Arm} (ha : a ∈ arr) : carA arr a.label = (a.kind, a.name) := by
  unfold clashB at h
  have := List.any_eq_false.1 h a ha
  simp only [decide_eq_true_eq, ne_eq, Decidable.not_not] at this
  unfold carA; rw [this]; rfl
theorem name_ne {s : ByteArray} (h : nameB s = true) : s ≠ ⟨#[]⟩ := by
  intro e; subst e; revert h; decide
structure InPnt (p : Prt) (role : ByteArray) (x : Pnt) : Prop where
  fr : x.from_ ∈ p.roles
  to : x.to ∈ p.roles
  ne : x.from_ ≠ x.to
  arms : armsOK p.points.length x.arms = true
theorem Proj.near (h : Proj p role S l) : ∀ (i : Nat) (m : List Int), S[i]? = some m → ∃ set, m = nearL p role set ∧ mixE p role set = false ∧ (∀ y ∈ set, 0 ≤ y ∧ y < (p.points.length : Int)) := by
  have hpl := prt_len h.may
  have hmet : ∀ (ts : List Trn) (row : List Int) (x : Int), x ∈ ts.foldl (fun row t => bfsIn row t.arms) row → x ∈ row ∨ ∃ t ∈ ts, ∃ a ∈ t.arms, a.next = x := by
    intro ts
    induction ts with
    | nil => intro row x hx; exact .inl hx
    | cons t ts ih =>
      intro row x hx
      rw [List.foldl_cons] at hx
      rcases ih _ x hx with h1 | ⟨t', ht', h1⟩
      · rcases (bfsIn_mem _ _ _).1 h1 with h2 | ⟨a, ha, e⟩
        · exact .inl h2
        · exact .inr ⟨t, List.mem_cons_self, a, ha, e⟩
      · exact .inr ⟨t', List.mem_cons_of_mem _ ht', h1⟩
  intro i m hm
  have hi := (List.getElem?_eq_some_iff.1 hm).1
  have hin : (i : Int) ∈ l.turns.foldl (fun row t => bfsIn row t.arms) [0] := by rw [h.met]; exact rng_mem.2 ⟨by omega, by omega⟩
  rcases hmet _ _ _ hin with h1 | ⟨t, ht, a, ha, e⟩
  · have : i = 0 := by have := List.mem_singleton.1 h1; omega
    subst this
    rw [h.zero] at hm; injection hm with hm
    exact ⟨[0], hm.symm, h.one, fun y hy => by rw [List.mem_singleton] at hy; omega⟩
  · obtain ⟨j, hj, rfl⟩ := List.mem_iff_getElem.1 ht
    have hjS : j < S.length := by rw [← h.turns]; exact hj
    rcases h.turn j S[j] l.turns[j] (List.getElem?_eq_getElem hjS) (List.getElem?_eq_getElem hj) with ⟨_, h2⟩ | ⟨_, h2⟩
    · rw [h2] at ha; cases ha
    · obtain ⟨_, q2, q3, q4⟩ := h2.arm a ha
      rw [e] at q4
      rw [Int.toNat_natCast, hm] at q4
      injection q4 with q4
      refine ⟨_, q4, q2, fun y hy => ?_⟩
      unfold nextN at hy
      obtain ⟨b, hb, rfl⟩ := List.mem_map.1 hy
      obtain ⟨x, _, hx⟩ := armsN_mem.1 (List.mem_filter.1 hb).1
      exact prt_in h.may x b hx
theorem Proj.isin (h : Proj p role S l) {i : Nat} {m : List Int} (hm : S[i]? = some m) : ∀ x ∈ m, inP (pntAt p x) role = true := by
  obtain ⟨set, rfl, _⟩ := h.near i m hm
  exact fun x hx => near_isin (prt_in h.may) hx
theorem Proj.at (h : Proj p role S l) {t : Int} {m : List Int} (h0 : 0 ≤ t) (hm : S[t.toNat]? = some m) : TurnOf p role S m (trnAt l t) ∧ t < (l.turns.length : Int) := by
  have hi := (List.getElem?_eq_some_iff.1 hm).1
  have hi2 : t.toNat < l.turns.length := by rw [h.turns]; exact hi
  refine ⟨?_, by omega⟩
  have := h.turn t.toNat m l.turns[t.toNat] hm (List.getElem?_eq_getElem hi2)
  rwa [show trnAt l t = l.turns[t.toNat] by unfold trnAt; rw [List.getD_eq_getElem?_getD, List.getElem?_eq_getElem hi2]; rfl]
end Go.Sy
