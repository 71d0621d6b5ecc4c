/- The plain law of the search: what it finds, what it reports. -/
set_option linter.unusedSimpArgs false
set_option linter.unusedVariables false
set_option linter.unusedSectionVars false
namespace Go.Sy

/-- What a search goes through. -/
structure Sys (S M : Type) where
  moves : S → List M
  next : S → M → S
  over : S → Bool
  lens : S → List Nat
structure Fnd (S : Type) where
  s : S
  from_ : Int
  by_ : Int
structure Srch (S : Type) where
  all : List (Fnd S)
  whole : Bool
  stuck : Bool
  way : List Int
  long : List Nat

section
variable {S M : Type} [DecidableEq S]
/-- The moves by which a stage was found. -/
def wayF (all : List (Fnd S)) : Nat → Nat → List Int → List Int
  | 0, _, out => out
  | fuel + 1, at_, out => match all[at_]? with
    | none => out
    | some f => if f.from_ < 0 then out else wayF all fuel f.from_.toNat (f.by_ :: out)
def wayOf (all : List (Fnd S)) (at_ : Nat) : List Int := wayF all (at_ + 1) at_ []
def metB (all : List (Fnd S)) (s : S) : Bool := decide (s ∈ all.map Fnd.s)
def maxL (a b : List Nat) : List Nat := List.zipWith max a b
def fullL (l : List Nat) : Bool := l.any fun k => decide (64 ≤ k)
/-- A move is looked at. -/
def add1 (most : Nat) (i k : Nat) (nx : S) (x : Srch S) : Srch S :=
  if metB x.all nx then x else if x.all.length = most then { x with whole := false } else { x with all := x.all ++ [⟨nx, i, k⟩] }
def addK (Y : Sys S M) (most : Nat) (i : Nat) (s : S) : List M → Nat → Srch S → Srch S
  | [], _, x => x
  | m :: l, k, x => addK Y most i s l (k + 1) (add1 most i k (Y.next s m) x)
/-- A stage is looked at, ahead of its moves. -/
def headS (Y : Sys S M) (i : Nat) (s : S) (x : Srch S) : Srch S :=
  if fullL (Y.lens s) then { x with long := maxL x.long (Y.lens s), whole := false }
  else if (Y.moves s).isEmpty && (!Y.over s && !x.stuck) then { x with long := maxL x.long (Y.lens s), stuck := true, way := wayOf x.all i }
  else { x with long := maxL x.long (Y.lens s) }
def procS (Y : Sys S M) (most : Nat) (i : Nat) (x : Srch S) : Srch S :=
  match x.all[i]? with
  | none => x
  | some f => addK Y most i f.s (Y.moves f.s) 0 (headS Y i f.s x)
def srch (Y : Sys S M) (most : Nat) (s0 : S) : Nat → Srch S
  | 0 => ⟨[⟨s0, -1, 0⟩], true, false, [], (Y.lens s0).map fun _ => 0⟩
  | i + 1 => procS Y most i (srch Y most s0 i)
/-- What the search ends with. -/
def srchE (Y : Sys S M) (most : Nat) (s0 : S) : Srch S := srch Y most s0 most
/-- The stage that a way leads to. -/
def playS (Y : Sys S M) : S → List Int → Option S
  | s, [] => some s
  | s, k :: l => if k < 0 then none else match (Y.moves s)[k.toNat]? with
    | none => none
    | some m => playS Y (Y.next s m) l

/-! ### The list that grows -/
variable {Y : Sys S M} {most : Nat} {i : Nat} {s0 : S}
theorem add1_all (k : Nat) (nx : S) (x : Srch S) : ∃ r, (add1 most i k nx x).all = x.all ++ r := by
  unfold add1
  split
  · exact ⟨[], by simp⟩
  · split
    · exact ⟨[], by simp⟩
    · exact ⟨[⟨nx, i, k⟩], rfl⟩
theorem addK_all (s : S) : ∀ (l : List M) (k : Nat) (x : Srch S), ∃ r, (addK Y most i s l k x).all = x.all ++ r
  | [], _, x => ⟨[], by simp [addK]⟩
  | m :: l, k, x => by
    obtain ⟨r, hr⟩ := addK_all s l (k + 1) (add1 most i k (Y.next s m) x)
    obtain ⟨q, hq⟩ := add1_all (most := most) (i := i) k (Y.next s m) x
    exact ⟨q ++ r, by rw [addK, hr, hq, List.append_assoc]⟩
theorem headS_all (s : S) (x : Srch S) : (headS Y i s x).all = x.all := by
  unfold headS
  split
  · rfl
  · split <;> rfl
theorem procS_all (x : Srch S) : ∃ r, (procS Y most i x).all = x.all ++ r := by
  unfold procS
  split
  · exact ⟨[], by simp⟩
  · rename_i f hf
    obtain ⟨r, hr⟩ := addK_all (Y := Y) (most := most) (i := i) f.s (Y.moves f.s) 0 (headS Y i f.s x)
    exact ⟨r, by rw [hr, headS_all]⟩
theorem srch_all (k : Nat) : ∀ j, ∃ r, (srch Y most s0 (k + j)).all = (srch Y most s0 k).all ++ r
  | 0 => ⟨[], by simp⟩
  | j + 1 => by
    obtain ⟨r, hr⟩ := srch_all k j
    obtain ⟨q, hq⟩ := procS_all (Y := Y) (most := most) (i := k + j) (srch Y most s0 (k + j))
    exact ⟨r ++ q, by rw [show k + (j + 1) = (k + j) + 1 from rfl, srch, hq, hr, List.append_assoc]⟩
theorem srch_get {k j m : Nat} {f : Fnd S} (h : (srch Y most s0 k).all[m]? = some f) (hkj : k ≤ j) : (srch Y most s0 j).all[m]? = some f := by
  obtain ⟨r, hr⟩ := srch_all (Y := Y) (most := most) (s0 := s0) k (j - k)
  rw [show k + (j - k) = j by omega] at hr
  rw [hr, List.getElem?_append_left (List.getElem?_eq_some_iff.1 h).1]
  exact h
theorem add1_len (k : Nat) (nx : S) (x : Srch S) (h : x.all.length ≤ most) : (add1 most i k nx x).all.length ≤ most := by
  unfold add1
  split
  · exact h
  · split
    · exact h
    · simp; omega
theorem addK_len (s : S) : ∀ (l : List M) (k : Nat) (x : Srch S), x.all.length ≤ most → (addK Y most i s l k x).all.length ≤ most
  | [], _, _, h => h
  | m :: l, k, x, h => addK_len s l (k + 1) _ (add1_len _ _ _ h)
theorem procS_len (x : Srch S) (h : x.all.length ≤ most) : (procS Y most i x).all.length ≤ most := by
  unfold procS
  split
  · exact h
  · exact addK_len _ _ _ _ (by rw [headS_all]; exact h)
theorem srch_len (h1 : 1 ≤ most) : ∀ k, (srch Y most s0 k).all.length ≤ most
  | 0 => by simpa [srch] using h1
  | k + 1 => procS_len _ (srch_len h1 k)
theorem srch_stop {k : Nat} (h : (srch Y most s0 k).all.length ≤ k) : ∀ j, srch Y most s0 (k + j) = srch Y most s0 k
  | 0 => rfl
  | j + 1 => by
    have ih := srch_stop h j
    rw [show k + (j + 1) = (k + j) + 1 from rfl, srch, ih, procS, List.getElem?_eq_none (by omega)]
/-- The loop ends with what the search ends with. -/
theorem srch_end (h1 : 1 ≤ most) {k : Nat} (h : (srch Y most s0 k).all.length ≤ k) : srch Y most s0 k = srchE Y most s0 := by
  have hl := srch_len (Y := Y) (s0 := s0) h1 k
  by_cases hk : k ≤ most
  · have := srch_stop h (most - k)
    rw [show k + (most - k) = most by omega] at this
    exact this.symm
  · have h2 := srch_len (Y := Y) (s0 := s0) h1 most
    have := srch_stop (Y := Y) (s0 := s0) h2 (k - most)
    rw [show most + (k - most) = k by omega] at this
    exact this
theorem srch_pos : ∀ k, ∃ r, (srch Y most s0 k).all = ⟨s0, -1, 0⟩ :: r := fun k => by
  obtain ⟨r, hr⟩ := srch_all (Y := Y) (most := most) (s0 := s0) 0 k
  rw [Nat.zero_add] at hr
  exact ⟨r, by rw [hr]; rfl⟩

/-! ### What is known of all that was found -/
/-- Where a stage comes from. -/
structure Born (Y : Sys S M) (s0 : S) (all : List (Fnd S)) (j : Nat) (f : Fnd S) : Prop where
  root : j = 0 → f = ⟨s0, -1, 0⟩
  child : j ≠ 0 → ∃ (p k : Nat) (g : Fnd S) (m : M), p < j ∧ all[p]? = some g ∧ (Y.moves g.s)[k]? = some m ∧ f = ⟨Y.next g.s m, p, k⟩
theorem Born.app {all r : List (Fnd S)} {j : Nat} {f : Fnd S} (h : Born Y s0 all j f) : Born Y s0 (all ++ r) j f :=
  ⟨h.root, fun hj => by
    obtain ⟨p, k, g, m, h1, h2, h3, h4⟩ := h.child hj
    exact ⟨p, k, g, m, h1, by rw [List.getElem?_append_left (List.getElem?_eq_some_iff.1 h2).1]; exact h2, h3, h4⟩⟩
def AllBorn (Y : Sys S M) (s0 : S) (all : List (Fnd S)) : Prop := ∀ j f, all[j]? = some f → Born Y s0 all j f
theorem AllBorn.snoc {all : List (Fnd S)} {f : Fnd S} (h : AllBorn Y s0 all) (hf : Born Y s0 all all.length f) : AllBorn Y s0 (all ++ [f]) := fun j g hg => by
  by_cases hj : j < all.length
  · rw [List.getElem?_append_left hj] at hg
    exact (h j g hg).app
  · have hjl : j = all.length := by
      have := (List.getElem?_eq_some_iff.1 hg).1
      simp at this; omega
    subst hjl
    simp at hg
    subst hg
    exact hf.app
theorem add1_born {k : Nat} {g : Fnd S} {m : M} {x : Srch S} (h : AllBorn Y s0 x.all) (hi : x.all[i]? = some g) (hk : (Y.moves g.s)[k]? = some m) : AllBorn Y s0 (add1 most i k (Y.next g.s m) x).all := by
  unfold add1
  have hil := (List.getElem?_eq_some_iff.1 hi).1
  split
  · exact h
  · split
    · exact h
    · exact h.snoc ⟨fun h0 => by omega, fun _ => ⟨i, k, g, m, hil, hi, hk, rfl⟩⟩
theorem addK_born {g : Fnd S} : ∀ (l : List M) (k : Nat) (x : Srch S), AllBorn Y s0 x.all → x.all[i]? = some g → (∀ j, l[j]? = (Y.moves g.s)[k + j]?) → AllBorn Y s0 (addK Y most i g.s l k x).all
  | [], _, _, h, _, _ => h
  | m :: l, k, x, h, hi, hl => by
    have h0 := hl 0
    simp only [List.getElem?_cons_zero, Nat.add_zero] at h0
    obtain ⟨r, hr⟩ := add1_all (most := most) (i := i) k (Y.next g.s m) x
    refine addK_born l (k + 1) _ (add1_born h hi h0.symm) ?_ fun j => ?_
    · rw [hr, List.getElem?_append_left (List.getElem?_eq_some_iff.1 hi).1]; exact hi
    · have := hl (j + 1)
      simp only [List.getElem?_cons_succ] at this
      rw [this]; congr 1; omega
theorem srch_born : ∀ k, AllBorn Y s0 (srch Y most s0 k).all
  | 0 => fun j f hf => by
    have hj := (List.getElem?_eq_some_iff.1 hf).1
    simp [srch] at hj
    subst hj
    simp [srch] at hf
    exact ⟨fun _ => hf.symm, fun h => absurd rfl h⟩
  | k + 1 => by
    have ih := srch_born k
    rw [srch, procS]
    split
    · exact ih
    · rename_i f hf
      exact addK_born _ 0 _ (by rw [headS_all]; exact ih) (by rw [headS_all]; exact hf) fun j => by rw [Nat.zero_add]
/-- Whatever holds of the first stage and is kept by moves holds of all that is found. -/
theorem born_ind {all : List (Fnd S)} {G : S → Prop} (h : AllBorn Y s0 all) (h0 : G s0) (hs : ∀ s m, G s → m ∈ Y.moves s → G (Y.next s m)) : ∀ (j : Nat) (f : Fnd S), all[j]? = some f → G f.s := by
  intro j
  induction j using Nat.strongRecOn with
  | _ j ih =>
    intro f hf
    have hb := h j f hf
    by_cases hj : j = 0
    · rw [hb.root hj]; exact h0
    · obtain ⟨p, k, g, m, h1, h2, h3, rfl⟩ := hb.child hj
      exact hs _ _ (ih p h1 g h2) (List.mem_of_getElem? h3)

/-! ### The way -/
theorem playS_snoc {s t : S} {m : M} : ∀ {l : List Int} {k : Nat}, playS Y s l = some t → (Y.moves t)[k]? = some m → playS Y s (l ++ [(k : Int)]) = some (Y.next t m)
  | [], k, h, hm => by
    simp only [playS, Option.some.injEq] at h
    subst h
    simp [playS, hm]
  | a :: l, k, h, hm => by
    simp only [playS, List.cons_append] at h ⊢
    split at h
    · cases h
    · rename_i ha
      rw [if_neg ha]
      split at h
      · cases h
      · rename_i m' hm'
        exact playS_snoc h hm
theorem wayF_app {all : List (Fnd S)} {r : List (Fnd S)} (h : AllBorn Y s0 all) : ∀ (fuel at_ : Nat) (out : List Int), at_ < all.length → wayF (all ++ r) fuel at_ out = wayF all fuel at_ out
  | 0, _, _, _ => rfl
  | fuel + 1, at_, out, hat => by
    have hg := List.getElem?_eq_getElem hat
    have hb := h at_ _ hg
    simp only [wayF, List.getElem?_append_left hat, hg]
    by_cases h0 : at_ = 0
    · rw [hb.root h0]; simp
    · obtain ⟨p, k, g, m, h1, h2, h3, h4⟩ := hb.child h0
      rw [h4]
      simp only
      rw [wayF_app h fuel _ _ (by simp; omega)]
theorem wayF_play {all : List (Fnd S)} (h : AllBorn Y s0 all) : ∀ (fuel at_ : Nat) (out : List Int) (f : Fnd S), at_ < fuel → all[at_]? = some f → ∃ l, wayF all fuel at_ out = l ++ out ∧ playS Y s0 l = some f.s
  | 0, _, _, _, hlt, _ => by omega
  | fuel + 1, at_, out, f, hlt, hf => by
    have hb := h at_ _ hf
    simp only [wayF, hf]
    by_cases h0 : at_ = 0
    · rw [hb.root h0]; exact ⟨[], by simp, rfl⟩
    · obtain ⟨p, k, g, m, h1, h2, h3, rfl⟩ := hb.child h0
      obtain ⟨l, hl, hp⟩ := wayF_play h fuel p ((k : Int) :: out) g (by omega) h2
      refine ⟨l ++ [(k : Int)], ?_, playS_snoc hp h3⟩
      simp only
      rw [if_neg (by omega), show ((p : Nat) : Int).toNat = p by omega, hl, List.append_assoc]; rfl
theorem wayOf_play {all : List (Fnd S)} (h : AllBorn Y s0 all) {at_ : Nat} {f : Fnd S} (hf : all[at_]? = some f) : playS Y s0 (wayOf all at_) = some f.s := by
  obtain ⟨l, hl, hp⟩ := wayF_play h (at_ + 1) at_ [] f (by omega) hf
  rw [wayOf, hl, List.append_nil]; exact hp
theorem playS_take {s t : S} : ∀ {l : List Int} (k : Nat), playS Y s l = some t → ∃ u, playS Y s (l.take k) = some u ∧ ∀ a, l[k]? = some a → 0 ≤ a ∧ a.toNat < (Y.moves u).length
  | l, 0, h => ⟨s, by simp [playS], fun a ha => by
      cases l with
      | nil => simp at ha
      | cons b l =>
        simp at ha; subst ha
        simp only [playS] at h
        split at h
        · cases h
        · split at h
          · cases h
          · rename_i hb _ m hm
            exact ⟨by omega, (List.getElem?_eq_some_iff.1 hm).1⟩⟩
  | [], k + 1, h => ⟨t, by simpa using h, fun a ha => by simp at ha⟩
  | b :: l, k + 1, h => by
    simp only [playS] at h
    split at h
    · cases h
    · split at h
      · cases h
      · rename_i hb _ m hm
        obtain ⟨u, hu, ha⟩ := playS_take k h
        exact ⟨u, by simp [playS, hb, hm, hu], fun a h2 => ha a (by simpa using h2)⟩

/-! ### Stuck -/
/-- What is said of deadlocks, once the first i stages were looked at. -/
structure StuckI (Y : Sys S M) (i : Nat) (x : Srch S) : Prop where
  yes : x.stuck = true → ∃ j f, j < i ∧ x.all[j]? = some f ∧ Y.moves f.s = [] ∧ Y.over f.s = false ∧ x.way = wayOf x.all j
  no : x.stuck = false → x.way = [] ∧ ∀ j f, j < i → x.all[j]? = some f → fullL (Y.lens f.s) = false → Y.moves f.s = [] → Y.over f.s = true
theorem add1_rest (k : Nat) (nx : S) (x : Srch S) : (add1 most i k nx x).stuck = x.stuck ∧ (add1 most i k nx x).way = x.way ∧ (add1 most i k nx x).long = x.long := by
  unfold add1
  split
  · exact ⟨rfl, rfl, rfl⟩
  · split <;> exact ⟨rfl, rfl, rfl⟩
theorem addK_rest (s : S) : ∀ (l : List M) (k : Nat) (x : Srch S), (addK Y most i s l k x).stuck = x.stuck ∧ (addK Y most i s l k x).way = x.way ∧ (addK Y most i s l k x).long = x.long
  | [], _, _ => ⟨rfl, rfl, rfl⟩
  | m :: l, k, x => by
    obtain ⟨h1, h2, h3⟩ := addK_rest s l (k + 1) (add1 most i k (Y.next s m) x)
    obtain ⟨g1, g2, g3⟩ := add1_rest (most := most) (i := i) k (Y.next s m) x
    exact ⟨h1.trans g1, h2.trans g2, h3.trans g3⟩
theorem srch_stuck : ∀ k, StuckI Y k (srch Y most s0 k)
  | 0 => ⟨fun h => by simp [srch] at h, fun _ => ⟨rfl, fun j f hj => by omega⟩⟩
  | k + 1 => by
    have ih := srch_stuck k
    have hborn := srch_born (Y := Y) (most := most) (s0 := s0) k
    obtain ⟨r, hr⟩ := procS_all (Y := Y) (most := most) (i := k) (srch Y most s0 k)
    rw [srch]
    generalize srch Y most s0 k = x at *
    have hback : ∀ j f, (procS Y most k x).all[j]? = some f → j < x.all.length → x.all[j]? = some f := fun j f hf hj => by
      rw [hr, List.getElem?_append_left hj] at hf; exact hf
    have hfwd : ∀ j f, x.all[j]? = some f → (procS Y most k x).all[j]? = some f := fun j f hf => by
      rw [hr, List.getElem?_append_left (List.getElem?_eq_some_iff.1 hf).1]; exact hf
    cases hx : x.all[k]? with
    | none =>
      have he : procS Y most k x = x := by simp [procS, hx]
      rw [he]
      refine ⟨fun h => ?_, fun h => ⟨(ih.no h).1, fun j f hj hf => ?_⟩⟩
      · obtain ⟨j, f, h1, h2⟩ := ih.yes h
        exact ⟨j, f, by omega, h2⟩
      · have hjl := (List.getElem?_eq_some_iff.1 hf).1
        have hkl : x.all.length ≤ k := by rw [← List.getElem?_eq_none_iff]; exact hx
        exact (ih.no h).2 j f (by omega) hf
    | some g =>
      have hkl := (List.getElem?_eq_some_iff.1 hx).1
      have he : procS Y most k x = addK Y most k g.s (Y.moves g.s) 0 (headS Y k g.s x) := by simp [procS, hx]
      obtain ⟨e1, e2, _⟩ := addK_rest (Y := Y) (most := most) (i := k) g.s (Y.moves g.s) 0 (headS Y k g.s x)
      rw [← he] at e1 e2
      have hway : ∀ j, j < x.all.length → wayOf (procS Y most k x).all j = wayOf x.all j := fun j hj => by
        rw [hr, wayOf, wayF_app hborn _ _ _ hj]; rfl
      by_cases hfu : fullL (Y.lens g.s) = true
      · have hs : (headS Y k g.s x).stuck = x.stuck ∧ (headS Y k g.s x).way = x.way := by simp [headS, hfu]
        rw [hs.1] at e1; rw [hs.2] at e2
        refine ⟨fun h => ?_, fun h => ⟨by rw [e2]; exact (ih.no (by rw [← e1]; exact h)).1, fun j f hj hf hnf => ?_⟩⟩
        · obtain ⟨j, f, h1, h2, h3, h4, h5⟩ := ih.yes (by rw [← e1]; exact h)
          exact ⟨j, f, by omega, hfwd j f h2, h3, h4, by rw [e2, h5, hway j (List.getElem?_eq_some_iff.1 h2).1]⟩
        · by_cases hjk : j = k
          · subst hjk
            have := hback j f hf hkl
            rw [hx] at this; injection this with this; subst this
            rw [hfu] at hnf; cases hnf
          · exact (ih.no (by rw [← e1]; exact h)).2 j f (by omega) (hback j f hf (by omega)) hnf
      · simp only [Bool.not_eq_true] at hfu
        by_cases hst : ((Y.moves g.s).isEmpty && (!Y.over g.s && !x.stuck)) = true
        · have hs : (headS Y k g.s x).stuck = true ∧ (headS Y k g.s x).way = wayOf x.all k := by simp [headS, hfu, hst]
          simp only [Bool.and_eq_true, Bool.not_eq_true', List.isEmpty_iff] at hst
          refine ⟨fun _ => ⟨k, g, by omega, hfwd k g hx, hst.1, hst.2.1, by rw [e2, hs.2, hway k hkl]⟩, fun h => ?_⟩
          rw [e1, hs.1] at h; cases h
        · have hs : (headS Y k g.s x).stuck = x.stuck ∧ (headS Y k g.s x).way = x.way := by
            simp only [headS, hfu]
            rw [if_neg (by simp), if_neg hst]; exact ⟨rfl, rfl⟩
          rw [hs.1] at e1; rw [hs.2] at e2
          refine ⟨fun h => ?_, fun h => ⟨by rw [e2]; exact (ih.no (by rw [← e1]; exact h)).1, fun j f hj hf hnf hm => ?_⟩⟩
          · obtain ⟨j, f, h1, h2, h3, h4, h5⟩ := ih.yes (by rw [← e1]; exact h)
            exact ⟨j, f, by omega, hfwd j f h2, h3, h4, by rw [e2, h5, hway j (List.getElem?_eq_some_iff.1 h2).1]⟩
          · by_cases hjk : j = k
            · subst hjk
              have := hback j f hf hkl
              rw [hx] at this; injection this with this; subst this
              cases ho : Y.over g.s with
              | true => rfl
              | false => exact absurd (by simp [hm, ho, ← e1, h]) hst
            · exact (ih.no (by rw [← e1]; exact h)).2 j f (by omega) (hback j f hf (by omega)) hnf hm

/-! ### Whole -/
theorem metB_iff {all : List (Fnd S)} {s : S} : metB all s = true ↔ ∃ (j : Nat) (f : Fnd S), all[j]? = some f ∧ f.s = s := by
  rw [metB, decide_eq_true_eq, List.mem_map]
  constructor
  · rintro ⟨f, hf, rfl⟩
    obtain ⟨j, hj, rfl⟩ := List.mem_iff_getElem.1 hf
    exact ⟨j, _, List.getElem?_eq_getElem hj, rfl⟩
  · rintro ⟨j, f, hf, rfl⟩
    exact ⟨f, List.mem_of_getElem? hf, rfl⟩
theorem metB_app {all r : List (Fnd S)} {s : S} (h : metB all s = true) : metB (all ++ r) s = true := by
  obtain ⟨j, f, hf, e⟩ := metB_iff.1 h
  exact metB_iff.2 ⟨j, f, by rw [List.getElem?_append_left (List.getElem?_eq_some_iff.1 hf).1]; exact hf, e⟩
theorem add1_whole {k : Nat} {nx : S} {x : Srch S} (h : (add1 most i k nx x).whole = true) : x.whole = true ∧ metB (add1 most i k nx x).all nx = true := by
  unfold add1 at h ⊢
  split at h
  · rename_i hm
    rw [if_pos hm]; exact ⟨h, hm⟩
  · rename_i hm
    split at h
    · cases h
    · rename_i hl
      rw [if_neg hm, if_neg hl]
      refine ⟨h, metB_iff.2 ⟨x.all.length, ⟨nx, i, k⟩, by simp, rfl⟩⟩
theorem addK_whole (s : S) : ∀ (l : List M) (k : Nat) (x : Srch S), (addK Y most i s l k x).whole = true → x.whole = true ∧ ∀ m ∈ l, metB (addK Y most i s l k x).all (Y.next s m) = true
  | [], _, _, h => ⟨h, fun m hm => by cases hm⟩
  | m :: l, k, x, h => by
    obtain ⟨h1, h2⟩ := addK_whole s l (k + 1) (add1 most i k (Y.next s m) x) h
    obtain ⟨h3, h4⟩ := add1_whole h1
    refine ⟨h3, fun m' hm' => ?_⟩
    rcases List.mem_cons.1 hm' with rfl | hm'
    · obtain ⟨r, hr⟩ := addK_all (Y := Y) (most := most) (i := i) s l (k + 1) (add1 most i k (Y.next s m') x)
      show metB (addK Y most i s l (k + 1) (add1 most i k (Y.next s m') x)).all _ = true
      rw [hr]; exact metB_app h4
    · exact h2 m' hm'
theorem headS_whole {s : S} {x : Srch S} (h : (headS Y i s x).whole = true) : x.whole = true ∧ fullL (Y.lens s) = false := by
  unfold headS at h
  split at h
  · cases h
  · rename_i hf
    simp only [Bool.not_eq_true] at hf
    split at h <;> exact ⟨h, hf⟩
/-- What is said of a search that was complete so far. -/
def WholeI (Y : Sys S M) (i : Nat) (x : Srch S) : Prop := x.whole = true → ∀ j f, j < i → x.all[j]? = some f → fullL (Y.lens f.s) = false ∧ ∀ m ∈ Y.moves f.s, metB x.all (Y.next f.s m) = true
theorem srch_whole : ∀ k, WholeI Y k (srch Y most s0 k)
  | 0 => fun _ j f hj => by omega
  | k + 1 => by
    have ih := srch_whole k
    obtain ⟨r, hr⟩ := procS_all (Y := Y) (most := most) (i := k) (srch Y most s0 k)
    rw [srch]
    generalize srch Y most s0 k = x at *
    cases hx : x.all[k]? with
    | none =>
      have he : procS Y most k x = x := by simp [procS, hx]
      rw [he]
      intro hw j f hj hf
      have hjl := (List.getElem?_eq_some_iff.1 hf).1
      have hkl : x.all.length ≤ k := by rw [← List.getElem?_eq_none_iff]; exact hx
      exact ih hw j f (by omega) hf
    | some g =>
      have hkl := (List.getElem?_eq_some_iff.1 hx).1
      intro hw j f hj hf
      have he : procS Y most k x = addK Y most k g.s (Y.moves g.s) 0 (headS Y k g.s x) := by simp [procS, hx]
      rw [he] at hw
      obtain ⟨h1, h2⟩ := addK_whole _ _ _ _ hw
      obtain ⟨h3, h4⟩ := headS_whole h1
      rw [← he] at h2
      by_cases hjk : j = k
      · subst hjk
        rw [hr, List.getElem?_append_left hkl, hx] at hf
        injection hf with hf; subst hf
        exact ⟨h4, h2⟩
      · rw [hr, List.getElem?_append_left (by omega)] at hf
        obtain ⟨g1, g2⟩ := ih h3 j f (by omega) hf
        exact ⟨g1, fun m hm => by rw [hr]; exact metB_app (g2 m hm)⟩

/-! ### The queues -/
def LgL (a b : List Nat) : Prop := a.length = b.length ∧ ∀ j (h : j < a.length) (h' : j < b.length), a[j] ≤ b[j]
theorem LgL.refl (a : List Nat) : LgL a a := ⟨rfl, fun _ _ _ => Nat.le_refl _⟩
theorem LgL.trans {a b c : List Nat} (h : LgL a b) (k : LgL b c) : LgL a c := ⟨h.1.trans k.1, fun j h1 h2 => Nat.le_trans (h.2 j h1 (by rw [← h.1]; exact h1)) (k.2 j (by rw [← h.1]; exact h1) h2)⟩
theorem maxL_len {a b : List Nat} (h : a.length = b.length) : (maxL a b).length = a.length := by simp [maxL, h]
theorem maxL_left {a b : List Nat} (h : a.length = b.length) : LgL a (maxL a b) := ⟨(maxL_len h).symm, fun j h1 h2 => by simp only [maxL, List.getElem_zipWith]; exact Nat.le_max_left _ _⟩
theorem maxL_right {a b : List Nat} (h : a.length = b.length) : LgL b (maxL a b) := ⟨by rw [maxL_len h, h], fun j h1 h2 => by simp only [maxL, List.getElem_zipWith]; exact Nat.le_max_right _ _⟩
theorem maxL_mono {a b c : List Nat} (hac : a.length = c.length) (h : LgL a b) : LgL (maxL a c) (maxL b c) := by
  refine ⟨by rw [maxL_len hac, maxL_len (by rw [← h.1]; exact hac), h.1], fun j h1 h2 => ?_⟩
  simp only [maxL, List.getElem_zipWith]
  rw [maxL_len hac] at h1
  have := h.2 j h1 (by rw [← h.1]; exact h1)
  omega
theorem headS_long (s : S) (x : Srch S) : (headS Y i s x).long = maxL x.long (Y.lens s) := by
  unfold headS
  split
  · rfl
  · split <;> rfl
theorem procS_long {x : Srch S} {f : Fnd S} (h : x.all[i]? = some f) : (procS Y most i x).long = maxL x.long (Y.lens f.s) := by
  have he : procS Y most i x = addK Y most i f.s (Y.moves f.s) 0 (headS Y i f.s x) := by simp [procS, h]
  rw [he, (addK_rest _ _ _ _).2.2, headS_long]
/-- All stages have as many queues as the first. -/
def SameQ (Y : Sys S M) (s0 : S) (all : List (Fnd S)) : Prop := ∀ (j : Nat) (f : Fnd S), all[j]? = some f → (Y.lens f.s).length = (Y.lens s0).length
theorem srch_long (hq : ∀ k, SameQ Y s0 (srch Y most s0 k).all) : ∀ k, (srch Y most s0 k).long.length = (Y.lens s0).length ∧ ∀ j f, j < k → (srch Y most s0 k).all[j]? = some f → LgL (Y.lens f.s) (srch Y most s0 k).long
  | 0 => ⟨by simp [srch], fun j f hj => by omega⟩
  | k + 1 => by
    obtain ⟨ih1, ih2⟩ := srch_long hq k
    obtain ⟨r, hr⟩ := procS_all (Y := Y) (most := most) (i := k) (srch Y most s0 k)
    have hqk := hq k
    rw [srch]
    generalize srch Y most s0 k = x at *
    cases hx : x.all[k]? with
    | none =>
      have he : procS Y most k x = x := by simp [procS, hx]
      rw [he]
      refine ⟨ih1, fun j f hj hf => ?_⟩
      have hjl := (List.getElem?_eq_some_iff.1 hf).1
      have hkl : x.all.length ≤ k := by rw [← List.getElem?_eq_none_iff]; exact hx
      exact ih2 j f (by omega) hf
    | some g =>
      have hkl := (List.getElem?_eq_some_iff.1 hx).1
      have hlq := hqk k g hx
      rw [procS_long hx]
      refine ⟨by rw [maxL_len (by rw [ih1, hlq]), ih1], fun j f hj hf => ?_⟩
      by_cases hjk : j = k
      · subst hjk
        rw [hr, List.getElem?_append_left hkl, hx] at hf
        injection hf with hf; subst hf
        exact maxL_right (by rw [ih1, hlq])
      · rw [hr, List.getElem?_append_left (by omega)] at hf
        exact (ih2 j f (by omega) hf).trans (maxL_left (by rw [ih1, hlq]))

/-! ### A greater bound -/
/-- The search at the bound k beside that at the bound m. -/
structure Less (most more : Nat) (x y : Srch S) : Prop where
  all : x.all = y.all.take most
  len : y.all.length ≤ more
  whole : x.whole = true → y.whole = true ∧ x.all = y.all
theorem metB_take {all : List (Fnd S)} {n : Nat} {s : S} (h : metB (all.take n) s = true) : metB all s = true := by
  rw [← List.take_append_drop n all]; exact metB_app h
theorem add1_less {most more k : Nat} (hle : most ≤ more) {nx : S} {x y : Srch S} (h : Less most more x y) : Less most more (add1 most i k nx x) (add1 more i k nx y) := by
  have hxl : x.all.length = min most y.all.length := by rw [h.all, List.length_take]
  unfold add1
  by_cases h1 : metB x.all nx = true
  · have h2 : metB y.all nx = true := by rw [h.all] at h1; exact metB_take h1
    rw [if_pos h1, if_pos h2]; exact h
  · rw [if_neg h1]
    by_cases hx : x.all.length = most
    · rw [if_pos hx]
      have hxy : most ≤ y.all.length := by omega
      by_cases h2 : metB y.all nx = true
      · rw [if_pos h2]; exact ⟨h.all, h.len, fun hw => by cases hw⟩
      · rw [if_neg h2]
        by_cases hy : y.all.length = more
        · rw [if_pos hy]; exact ⟨h.all, h.len, fun hw => by cases hw⟩
        · rw [if_neg hy]
          have := h.len
          refine ⟨?_, by simp; omega, fun hw => by cases hw⟩
          simp only
          rw [List.take_append_of_le_length hxy]; exact h.all
    · rw [if_neg hx]
      have he : x.all = y.all := by rw [h.all, List.take_of_length_le (by omega)]
      have h2 : ¬ metB y.all nx = true := by rw [← he]; exact h1
      have hy : ¬ y.all.length = more := by rw [← he]; omega
      rw [if_neg h2, if_neg hy]
      have := h.len
      refine ⟨?_, by simp; omega, fun hw => ⟨(h.whole hw).1, by simp only; rw [he]⟩⟩
      simp only
      rw [he, List.take_of_length_le (by simp; omega)]
theorem addK_less {most more : Nat} (hle : most ≤ more) (s : S) : ∀ (l : List M) (k : Nat) {x y : Srch S}, Less most more x y → Less most more (addK Y most i s l k x) (addK Y more i s l k y)
  | [], _, _, _, h => h
  | m :: l, k, _, _, h => addK_less hle s l (k + 1) (add1_less hle h)
theorem addK_keep {more : Nat} (s : S) (l : List M) (k n : Nat) {y : Srch S} (h : n ≤ y.all.length) : (addK Y more i s l k y).all.take n = y.all.take n := by
  obtain ⟨r, hr⟩ := addK_all (Y := Y) (most := more) (i := i) s l k y
  rw [hr, List.take_append_of_le_length h]
/-- The two searches side by side. -/
structure Beside (most more i : Nat) (x y : Srch S) : Prop where
  less : Less most more x y
  eqs : i ≤ x.all.length → x.stuck = y.stuck ∧ x.way = y.way
  st : x.stuck = true → y.stuck = true ∧ x.way = y.way
  lg : LgL x.long y.long
  wl : x.whole = true → x.long = y.long
theorem headS_same {s : S} {x y : Srch S} (hw : wayOf x.all i = wayOf y.all i) (h : x.stuck = y.stuck ∧ x.way = y.way) : (headS Y i s x).stuck = (headS Y i s y).stuck ∧ (headS Y i s x).way = (headS Y i s y).way := by
  unfold headS
  rw [h.1]
  split
  · exact ⟨rfl, h.2⟩
  · split
    · exact ⟨rfl, hw⟩
    · exact ⟨rfl, h.2⟩
theorem headS_keep {s : S} {y : Srch S} (h : y.stuck = true) : (headS Y i s y).stuck = true ∧ (headS Y i s y).way = y.way := by
  unfold headS
  split
  · exact ⟨h, rfl⟩
  · rw [if_neg (by simp [h])]; exact ⟨h, rfl⟩
theorem headS_less {most more : Nat} {s : S} {x y : Srch S} (h : Less most more x y) : Less most more (headS Y i s x) (headS Y i s y) := by
  refine ⟨by rw [headS_all, headS_all]; exact h.all, by rw [headS_all]; exact h.len, fun hw => ?_⟩
  rw [headS_all, headS_all]
  obtain ⟨h1, h2⟩ := headS_whole hw
  obtain ⟨h3, h4⟩ := h.whole h1
  refine ⟨?_, h4⟩
  unfold headS
  rw [if_neg (by rw [h2]; simp)]
  split <;> exact h3
theorem srch_beside {most more : Nat} (hle : most ≤ more) (hq : ∀ k, SameQ Y s0 (srch Y most s0 k).all) (hq' : ∀ k, SameQ Y s0 (srch Y more s0 k).all) (h1 : 1 ≤ most) :
    ∀ k, Beside most more k (srch Y most s0 k) (srch Y more s0 k)
  | 0 => by
    refine ⟨⟨?_, ?_, fun _ => ⟨rfl, rfl⟩⟩, fun _ => ⟨rfl, rfl⟩, fun h => ⟨h, rfl⟩, .refl _, fun _ => rfl⟩
    · simp only [srch]; rw [List.take_of_length_le (by simpa using h1)]
    · simp only [srch, List.length_cons, List.length_nil]; omega
  | k + 1 => by
    have ih := srch_beside hle hq hq' h1 k
    have hbx := srch_born (Y := Y) (most := most) (s0 := s0) k
    have lx := (srch_long (Y := Y) (most := most) (s0 := s0) hq k).1
    have ly := (srch_long (Y := Y) (most := more) (s0 := s0) hq' k).1
    have hqx := hq k
    have hqy := hq' k
    rw [srch, srch]
    generalize srch Y most s0 k = x at *
    generalize srch Y more s0 k = y at *
    have hxl : x.all.length = min most y.all.length := by rw [ih.less.all, List.length_take]
    cases hx : x.all[k]? with
    | some f =>
      have hkl := (List.getElem?_eq_some_iff.1 hx).1
      have hy : y.all[k]? = some f := by rw [ih.less.all, List.getElem?_take] at hx; split at hx <;> simp_all
      have ex : procS Y most k x = addK Y most k f.s (Y.moves f.s) 0 (headS Y k f.s x) := by simp [procS, hx]
      have ey : procS Y more k y = addK Y more k f.s (Y.moves f.s) 0 (headS Y k f.s y) := by simp [procS, hy]
      have hyx : y.all = x.all ++ y.all.drop most := by rw [ih.less.all, List.take_append_drop]
      have hw : wayOf x.all k = wayOf y.all k := by rw [hyx]; unfold wayOf; rw [wayF_app hbx _ _ _ hkl]
      obtain ⟨s1, s2⟩ := headS_same (Y := Y) (s := f.s) hw (ih.eqs (by omega))
      obtain ⟨a1, a2, _⟩ := addK_rest (Y := Y) (most := most) (i := k) f.s (Y.moves f.s) 0 (headS Y k f.s x)
      obtain ⟨b1, b2, _⟩ := addK_rest (Y := Y) (most := more) (i := k) f.s (Y.moves f.s) 0 (headS Y k f.s y)
      have hfq := hqx k f hx
      refine ⟨by rw [ex, ey]; exact addK_less hle _ _ _ (headS_less ih.less), fun _ => ?_, fun h => ?_, ?_, fun hwh => ?_⟩
      · rw [ex, ey, a1, a2, b1, b2]; exact ⟨s1, s2⟩
      · rw [ex, a1] at h
        rw [ex, ey, a2, b1, b2, ← s1, ← s2]; exact ⟨h, rfl⟩
      · rw [procS_long hx, procS_long hy]; exact maxL_mono (by rw [lx, hfq]) ih.lg
      · rw [procS_long hx, procS_long hy]
        rw [ex] at hwh
        obtain ⟨w1, _⟩ := addK_whole _ _ _ _ hwh
        rw [ih.wl (headS_whole w1).1]
    | none =>
      have hkl : x.all.length ≤ k := by rw [← List.getElem?_eq_none_iff]; exact hx
      have ex : procS Y most k x = x := by simp [procS, hx]
      rw [ex]
      cases hy : y.all[k]? with
      | none =>
        have ey : procS Y more k y = y := by simp [procS, hy]
        rw [ey]
        exact ⟨ih.less, fun h => by omega, ih.st, ih.lg, ih.wl⟩
      | some f =>
        have hyl := (List.getElem?_eq_some_iff.1 hy).1
        have ey : procS Y more k y = addK Y more k f.s (Y.moves f.s) 0 (headS Y k f.s y) := by simp [procS, hy]
        obtain ⟨b1, b2, _⟩ := addK_rest (Y := Y) (most := more) (i := k) f.s (Y.moves f.s) 0 (headS Y k f.s y)
        have hnw : x.whole = true → False := fun hw => by
          have := (ih.less.whole hw).2
          rw [this] at hkl; omega
        refine ⟨⟨?_, procS_len _ ih.less.len, fun hw => (hnw hw).elim⟩, fun h => by omega, fun h => ?_, ?_, fun hw => (hnw hw).elim⟩
        · rw [ey, addK_keep _ _ _ _ (by rw [headS_all]; omega), headS_all]; exact ih.less.all
        · obtain ⟨g1, g2⟩ := ih.st h
          obtain ⟨k1, k2⟩ := headS_keep (Y := Y) (i := k) (s := f.s) g1
          rw [ey, b1, b2, k1, k2]; exact ⟨rfl, g2⟩
        · rw [procS_long hy]
          exact ih.lg.trans (maxL_left (by rw [ly, hqy k f hy]))
theorem srchE_beside {most more : Nat} (hle : most ≤ more) (hq : ∀ k, SameQ Y s0 (srch Y most s0 k).all) (hq' : ∀ k, SameQ Y s0 (srch Y more s0 k).all) (h1 : 1 ≤ most) :
    Beside most more more (srchE Y most s0) (srchE Y more s0) := by
  have h := srch_beside hle hq hq' h1 more
  have hl := srch_len (Y := Y) (s0 := s0) h1 more
  rwa [srch_end (Y := Y) (s0 := s0) h1 (by omega)] at h
end
end Go.Sy
