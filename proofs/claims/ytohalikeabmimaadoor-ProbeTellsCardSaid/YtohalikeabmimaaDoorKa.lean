/- The plain law of the search: what it finds, what it reports. -/
set_option linter.unusedSimpArgs false
set_option linter.unusedVariables false
set_option linter.unusedSectionVars false
namespace Go.Sy

/-- What a search goes through. -/
structure Sys (S M : Type) where
  moves : S → List M
  next : S → M → S
  over : S → Bool
  lens : S → List Nat
structure Fnd (S : Type) where
  s : S
  from_ : Int
  by_ : Int
structure Srch (S : Type) where
  all : List (Fnd S)
  whole : Bool
  stuck : Bool
  way : List Int
  long : List Nat

section
variable {S M : Type} [DecidableEq S]
/-- The moves by which a stage was found. -/
def wayF (all : List (Fnd S)) : Nat → Nat → List Int → List Int
  | 0, _, out => out
  | fuel + 1, at_, out => match all[at_]? with
    | none => out
    | some f => if f.from_ < 0 then out else wayF all fuel f.from_.toNat (f.by_ :: out)
def wayOf (all : List (Fnd S)) (at_ : Nat) : List Int := wayF all (at_ + 1) at_ []
def metB (all : List (Fnd S)) (s : S) : Bool := decide (s ∈ all.map Fnd.s)
def maxL (a b : List Nat) : List Nat := List.zipWith max a b
def fullL (l : List Nat) : Bool := l.any fun k => decide (64 ≤ k)
/-- A move is looked at. -/
def add1 (most : Nat) (i k : Nat) (nx : S) (x : Srch S) : Srch S :=
  if metB x.all nx then x else if x.all.length = most then { x with whole := false } else { x with all := x.all ++ [⟨nx, i, k⟩] }
def addK (Y : Sys S M) (most : Nat) (i : Nat) (s : S) : List M → Nat → Srch S → Srch S
  | [], _, x => x
  | m :: l, k, x => addK Y most i s l (k + 1) (add1 most i k (Y.next s m) x)
/-- A stage is looked at, ahead of its moves. -/
def headS (Y : Sys S M) (i : Nat) (s : S) (x : Srch S) : Srch S :=
  if fullL (Y.lens s) then { x with long := maxL x.long (Y.lens s), whole := false }
  else if (Y.moves s).isEmpty && (!Y.over s && !x.stuck) then { x with long := maxL x.long (Y.lens s), stuck := true, way := wayOf x.all i }
  else { x with long := maxL x.long (Y.lens s) }
def procS (Y : Sys S M) (most : Nat) (i : Nat) (x : Srch S) : Srch S :=
  match x.all[i]? with
  | none => x
  | some f => addK Y most i f.s (Y.moves f.s) 0 (headS Y i f.s x)
def srch (Y : Sys S M) (most : Nat) (s0 : S) : Nat → Srch S
  | 0 => ⟨[⟨s0, -1, 0⟩], true, false, [], (Y.lens s0).map fun _ => 0⟩
  | i + 1 => procS Y most i (srch Y most s0 i)
/-- What the search ends with. -/
def srchE (Y : Sys S M) (most : Nat) (s0 : S) : Srch S := srch Y most s0 most
/-- The stage that a way leads to. -/
def playS (Y : Sys S M) : S → List Int → Option S
  | s, [] => some s
  | s, k :: l => if k < 0 then none else match (Y.moves s)[k.toNat]? with
    | none => none
    | some m => playS Y (Y.next s m) l

/-! ### The list that grows -/
variable {Y : Sys S M} {most : Nat} {i : Nat} {s0 : S}
theorem add1_all (k : Nat) (nx : S) (x : Srch S) : ∃ r, (add1 most i k nx x).all = x.all ++ r := by
  unfold add1
  split
  · exact ⟨[], by simp⟩
  · split
    · exact ⟨[], by simp⟩
    · exact ⟨[⟨nx, i, k⟩], rfl⟩
theorem addK_all (s : S) : ∀ (l : List M) (k : Nat) (x : Srch S), ∃ r, (addK Y most i s l k x).all = x.all ++ r
  | [], _, x => ⟨[], by simp [addK]⟩
  | m :: l, k, x => by
    obtain ⟨r, hr⟩ := addK_all s l (k + 1) (add1 most i k (Y.next s m) x)
    obtain ⟨q, hq⟩ := add1_all (most := most) (i := i) k (Y.next s m) x
    exact ⟨q ++ r, by rw [addK, hr, hq, List.append_assoc]⟩
theorem headS_all (s : S) (x : Srch S) : (headS Y i s x).all = x.all := by
  unfold headS
  split
  · rfl
  · split <;> rfl
theorem procS_all (x : Srch S) : ∃ r, (procS Y most i x).all = x.all ++ r := by
  unfold procS
  split
  · exact ⟨[], by simp⟩
  · rename_i f hf
    obtain ⟨r, hr⟩ := addK_all (Y := Y) (most := most) (i := i) f.s (Y.moves f.s) 0 (headS Y i f.s x)
    exact ⟨r, by rw [hr, headS_all]⟩
theorem add1_len (k : Nat) (nx : S) (x : Srch S) (h : x.all.length ≤ most) : (add1 most i k nx x).all.length ≤ most := by
  unfold add1
  split
  · exact h
  · split
    · exact h
    · simp; omega
theorem addK_len (s : S) : ∀ (l : List M) (k : Nat) (x : Srch S), x.all.length ≤ most → (addK Y most i s l k x).all.length ≤ most
  | [], _, _, h => h
  | m :: l, k, x, h => addK_len s l (k + 1) _ (add1_len _ _ _ h)
theorem procS_len (x : Srch S) (h : x.all.length ≤ most) : (procS Y most i x).all.length ≤ most := by
  unfold procS
  split
  · exact h
  · exact addK_len _ _ _ _ (by rw [headS_all]; exact h)
theorem srch_len (h1 : 1 ≤ most) : ∀ k, (srch Y most s0 k).all.length ≤ most
  | 0 => by simpa [srch] using h1
  | k + 1 => procS_len _ (srch_len h1 k)
theorem srch_stop {k : Nat} (h : (srch Y most s0 k).all.length ≤ k) : ∀ j, srch Y most s0 (k + j) = srch Y most s0 k
  | 0 => rfl
  | j + 1 => by
    have ih := srch_stop h j
    rw [show k + (j + 1) = (k + j) + 1 from rfl, srch, ih, procS, List.getElem?_eq_none (by omega)]
/-- The loop ends with what the search ends with. -/
theorem srch_end (h1 : 1 ≤ most) {k : Nat} (h : (srch Y most s0 k).all.length ≤ k) : srch Y most s0 k = srchE Y most s0 := by
  have hl := srch_len (Y := Y) (s0 := s0) h1 k
  by_cases hk : k ≤ most
  · have := srch_stop h (most - k)
    rw [show k + (most - k) = most by omega] at this
    exact this.symm
  · have h2 := srch_len (Y := Y) (s0 := s0) h1 most
    have := srch_stop (Y := Y) (s0 := s0) h2 (k - most)
    rw [show most + (k - most) = k by omega] at this
    exact this
/-! ### What is known of all that was found -/
/-- Where a stage comes from. -/
structure Born (Y : Sys S M) (s0 : S) (all : List (Fnd S)) (j : Nat) (f : Fnd S) : Prop where
  root : j = 0 → f = ⟨s0, -1, 0⟩
  child : j ≠ 0 → ∃ (p k : Nat) (g : Fnd S) (m : M), p < j ∧ all[p]? = some g ∧ (Y.moves g.s)[k]? = some m ∧ f = ⟨Y.next g.s m, p, k⟩
theorem Born.app {all r : List (Fnd S)} {j : Nat} {f : Fnd S} (h : Born Y s0 all j f) : Born Y s0 (all ++ r) j f :=
  ⟨h.root, fun hj => by
    obtain ⟨p, k, g, m, h1, h2, h3, h4⟩ := h.child hj
    exact ⟨p, k, g, m, h1, by rw [List.getElem?_append_left (List.getElem?_eq_some_iff.1 h2).1]; exact h2, h3, h4⟩⟩
def AllBorn (Y : Sys S M) (s0 : S) (all : List (Fnd S)) : Prop := ∀ j f, all[j]? = some f → Born Y s0 all j f
theorem AllBorn.snoc {all : List (Fnd S)} {f : Fnd S} (h : AllBorn Y s0 all) (hf : Born Y s0 all all.length f) : AllBorn Y s0 (all ++ [f]) := fun j g hg => by
  by_cases hj : j < all.length
  · rw [List.getElem?_append_left hj] at hg
    exact (h j g hg).app
  · have hjl : j = all.length := by
      have := (List.getElem?_eq_some_iff.1 hg).1
      simp at this; omega
    subst hjl
    simp at hg
    subst hg
    exact hf.app
theorem add1_born {k : Nat} {g : Fnd S} {m : M} {x : Srch S} (h : AllBorn Y s0 x.all) (hi : x.all[i]? = some g) (hk : (Y.moves g.s)[k]? = some m) : AllBorn Y s0 (add1 most i k (Y.next g.s m) x).all := by
  unfold add1
  have hil := (List.getElem?_eq_some_iff.1 hi).1
  split
  · exact h
  · split
    · exact h
    · exact h.snoc ⟨fun h0 => by omega, fun _ => ⟨i, k, g, m, hil, hi, hk, rfl⟩⟩
theorem addK_born {g : Fnd S} : ∀ (l : List M) (k : Nat) (x : Srch S), AllBorn Y s0 x.all → x.all[i]? = some g → (∀ j, l[j]? = (Y.moves g.s)[k + j]?) → AllBorn Y s0 (addK Y most i g.s l k x).all
  | [], _, _, h, _, _ => h
  | m :: l, k, x, h, hi, hl => by
    have h0 := hl 0
    simp only [List.getElem?_cons_zero, Nat.add_zero] at h0
    obtain ⟨r, hr⟩ := add1_all (most := most) (i := i) k (Y.next g.s m) x
    refine addK_born l (k + 1) _ (add1_born h hi h0.symm) ?_ fun j => ?_
    · rw [hr, List.getElem?_append_left (List.getElem?_eq_some_iff.1 hi).1]; exact hi
    · have := hl (j + 1)
      simp only [List.getElem?_cons_succ] at this
      rw [this]; congr 1; omega
theorem srch_born : ∀ k, AllBorn Y s0 (srch Y most s0 k).all
  | 0 => fun j f hf => by
    have hj := (List.getElem?_eq_some_iff.1 hf).1
    simp [srch] at hj
    subst hj
    simp [srch] at hf
    exact ⟨fun _ => hf.symm, fun h => absurd rfl h⟩
  | k + 1 => by
    have ih := srch_born k
    rw [srch, procS]
    split
    · exact ih
    · rename_i f hf
      exact addK_born _ 0 _ (by rw [headS_all]; exact ih) (by rw [headS_all]; exact hf) fun j => by rw [Nat.zero_add]
/-- Whatever holds of the first stage and is kept by moves holds of all that is found. -/
theorem born_ind {all : List (Fnd S)} {G : S → Prop} (h : AllBorn Y s0 all) (h0 : G s0) (hs : ∀ s m, G s → m ∈ Y.moves s → G (Y.next s m)) : ∀ (j : Nat) (f : Fnd S), all[j]? = some f → G f.s := by
  intro j
  induction j using Nat.strongRecOn with
  | _ j ih =>
    intro f hf
    have hb := h j f hf
    by_cases hj : j = 0
    · rw [hb.root hj]; exact h0
    · obtain ⟨p, k, g, m, h1, h2, h3, rfl⟩ := hb.child hj
      exact hs _ _ (ih p h1 g h2) (List.mem_of_getElem? h3)

/-! ### The way -/
/-! ### Stuck -/
/-- What is said of deadlocks, once the first i stages were looked at. -/
structure StuckI (Y : Sys S M) (i : Nat) (x : Srch S) : Prop where
  yes : x.stuck = true → ∃ j f, j < i ∧ x.all[j]? = some f ∧ Y.moves f.s = [] ∧ Y.over f.s = false ∧ x.way = wayOf x.all j
  no : x.stuck = false → x.way = [] ∧ ∀ j f, j < i → x.all[j]? = some f → fullL (Y.lens f.s) = false → Y.moves f.s = [] → Y.over f.s = true
theorem add1_rest (k : Nat) (nx : S) (x : Srch S) : (add1 most i k nx x).stuck = x.stuck ∧ (add1 most i k nx x).way = x.way ∧ (add1 most i k nx x).long = x.long := by
  unfold add1
  split
  · exact ⟨rfl, rfl, rfl⟩
  · split <;> exact ⟨rfl, rfl, rfl⟩
theorem addK_rest (s : S) : ∀ (l : List M) (k : Nat) (x : Srch S), (addK Y most i s l k x).stuck = x.stuck ∧ (addK Y most i s l k x).way = x.way ∧ (addK Y most i s l k x).long = x.long
  | [], _, _ => ⟨rfl, rfl, rfl⟩
  | m :: l, k, x => by
    obtain ⟨h1, h2, h3⟩ := addK_rest s l (k + 1) (add1 most i k (Y.next s m) x)
    obtain ⟨g1, g2, g3⟩ := add1_rest (most := most) (i := i) k (Y.next s m) x
    exact ⟨h1.trans g1, h2.trans g2, h3.trans g3⟩
/-! ### Whole -/
/-! ### The queues -/
def LgL (a b : List Nat) : Prop := a.length = b.length ∧ ∀ j (h : j < a.length) (h' : j < b.length), a[j] ≤ b[j]
theorem LgL.refl (a : List Nat) : LgL a a := ⟨rfl, fun _ _ _ => Nat.le_refl _⟩
theorem LgL.trans {a b c : List Nat} (h : LgL a b) (k : LgL b c) : LgL a c := ⟨h.1.trans k.1, fun j h1 h2 => Nat.le_trans (h.2 j h1 (by rw [← h.1]; exact h1)) (k.2 j (by rw [← h.1]; exact h1) h2)⟩
theorem maxL_len {a b : List Nat} (h : a.length = b.length) : (maxL a b).length = a.length := by simp [maxL, h]
theorem maxL_left {a b : List Nat} (h : a.length = b.length) : LgL a (maxL a b) := ⟨(maxL_len h).symm, fun j h1 h2 => by simp only [maxL, List.getElem_zipWith]; exact Nat.le_max_left _ _⟩
theorem maxL_right {a b : List Nat} (h : a.length = b.length) : LgL b (maxL a b) := ⟨by rw [maxL_len h, h], fun j h1 h2 => by simp only [maxL, List.getElem_zipWith]; exact Nat.le_max_right _ _⟩
theorem headS_long (s : S) (x : Srch S) : (headS Y i s x).long = maxL x.long (Y.lens s) := by
  unfold headS
  split
  · rfl
  · split <;> rfl
theorem procS_long {x : Srch S} {f : Fnd S} (h : x.all[i]? = some f) : (procS Y most i x).long = maxL x.long (Y.lens f.s) := by
  have he : procS Y most i x = addK Y most i f.s (Y.moves f.s) 0 (headS Y i f.s x) := by simp [procS, h]
  rw [he, (addK_rest _ _ _ _).2.2, headS_long]
/-- All stages have as many queues as the first. -/
def SameQ (Y : Sys S M) (s0 : S) (all : List (Fnd S)) : Prop := ∀ (j : Nat) (f : Fnd S), all[j]? = some f → (Y.lens f.s).length = (Y.lens s0).length
theorem srch_long (hq : ∀ k, SameQ Y s0 (srch Y most s0 k).all) : ∀ k, (srch Y most s0 k).long.length = (Y.lens s0).length ∧ ∀ j f, j < k → (srch Y most s0 k).all[j]? = some f → LgL (Y.lens f.s) (srch Y most s0 k).long
  | 0 => ⟨by simp [srch], fun j f hj => by omega⟩
  | k + 1 => by
    obtain ⟨ih1, ih2⟩ := srch_long hq k
    obtain ⟨r, hr⟩ := procS_all (Y := Y) (most := most) (i := k) (srch Y most s0 k)
    have hqk := hq k
    rw [srch]
    generalize srch Y most s0 k = x at *
    cases hx : x.all[k]? with
    | none =>
      have he : procS Y most k x = x := by simp [procS, hx]
      rw [he]
      refine ⟨ih1, fun j f hj hf => ?_⟩
      have hjl := (List.getElem?_eq_some_iff.1 hf).1
      have hkl : x.all.length ≤ k := by rw [← List.getElem?_eq_none_iff]; exact hx
      exact ih2 j f (by omega) hf
    | some g =>
      have hkl := (List.getElem?_eq_some_iff.1 hx).1
      have hlq := hqk k g hx
      rw [procS_long hx]
      refine ⟨by rw [maxL_len (by rw [ih1, hlq]), ih1], fun j f hj hf => ?_⟩
      by_cases hjk : j = k
      · subst hjk
        rw [hr, List.getElem?_append_left hkl, hx] at hf
        injection hf with hf; subst hf
        exact maxL_right (by rw [ih1, hlq])
      · rw [hr, List.getElem?_append_left (by omega)] at hf
        exact (ih2 j f (by omega) hf).trans (maxL_left (by rw [ih1, hlq]))

/-! ### A greater bound -/
/-- The search at the bound k beside that at the bound m. -/
structure Less (most more : Nat) (x y : Srch S) : Prop where
  all : x.all = y.all.take most
  len : y.all.length ≤ more
  whole : x.whole = true → y.whole = true ∧ x.all = y.all
/-- The two searches side by side. -/
structure Beside (most more i : Nat) (x y : Srch S) : Prop where
  less : Less most more x y
  eqs : i ≤ x.all.length → x.stuck = y.stuck ∧ x.way = y.way
  st : x.stuck = true → y.stuck = true ∧ x.way = y.way
  lg : LgL x.long y.long
  wl : x.whole = true → x.long = y.long
end
end Go.Sy
