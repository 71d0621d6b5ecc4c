/- The plain law: the projection of a protocol whose points are moved and whose roles have other names. -/
import Derived.Test.YtdjocfajcbhmgaaDoorZ24
import Derived.Test.YtdjocfajcbhmgaaDoorJc
set_option linter.unusedSimpArgs false
set_option linter.unusedVariables false
set_option linter.unusedSectionVars false
namespace Go.Sy
def ImgA (f : Int → Int) (A A' : List Arm) : Prop := ∀ b, b ∈ A' ↔ ∃ a ∈ A, (⟨a.label, a.kind, a.name, f a.next⟩ : Arm) = b
theorem imgA_eq {f : Int → Int} {A A' : List Arm} (h : A' = A.map fun a => ⟨a.label, a.kind, a.name, f a.next⟩) : ImgA f A A' := fun b => by rw [h, List.mem_map]
structure Sim0 (p q : Prt) (r r' : ByteArray) (f : Int → Int) (g : ByteArray → ByteArray) (D : Int → Prop) : Prop where
  pin : PrtIn p
  qin : PrtIn q
  zero : D 0 ∧ f 0 = 0
  rng : ∀ x, D x → (0 ≤ x ∧ x < (p.points.length : Int)) ∧ 0 ≤ f x ∧ f x < (q.points.length : Int)
  arms : ∀ x, D x → ImgA f (pntAt p x).arms (pntAt q (f x)).arms
  step : ∀ x, D x → ∀ a ∈ (pntAt p x).arms, D a.next
  isin : ∀ x, D x → inP (pntAt q (f x)) r' = inP (pntAt p x) r
  side : ∀ x, D x → inP (pntAt p x) r = true → sideAt q r' (f x) = ((sideAt p r x).1, g (sideAt p r x).2)
structure Sim (p q : Prt) (r r' : ByteArray) (f : Int → Int) (g : ByteArray → ByteArray) (D : Int → Prop) : Prop extends Sim0 p q r r' f g D where
  inj : ∀ x y, D x → D y → f x = f y → x = y
  ginj : ∀ x y, D x → D y → inP (pntAt p x) r = true → inP (pntAt p y) r = true → g (sideAt p r x).2 = g (sideAt p r y).2 → (sideAt p r x).2 = (sideAt p r y).2
def Img (f : Int → Int) (X X' : List Int) : Prop := ∀ y, y ∈ X' ↔ ∃ x ∈ X, f x = y
def InD (D : Int → Prop) (X : List Int) : Prop := ∀ x ∈ X, D x
variable {p q : Prt} {r r' : ByteArray} {f : Int → Int} {g : ByteArray → ByteArray} {D : Int → Prop} {X X' : List Int}
theorem img_map (f : Int → Int) (X : List Int) : Img f X (X.map f) := fun y => List.mem_map
theorem img_len (h : Img f X X') : X'.length = 0 ↔ X.length = 0 := by
  rw [List.length_eq_zero_iff, List.length_eq_zero_iff]
  constructor
  · intro e
    refine List.eq_nil_iff_forall_not_mem.2 fun x hx => ?_
    have := (h (f x)).2 ⟨x, hx, rfl⟩
    rw [e] at this; cases this
  · intro e
    refine List.eq_nil_iff_forall_not_mem.2 fun y hy => ?_
    obtain ⟨x, hx, _⟩ := (h y).1 hy
    rw [e] at hx; cases hx
theorem img_any {α : Type} {A A' : List Int} (h : Img f A A') {u u' : Int → Bool} (hu : ∀ x ∈ A, u' (f x) = u x) : A'.any u' = A.any u := by
  rw [Bool.eq_iff_iff, List.any_eq_true, List.any_eq_true]
  constructor
  · rintro ⟨y, hy, h1⟩
    obtain ⟨x, hx, rfl⟩ := (h y).1 hy
    exact ⟨x, hx, by rw [← hu x hx]; exact h1⟩
  · rintro ⟨x, hx, h1⟩
    exact ⟨f x, (h _).2 ⟨x, hx, rfl⟩, by rw [hu x hx]; exact h1⟩
theorem pass_sub {x : Int} {a : Arm} (h : a ∈ passA p r x) : a ∈ (pntAt p x).arms := by
  unfold passA at h
  split at h
  · cases h
  · exact h
theorem Sim0.pass (s : Sim0 p q r r' f g D) {x : Int} (hx : D x) : ImgA f (passA p r x) (passA q r' (f x)) := by
  unfold passA
  rw [s.isin x hx]
  split
  · exact imgA_eq rfl
  · exact s.arms x hx
theorem Sim0.rch (s : Sim0 p q r r' f g D) (hD : InD D X) (hi : Img f X X') : ∀ {x : Int}, Rch (passA p r) (startL p.points.length [] X) x → D x ∧ Rch (passA q r') (startL q.points.length [] X') (f x) := by
  intro x h
  induction h with
  | base h =>
    rcases (startL_mem _ _ _ _).1 h with h | ⟨h, hr⟩
    · cases h
    · exact ⟨hD _ h, .base ((startL_mem _ _ _ _).2 (.inr ⟨(hi _).2 ⟨_, h, rfl⟩, (s.rng _ (hD _ h)).2⟩))⟩
  | step hx ha ih =>
    refine ⟨s.step _ ih.1 _ (pass_sub ha), ?_⟩
    exact ih.2.step ((s.pass ih.1 _).2 ⟨_, ha, rfl⟩)
theorem Sim0.back (s : Sim0 p q r r' f g D) (hD : InD D X) (hi : Img f X X') : ∀ {y : Int}, Rch (passA q r') (startL q.points.length [] X') y → ∃ x, f x = y ∧ Rch (passA p r) (startL p.points.length [] X) x := by
  intro y h
  induction h with
  | base h =>
    rcases (startL_mem _ _ _ _).1 h with h | ⟨h, hr⟩
    · cases h
    · obtain ⟨x, hx, e⟩ := (hi _).1 h
      exact ⟨x, e, .base ((startL_mem _ _ _ _).2 (.inr ⟨hx, (s.rng _ (hD _ hx)).1⟩))⟩
  | step hy ha ih =>
    obtain ⟨x, e, hx⟩ := ih
    subst e
    obtain ⟨b, hb, e2⟩ := (s.pass (s.rch hD hi hx).1 _).1 ha
    subst e2
    exact ⟨b.next, rfl, hx.step hb⟩
theorem Sim0.near (s : Sim0 p q r r' f g D) (hD : InD D X) (hi : Img f X X') : InD D (nearL p r X) ∧ Img f (nearL p r X) (nearL q r' X') := by
  refine ⟨fun x hx => (s.rch hD hi ((near_mem s.pin X).1 hx).1).1, fun y => ?_⟩
  rw [near_mem s.qin]
  constructor
  · rintro ⟨h1, h2⟩
    obtain ⟨x, e, hx⟩ := s.back hD hi h1
    subst e
    exact ⟨x, (near_mem s.pin X).2 ⟨hx, by rw [← s.isin x (s.rch hD hi hx).1]; exact h2⟩, rfl⟩
  · rintro ⟨x, hx, rfl⟩
    obtain ⟨h1, h2⟩ := (near_mem s.pin X).1 hx
    obtain ⟨h3, h4⟩ := s.rch hD hi h1
    exact ⟨h4, by rw [s.isin x h3]; exact h2⟩
theorem Sim0.wait (s : Sim0 p q r r' f g D) (hD : InD D X) (hi : Img f X X') : InD D (waitL p r X) ∧ Img f (waitL p r X) (waitL q r' X') := by
  refine ⟨fun x hx => (s.rch hD hi ((wait_mem s.pin X).1 hx)).1, fun y => ?_⟩
  rw [wait_mem s.qin]
  constructor
  · intro h1
    obtain ⟨x, e, hx⟩ := s.back hD hi h1
    exact ⟨x, (wait_mem s.pin X).2 hx, e⟩
  · rintro ⟨x, hx, rfl⟩
    exact (s.rch hD hi ((wait_mem s.pin X).1 hx)).2
theorem Sim0.lost (s : Sim0 p q r r' f g D) {x : Int} (hx : D x) : lostL q r' (f x) = lostL p r x := by
  have := img_len (s.near (X := [x]) (X' := [f x]) (fun y hy => by rw [List.mem_singleton] at hy; exact hy ▸ hx) (img_map f [x])).2
  unfold lostL
  exact decide_eq_decide.2 this
theorem Sim0.mix (s : Sim0 p q r r' f g D) (hD : InD D X) (hi : Img f X X') : mixE q r' X' = mixE p r X := by
  obtain ⟨h1, h2⟩ := s.wait hD hi
  unfold mixE
  rw [img_any (α := Unit) h2 (fun x hx => s.lost (h1 x hx)), img_any (α := Unit) h2 (u := fun x => !lostL p r x) (u' := fun x => !lostL q r' x) (fun x hx => congrArg not (s.lost (h1 x hx)))]
theorem near_near (hp : PrtIn p) : nearL p r (nearL p r X) = nearL p r X := by
  have hx : ∀ {x : Int}, Rch (passA p r) (startL p.points.length [] (nearL p r X)) x → x ∈ nearL p r X := fun {x} h => by
    induction h with
    | base h =>
      rcases (startL_mem _ _ _ _).1 h with h | ⟨h, _⟩
      · cases h
      · exact h
    | step _ ha ih =>
      unfold passA at ha
      rw [if_pos (near_isin hp ih)] at ha
      cases ha
  refine near_ext fun x => ?_
  rw [near_mem hp]
  constructor
  · exact fun h => hx h.1
  · intro h
    exact ⟨.base ((startL_mem _ _ _ _).2 (.inr ⟨h, wait_range hp ((wait_mem hp X).2 ((near_mem hp X).1 h).1)⟩)), near_isin hp h⟩
theorem idx_map2 {α β : Type} [BEq α] [LawfulBEq α] [BEq β] [LawfulBEq β] (f : α → β) : ∀ {S : List α} {l : α}, l ∈ S → (∀ m ∈ S, f m = f l → m = l) → (S.map f).idxOf (f l) = S.idxOf l
  | [], _, h, _ => by cases h
  | m :: S, l, h, hi => by
    rw [List.map_cons, List.idxOf_cons, List.idxOf_cons]
    by_cases e : m = l
    · subst e; simp
    · have e2 : f m ≠ f l := fun q => e (hi m List.mem_cons_self q)
      have e3 : (f m == f l) = false := by simpa using e2
      have e4 : (m == l) = false := by simpa using e
      rw [e3, e4, cond_false, cond_false, idx_map2 f ((List.mem_cons.1 h).resolve_left (fun q => e q.symm)) fun x hx => hi x (List.mem_cons_of_mem _ hx)]
def setF (q : Prt) (r' : ByteArray) (f : Int → Int) (N : List Int) : List Int := nearL q r' (N.map f)
def Kept (p : Prt) (r : ByteArray) (D : Int → Prop) (N : List Int) : Prop := ∃ X, InD D X ∧ N = nearL p r X
theorem Sim.dom (s : Sim p q r r' f g D) {N : List Int} (h : Kept p r D N) : InD D N ∧ nearL p r N = N ∧ ∀ x ∈ N, inP (pntAt p x) r = true := by
  obtain ⟨X, hX, rfl⟩ := h
  exact ⟨(s.near hX (img_map f X)).1, near_near s.pin, fun x hx => near_isin s.pin hx⟩
theorem Sim.img (s : Sim p q r r' f g D) {N : List Int} (h : Kept p r D N) : Img f N (setF q r' f N) := by
  obtain ⟨h1, h2, _⟩ := s.dom h
  have := (s.near h1 (img_map f N)).2
  rwa [h2] at this
theorem Sim.set (s : Sim p q r r' f g D) (hD : InD D X) (hi : Img f X X') : nearL q r' X' = setF q r' f (nearL p r X) := by
  have h1 := (s.near hD hi).2
  have h2 := s.img ⟨X, hD, rfl⟩
  unfold setF at h2 ⊢
  exact near_ext fun y => (h1 y).trans (h2 y).symm
theorem Sim.setInj (s : Sim p q r r' f g D) {N M : List Int} (hN : Kept p r D N) (hM : Kept p r D M) (h : setF q r' f N = setF q r' f M) : N = M := by
  have k1 := s.img hN
  have k2 := s.img hM
  rw [h] at k1
  obtain ⟨d1, _, _⟩ := s.dom hN
  obtain ⟨d2, _, _⟩ := s.dom hM
  obtain ⟨X, hX, rfl⟩ := hN
  obtain ⟨Y, hY, rfl⟩ := hM
  refine near_ext fun x => ⟨fun hx => ?_, fun hx => ?_⟩
  · obtain ⟨y, hy, e⟩ := (k2 (f x)).1 ((k1 _).2 ⟨x, hx, rfl⟩)
    rw [← s.inj y x (d2 y hy) (d1 x hx) e]; exact hy
  · obtain ⟨y, hy, e⟩ := (k1 (f x)).1 ((k2 _).2 ⟨x, hx, rfl⟩)
    rw [← s.inj y x (d1 y hy) (d2 x hx) e]; exact hy
theorem Sim.look (s : Sim p q r r' f g D) {S : List (List Int)} (hS : ∀ N ∈ S, Kept p r D N) (hD : InD D X) (hi : Img f X X') :
    lookS q r' (S.map (setF q r' f)) X' = ((lookS p r S X).1, (lookS p r S X).2.map (setF q r' f)) ∧ ∀ N ∈ (lookS p r S X).2, Kept p r D N := by
  have hK : Kept p r D (nearL p r X) := ⟨X, hD, rfl⟩
  have hm : setF q r' f (nearL p r X) ∈ S.map (setF q r' f) ↔ nearL p r X ∈ S := by
    rw [List.mem_map]
    constructor
    · rintro ⟨N, hN, e⟩
      rw [← s.setInj (hS N hN) hK e]; exact hN
    · exact fun h => ⟨_, h, rfl⟩
  unfold lookS
  rw [s.mix hD hi, s.set hD hi, List.length_map]
  by_cases h1 : mixE p r X = true
  · rw [if_pos h1, if_pos h1]; exact ⟨rfl, hS⟩
  rw [if_neg h1, if_neg h1]
  by_cases h2 : nearL p r X ∈ S
  · rw [if_pos (hm.2 h2), if_pos h2, idx_map2 (setF q r' f) h2 fun m hm e => s.setInj (hS m hm) hK e]
    exact ⟨rfl, hS⟩
  rw [if_neg (fun h => h2 (hm.1 h)), if_neg h2]
  by_cases h3 : S.length = 40
  · rw [if_pos h3, if_pos h3]; exact ⟨rfl, hS⟩
  rw [if_neg h3, if_neg h3]
  refine ⟨by simp, fun N hN => ?_⟩
  rcases List.mem_append.1 hN with h | h
  · exact hS N h
  · rw [List.mem_singleton] at h; subst h; exact hK
theorem carO_lab {arr : List Arm} {a : Arm} (h : a ∈ arr) : ∃ b ∈ arr, b.label = a.label ∧ carO arr a.label = some (b.kind, b.name) := by
  unfold carO
  cases hf : arr.find? fun b => decide (b.label = a.label) with
  | none => exact absurd (List.find?_eq_none.1 hf a h) (by simp)
  | some b => exact ⟨b, List.mem_of_find?_eq_some hf, by simpa using List.find?_some hf, rfl⟩
theorem clash_iff (arr : List Arm) : clashB arr = true ↔ ∃ a ∈ arr, ∃ b ∈ arr, a.label = b.label ∧ (a.kind, a.name) ≠ (b.kind, b.name) := by
  unfold clashB
  rw [List.any_eq_true]
  constructor
  · rintro ⟨a, ha, h⟩
    have h := of_decide_eq_true h
    obtain ⟨b, hb, e1, e2⟩ := carO_lab ha
    rw [e2] at h
    exact ⟨b, hb, a, ha, e1, fun e => h (by rw [e])⟩
  · rintro ⟨a, ha, b, hb, e, hn⟩
    by_cases h : carO arr a.label = some (a.kind, a.name)
    · refine ⟨b, hb, decide_eq_true fun h2 => hn ?_⟩
      rw [← e, h] at h2
      injection h2
    · exact ⟨a, ha, decide_eq_true h⟩
theorem carA_none {arr : List Arm} {s : ByteArray} (h : ∀ a ∈ arr, a.label ≠ s) : carA arr s = (0, ⟨#[]⟩) := by
  unfold carA carO
  rw [List.find?_eq_none.2 fun a ha => by simpa using h a ha]; rfl
theorem imgA_clash {A A' : List Arm} (h : ImgA f A A') : clashB A' = clashB A := by
  rw [Bool.eq_iff_iff, clash_iff, clash_iff]
  constructor
  · rintro ⟨a, ha, b, hb, e⟩
    obtain ⟨x, hx, rfl⟩ := (h a).1 ha
    obtain ⟨y, hy, rfl⟩ := (h b).1 hb
    exact ⟨x, hx, y, hy, e⟩
  · rintro ⟨x, hx, y, hy, e⟩
    exact ⟨_, (h _).2 ⟨x, hx, rfl⟩, _, (h _).2 ⟨y, hy, rfl⟩, e⟩
theorem imgA_car {A A' : List Arm} (h : ImgA f A A') (hc : clashB A = false) (s : ByteArray) : carA A' s = carA A s := by
  by_cases hs : ∃ a ∈ A, a.label = s
  · obtain ⟨a, ha, e⟩ := hs
    obtain ⟨b, hb, e1, e2⟩ := carA_some (arr := A') (s := s) ⟨_, (h _).2 ⟨a, ha, rfl⟩, e⟩
    obtain ⟨x, hx, rfl⟩ := (h b).1 hb
    rw [e2, ← e1]
    exact (carA_all hc hx).symm
  · rw [carA_none fun a ha e => hs ⟨a, ha, e⟩, carA_none fun a ha e => ?_]
    obtain ⟨x, hx, rfl⟩ := (h a).1 ha
    exact hs ⟨x, hx, e⟩
theorem imgA_next {A A' : List Arm} (h : ImgA f A A') (s : ByteArray) : Img f (nextN A s) (nextN A' s) := fun y => by
  unfold nextN
  simp only [List.mem_map, List.mem_filter, decide_eq_true_eq]
  constructor
  · rintro ⟨b, ⟨hb, e⟩, rfl⟩
    obtain ⟨x, hx, rfl⟩ := (h b).1 hb
    exact ⟨x.next, ⟨x, ⟨hx, e⟩, rfl⟩, rfl⟩
  · rintro ⟨_, ⟨x, ⟨hx, e⟩, rfl⟩, rfl⟩
    exact ⟨_, ⟨(h _).2 ⟨x, hx, rfl⟩, e⟩, rfl⟩
theorem Sim0.armsN (s : Sim0 p q r r' f g D) {N N' : List Int} (hD : InD D N) (hi : Img f N N') : ImgA f (armsN p N) (armsN q N') := fun b => by
  rw [armsN_mem]
  constructor
  · rintro ⟨y, hy, hb⟩
    obtain ⟨x, hx, rfl⟩ := (hi y).1 hy
    obtain ⟨a, ha, e⟩ := (s.arms x (hD x hx) b).1 hb
    exact ⟨a, armsN_mem.2 ⟨x, hx, ha⟩, e⟩
  · rintro ⟨a, ha, rfl⟩
    obtain ⟨x, hx, ha⟩ := armsN_mem.1 ha
    exact ⟨f x, (hi _).2 ⟨x, hx, rfl⟩, (s.arms x (hD x hx) _).2 ⟨a, ha, rfl⟩⟩
theorem Sim0.labs (s : Sim0 p q r r' f g D) {x : Int} (hx : D x) : labsL (pntAt q (f x)) = labsL (pntAt p x) := by
  have h := s.arms x hx
  refine asc_ext (labsL_asc _) (labsL_asc _) fun z => ?_
  rw [labsL_mem, labsL_mem]
  constructor
  · rintro ⟨b, hb, e⟩
    obtain ⟨a, ha, rfl⟩ := (h b).1 hb
    exact ⟨a, ha, e⟩
  · rintro ⟨a, ha, e⟩
    exact ⟨_, (h _).2 ⟨a, ha, rfl⟩, e⟩
theorem Sim0.allL (s : Sim0 p q r r' f g D) {N N' : List Int} (hD : InD D N) (hi : Img f N N') : allL q N' = allL p N := by
  have h := s.armsN hD hi
  refine asc_ext (allL_asc q N') (allL_asc p N) fun z => ?_
  rw [allL_mem, allL_mem]
  constructor
  · rintro ⟨b, hb, e⟩
    obtain ⟨a, ha, rfl⟩ := (h b).1 hb
    exact ⟨a, ha, e⟩
  · rintro ⟨a, ha, e⟩
    exact ⟨_, (h _).2 ⟨a, ha, rfl⟩, e⟩
theorem Sim.armsS (s : Sim p q r r' f g D) {A A' : List Arm} (hc : ∀ z, carA A' z = carA A z) (hn : ∀ z, InD D (nextN A z) ∧ Img f (nextN A z) (nextN A' z)) :
    ∀ (ls : List ByteArray) (out : List Arm) (S : List (List Int)), (∀ N ∈ S, Kept p r D N) →
      armsS q r' A' ls out (S.map (setF q r' f)) = ((armsS p r A ls out S).1, (armsS p r A ls out S).2.map (setF q r' f)) ∧ ∀ N ∈ (armsS p r A ls out S).2, Kept p r D N
  | [], out, S, hS => ⟨rfl, hS⟩
  | z :: ls, out, S, hS => by
    obtain ⟨h1, h2⟩ := s.look hS (hn z).1 (hn z).2
    rw [Go.Sy.armsS, Go.Sy.armsS, h1, hc]
    by_cases h : (lookS p r S (nextN A z)).1.2 = 0
    · rw [if_pos h, if_pos h]
      exact s.armsS hc hn ls _ _ h2
    · rw [if_neg h, if_neg h]
      exact ⟨rfl, h2⟩
def gT (g : ByteArray → ByteArray) (t : Trn) : Trn := if t.kind = 0 then t else ⟨t.kind, g t.peer, t.arms⟩
theorem any_ne {α : Type} [DecidableEq α] {l : List Int} {x0 : Int} (h0 : x0 ∈ l) (u : Int → α) : l.any (fun x => decide (u x ≠ u x0)) = true ↔ ∃ x ∈ l, ∃ y ∈ l, u x ≠ u y := by
  rw [List.any_eq_true]
  constructor
  · rintro ⟨x, hx, h⟩
    exact ⟨x, hx, x0, h0, of_decide_eq_true h⟩
  · rintro ⟨x, hx, y, hy, h⟩
    by_cases e : u x = u x0
    · exact ⟨y, hy, decide_eq_true fun e2 => h (e.trans e2.symm)⟩
    · exact ⟨x, hx, decide_eq_true e⟩
theorem Sim.turn (s : Sim p q r r' f g D) {S : List (List Int)} (hS : ∀ N ∈ S, Kept p r D N) {N : List Int} (hN : Kept p r D N) :
    turnS q r' (S.map (setF q r' f)) (setF q r' f N) = ((gT g (turnS p r S N).1.1, (turnS p r S N).1.2), (turnS p r S N).2.map (setF q r' f)) ∧ ∀ M ∈ (turnS p r S N).2, Kept p r D M := by
  have hi := s.img hN
  obtain ⟨hD, _, hin⟩ := s.dom hN
  have hA := s.armsN hD hi
  have hL := s.allL hD hi
  have hnx : ∀ z, InD D (nextN (Go.Sy.armsN p N) z) ∧ Img f (nextN (Go.Sy.armsN p N) z) (nextN (Go.Sy.armsN q (setF q r' f N)) z) := fun z => ⟨fun y hy => by
    unfold nextN at hy
    obtain ⟨a, ha, rfl⟩ := List.mem_map.1 hy
    obtain ⟨x, hx, ha2⟩ := armsN_mem.1 (List.mem_filter.1 ha).1
    exact s.step x (hD x hx) a ha2, imgA_next hA z⟩
  have hcl := imgA_clash hA
  have hlab : (setF q r' f N).any (fun x => decide (labsL (pntAt q x) ≠ Go.Sy.allL q (setF q r' f N))) = N.any (fun x => decide (labsL (pntAt p x) ≠ Go.Sy.allL p N)) :=
    img_any (α := Unit) hi fun x hx => by rw [hL, s.labs (hD x hx)]
  have hside : ∀ x0 ∈ N, ∀ y0 ∈ setF q r' f N, (setF q r' f N).any (fun y => decide (sideAt q r' y ≠ sideAt q r' y0)) = N.any (fun x => decide (sideAt p r x ≠ sideAt p r x0)) := fun x0 hx0 y0 hy0 => by
    rw [Bool.eq_iff_iff, any_ne hy0, any_ne hx0]
    constructor
    · rintro ⟨a, ha, b, hb, h⟩
      obtain ⟨x, hx, rfl⟩ := (hi a).1 ha
      obtain ⟨y, hy, rfl⟩ := (hi b).1 hb
      rw [s.side x (hD x hx) (hin x hx), s.side y (hD y hy) (hin y hy)] at h
      exact ⟨x, hx, y, hy, fun e => h (by rw [e])⟩
    · rintro ⟨x, hx, y, hy, h⟩
      refine ⟨f x, (hi _).2 ⟨x, hx, rfl⟩, f y, (hi _).2 ⟨y, hy, rfl⟩, fun e => h ?_⟩
      rw [s.side x (hD x hx) (hin x hx), s.side y (hD y hy) (hin y hy)] at e
      injection e with e1 e2
      exact Prod.ext e1 (s.ginj x y (hD x hx) (hD y hy) (hin x hx) (hin y hy) e2)
  cases hc : N with
  | nil =>
    have : setF q r' f [] = [] := List.eq_nil_of_length_eq_zero (by rw [← hc]; exact (img_len hi).2 (by rw [hc]; rfl))
    rw [this]
    exact ⟨rfl, hS⟩
  | cons x0 rest =>
    cases hc' : setF q r' f N with
    | nil => exact absurd ((img_len hi).1 (by rw [hc']; rfl)) (by rw [hc]; simp)
    | cons y0 rest' =>
      have hx0 : x0 ∈ N := by rw [hc]; exact List.mem_cons_self
      have hy0 : y0 ∈ setF q r' f N := by rw [hc']; exact List.mem_cons_self
      have hsd := hside x0 hx0 y0 hy0
      rw [← hc, hc']
      rw [show turnS p r S N = turnS p r S (x0 :: rest) by rw [hc]]
      unfold turnS
      simp only
      rw [← hc, ← hc', hsd, hlab, hL, hcl]
      by_cases h1 : N.any (fun x => decide (sideAt p r x ≠ sideAt p r x0)) = true
      · rw [if_pos h1, if_pos h1]; exact ⟨rfl, hS⟩
      rw [if_neg h1, if_neg h1]
      have hs0 : sideAt q r' y0 = ((sideAt p r x0).1, g (sideAt p r x0).2) := by
        obtain ⟨x1, hx1, rfl⟩ := (hi y0).1 hy0
        rw [s.side x1 (hD x1 hx1) (hin x1 hx1)]
        have : sideAt p r x1 = sideAt p r x0 := by
          by_cases e : sideAt p r x1 = sideAt p r x0
          · exact e
          · exact absurd (List.any_eq_true.2 ⟨x1, hx1, decide_eq_true e⟩) h1
        rw [this]
      rw [hs0]
      simp only
      by_cases h2 : ((sideAt p r x0).1 && N.any fun x => decide (labsL (pntAt p x) ≠ Go.Sy.allL p N)) = true
      · rw [if_pos h2, if_pos h2]; exact ⟨rfl, hS⟩
      rw [if_neg h2, if_neg h2]
      by_cases h3 : 6 < (Go.Sy.allL p N).length
      · rw [if_pos h3, if_pos h3]; exact ⟨rfl, hS⟩
      rw [if_neg h3, if_neg h3]
      by_cases h4 : clashB (Go.Sy.armsN p N) = true
      · rw [if_pos h4, if_pos h4]; exact ⟨rfl, hS⟩
      rw [if_neg h4, if_neg h4]
      obtain ⟨k1, k2⟩ := s.armsS (imgA_car hA (by simpa using h4)) hnx (Go.Sy.allL p N) [] S hS
      rw [k1]
      simp only
      by_cases h5 : (Go.Sy.armsS p r (Go.Sy.armsN p N) (Go.Sy.allL p N) [] S).1.2 = 0
      · rw [if_pos h5, if_pos h5]
        refine ⟨?_, k2⟩
        unfold gT
        rw [if_neg (by unfold kindOf; cases (sideAt p r x0).1 <;> simp)]
      · rw [if_neg h5, if_neg h5]; exact ⟨rfl, k2⟩
theorem Sim.roleS (s : Sim p q r r' f g D) : ∀ (n i : Nat) (out : List Trn) (S : List (List Int)), (∀ N ∈ S, Kept p r D N) →
    roleS q r' n i (out.map (gT g)) (S.map (setF q r' f)) = ((roleS p r n i out S).1.map (gT g), (roleS p r n i out S).2)
  | 0, i, out, S, hS => rfl
  | n + 1, i, out, S, hS => by
    rw [Go.Sy.roleS, Go.Sy.roleS, List.getElem?_map]
    cases hi : S[i]? with
    | none => rfl
    | some N =>
      obtain ⟨h1, h2⟩ := s.turn hS (hS N (List.mem_of_getElem? hi))
      simp only [Option.map_some]
      rw [h1]
      by_cases h : (turnS p r S N).1.2 = 0
      · rw [if_pos h, if_pos h]
        have := s.roleS n (i + 1) (out ++ [(turnS p r S N).1.1]) (turnS p r S N).2 h2
        rwa [List.map_append] at this
      · rw [if_neg h, if_neg h]; rfl
theorem Sim.roleE (s : Sim p q r r' f g D) (hp : prtB p = true) (hr : hasB p.roles r = true) (hq : prtB q = true) (hr' : hasB q.roles r' = true) :
    roleE q r' = if (roleE p r).2 = 0 then (⟨dotN q.name r', (roleE p r).1.turns.map (gT g)⟩, 0) else (noLoc, (roleE p r).2) := by
  obtain ⟨h1, h2⟩ := s.look (S := []) (X := [0]) (X' := [0]) (fun N h => by cases h) (fun x hx => by rw [List.mem_singleton] at hx; subst hx; exact s.zero.1)
    (by have := img_map f [0]; rwa [show [0].map f = [0] by rw [List.map_cons, s.zero.2]; rfl] at this)
  rw [List.map_nil] at h1
  have h3 := s.roleS 41 0 [] _ h2
  unfold Go.Sy.roleE
  rw [hp, hr, hq, hr', h1]
  simp only [Bool.and_self, if_true]
  by_cases k1 : (lookS p r [] [0]).1.2 = 0
  · rw [if_pos k1, if_pos k1]
    rw [List.map_nil] at h3
    rw [h3]
    by_cases k2 : (Go.Sy.roleS p r 41 0 [] (lookS p r [] [0]).2).2 = 0
    · rw [if_pos k2, if_pos k2]; rfl
    · rw [if_neg k2, if_neg k2, if_neg k2]
  · rw [if_neg k1, if_neg k1, if_neg k1]
end Go.Sy
