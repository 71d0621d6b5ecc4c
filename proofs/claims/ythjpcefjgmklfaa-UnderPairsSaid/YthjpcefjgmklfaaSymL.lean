/- Symbolic states: the steps as they are used; a state made weaker. -/
import Derived.Test.YthjpcefjgmklfaaSymK
import Derived.IntWalk
namespace Go.Sy
set_option linter.unusedSimpArgs false
set_option linter.unusedVariables false
set_option linter.unusedSectionVars false
open Go.RowKit

/-- A cell stands for less: what is nil is an empty slice, too. -/
inductive LeC : CT → CT → Prop
  | refl (c : CT) : LeC c c
  | nil (sz : Nat) : LeC .nils (.slice false sz [])
  | nn (nn : Bool) (sz : Nat) (xs : List (List CT)) : LeC (.slice nn sz xs) (.slice false sz xs)
  | intP {k : IntKind} {n : Int} {p : Int → Prop} (h : p n) : LeC (.int k n) (.intP k p)
  | deep {nn : Bool} {sz : Nat} {xs ys : List (List CT)} (hl : xs.length = ys.length) (hx : ∀ (i : Nat) (x y : List CT), xs[i]? = some x → ys[i]? = some y → x.length = y.length)
      (h : ∀ (i j : Nat) (x y : List CT) (c d : CT), xs[i]? = some x → ys[i]? = some y → x[j]? = some c → y[j]? = some d → LeC c d) : LeC (.slice nn sz xs) (.slice nn sz ys)

theorem LeC.rep {w : World} {M : Nat → Prop} {c d : CT} (h : LeC c d) : ∀ {v : Value}, RepC w M v c → RepC w M v d := by
  induction h with
  | refl c => exact fun h => h
  | nil sz => exact fun h => h.nil_slice sz
  | nn nn sz xs => exact fun h => h.weak
  | intP hp => intro v h; rw [RepC.int_inv h]; exact .intP _ _ hp
  | deep hl hx _ ih =>
    rename_i nn sz xs ys _
    intro v hr
    cases hr with
    | slice u hlen hcap hmax hnn hsz had hrep =>
      have hget : ∀ (i : Nat) (y : List CT), ys[i]? = some y → ∃ x, xs[i]? = some x ∧ x.length = y.length := by
        intro i y hy
        have hlt : i < xs.length := by rw [hl]; exact (List.getElem?_eq_some_iff.1 hy).1
        exact ⟨xs[i], List.getElem?_eq_getElem hlt, hx i _ y (List.getElem?_eq_getElem hlt) hy⟩
      refine .slice u (by rw [hlen, hl]) hcap hmax hnn (fun y hy => ?_) (fun hp => ?_) (fun i y hy j d hd => ?_)
      · obtain ⟨i, hi, hiy⟩ := List.mem_iff_getElem.1 hy
        obtain ⟨x, h1, h2⟩ := hget i y (by rw [List.getElem?_eq_getElem hi, hiy])
        rw [← h2]; exact hsz x (List.mem_of_getElem? h1)
      · obtain ⟨ad, a1, a2, a3, a4, a5⟩ := had (by omega)
        refine ⟨ad, a1, a2, a3, a4, fun i y hy j d hd => ?_⟩
        obtain ⟨x, h1, h2⟩ := hget i y hy
        have hj : j < x.length := by rw [h2]; exact (List.getElem?_eq_some_iff.1 hd).1
        exact a5 i x h1 j x[j] (List.getElem?_eq_getElem hj)
      · obtain ⟨x, h1, h2⟩ := hget i y hy
        have hj : j < x.length := by rw [h2]; exact (List.getElem?_eq_some_iff.1 hd).1
        exact ih i j x y x[j] d h1 hy (List.getElem?_eq_getElem hj) hd (hrep i x h1 j x[j] (List.getElem?_eq_getElem hj))

inductive LeS : SC → SC → Prop
  | refl (s : SC) : LeS s s
  | any (s : SC) : LeS s .any
  | lit (b : Bool) : LeS (.lit b) (.c (.bool b))
  | c {a b : CT} (h : LeC a b) : LeS (.c a) (.c b)
inductive LeL : List SC → List SC → Prop
  | nil : LeL [] []
  | cons {a b : SC} {l r : List SC} (h : LeS a b) (k : LeL l r) : LeL (a :: l) (b :: r)
inductive LeV : SV → SV → Prop
  | refl (s : SV) : LeV s s
  | one {a b : SC} (h : LeS a b) : LeV (.one a) (.one b)
  | agg {a b : List SC} (h : LeL a b) : LeV (.agg a) (.agg b)
inductive LeVs : List SV → List SV → Prop
  | nil : LeVs [] []
  | cons {a b : SV} {l r : List SV} (h : LeV a b) (k : LeVs l r) : LeVs (a :: l) (b :: r)
inductive LeT : ST → ST → Prop
  | refl (s : ST) : LeT s s
  | v {a b : SV} (h : LeV a b) : LeT (.v a) (.v b)
  | tup {a b : List SV} (h : LeVs a b) : LeT (.tup a) (.tup b)
/-- Rows of cells. -/
inductive LeCs : List CT → List CT → Prop
  | nil : LeCs [] []
  | cons {a b : CT} {l r : List CT} (h : LeC a b) (k : LeCs l r) : LeCs (a :: l) (b :: r)
inductive LeX : List (List CT) → List (List CT) → Prop
  | refl (l : List (List CT)) : LeX l l
  | nil : LeX [] []
  | cons {a b : List CT} {l r : List (List CT)} (h : LeCs a b) (k : LeX l r) : LeX (a :: l) (b :: r)
  | append {a b c d : List (List CT)} (h : LeX a b) (k : LeX c d) : LeX (a ++ c) (b ++ d)
inductive LeM : MO → MO → Prop
  | refl (o : MO) : LeM o o
  | box {a b : List SC} (h : LeL a b) : LeM (.box a) (.box b)
  | arr {nn : Bool} {e sz : Nat} {xs ys : List (List CT)} (h : LeX xs ys) : LeM (.arr nn e sz xs) (.arr nn e sz ys)
  | nn {nn : Bool} {e sz : Nat} {xs ys : List (List CT)} (h : LeX xs ys) : LeM (.arr nn e sz xs) (.arr false e sz ys)

section
variable {I : Nat → Prop} {H : Nat → Value} {Z : Nat → Nat} {w : World} {M : Nat → Prop}
theorem LeS.rep {a b : SC} (h : LeS a b) {v : Value} (hr : RepSC I H Z w M v a) : RepSC I H Z w M v b := by
  cases h with
  | refl => exact hr
  | any => trivial
  | lit b => rw [show v = .bool b from hr]; exact RepC.bool b
  | c h => exact h.rep hr
theorem LeL.rep {a b : List SC} (h : LeL a b) : ∀ {us : List Value}, Pw (fun u c => RepSC I H Z w M u c) us a → Pw (fun u c => RepSC I H Z w M u c) us b := by
  induction h with
  | nil => exact fun h => h
  | cons h _ ih =>
    intro us hp
    match us, hp with
    | [], hp => exact absurd hp.1 (by simp)
    | u :: us, hp =>
      obtain ⟨u', hu', hr⟩ := hp.2 0 _ rfl
      simp at hu'; subst hu'
      exact Pw.cons (h.rep hr) (ih ⟨by simpa using hp.1, fun j c hc => by simpa using hp.2 (j + 1) c (by simpa using hc)⟩)
theorem LeV.rep {a b : SV} (h : LeV a b) {v : Value} (hr : RepSV I H Z w M v a) : RepSV I H Z w M v b := by
  cases h with
  | refl => exact hr
  | one h => exact LeS.rep h hr
  | agg h =>
    obtain ⟨vs, h1, h2, h3⟩ := hr
    have := h.rep (us := vs.toList) ⟨by simpa using h2, fun j c hc => by simpa using h3 j c hc⟩
    exact ⟨vs, h1, by simpa using this.1, fun j c hc => by simpa using this.2 j c hc⟩
theorem LeVs.rep {a b : List SV} (h : LeVs a b) : ∀ {us : List Value}, Pw (fun u c => RepSV I H Z w M u c) us a → Pw (fun u c => RepSV I H Z w M u c) us b := by
  induction h with
  | nil => exact fun h => h
  | cons h _ ih =>
    intro us hp
    match us, hp with
    | [], hp => exact absurd hp.1 (by simp)
    | u :: us, hp =>
      obtain ⟨u', hu', hr⟩ := hp.2 0 _ rfl
      simp at hu'; subst hu'
      exact Pw.cons (h.rep hr) (ih ⟨by simpa using hp.1, fun j c hc => by simpa using hp.2 (j + 1) c (by simpa using hc)⟩)
theorem LeT.rep {a b : ST} (h : LeT a b) {v : Value} (hr : RepST I H Z w M v a) : RepST I H Z w M v b := by
  cases h with
  | refl => exact hr
  | v h => exact LeV.rep h hr
  | tup h =>
    obtain ⟨vs, h1, h2, h3⟩ := hr
    have := h.rep (us := vs.toList) ⟨by simpa using h2, fun j c hc => by simpa using h3 j c hc⟩
    exact ⟨vs, h1, by simpa using this.1, fun j c hc => by simpa using this.2 j c hc⟩
theorem LeCs.len {a b : List CT} (h : LeCs a b) : a.length = b.length := by
  induction h with
  | nil => rfl
  | cons _ _ ih => simp [ih]
theorem LeCs.get {a b : List CT} (h : LeCs a b) : ∀ {j : Nat} {c d : CT}, a[j]? = some c → b[j]? = some d → LeC c d := by
  induction h with
  | nil => intro j c d h; simp at h
  | cons h _ ih =>
    intro j c d hc hd
    cases j with
    | zero => simp at hc hd; subst hc hd; exact h
    | succ j => exact ih (by simpa using hc) (by simpa using hd)
theorem LeX.len {a b : List (List CT)} (h : LeX a b) : a.length = b.length := by
  induction h with
  | refl => rfl
  | nil => rfl
  | cons _ _ ih => simp [ih]
  | append _ _ ih1 ih2 => simp [ih1, ih2]
theorem LeX.get {a b : List (List CT)} (h : LeX a b) : ∀ {k : Nat} {y : List CT}, b[k]? = some y → ∃ x, a[k]? = some x ∧ x.length = y.length ∧ ∀ (j : Nat) (c d : CT), x[j]? = some c → y[j]? = some d → LeC c d := by
  induction h with
  | refl l => intro k y hy; exact ⟨y, hy, rfl, fun j c d hc hd => by rw [hc] at hd; injection hd with hd; subst hd; exact .refl _⟩
  | nil => intro k y hy; simp at hy
  | cons h _ ih =>
    intro k y hy
    cases k with
    | zero => simp at hy; subst hy; exact ⟨_, rfl, h.len, fun j c d hc hd => h.get hc hd⟩
    | succ k => simpa using ih (by simpa using hy)
  | append h1 h2 ih1 ih2 =>
    intro k y hy
    rw [List.getElem?_append] at hy
    rw [List.getElem?_append, h1.len]
    split at hy
    · rename_i hk; rw [if_pos hk]; exact ih1 hy
    · rename_i hk; rw [if_neg hk]; exact ih2 hy
theorem LeM.rep {a b : MO} (h : LeM a b) {i : Nat} (hr : MemOK I H Z w M i a) : MemOK I H Z w M i b := by
  have key : ∀ {nn : Bool} {e sz : Nat} {xs ys : List (List CT)}, LeX xs ys → MemOK I H Z w M i (.arr nn e sz xs) → MemOK I H Z w M i (.arr nn e sz ys) := by
    intro nn e sz xs ys h hr
    obtain ⟨hz, us, h1, h2, h3, h4⟩ := hr
    refine ⟨hz, us, by rw [← h.len]; exact h1, h2, fun y hy => ?_, fun k y hy j d hd => ?_⟩
    · obtain ⟨k, hk, hky⟩ := List.mem_iff_getElem.1 hy
      obtain ⟨x, g1, g2, _⟩ := h.get (k := k) (y := y) (by rw [List.getElem?_eq_getElem hk, hky])
      rw [← g2]; exact h3 x (List.mem_of_getElem? g1)
    · obtain ⟨x, g1, g2, g3⟩ := h.get hy
      have hj : j < x.length := by rw [g2]; exact (List.getElem?_eq_some_iff.1 hd).1
      obtain ⟨u, hu, hrep⟩ := h4 k x g1 j x[j] (List.getElem?_eq_getElem hj)
      exact ⟨u, hu, (g3 j x[j] d (List.getElem?_eq_getElem hj) hd).rep hrep⟩
  cases h with
  | refl => exact hr
  | box h =>
    obtain ⟨b, ty, vs, h1, h2, h3, h4⟩ := hr
    have hp : Pw (fun u c => RepSC I H Z w M u c) vs.toList _ := ⟨by simpa using h3, fun j c hc => let ⟨u, hu, _, hr⟩ := h4 j c hc; ⟨u, by simpa using hu, hr⟩⟩
    have hq := h.rep hp
    refine ⟨b, ty, vs, h1, h2, by simpa using hq.1, fun j c hc => ?_⟩
    obtain ⟨u, hu, hrep⟩ := hq.2 j c hc
    have hj : j < vs.size := (Array.getElem?_eq_some_iff.1 (show vs[j]? = some u by simpa using hu)).1
    obtain ⟨u', hu', ho, _⟩ := h4 j _ (List.getElem?_eq_getElem (show j < _ by rw [← h3]; exact hj))
    have : u' = u := by
      have h5 : vs[j]? = some u := by simpa using hu
      rw [h5] at hu'; injection hu' with hu'; exact hu'.symm
    subst this
    exact ⟨u', by simpa using hu, ho, hrep⟩
  | arr h => exact key h hr
  | nn h =>
    obtain ⟨hz, us, h1, h2, h3, h4⟩ := key h hr
    exact ⟨hz, us, h1, (fun h => by cases h), h3, h4⟩
end

/-- tm' says no more than tm. -/
def SubT (tm : TM) : TM → Prop
  | [] => True
  | (t, s) :: r => (∃ s0, getT tm t = some s0 ∧ LeT s0 s) ∧ SubT tm r
def SubM (mm : MM) : MM → Prop
  | [] => True
  | (i, o) :: r => (∃ o0, getM mm i = some o0 ∧ LeM o0 o) ∧ SubM mm r

def hasI (mm : MM) (i : Nat) : Bool :=
  match getM mm i with
  | some _ => true
  | none => false
def okC (mm : MM) : SC → Bool
  | .ptr i _ | .aptr i _ _ | .own i | .mp i => hasI mm i
  | .clo _ caps => okL caps
  | _ => true
where
  okL : List Nat → Bool
    | [] => true
    | i :: r => match hasI mm i with
      | true => okL r
      | false => false
def okCs (mm : MM) : List SC → Bool
  | [] => true
  | a :: l => match okC mm a with
    | true => okCs mm l
    | false => false
def okV (mm : MM) : SV → Bool
  | .one s => okC mm s
  | .agg l => okCs mm l
def okVs (mm : MM) : List SV → Bool
  | [] => true
  | a :: l => match okV mm a with
    | true => okVs mm l
    | false => false
def okS (mm : MM) : ST → Bool
  | .v s => okV mm s
  | .tup l => okVs mm l
def okT (mm : MM) : TM → Bool
  | [] => true
  | (_, s) :: r => match okS mm s with
    | true => okT mm r
    | false => false
def okM (mm : MM) : MM → Bool
  | [] => true
  | (_, .box cs) :: r => match okCs mm cs with
    | true => okM mm r
    | false => false
  | _ :: r => okM mm r
/-- No id twice. -/
def uniM : MM → Bool
  | [] => true
  | (i, _) :: r => match hasI r i with
    | true => false
    | false => uniM r

theorem hasI_spec {mm : MM} {i : Nat} (h : hasI mm i = true) : Iof mm i := by
  unfold hasI at h
  split at h
  · rename_i hg; exact ⟨_, getM_mem hg, rfl⟩
  · cases h
theorem hasI_false {mm : MM} {i : Nat} (h : hasI mm i = false) : ¬ Iof mm i := by
  unfold hasI at h
  split at h
  · cases h
  · rename_i hg; exact getM_none hg
theorem okC_spec {mm : MM} {s : SC} (h : okC mm s = true) : ∀ i ∈ s.uses, Iof mm i := by
  have hl : ∀ l : List Nat, okC.okL mm l = true → ∀ i ∈ l, Iof mm i := by
    intro l
    induction l with
    | nil => intro _ i hi; cases hi
    | cons a l ih =>
      intro h i hi
      unfold okC.okL at h
      split at h
      · rename_i ha
        rcases List.mem_cons.1 hi with rfl | hi
        · exact hasI_spec ha
        · exact ih h i hi
      · cases h
  intro i hi
  cases s <;> simp only [SC.uses] at hi <;> first
    | (cases hi; done)
    | (simp only [okC] at h; rw [List.mem_singleton] at hi; subst hi; exact hasI_spec h)
    | (exact hl _ h i hi)
theorem okCs_spec {mm : MM} : ∀ {l : List SC}, okCs mm l = true → ∀ s ∈ l, ∀ i ∈ s.uses, Iof mm i
  | [], _, s, hs => by cases hs
  | a :: l, h, s, hs => by
    unfold okCs at h
    split at h
    · rename_i ha
      rcases List.mem_cons.1 hs with rfl | hs
      · exact okC_spec ha
      · exact okCs_spec h s hs
    · cases h
theorem okV_spec {mm : MM} {s : SV} (h : okV mm s = true) : ∀ i ∈ s.uses, Iof mm i := by
  intro i hi
  cases s with
  | one s => exact okC_spec h i hi
  | agg l =>
    simp only [SV.uses, List.mem_flatMap] at hi
    obtain ⟨s, hs, hi⟩ := hi
    exact okCs_spec h s hs i hi
theorem okVs_spec {mm : MM} : ∀ {l : List SV}, okVs mm l = true → ∀ s ∈ l, ∀ i ∈ s.uses, Iof mm i
  | [], _, s, hs => by cases hs
  | a :: l, h, s, hs => by
    unfold okVs at h
    split at h
    · rename_i ha
      rcases List.mem_cons.1 hs with rfl | hs
      · exact okV_spec ha
      · exact okVs_spec h s hs
    · cases h
theorem okS_spec {mm : MM} {s : ST} (h : okS mm s = true) : ∀ i ∈ s.uses, Iof mm i := by
  intro i hi
  cases s with
  | v s => exact okV_spec h i hi
  | tup l =>
    simp only [ST.uses, List.mem_flatMap] at hi
    obtain ⟨s, hs, hi⟩ := hi
    exact okVs_spec h s hs i hi
theorem okT_spec {mm : MM} : ∀ {tm : TM}, okT mm tm = true → ∀ p ∈ tm, ∀ i ∈ p.2.uses, Iof mm i
  | [], _, p, hp => by cases hp
  | (t, s) :: l, h, p, hp => by
    unfold okT at h
    split at h
    · rename_i ha
      rcases List.mem_cons.1 hp with rfl | hp
      · exact okS_spec ha
      · exact okT_spec h p hp
    · cases h
theorem okM_spec {mm : MM} : ∀ {l : MM}, okM mm l = true → ∀ p ∈ l, ∀ i ∈ p.2.uses, Iof mm i
  | [], _, p, hp => by cases hp
  | (t, o) :: l, h, p, hp => by
    cases o with
    | box cs =>
      unfold okM at h
      split at h
      · rename_i ha
        rcases List.mem_cons.1 hp with rfl | hp
        · intro i hi
          simp only [MO.uses, List.mem_flatMap] at hi
          obtain ⟨s, hs, hi⟩ := hi
          exact okCs_spec ha s hs i hi
        · exact okM_spec h p hp
      · cases h
    | arr nn e sz xs =>
      have h' : okM mm l = true := by simpa [okM] using h
      rcases List.mem_cons.1 hp with rfl | hp
      · intro i hi; cases hi
      · exact okM_spec h' p hp
    | mpo es =>
      have h' : okM mm l = true := by simpa [okM] using h
      rcases List.mem_cons.1 hp with rfl | hp
      · intro i hi; cases hi
      · exact okM_spec h' p hp
theorem uniM_spec : ∀ {mm : MM}, uniM mm = true → ∀ p ∈ mm, ∀ q ∈ mm, p.1 = q.1 → p = q
  | [], _, p, hp => by cases hp
  | (i, o) :: r, h, p, hp => by
    unfold uniM at h
    split at h
    · cases h
    · rename_i hh
      have hni := hasI_false hh
      intro q hq he
      rcases List.mem_cons.1 hp with rfl | hp <;> rcases List.mem_cons.1 hq with rfl | hq
      · rfl
      · exact absurd ⟨q, hq, he.symm⟩ hni
      · exact absurd ⟨p, hp, he⟩ hni
      · exact uniM_spec h p hp q hq he

section
variable {C : Ctx} {f : FuncId} {n : Nat} {R : Ending → World → Prop} {k : List Item} {tm tm' : TM} {mm mm' : MM} {ops : Array Oper} {l : List Oper} {T : TM → MM → Prop}

theorem SubT_spec : ∀ {l : TM}, SubT tm l → ∀ p ∈ l, ∃ s0, (p.1, s0) ∈ tm ∧ LeT s0 p.2
  | [], _, p, hp => by cases hp
  | (t, s) :: r, h, p, hp => by
    rcases List.mem_cons.1 hp with rfl | hp
    · obtain ⟨s0, h1, h2⟩ := h.1; exact ⟨s0, getT_mem h1, h2⟩
    · exact SubT_spec h.2 p hp
theorem SubM_spec : ∀ {l : MM}, SubM mm l → ∀ p ∈ l, ∃ o0, (p.1, o0) ∈ mm ∧ LeM o0 p.2
  | [], _, p, hp => by cases hp
  | (t, s) :: r, h, p, hp => by
    rcases List.mem_cons.1 hp with rfl | hp
    · obtain ⟨s0, h1, h2⟩ := h.1; exact ⟨s0, getM_mem h1, h2⟩
    · exact SubM_spec h.2 p hp

theorem Has.sub (ht : SubT tm tm') (hm : SubM mm mm') (hok : okT mm' tm' = true) (hokm : okM mm' mm' = true) (hu : uniM mm' = true) {a : Act} {w : World} (h : Has C n tm mm a w) : Has C n tm' mm' a w := by
  obtain ⟨H, Z, hmod⟩ := h
  have hM : ∀ b, b < w.heap.size → Mof C H mm' b → Mof C H mm b := by
    rintro b _ (hb | ⟨p, hp, hpb⟩)
    · exact .inl hb
    · obtain ⟨o0, h1, _⟩ := SubM_spec hm p hp
      exact .inr ⟨_, h1, hpb⟩
  refine ⟨H, Z, hmod.defers, hmod.size, hmod.nle, ?_, hmod.ext, hmod.m0, uniM_spec hu, ?_, ?_, ?_, ?_⟩
  · intro p hp hpg
    obtain ⟨o0, h1, _⟩ := SubM_spec hm p hp
    exact hmod.hg (p.1, o0) h1 hpg
  · intro p hp
    obtain ⟨o0, h1, h2⟩ := SubM_spec hm p hp
    have h3 := hmod.mem _ h1
    have h4 := h2.rep h3
    exact h4.mono ⟨rfl, rfl⟩ (fun _ _ => rfl) (fun j hj _ => ⟨okM_spec hokm p hp j hj, rfl, rfl⟩) (Nat.le_refl _) (fun _ _ _ => rfl) hM
  · intro p hp b hb
    obtain ⟨o0, h1, _⟩ := SubM_spec hm p hp
    exact hmod.fresh _ h1 b hb
  · intro p hp q hq hpq b hpb
    obtain ⟨o0, h1, _⟩ := SubM_spec hm p hp
    obtain ⟨o1, h2, _⟩ := SubM_spec hm q hq
    exact hmod.sep _ h1 _ h2 hpq b hpb
  · intro p hp
    obtain ⟨s0, h1, h2⟩ := SubT_spec ht p hp
    have h3 := h2.rep (hmod.tmps _ h1)
    exact h3.mono (fun j hj _ => ⟨okT_spec hok p hp j hj, rfl, rfl⟩) (Nat.le_refl _) (fun _ _ _ => rfl) hM

theorem g_sub (ht : SubT tm tm') (hm : SubM mm mm') (hok : okT mm' tm' = true) (hokm : okM mm' mm' = true) (hu : uniM mm' = true) {t : List Item} (g : Goes C f n R t tm' mm') : Goes C f n R t tm mm :=
  g.mono fun _ _ h => h.sub ht hm hok hokm hu
theorem s_sub (ht : SubT tm tm') (hm : SubM mm mm') (hok : okT mm' tm' = true) (hokm : okM mm' mm' = true) (hu : uniM mm' = true) (g : SOps C n ops l tm' mm' T) : SOps C n ops l tm mm T :=
  g.mono fun _ _ h => h.sub ht hm hok hokm hu

/-! Ways part. -/
def needT (L : List Oper) (o : Oper) : Option Nat :=
  match o.guard with
  | none => none
  | some (j, _) => match nthO L j with
    | some oj => oj.dst
    | none => none

variable {L : List Oper} {o : Oper} {t : Nat}
theorem s_split {b : Bool} (hn : needT L o = some t) (ht : getT tm t = some (.v (.one (.c (.bool b)))))
    (h1 : b = true → SOps C n L.toArray (o :: l) ((t, .v (.one (.lit true))) :: delL tm t) mm T)
    (h2 : b = false → SOps C n L.toArray (o :: l) ((t, .v (.one (.lit false))) :: delL tm t) mm T) : SOps C n L.toArray (o :: l) tm mm T :=
  have _ := hn
  SOps.split (getT_mem ht) h1 h2
theorem s_splitD {p : Prop} [Decidable p] (hn : needT L o = some t) (ht : getT tm t = some (.v (.one (.c (.bool (decide p))))))
    (h1 : p → SOps C n L.toArray (o :: l) ((t, .v (.one (.lit true))) :: delL tm t) mm T)
    (h2 : ¬ p → SOps C n L.toArray (o :: l) ((t, .v (.one (.lit false))) :: delL tm t) mm T) : SOps C n L.toArray (o :: l) tm mm T :=
  s_split hn ht (fun h => h1 (of_decide_eq_true h)) (fun h => h2 (of_decide_eq_false h))
theorem s_splitN {p : Prop} [Decidable p] (hn : needT L o = some t) (ht : getT tm t = some (.v (.one (.c (.bool (!decide p))))))
    (h1 : ¬ p → SOps C n L.toArray (o :: l) ((t, .v (.one (.lit true))) :: delL tm t) mm T)
    (h2 : p → SOps C n L.toArray (o :: l) ((t, .v (.one (.lit false))) :: delL tm t) mm T) : SOps C n L.toArray (o :: l) tm mm T :=
  s_split hn ht (fun h => h1 (by simpa using h)) (fun h => h2 (by simpa using h))
theorem g_ifD {x y : Code} {p : Prop} [Decidable p] (hc : getT tm t = some (.v (.one (.c (.bool (decide p))))))
    (h1 : p → Goes C f n R (.code x :: k) ((t, .v (.one (.lit true))) :: delL tm t) mm) (h2 : ¬ p → Goes C f n R (.code y :: k) ((t, .v (.one (.lit false))) :: delL tm t) mm) :
    Goes C f n R (.code (.cond (.tmp t) x y) :: k) tm mm := g_if hc (fun h => h1 (of_decide_eq_true h)) (fun h => h2 (of_decide_eq_false h))
theorem g_ifN {x y : Code} {p : Prop} [Decidable p] (hc : getT tm t = some (.v (.one (.c (.bool (!decide p))))))
    (h1 : ¬ p → Goes C f n R (.code x :: k) ((t, .v (.one (.lit true))) :: delL tm t) mm) (h2 : p → Goes C f n R (.code y :: k) ((t, .v (.one (.lit false))) :: delL tm t) mm) :
    Goes C f n R (.code (.cond (.tmp t) x y) :: k) tm mm := g_if hc (fun h => h1 (by simpa using h)) (fun h => h2 (by simpa using h))

/-! One operation with a side condition. -/
theorem s_step {tm' : TM} {mm' : MM} (h : OpW C n o tm mm tm' mm') (hg : guardL L tm o = some true) (k : SOps C n L.toArray l tm' mm' T) : SOps C n L.toArray (o :: l) tm mm T :=
  SOps.step (guardL_eq hg) h k

variable {d : Nat} {x y : Operand} {ty ty' : TypeId}
theorem s_add {a b : Int} (ho : o.op = .binOp .add ty x y ty') (hx : evalC tm x = some (.c (.int .i64 a))) (hy : evalC tm y = some (.c (.int .i64 b))) (hd : o.dst = some d) (hn : Nat.blt d n = true) (hg : guardL L tm o = some true)
    (hr : -9223372036854775808 ≤ a + b ∧ a + b ≤ 9223372036854775807) (k : SOps C n L.toArray l ((d, .v (.one (.c (.int .i64 (a + b))))) :: delL tm d) mm T) : SOps C n L.toArray (o :: l) tm mm T :=
  s_step (op_arith (p := .add) ho hx hy (IntWalk.i64_in _ (by omega)) hd hn).wp hg k
theorem s_subI {a b : Int} (ho : o.op = .binOp .sub ty x y ty') (hx : evalC tm x = some (.c (.int .i64 a))) (hy : evalC tm y = some (.c (.int .i64 b))) (hd : o.dst = some d) (hn : Nat.blt d n = true) (hg : guardL L tm o = some true)
    (hr : -9223372036854775808 ≤ a - b ∧ a - b ≤ 9223372036854775807) (k : SOps C n L.toArray l ((d, .v (.one (.c (.int .i64 (a - b))))) :: delL tm d) mm T) : SOps C n L.toArray (o :: l) tm mm T :=
  s_step (op_arith (p := .sub) ho hx hy (IntWalk.i64_in _ (by omega)) hd hn).wp hg k
theorem s_mul {a b : Int} (ho : o.op = .binOp .mul ty x y ty') (hx : evalC tm x = some (.c (.int .i64 a))) (hy : evalC tm y = some (.c (.int .i64 b))) (hd : o.dst = some d) (hn : Nat.blt d n = true) (hg : guardL L tm o = some true)
    (hr : -9223372036854775808 ≤ a * b ∧ a * b ≤ 9223372036854775807) (k : SOps C n L.toArray l ((d, .v (.one (.c (.int .i64 (a * b))))) :: delL tm d) mm T) : SOps C n L.toArray (o :: l) tm mm T :=
  s_step (op_arith (p := .mul) ho hx hy (IntWalk.i64_in _ (by omega)) hd hn).wp hg k
theorem s_rem {kd : IntKind} {a b : Int} (ho : o.op = .binOp .rem ty x y ty') (hx : evalC tm x = some (.c (.int kd a))) (hy : evalC tm y = some (.c (.int kd b))) (hd : o.dst = some d) (hn : Nat.blt d n = true) (hg : guardL L tm o = some true)
    (hr : b ≠ 0) (k : SOps C n L.toArray l ((d, .v (.one (.c (.int kd (a.tmod b))))) :: delL tm d) mm T) : SOps C n L.toArray (o :: l) tm mm T :=
  s_step (op_arith (p := .rem) ho hx hy ⟨hr, rfl⟩ hd hn).wp hg k

/-- An element of a text. -/
theorem s_str {Θ : Tab} (hΘ : tabOK C.P Θ) {s : ByteArray} {kd : IntKind} {m : Int} {z bts : Nat} {ag : Bool} {zr : Option (List CT)}
    (ho : o.op = .index ty x y) (ht : tyGet Θ ty = some ⟨z, bts, ag, zr, .string⟩) (hx : evalC tm x = some (.c (.str s))) (hi : evalC tm y = some (.c (.int kd m))) (hd : o.dst = some d) (hn : Nat.blt d n = true) (hg : guardL L tm o = some true)
    (j : Nat) (b : UInt8) (hm : m = (j : Int)) (hb : s.data.toList[j]? = some b) (k : SOps C n L.toArray l ((d, .v (.one (.c (.int .u8 (b.toNat : Int))))) :: delL tm d) mm T) : SOps C n L.toArray (o :: l) tm mm T :=
  s_step (op_indexS hΘ ho ht hx hi hm hb hd hn).wp hg k

/-- The address of an element of a frozen slice. -/
theorem s_idx {Θ : Tab} (hΘ : tabOK C.P Θ) {nn : Bool} {sz : Nat} {xs : List (List CT)} {kd : IntKind} {m : Int} {e : Nat} {z bts : Nat} {ag : Bool} {zr : Option (List CT)} {ei : TyI}
    (ho : o.op = .indexAddr ty x y) (ht : tyGet Θ ty = some ⟨z, bts, ag, zr, .slice e⟩) (hei : tyGet Θ e = some ei) (hx : evalC tm x = some (.c (.slice nn sz xs))) (hsz : Nat.beq ei.size sz = true)
    (hi : evalC tm y = some (.c (.int kd m))) (hd : o.dst = some d) (hn : Nat.blt d n = true) (hg : guardL L tm o = some true)
    (j : Nat) (cs : List CT) (hm : m = (j : Int)) (hj : xs[j]? = some cs) (k : SOps C n L.toArray l ((d, .v (.one (.eptr cs))) :: delL tm d) mm T) : SOps C n L.toArray (o :: l) tm mm T :=
  s_step (op_idx hΘ ho ht hei hsz hx hi hm hj hd hn).wp hg k

/-- A call. -/
theorem s_call {g : FuncId} {pre post : List (List CT)} {args args' : List SV} {res : ST} (hc : Con C.P g pre args res post) (ids : List Nat) {xs : Array Operand} {ts : Array TypeId}
    (ho : o.op = .call { callee := .value (.func g), args := xs, argTypes := ts }) (hargs : evalArgs tm xs.toList = some args') (hren : renVs ids args = some args') (hpre : preE mm ids = some pre)
    (hnd : noDup ids = true) (hlen : post.length = pre.length) (hpure : pureS res = true) (hd : o.dst = some d) (hn : Nat.blt d n = true) (hg : guardL L tm o = some true)
    (k : SOps C n L.toArray l ((d, res) :: delL tm d) (updMs mm ids post) T) : SOps C n L.toArray (o :: l) tm mm T :=
  s_step (op_call hc ids ho hargs hren hpre hnd hlen hpure hd hn) hg k
theorem s_clo {g : FuncId} {pre post : List (List CT)} {args args' : List SV} {res : ST} (hc : Con C.P g pre args res post) (ids : List Nat) {caps : List Nat} {xs : Array Operand} {ts : Array TypeId}
    (ho : o.op = .call { callee := .value x, args := xs, argTypes := ts }) (hx : evalC tm x = some (.clo g caps)) (hargs : evalArgs tm xs.toList = some args') (hren : renVs ids args = some (appV args' caps)) (hpre : preE mm ids = some pre)
    (hbox : caps.all (fun i => match getM mm i with | some (.box _) => true | _ => false) = true)
    (hnd : noDup ids = true) (hlen : post.length = pre.length) (hpure : pureS res = true) (hd : o.dst = some d) (hn : Nat.blt d n = true) (hg : guardL L tm o = some true)
    (k : SOps C n L.toArray l ((d, res) :: delL tm d) (updMs mm ids post) T) : SOps C n L.toArray (o :: l) tm mm T :=
  s_step (op_callclo hc ids ho hx hargs hren hpre hbox hnd hlen hpure hd hn) hg k
end

theorem le_int {k : IntKind} {a b : Int} (h : a = b) : LeT (.v (.one (.c (.int k a)))) (.v (.one (.c (.int k b)))) := by subst h; exact .refl _
theorem le_ct {a b : CT} (h : a = b) : LeT (.v (.one (.c a))) (.v (.one (.c b))) := by subst h; exact .refl _
theorem le_c {a b : CT} (h : LeC a b) : LeT (.v (.one (.c a))) (.v (.one (.c b))) := .v (.one (.c h))

section
variable {C : Ctx} {f : FuncId} {n : Nat} {R : Ending → World → Prop} {k : List Item} {tm : TM} {mm : MM} {c : Code}
/-- A loop: Inv: what holds at the head of a round; S, M: the state there. -/
theorem g_loop1 {ι : Type} (Inv : ι → Prop) (S : ι → TM) (M : ι → MM) (μ : ι → Nat) (i : ι) (h0 : Inv i) (hs : ∀ a w, Has C n tm mm a w → Has C n (S i) (M i) a w)
    (h : ∀ i, Inv i → (∀ j, Inv j → μ j < μ i → Goes C f n R (.inLoop c :: k) (S j) (M j)) → Goes C f n R (.code c :: .inLoop c :: k) (S i) (M i)) :
    Goes C f n R (.code (.loop c) :: k) tm mm :=
  g_loop (ι := { i : ι // Inv i }) (fun i => (S i.1, M i.1)) (fun i => μ i.1) ⟨i, h0⟩ hs fun i ih => h i.1 i.2 fun j hj hm => ih ⟨j, hj⟩ hm
theorem g_loop2 {ι κ : Type} (Inv : ι → κ → Prop) (S : ι → κ → TM) (M : ι → κ → MM) (μ : ι → κ → Nat) (i : ι) (a : κ) (h0 : Inv i a) (hs : ∀ x w, Has C n tm mm x w → Has C n (S i a) (M i a) x w)
    (h : ∀ i a, Inv i a → (∀ j b, Inv j b → μ j b < μ i a → Goes C f n R (.inLoop c :: k) (S j b) (M j b)) → Goes C f n R (.code c :: .inLoop c :: k) (S i a) (M i a)) :
    Goes C f n R (.code (.loop c) :: k) tm mm :=
  g_loop1 (ι := ι × κ) (fun p => Inv p.1 p.2) (fun p => S p.1 p.2) (fun p => M p.1 p.2) (fun p => μ p.1 p.2) (i, a) h0 hs fun p hp ih => h p.1 p.2 hp fun j b hj hm => ih (j, b) hj hm
theorem g_loop3 {ι κ τ : Type} (Inv : ι → κ → τ → Prop) (S : ι → κ → τ → TM) (M : ι → κ → τ → MM) (μ : ι → κ → τ → Nat) (i : ι) (a : κ) (t : τ) (h0 : Inv i a t) (hs : ∀ x w, Has C n tm mm x w → Has C n (S i a t) (M i a t) x w)
    (h : ∀ i a t, Inv i a t → (∀ j b u, Inv j b u → μ j b u < μ i a t → Goes C f n R (.inLoop c :: k) (S j b u) (M j b u)) → Goes C f n R (.code c :: .inLoop c :: k) (S i a t) (M i a t)) :
    Goes C f n R (.code (.loop c) :: k) tm mm :=
  g_loop1 (ι := ι × κ × τ) (fun p => Inv p.1 p.2.1 p.2.2) (fun p => S p.1 p.2.1 p.2.2) (fun p => M p.1 p.2.1 p.2.2) (fun p => μ p.1 p.2.1 p.2.2) (i, a, t) h0 hs fun p hp ih => h p.1 p.2.1 p.2.2 hp fun j b u hj hm => ih (j, b, u) hj hm
end
end Go.Sy
