/- Symbolic states: an object is given up (forgotten, or frozen). -/
import Derived.Test.YthjpcefjgmklfaaSymF
namespace Go.Sy
set_option linter.unusedSimpArgs false
set_option linter.unusedVariables false
set_option linter.unusedSectionVars false
open Go.RowKit

def hasN : List Nat → Nat → Bool
  | [], _ => false
  | j :: r, i => match Nat.beq j i with
    | true => true
    | false => hasN r i
theorem hasN_spec {i : Nat} : ∀ {l : List Nat}, hasN l i = false → i ∉ l
  | [], _ => by simp
  | j :: r, h => by
    unfold hasN at h
    cases hb : Nat.beq j i with
    | true => rw [hb] at h; cases h
    | false =>
      rw [hb] at h
      intro hm
      rcases List.mem_cons.1 hm with rfl | hm
      · simp at hb
      · exact hasN_spec h hm

/-- id i is given up: 'own i' is now r, all else that names i is not known any more. -/
def SC.sub (s : SC) (i : Nat) (r : SC) : SC :=
  match s with
  | .own j => match Nat.beq j i with | true => r | false => .own j
  | .ptr j o => match Nat.beq j i with | true => .any | false => .ptr j o
  | .aptr j k o => match Nat.beq j i with | true => .any | false => .aptr j k o
  | .mp j => match Nat.beq j i with | true => .any | false => .mp j
  | .clo f caps => match hasN caps i with | true => .any | false => .clo f caps
  | .c x => .c x
  | .lit b => .lit b
  | .eptr cs => .eptr cs
  | .any => .any

theorem SC.sub_uses {i : Nat} {r : SC} (hr : r.uses = []) (s : SC) : (∀ j ∈ (s.sub i r).uses, j ∈ s.uses ∧ j ≠ i) := by
  intro j hj
  cases s with
  | own k =>
    simp only [SC.sub] at hj
    cases hb : Nat.beq k i with
    | true => rw [hb] at hj; simp only [hr] at hj; cases hj
    | false => rw [hb] at hj; simp [SC.uses] at hj ⊢; subst hj; exact ⟨rfl, fun e => by subst e; simp at hb⟩
  | ptr k o =>
    simp only [SC.sub] at hj
    cases hb : Nat.beq k i with
    | true => rw [hb] at hj; simp [SC.uses] at hj
    | false => rw [hb] at hj; simp [SC.uses] at hj ⊢; subst hj; exact ⟨rfl, fun e => by subst e; simp at hb⟩
  | aptr k q o =>
    simp only [SC.sub] at hj
    cases hb : Nat.beq k i with
    | true => rw [hb] at hj; simp [SC.uses] at hj
    | false => rw [hb] at hj; simp [SC.uses] at hj ⊢; subst hj; exact ⟨rfl, fun e => by subst e; simp at hb⟩
  | mp k =>
    simp only [SC.sub] at hj
    cases hb : Nat.beq k i with
    | true => rw [hb] at hj; simp [SC.uses] at hj
    | false => rw [hb] at hj; simp [SC.uses] at hj ⊢; subst hj; exact ⟨rfl, fun e => by subst e; simp at hb⟩
  | clo f caps =>
    simp only [SC.sub] at hj
    cases hb : hasN caps i with
    | true => rw [hb] at hj; simp [SC.uses] at hj
    | false => rw [hb] at hj; simp [SC.uses] at hj ⊢; exact ⟨hj, fun e => hasN_spec hb (e ▸ hj)⟩
  | c x => simp [SC.sub, SC.uses] at hj
  | lit b => simp [SC.sub, SC.uses] at hj
  | eptr cs => simp [SC.sub, SC.uses] at hj
  | any => simp [SC.sub, SC.uses] at hj

theorem RepSC.sub {I : Nat → Prop} {H : Nat → Value} {Z : Nat → Nat} {w : World} {M : Nat → Prop} {v : Value} {s : SC} {i : Nat} {r : SC}
    (h : RepSC I H Z w M v s) (hr : v = H i → RepSC I H Z w M v r) : RepSC I H Z w M v (s.sub i r) := by
  cases s with
  | own k =>
    simp only [SC.sub]
    cases hb : Nat.beq k i with
    | true =>
      have : k = i := Nat.eq_of_beq_eq_true hb
      subst this
      exact hr h.2
    | false => exact h
  | ptr k o => simp only [SC.sub]; cases Nat.beq k i <;> first | exact h | trivial
  | aptr k q o => simp only [SC.sub]; cases Nat.beq k i <;> first | exact h | trivial
  | mp k => simp only [SC.sub]; cases Nat.beq k i <;> first | exact h | trivial
  | clo f caps => simp only [SC.sub]; cases hasN caps i <;> first | exact h | trivial
  | c x => exact h
  | lit b => exact h
  | eptr cs => exact h
  | any => trivial

def subCs (i : Nat) (r : SC) : List SC → List SC
  | [] => []
  | s :: l => s.sub i r :: subCs i r l
theorem subCs_eq (i : Nat) (r : SC) (l : List SC) : subCs i r l = l.map (fun s => SC.sub s i r) := by
  induction l with
  | nil => rfl
  | cons a l ih => simp [subCs, ih]
def SV.sub (i : Nat) (r : SC) : SV → SV
  | .one s => .one (s.sub i r)
  | .agg xs => .agg (subCs i r xs)
def subSVs (i : Nat) (r : SC) : List SV → List SV
  | [] => []
  | s :: l => s.sub i r :: subSVs i r l
theorem subSVs_eq (i : Nat) (r : SC) (l : List SV) : subSVs i r l = l.map (SV.sub i r) := by
  induction l with
  | nil => rfl
  | cons a l ih => simp [subSVs, ih]
def ST.sub (i : Nat) (r : SC) : ST → ST
  | .v s => .v (s.sub i r)
  | .tup xs => .tup (subSVs i r xs)
def MO.sub (i : Nat) (r : SC) : MO → MO
  | .box cs => .box (subCs i r cs)
  | .arr nn e sz xs => .arr nn e sz xs
  | .mpo es => .mpo es
def subT (i : Nat) (r : SC) : TM → TM
  | [] => []
  | (t, s) :: l => (t, s.sub i r) :: subT i r l
theorem subT_mem {i : Nat} {r : SC} {p : Nat × ST} : ∀ {tm : TM}, p ∈ subT i r tm → ∃ q ∈ tm, q.1 = p.1 ∧ p.2 = q.2.sub i r
  | [], h => by simp [subT] at h
  | (t, s) :: l, h => by
    unfold subT at h
    rcases List.mem_cons.1 h with rfl | h
    · exact ⟨_, List.mem_cons_self, rfl, rfl⟩
    · obtain ⟨q, hq, e⟩ := subT_mem h
      exact ⟨q, List.mem_cons_of_mem _ hq, e⟩
/-- Without object i; the others with i given up. -/
def subM (i : Nat) (r : SC) : MM → MM
  | [] => []
  | (t, o) :: l => match Nat.beq t i with
    | true => subM i r l
    | false => (t, o.sub i r) :: subM i r l
theorem subM_mem {i : Nat} {r : SC} {p : Nat × MO} : ∀ {mm : MM}, p ∈ subM i r mm → ∃ q ∈ mm, q.1 = p.1 ∧ p.2 = q.2.sub i r ∧ q.1 ≠ i
  | [], h => by simp [subM] at h
  | (t, s) :: l, h => by
    unfold subM at h
    cases hb : Nat.beq t i with
    | true =>
      rw [hb] at h
      obtain ⟨q, hq, e⟩ := subM_mem h
      exact ⟨q, List.mem_cons_of_mem _ hq, e⟩
    | false =>
      rw [hb] at h
      rcases List.mem_cons.1 h with rfl | h
      · exact ⟨_, List.mem_cons_self, rfl, rfl, fun e => by rw [show t = i from e] at hb; simp at hb⟩
      · obtain ⟨q, hq, e⟩ := subM_mem h
        exact ⟨q, List.mem_cons_of_mem _ hq, e⟩
theorem subM_ids {i : Nat} {r : SC} {j : Nat} (hj : j ≠ i) : ∀ {mm : MM}, Iof mm j → Iof (subM i r mm) j
  | [], h => by obtain ⟨p, hp, _⟩ := h; simp at hp
  | (t, s) :: l, h => by
    obtain ⟨p, hp, he⟩ := h
    unfold subM
    cases hb : Nat.beq t i with
    | true =>
      rcases List.mem_cons.1 hp with rfl | hp
      · exact absurd (he.symm.trans (Nat.eq_of_beq_eq_true hb)) hj
      · exact subM_ids hj ⟨p, hp, he⟩
    | false =>
      rcases List.mem_cons.1 hp with rfl | hp
      · exact ⟨_, List.mem_cons_self, he⟩
      · obtain ⟨q, hq, hqe⟩ := subM_ids (r := r) hj ⟨p, hp, he⟩
        exact ⟨q, List.mem_cons_of_mem _ hq, hqe⟩

section
variable {I I' : Nat → Prop} {H : Nat → Value} {Z : Nat → Nat} {w : World} {M M' : Nat → Prop} {i : Nat} {r : SC}

theorem RepSC.sub' {v : Value} {s : SC} (h : RepSC I H Z w M v s) (hru : r.uses = []) (hr : v = H i → RepSC I' H Z w M' v r)
    (hI : ∀ j, j ≠ i → I j → I' j) (hM : ∀ b, b < w.heap.size → M' b → M b) : RepSC I' H Z w M' v (s.sub i r) := by
  cases s with
  | own k =>
    simp only [SC.sub]
    cases hb : Nat.beq k i with
    | true =>
      have : k = i := Nat.eq_of_beq_eq_true hb
      subst this
      exact hr h.2
    | false => exact h.mono (fun j hj hIj => ⟨hI j (by simp [SC.uses] at hj; subst hj; intro e; subst e; simp at hb) hIj, rfl, rfl⟩) (Nat.le_refl _) (fun _ _ _ => rfl) hM
  | ptr k o =>
    simp only [SC.sub]
    cases hb : Nat.beq k i with
    | true => trivial
    | false => exact h.mono (fun j hj hIj => ⟨hI j (by simp [SC.uses] at hj; subst hj; intro e; subst e; simp at hb) hIj, rfl, rfl⟩) (Nat.le_refl _) (fun _ _ _ => rfl) hM
  | aptr k q o =>
    simp only [SC.sub]
    cases hb : Nat.beq k i with
    | true => trivial
    | false => exact h.mono (fun j hj hIj => ⟨hI j (by simp [SC.uses] at hj; subst hj; intro e; subst e; simp at hb) hIj, rfl, rfl⟩) (Nat.le_refl _) (fun _ _ _ => rfl) hM
  | mp k =>
    simp only [SC.sub]
    cases hb : Nat.beq k i with
    | true => trivial
    | false => exact h.mono (fun j hj hIj => ⟨hI j (by simp [SC.uses] at hj; subst hj; intro e; subst e; simp at hb) hIj, rfl, rfl⟩) (Nat.le_refl _) (fun _ _ _ => rfl) hM
  | clo f caps =>
    simp only [SC.sub]
    cases hb : hasN caps i with
    | true => trivial
    | false => exact h.mono (fun j hj hIj => ⟨hI j (fun e => hasN_spec hb (e ▸ hj)) hIj, rfl, rfl⟩) (Nat.le_refl _) (fun _ _ _ => rfl) hM
  | c x => exact RepC.mono h (Nat.le_refl _) (fun _ _ _ => rfl) hM
  | lit b => exact h
  | eptr cs => exact RepSC.mono (x := .eptr cs) h (fun j hj _ => by simp [SC.uses] at hj) (Nat.le_refl _) (fun _ _ _ => rfl) hM
  | any => trivial

theorem RepSV.sub' {v : Value} {s : SV} (h : RepSV I H Z w M v s) (hru : r.uses = []) (hr : ∀ v, v = H i → RepSC I' H Z w M' v r)
    (hI : ∀ j, j ≠ i → I j → I' j) (hM : ∀ b, b < w.heap.size → M' b → M b) : RepSV I' H Z w M' v (s.sub i r) := by
  cases s with
  | one s => exact RepSC.sub' h hru (hr v) hI hM
  | agg xs =>
    obtain ⟨vs, h1, h2, h3⟩ := h
    simp only [SV.sub, subCs_eq]
    refine ⟨vs, h1, by simpa using h2, fun j c hc => ?_⟩
    rw [List.getElem?_map] at hc
    cases hq : xs[j]? with
    | none => rw [hq] at hc; cases hc
    | some s =>
      rw [hq] at hc; injection hc with hc; subst hc
      obtain ⟨u, hu, hrep⟩ := h3 j s hq
      exact ⟨u, hu, hrep.sub' hru (hr u) hI hM⟩

theorem RepST.sub' {v : Value} {s : ST} (h : RepST I H Z w M v s) (hru : r.uses = []) (hr : ∀ v, v = H i → RepSC I' H Z w M' v r)
    (hI : ∀ j, j ≠ i → I j → I' j) (hM : ∀ b, b < w.heap.size → M' b → M b) : RepST I' H Z w M' v (s.sub i r) := by
  cases s with
  | v s => exact RepSV.sub' h hru hr hI hM
  | tup xs =>
    obtain ⟨vs, h1, h2, h3⟩ := h
    simp only [ST.sub, subSVs_eq]
    refine ⟨vs, h1, by simpa using h2, fun j c hc => ?_⟩
    rw [List.getElem?_map] at hc
    cases hq : xs[j]? with
    | none => rw [hq] at hc; cases hc
    | some s =>
      rw [hq] at hc; injection hc with hc; subst hc
      obtain ⟨u, hu, hrep⟩ := h3 j s hq
      exact ⟨u, hu, hrep.sub' hru hr hI hM⟩

theorem MemOK.sub' {k : Nat} {o : MO} (h : MemOK I H Z w M k o) (hru : r.uses = []) (hr : ∀ v, v = H i → RepSC I' H Z w M' v r)
    (hI : ∀ j, j ≠ i → I j → I' j) (hM : ∀ b, b < w.heap.size → M' b → M b) : MemOK I' H Z w M' k (o.sub i r) := by
  cases o with
  | box cs =>
    obtain ⟨b, ty, vs, h1, h2, h3, h4⟩ := h
    simp only [MO.sub, subCs_eq]
    refine ⟨b, ty, vs, h1, h2, by simpa using h3, fun j c hc => ?_⟩
    rw [List.getElem?_map] at hc
    cases hq : cs[j]? with
    | none => rw [hq] at hc; cases hc
    | some s =>
      rw [hq] at hc; injection hc with hc; subst hc
      obtain ⟨u, hu, ho, hrep⟩ := h4 j s hq
      exact ⟨u, hu, ho, hrep.sub' hru (hr u) hI hM⟩
  | arr nn e sz xs => exact MemOK.mono (o := .arr nn e sz xs) h ⟨rfl, rfl⟩ (fun _ _ => rfl) (fun j hj _ => by simp [MO.uses] at hj) (Nat.le_refl _) (fun _ _ _ => rfl) hM
  | mpo es => exact MemOK.mono (o := .mpo es) h ⟨rfl, rfl⟩ (fun _ _ => rfl) (fun j hj _ => by simp [MO.uses] at hj) (Nat.le_refl _) (fun _ _ _ => rfl) hM
end

/-- Object i is given up. -/
theorem Mod.give {C : Ctx} {H : Nat → Value} {Z : Nat → Nat} {n : Nat} {tm : TM} {mm : MM} {a : Act} {w : World} (h : Mod C H Z n tm mm a w)
    (i : Nat) (r : SC) (hru : r.uses = []) (hr : ∀ v, v = H i → RepSC (Iof (subM i r mm)) H Z w (Mof C H (subM i r mm)) v r) :
    Mod C H Z n (subT i r tm) (subM i r mm) a w := by
  have hI : ∀ j, j ≠ i → Iof mm j → Iof (subM i r mm) j := fun j hj h => subM_ids hj h
  have hM : ∀ b, b < w.heap.size → Mof C H (subM i r mm) b → Mof C H mm b := by
    intro b _ hb
    rcases hb with hb | ⟨p, hp, hpb⟩
    · exact .inl hb
    · obtain ⟨q, hq, e1, _⟩ := subM_mem hp
      exact .inr ⟨q, hq, by rw [e1]; exact hpb⟩
  refine ⟨h.defers, h.size, h.nle, ?_, h.ext, h.m0, ?_, ?_, ?_, ?_, ?_⟩
  · intro p hp hpg
    obtain ⟨q, hq, e1, _⟩ := subM_mem hp
    rw [← e1] at hpg ⊢
    exact h.hg q hq hpg
  · intro p hp q hq he
    obtain ⟨p', hp', e1, e2, _⟩ := subM_mem hp
    obtain ⟨q', hq', f1, f2, _⟩ := subM_mem hq
    have := h.ids p' hp' q' hq' (by rw [e1, f1]; exact he)
    subst this
    exact Prod.ext he (by rw [e2, f2])
  · intro p hp
    obtain ⟨q, hq, e1, e2, _⟩ := subM_mem hp
    rw [← e1, e2]
    exact (h.mem q hq).sub' hru hr hI hM
  · intro p hp b hb
    obtain ⟨q, hq, e1, e2, _⟩ := subM_mem hp
    rw [← e1] at hb ⊢
    exact h.fresh q hq b hb
  · intro p hp q hq hpq b hpb
    obtain ⟨p', hp', e1, _⟩ := subM_mem hp
    obtain ⟨q', hq', f1, _⟩ := subM_mem hq
    rw [← e1] at hpb hpq
    rw [← f1] at hpq ⊢
    exact h.sep p' hp' q' hq' hpq b hpb
  · intro p hp
    obtain ⟨q, hq, e1, e2⟩ := subT_mem hp
    rw [← e1, e2]
    exact (h.tmps q hq).sub' hru hr hI hM

section
variable {C : Ctx} {n : Nat} {ops : Array Oper} {l : List Oper} {tm tm' : TM} {mm mm' : MM} {T : TM → MM → Prop} {o : Oper}

/-- What lies in a growing slice, frozen. -/
theorem Mod.frozen {H : Nat → Value} {Z : Nat → Nat} {a : Act} {w : World} (h : Mod C H Z n tm mm a w) {i : Nat} {nn : Bool} {e sz : Nat} {xs : List (List CT)}
    (hi : getM mm i = some (.arr nn e sz xs)) (hg : i < given) :
    ∀ v, v = H i → RepC w (Mof C H (subM i (.c (.slice nn sz xs)) mm)) v (.slice nn sz xs) := by
  rintro v rfl
  obtain ⟨hz, us, h1, h2, h3, h4⟩ := h.mem _ (getM_mem hi)
  have hM : ∀ b, b < w.heap.size → Mof C H (subM i (.c (.slice nn sz xs)) mm) b → Mof C H mm b := by
    intro b _ hb
    rcases hb with hb | ⟨p, hp, hpb⟩
    · exact .inl hb
    · obtain ⟨q, hq, e1, _⟩ := subM_mem hp
      exact .inr ⟨q, hq, by rw [e1]; exact hpb⟩
  simp only at h1 h2 h4
  have hrow := h1
  rcases h1.2 with ⟨hh, hn⟩ | ⟨g, cap, cur, hh, _, hheap, hcap, hmax, hcur, htake⟩
  · rw [hh]
    have hx : xs = [] := List.eq_nil_of_length_eq_zero hn
    subst hx
    exact .slice (fun _ _ => undef) (by simp) (Nat.le_refl _) (by simp [maxLen]) (fun hnn => absurd hh (h2 hnn)) (by simp) (fun hp => by simp at hp) (fun k x hx => by simp at hx)
  · have hb : hblk (H i) = some g := by rw [hh]; rfl
    obtain ⟨hf1, hf2⟩ := h.fresh _ (getM_mem hi) g hb
    have hnm : ¬ Mof C H (subM i (.c (.slice nn sz xs)) mm) g := by
      rintro (hm | ⟨p, hp, hpb⟩)
      · have := h.m0 g hm
        rcases hf1 with ⟨_, k⟩ | ⟨k, _⟩
        · omega
        · simp only at k; omega
      · obtain ⟨q, hq, e1, e2, hne⟩ := subM_mem hp
        rw [← e1] at hpb
        exact h.sep q hq _ (getM_mem hi) hne g hpb hb
    rw [hh]
    refine .slice (fun k j => us.getD (k * sz + j) undef) rfl hcap hmax (fun _ => rfl) h3 (fun hp => ?_) (fun k x hx j c hc => ?_)
    · refine ⟨⟨g, 0, none⟩, rfl, rfl, hf2, hnm, fun k x hx j c hc => ?_⟩
      obtain ⟨u, hu, _⟩ := h4 k x hx j c hc
      have := World.ownsRow.cells hrow (g := g) (by rw [hh]; rfl) (k * sz + j) u hu
      rw [this]
      simp [List.getD, hu]
    · obtain ⟨u, hu, hr⟩ := h4 k x hx j c hc
      have : us.getD (k * sz + j) undef = u := by simp [List.getD, hu]
      rw [this]
      exact hr.mono (Nat.le_refl _) (fun _ _ _ => rfl) hM

theorem Has.freeze {a : Act} {w : World} (h : Has C n tm mm a w) {i : Nat} {nn : Bool} {e sz : Nat} {xs : List (List CT)}
    (hi : getM mm i = some (.arr nn e sz xs)) (hg : Nat.blt i given = true) :
    Has C n (subT i (.c (.slice nn sz xs)) tm) (subM i (.c (.slice nn sz xs)) mm) a w := by
  obtain ⟨H, Z, hm⟩ := h
  exact ⟨H, Z, hm.give i _ rfl (hm.frozen hi (Nat.blt_eq.mp hg))⟩

theorem Has.forget {a : Act} {w : World} (h : Has C n tm mm a w) (i : Nat) : Has C n (subT i .any tm) (subM i .any mm) a w := by
  obtain ⟨H, Z, hm⟩ := h
  exact ⟨H, Z, hm.give i _ rfl (fun _ _ => trivial)⟩

/-- nn may be forgotten. -/
theorem RepC.weak {w : World} {M : Nat → Prop} {v : Value} {nn : Bool} {sz : Nat} {xs : List (List CT)} (h : RepC w M v (.slice nn sz xs)) : RepC w M v (.slice false sz xs) := by
  cases h with
  | slice u h1 h2 h3 h4 h5 h6 h7 => exact .slice u h1 h2 h3 (fun h => by cases h) h5 h6 h7

theorem RepC.nil_slice {w : World} {M : Nat → Prop} {v : Value} (sz : Nat) (h : RepC w M v .nils) : RepC w M v (.slice false sz []) := by
  cases h with
  | nils => exact .slice (fun _ _ => undef) rfl (Nat.le_refl _) (by simp [maxLen]) (fun h => by cases h) (by simp) (fun h => by simp at h) (fun k x hx => by simp at hx)

theorem SOps.mono (h : SOps C n ops l tm' mm' T) (hs : ∀ a w, Has C n tm mm a w → Has C n tm' mm' a w) : SOps C n ops l tm mm T :=
  fun a w hh => h a w (hs a w hh)
end
end Go.Sy
