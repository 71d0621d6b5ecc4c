/- The symbolic layer, bundle Sy3. -/
import Derived.Test.YtdjocfajcbhmgaaDoorSy2
import Derived.Maps.AppendAt
set_option linter.unusedSimpArgs false
set_option linter.unusedVariables false
set_option linter.unusedSectionVars false
namespace Go.Sy
open Go.RowKit
section
variable {C : Ctx} {f : FuncId} {n : Nat} {R : Ending → World → Prop} {k : List Item} {tm tm' : TM} {mm mm' : MM}
theorem RepC.len_le {w : World} {M : Nat → Prop} {v : Value} {nn : Bool} {sz : Nat} {xs : List (List CT)} (h : RepC w M v (.slice nn sz xs)) : xs.length ≤ maxLen := by
  cases h with
  | slice u hlen hcap hmax _ _ _ _ => omega
theorem g_len (t : Nat) {nn : Bool} {sz : Nat} {xs : List (List CT)} (ht : getT tm t = some (.v (.one (.c (.slice nn sz xs))))) (g : xs.length ≤ 9223372036854775807 → Goes C f n R k tm mm) : Goes C f n R k tm mm := by
  intro a w hh
  obtain ⟨H, Z, hm⟩ := hh
  have := RepC.len_le (hm.tmps _ (getT_mem ht))
  exact g (Nat.le_trans this (by decide)) a w ⟨H, Z, hm⟩
end
end Go.Sy
namespace Go.Sy
open Go.RowKit
theorem valE_monoM {Θ : Tab} {tm : TM} {mm mm' : MM} {p : Op} {st : ST} (hmm : ∀ i o, getM mm i = some o → getM mm' i = some o) (h : valE Θ tm mm p = some st) : valE Θ tm mm' p = some st := by
  have key : ∀ i, getM mm i = none ∨ getM mm' i = getM mm i := by
    intro i
    cases hg : getM mm i with
    | none => exact .inl rfl
    | some o => exact .inr (hmm i o hg)
  unfold valE at h ⊢
  split at h <;> first | exact h | skip
  · -- load
    split at h
    · rename_i ht
      try simp only [ht]
      split at h
      · rename_i i off hx
        try simp only [hx]
        rcases key i with h0 | h0
        · simp only [h0] at h; cases h
        · rw [h0]; exact h
      · rename_i hx; (try simp only [hx]); exact h
      · cases h
    · cases h
  · -- makeFunc
    rename_i f caps
    cases hc : capsOf tm caps.toList with
    | none => simp [hc] at h
    | some ids =>
      simp only [hc] at h ⊢
      split at h
      · rename_i ha
        split
        · exact h
        · rename_i hf
          exfalso
          obtain ⟨i, hi, h2⟩ := List.all_eq_false.1 hf
          have h1 := List.all_eq_true.1 ha i hi
          rcases key i with h0 | h0
          · simp only [h0] at h1; cases h1
          · rw [h0] at h2; exact h2 h1
      · cases h
  · -- len
    split at h
    · rename_i ht
      try simp only [ht]
      split at h
      · rename_i s hx
        try simp only [hx]
        split at h
        · rename_i m hm
          have : lenOfC mm' s = some m := by
            unfold lenOfC at hm ⊢
            split at hm <;> first | exact hm | skip
            rename_i i
            rcases key i with h0 | h0
            · rw [h0] at hm; cases hm
            · rw [h0]; exact hm
          simp only [this]; exact h
        · cases h
      · cases h
    · rename_i ht; (try simp only [ht]); exact h
    · rename_i ht
      try simp only [ht]
      split at h
      · rename_i i hx
        try simp only [hx]
        rcases key i with h0 | h0
        · simp only [h0] at h; cases h
        · rw [h0]; exact h
      · cases h
    · cases h
end Go.Sy
namespace Go.Sy
open Go.RowKit
theorem getM_of_mem {mm : MM} (hu : ∀ p ∈ mm, ∀ q ∈ mm, p.1 = q.1 → p = q) {i : Nat} {o : MO} (h : (i, o) ∈ mm) : getM mm i = some o := by
  cases hg : getM mm i with
  | none => exact absurd ⟨_, h, rfl⟩ (getM_none hg)
  | some o' =>
    have := hu _ (getM_mem hg) _ h rfl
    injection this with _ e; rw [e]
theorem mem_updM {i : Nat} {o : MO} {p : Nat × MO} : ∀ {mm : MM}, ((p = (i, o) ∧ Iof mm i) ∨ (p ∈ mm ∧ p.1 ≠ i)) → p ∈ updM mm i o
  | [], h => by
    rcases h with ⟨_, q, hq, _⟩ | ⟨h, _⟩
    · cases hq
    · cases h
  | (e, u) :: r, h => by
    unfold updM
    cases hb : Nat.beq e i with
    | true =>
      have he : e = i := Nat.eq_of_beq_eq_true hb
      subst he
      rcases h with ⟨rfl, _⟩ | ⟨h, hne⟩
      · exact List.mem_cons_self
      · rcases List.mem_cons.1 h with rfl | h
        · exact absurd rfl hne
        · exact List.mem_cons_of_mem _ (mem_updM (.inr ⟨h, hne⟩))
    | false =>
      have hne : e ≠ i := fun e' => by subst e'; simp at hb
      rcases h with ⟨rfl, q, hq, hqi⟩ | ⟨h, hn⟩
      · rcases List.mem_cons.1 hq with rfl | hq
        · exact absurd hqi hne
        · exact List.mem_cons_of_mem _ (mem_updM (.inl ⟨rfl, q, hq, hqi⟩))
      · rcases List.mem_cons.1 h with rfl | h
        · exact List.mem_cons_self
        · exact List.mem_cons_of_mem _ (mem_updM (.inr ⟨h, hn⟩))
structure Rec where
  a : Nat
  d : Nat
  zr : List SC
  st : Option (Nat × List SC)
  ar : Option (TypeId × Nat × List (List CT))
def Rec.now (r : Rec) (listed : Array Bool) : List SC :=
  match r.st with
  | some (b, cs) => if listed.getD b false = true then cs else r.zr
  | none => r.zr
def Rec.fin (r : Rec) : List SC :=
  match r.st with
  | some (_, cs) => cs
  | none => r.zr
def mmOf : List Rec → MM → MM
  | [], mm => mm
  | r :: l, mm => match r.ar with
    | none => (r.d, .box r.fin) :: mmOf l mm
    | some _ => mmOf l mm
theorem mmOf_mem {mm : MM} {q : Nat × MO} : ∀ {R : List Rec}, q ∈ mmOf R mm → q ∈ mm ∨ ∃ r ∈ R, r.ar = none ∧ q = (r.d, .box r.fin)
  | [], h => .inl h
  | r :: R, h => by
    unfold mmOf at h
    split at h
    · rename_i har
      rcases List.mem_cons.1 h with rfl | h
      · exact .inr ⟨r, List.mem_cons_self, har, rfl⟩
      · rcases mmOf_mem h with h | ⟨r', h1, h2⟩
        · exact .inl h
        · exact .inr ⟨r', List.mem_cons_of_mem _ h1, h2⟩
    · rcases mmOf_mem h with h | ⟨r', h1, h2⟩
      · exact .inl h
      · exact .inr ⟨r', List.mem_cons_of_mem _ h1, h2⟩
theorem mmOf_in {mm : MM} {r : Rec} (har : r.ar = none) : ∀ {R : List Rec}, r ∈ R → (r.d, MO.box r.fin) ∈ mmOf R mm
  | [], h => by cases h
  | r' :: R, h => by
    unfold mmOf
    rcases List.mem_cons.1 h with rfl | h
    · rw [har]; exact List.mem_cons_self
    · split
      · exact List.mem_cons_of_mem _ (mmOf_in har h)
      · exact mmOf_in har h
section
variable {C : Ctx} {n : Nat} {mm0 : MM} {L : List Oper}
def Looked (L : List Oper) (tm : TM) (o : Oper) (tm' : TM) : Prop := ∀ p ∈ tm, p.1 ∈ looksE L o → p ∈ tm'
def cutTm (d' i : Nat) (tm : TM) : TM := tm.filter fun p => decide (p.1 ≠ d' ∧ i ∉ p.2.uses)
def cutMm (i : Nat) (mm : MM) : MM := mm.filter fun q => decide (q.1 ≠ i)
inductive OkE (C : Ctx) (n : Nat) (mm0 : MM) (L : List Oper) (tm : TM) (R : List Rec) (i : Nat) (o : Oper) : Prop
  | val (d : Nat) (s : ST) (hd : o.dst = some d) (hin : (d, s) ∈ tm)
      (hr : ∀ r ∈ R, r.a ≠ i ∧ ∀ b cs, r.st = some (b, cs) → b ≠ i)
      (h : ∀ tm' mm', Looked L tm o tm' → (∀ q ∈ mm0, q ∈ mm') → ∀ (a : Act) (w : World) (K : Act → World → Prop) (Q : Exit → Act → World → Prop), Has C n tm' mm' a w →
        (∀ a' w', Has C n ((d, s) :: delL tm' d) mm' a' w' → K a' w') →
        if Region.wanted o (yielded L.toArray a.tmps) then o.wp C.P a w K Q else K (a.put o.dst undef) w)
  | new (d : Nat) (s : ST) (r : Rec) (hd : o.dst = some d) (hin : (d, s) ∈ tm) (hrin : r ∈ R) (har : r.ar = none) (hz : ∀ c ∈ r.zr, c.uses = []) (hra : r.a = i) (hrd : r.d = d) (hrb : ∀ b cs, r.st = some (b, cs) → b ≠ i)
      (hr : ∀ r' ∈ R, r' = r ∨ (r'.a ≠ i ∧ ∀ b cs, r'.st = some (b, cs) → b ≠ i))
      (h : ∀ tm' mm', Looked L tm o tm' → (∀ q ∈ mm', q.1 ≠ d) → ∀ (a : Act) (w : World) (K : Act → World → Prop) (Q : Exit → Act → World → Prop), Has C n tm' mm' a w →
        (∀ a' w', Has C n ((d, s) :: delL tm' d) ((d, .box r.zr) :: mm') a' w' → K a' w') →
        if Region.wanted o (yielded L.toArray a.tmps) then o.wp C.P a w K Q else K (a.put o.dst undef) w)
  | set (r : Rec) (cs : List SC) (hd : o.dst = none) (hrin : r ∈ R) (har : r.ar = none) (hst : r.st = some (i, cs)) (hra : r.a ∈ ons o.after.toList ∨ L.length ≤ r.a)
      (hr : ∀ r' ∈ R, r' = r ∨ (r'.a ≠ i ∧ ∀ b cs, r'.st = some (b, cs) → b ≠ i)) (hai : r.a ≠ i)
      (h : ∀ tm' mm', Looked L tm o tm' → (r.d, .box r.zr) ∈ mm' → ∀ (a : Act) (w : World) (K : Act → World → Prop) (Q : Exit → Act → World → Prop), Has C n tm' mm' a w →
        (∀ a' w', Has C n tm' (updM mm' r.d (.box cs)) a' w' → K a' w') →
        if Region.wanted o (yielded L.toArray a.tmps) then o.wp C.P a w K Q else K (a.put o.dst undef) w)
  | mk (d : Nat) (r : Rec) (e : TypeId) (sz : Nat) (ys : List (List CT)) (hd : o.dst = some d) (hin : (d, .v (.one .any)) ∈ tm) (hrin : r ∈ R) (har : r.ar = some (e, sz, ys)) (hra : r.a = i) (hrd : r.d = d) (hrb : ∀ b cs, r.st = some (b, cs) → b ≠ i)
      (hr : ∀ r' ∈ R, r' = r ∨ (r'.a ≠ i ∧ ∀ b cs, r'.st = some (b, cs) → b ≠ i))
      (h : ∀ tm' mm', Looked L tm o tm' → (∀ q ∈ mm', q.1 ≠ d) → ∀ (a : Act) (w : World) (K : Act → World → Prop) (Q : Exit → Act → World → Prop), Has C n tm' mm' a w →
        (∀ a' w', Has C n ((d, .v (.one (.own d))) :: delL tm' d) ((d, .arr false e sz ys) :: mm') a' w' → K a' w') →
        if Region.wanted o (yielded L.toArray a.tmps) then o.wp C.P a w K Q else K (a.put o.dst undef) w)
  | take (d : Nat) (s : ST) (r : Rec) (e : TypeId) (sz : Nat) (ys : List (List CT)) (hd : o.dst = some d) (hin : (d, s) ∈ tm) (hrin : r ∈ R) (har : r.ar = some (e, sz, ys)) (hst : r.st = some (i, [])) (hra : r.a ∈ ons o.after.toList)
      (hr : ∀ r' ∈ R, r' = r ∨ (r'.a ≠ i ∧ ∀ b cs, r'.st = some (b, cs) → b ≠ i)) (hai : r.a ≠ i)
      (h : ∀ tm' mm', Looked L tm o tm' → (r.d, .v (.one (.own r.d))) ∈ tm' → (r.d, .arr false e sz ys) ∈ mm' → (∀ q ∈ mm', r.d ∉ q.2.uses) → ∀ (a : Act) (w : World) (K : Act → World → Prop) (Q : Exit → Act → World → Prop), Has C n tm' mm' a w →
        (∀ a' w', Has C n ((d, s) :: cutTm d r.d tm') (cutMm r.d mm') a' w' → K a' w') →
        if Region.wanted o (yielded L.toArray a.tmps) then o.wp C.P a w K Q else K (a.put o.dst undef) w)
def freeE2 (L : List Oper) (d : Nat) : List Oper → Bool
  | [] => true
  | o :: r => match memN (looksE L o) d with
    | true => false
    | false => match o.dst with
      | none => freeE2 L d r
      | some e => match Nat.beq e d with
        | true => false
        | false => freeE2 L d r
def okR2 (L : List Oper) : List Oper → List Oper → Nat → Bool
  | _, [], _ => true
  | ahead, o :: r, i => match waitE (looksE L o) (ons o.after.toList) L 0, allLt (ons o.after.toList) i with
    | true, true => match o.dst with
      | none => okR2 L (o :: ahead) r (i + 1)
      | some d => match freeE2 L d ahead, memN (looksE L o) d with
        | true, false => okR2 L (o :: ahead) r (i + 1)
        | _, _ => false
    | _, _ => false
theorem freeE2_spec {d : Nat} : ∀ {l : List Oper}, freeE2 L d l = true → ∀ o ∈ l, o.dst ≠ some d ∧ d ∉ looksE L o
  | [], _, o, ho => by cases ho
  | a :: l, h, o, ho => by
    unfold freeE2 at h
    split at h
    · cases h
    · rename_i hm
      have hl : d ∉ looksE L a := fun hk => by rw [memN_iff.2 hk] at hm; cases hm
      split at h
      · rename_i he
        rcases List.mem_cons.1 ho with rfl | ho
        · exact ⟨fun e => (by rw [he] at e; cases e), hl⟩
        · exact freeE2_spec h o ho
      · rename_i e he
        split at h
        · cases h
        · rename_i hb
          rcases List.mem_cons.1 ho with rfl | ho
          · exact ⟨fun e' => (by rw [he] at e'; injection e' with e'; subst e'; simp at hb), hl⟩
          · exact freeE2_spec h o ho
theorem okR2_cons {ahead l : List Oper} {o : Oper} {i : Nat} (h : okR2 L ahead (o :: l) i = true) :
    waitE (looksE L o) (ons o.after.toList) L 0 = true ∧ allLt (ons o.after.toList) i = true ∧ okR2 L (o :: ahead) l (i + 1) = true ∧
    ∀ d, o.dst = some d → freeE2 L d ahead = true ∧ d ∉ looksE L o := by
  unfold okR2 at h
  split at h
  · rename_i h1 h2
    split at h
    · rename_i hd; exact ⟨h1, h2, h, fun d e => (by rw [hd] at e; cases e)⟩
    · rename_i d hd
      split at h
      · rename_i h3 h4
        refine ⟨h1, h2, h, fun d' e => ?_⟩
        rw [hd] at e; injection e with e; subst e
        exact ⟨h3, fun hk => (by rw [memN_iff.2 hk] at h4; cases h4)⟩
      · cases h
  · cases h
theorem okR2_get : ∀ {l ahead : List Oper} {i : Nat}, okR2 L ahead l i = true → ∀ (k : Nat) (o : Oper), l[k]? = some o →
    waitE (looksE L o) (ons o.after.toList) L 0 = true ∧ allLt (ons o.after.toList) (i + k) = true
  | [], _, _, _, k, o, ho => by simp at ho
  | a :: l, ahead, i, h, k, o, ho => by
    obtain ⟨h4, h5, h6, _⟩ := okR2_cons h
    cases k with
    | zero => simp at ho; subst ho; exact ⟨h4, h5⟩
    | succ k =>
      have := okR2_get h6 k o (by simpa using ho)
      rwa [show i + 1 + k = i + (k + 1) by omega] at this
structure ObjInv (L : List Oper) (mm0 : MM) (R : List Rec) (listed : Array Bool) (tm : TM) (mm : MM) : Prop where
  base : ∀ q ∈ mm0, q ∈ mm
  recs : ∀ r ∈ R, r.ar = none → listed.getD r.a true = true → (r.d, MO.box (r.now listed)) ∈ mm
  arrs : ∀ r ∈ R, ∀ e sz ys, r.ar = some (e, sz, ys) → listed.getD r.a true = true → (∀ b cs, r.st = some (b, cs) → listed.getD b false = false) → (r.d, MO.arr false e sz ys) ∈ mm ∧ (r.d, ST.v (.one (.own r.d))) ∈ tm
  order : ∀ r ∈ R, ∀ b cs, r.st = some (b, cs) → listed.getD b false = true → listed.getD r.a true = true
  only : ∀ q ∈ mm, ((∃ q' ∈ mm0, q'.1 = q.1) ∨ q.1 ∉ dstsE L) ∨ ∃ r ∈ R, r.d = q.1 ∧ listed.getD r.a true = true
  nou : ∀ r ∈ R, r.ar ≠ none → ∀ q ∈ mm, r.d ∉ q.2.uses
theorem getD_set_self {listed : Array Bool} {i : Nat} (h : i < listed.size) : (listed.setIfInBounds i true).getD i false = true := by
  simp [Array.getD, h]
theorem getD_set_selfT {listed : Array Bool} {i : Nat} (h : i < listed.size) : (listed.setIfInBounds i true).getD i true = true := by
  simp [Array.getD, h]
theorem getD_true {listed : Array Bool} {i : Nat} (h : i < listed.size) : listed.getD i true = listed.getD i false := by
  simp [Array.getD, h]
theorem has_uniq {tm : TM} {mm : MM} {a : Act} {w : World} (h : Has C n tm mm a w) : ∀ p ∈ mm, ∀ q ∈ mm, p.1 = q.1 → p = q := by
  obtain ⟨H, Z, hm⟩ := h
  exact hm.ids
theorem Has.less {tm tm' : TM} {mm mm' : MM} {a : Act} {w : World} (h : Has C n tm mm a w) (ht : ∀ p ∈ tm', p ∈ tm) (hm : ∀ q ∈ mm', q ∈ mm) (hok : okT mm' tm' = true) (hokm : okM mm' mm' = true) : Has C n tm' mm' a w := by
  obtain ⟨H, Z, hmod⟩ := h
  have hM : ∀ b, b < w.heap.size → Mof C H mm' b → Mof C H mm b := by
    rintro b _ (hb | ⟨p, hp, hpb⟩)
    · exact .inl hb
    · exact .inr ⟨_, hm p hp, hpb⟩
  refine ⟨H, Z, hmod.defers, hmod.size, hmod.nle, fun p hp => hmod.hg p (hm p hp), hmod.ext, hmod.m0, fun p hp q hq => hmod.ids p (hm p hp) q (hm q hq), ?_, fun p hp => hmod.fresh p (hm p hp), fun p hp q hq => hmod.sep p (hm p hp) q (hm q hq), ?_⟩
  · intro p hp
    exact (hmod.mem _ (hm p hp)).mono ⟨rfl, rfl⟩ (fun _ _ => rfl) (fun j hj _ => ⟨okM_spec hokm p hp j hj, rfl, rfl⟩) (Nat.le_refl _) (fun _ _ _ => rfl) hM
  · intro p hp
    exact (hmod.tmps _ (ht p hp)).mono (fun j hj _ => ⟨okT_spec hok p hp j hj, rfl, rfl⟩) (Nat.le_refl _) (fun _ _ _ => rfl) hM
theorem repSC_uses {I : Nat → Prop} {H : Nat → Value} {Z : Nat → Nat} {w : World} {M : Nat → Prop} {v : Value} {x : SC} (h : RepSC I H Z w M v x) : ∀ j ∈ x.uses, I j := by
  intro j hj
  cases x with
  | c x => simp [SC.uses] at hj
  | lit b => simp [SC.uses] at hj
  | ptr i off => simp [SC.uses] at hj; subst hj; exact h.1
  | aptr i k off => simp [SC.uses] at hj; subst hj; exact h.1
  | eptr cs => simp [SC.uses] at hj
  | own i => simp [SC.uses] at hj; subst hj; exact h.1
  | mp i => simp [SC.uses] at hj; subst hj; exact h.1
  | bsl i n => simp [SC.uses] at hj; subst hj; exact h.1
  | clo f caps => exact h.1 j hj
  | any => simp [SC.uses] at hj
theorem Has.mm_uses {tm : TM} {mm : MM} {a : Act} {w : World} (h : Has C n tm mm a w) : ∀ q ∈ mm, ∀ j ∈ q.2.uses, Iof mm j := by
  obtain ⟨H, Z, hm⟩ := h
  intro q hq j hj
  have hmem := hm.mem q hq
  obtain ⟨i, o⟩ := q
  cases o with
  | box cs =>
    obtain ⟨b, ty, vs, h1, h2, h3, h4⟩ := hmem
    simp only [MO.uses, List.mem_flatMap] at hj
    obtain ⟨c, hc, hj⟩ := hj
    obtain ⟨k, hk, rfl⟩ := List.mem_iff_getElem.1 hc
    obtain ⟨u, _, _, hr⟩ := h4 k _ (List.getElem?_eq_getElem hk)
    exact repSC_uses hr j hj
  | arr nn e sz xs => simp [MO.uses] at hj
  | mpo es => simp [MO.uses] at hj
  | pool e sz qs => simp [MO.uses] at hj
theorem any_okE {tmF : TM} {R : List Rec} (hok : okR2 L [] L 0 = true) (hF : ∀ (i : Nat) (o : Oper), L[i]? = some o → OkE C n mm0 L tmF R i o)
    (keyF : ∀ p ∈ tmF, ∀ q ∈ tmF, p.1 = q.1 → p = q) (hRd : ∀ r ∈ R, ∀ r' ∈ R, r.d = r'.d → r = r') (hR0 : ∀ r ∈ R, ∀ q ∈ mm0, q.1 ≠ r.d) (hRl : ∀ r ∈ R, ∀ b cs, r.st = some (b, cs) → b < L.length)
    (hRa : ∀ r ∈ R, r.ar ≠ none → r.a < L.length) (hRu : ∀ r ∈ R, r.ar ≠ none → ∀ k o, L[k]? = some o → o.dst = some r.d → k = r.a)
    (hokT : okT (mmOf R mm0) tmF = true) (hokM : okM (mmOf R mm0) (mmOf R mm0) = true) {P : TM → MM → Prop} (hP : P tmF (mmOf R mm0)) :
    ∀ (fuel : Nat) (listed : Array Bool) (a : Act) (w : World) (tm : TM) (mm : MM), listed.size = L.length → (listed.toList.filter (!·)).length ≤ fuel → (∀ p, keepT L listed tmF p → p ∈ tm) → ObjInv L mm0 R listed tm mm → Has C n tm mm a w →
      wpAny C.P .any L.toArray (QT C n P) fuel listed a w := by
  have hfar : ∀ r ∈ R, r.ar ≠ none → ¬ Iof (mmOf R mm0) r.d := by
    rintro r hr har ⟨q, hq, he⟩
    rcases mmOf_mem hq with hq | ⟨r', h1, h2, rfl⟩
    · exact hR0 r hr q hq he
    · have := hRd r' h1 r hr he
      subst this
      exact har h2
  have hAu : ∀ p ∈ tmF, ∀ r ∈ R, r.ar ≠ none → r.d ∉ p.2.uses := fun p hp r hr har hu => hfar r hr har (okT_spec hokT p hp _ hu)
  have hMu : ∀ r ∈ R, r.ar = none → ∀ r' ∈ R, r'.ar ≠ none → r'.d ∉ (MO.box r.fin).uses := fun r hr har r' hr' har' hu => hfar r' hr' har' (okM_spec hokM _ (mmOf_in har hr) _ hu)
  have hready : ∀ (listed : Array Bool), listed.size = L.length → Region.ready .any L.toArray listed = [] → ∀ k, k < L.length → listed.getD k false = true := by
    intro listed hsz hr k
    induction k using Nat.strongRecOn with
    | _ k ih =>
      intro hk
      cases hl : listed.getD k false with
      | true => rfl
      | false =>
        have hmem : k ∈ Region.ready .any L.toArray listed := by
          rw [mem_ready]
          refine ⟨?_, L[k], by simp [hk], fun e he hb => ?_⟩
          · have hks : k < listed.size := by omega
            simp [Array.getD, hks] at hl ⊢; exact hl
          · obtain ⟨_, h3⟩ := okR2_get hok k L[k] (List.getElem?_eq_getElem hk)
            have : e.on ∈ ons L[k].after.toList := by
              have key : ∀ l : List Edge, e ∈ l → e.on ∈ ons l := by
                intro l
                induction l with
                | nil => intro h; cases h
                | cons x l ih =>
                  intro h
                  unfold ons
                  rcases List.mem_cons.1 h with rfl | h
                  · rw [hb]; exact List.mem_cons_self
                  · split
                    · exact List.mem_cons_of_mem _ (ih h)
                    · exact ih h
              exact key _ (by simpa using he)
            have hlt := allLt_spec h3 _ this
            exact ih e.on (by omega) (by omega)
        rw [hr] at hmem; cases hmem
  have hdone : ∀ (listed : Array Bool) (a : Act) (w : World) (tm : TM) (mm : MM), listed.size = L.length → (∀ p, keepT L listed tmF p → p ∈ tm) → ObjInv L mm0 R listed tm mm → Has C n tm mm a w → Region.ready .any L.toArray listed = [] → QT C n P .normal a w := by
    intro listed a w tm mm hsz hk ho hh hr
    refine ⟨tmF, mmOf R mm0, hP, hh.less (fun p hp => hk p ⟨hp, ?_⟩) (fun q hq => ?_) hokT hokM⟩
    · by_cases hd : p.1 ∈ dstsE L
      · obtain ⟨k, o, h1, h2⟩ := dstsE_get hd
        exact .inr ⟨k, o, h1, h2, hready listed hsz hr k (List.getElem?_eq_some_iff.1 h1).1⟩
      · exact .inl hd
    · rcases mmOf_mem hq with hq | ⟨r, h1, har, rfl⟩
      · exact ho.base q hq
      · have h2 := ho.recs r h1 har (by
          by_cases hra : r.a < L.length
          · rw [getD_true (by omega)]; exact hready listed hsz hr r.a hra
          · simp [Array.getD, show ¬ r.a < listed.size by omega])
        have : r.now listed = r.fin := by
          unfold Rec.now Rec.fin
          split
          · rename_i b cs hb
            rw [if_pos (hready listed hsz hr b (hRl r h1 b cs hb))]
          · rfl
        rwa [this] at h2
  intro fuel
  induction fuel with
  | zero =>
    intro listed a w tm mm hsz hc hk ho hh
    have hr : Region.ready .any L.toArray listed = [] := by
      rw [List.eq_nil_iff_forall_not_mem]
      intro j hj
      obtain ⟨h1, o, h2, _⟩ := mem_ready.1 hj
      have hjl : j < listed.size := by rw [hsz]; simpa using (Array.getElem?_eq_some_iff.1 h2).1
      have : listed[j] = false := by simpa [Array.getD, hjl] using h1
      have hm : false ∈ listed.toList.filter (!·) := by
        rw [List.mem_filter]; exact ⟨by rw [← this]; simp, rfl⟩
      have := List.length_pos_of_mem hm
      omega
    exact ⟨hr, hdone listed a w tm mm hsz hk ho hh hr⟩
  | succ fuel ih =>
    intro listed a w tm mm hsz hc hk ho hh
    refine ⟨hdone listed a w tm mm hsz hk ho hh, fun i hi => ?_⟩
    obtain ⟨h1, o, h2, h3⟩ := mem_ready.1 hi
    have hL : L[i]? = some o := by simpa using h2
    have hil : i < L.length := (List.getElem?_eq_some_iff.1 hL).1
    have his : i < listed.size := by omega
    have hfalse : listed[i] = false := by simpa [Array.getD, his] using h1
    have hfalse' : listed.getD i false = false := by simpa [Array.getD, his] using hfalse
    have hfalseT : listed.getD i true = false := by rw [getD_true his]; exact hfalse'
    obtain ⟨hw, _⟩ := okR2_get hok i o hL
    have hon : ∀ j, j ∈ ons o.after.toList → listed.getD j false = true := by
      have key : ∀ l : List Edge, (∀ e ∈ l, e ∈ o.after) → ∀ j, j ∈ ons l → listed.getD j false = true := by
        intro l
        induction l with
        | nil => intro _ j h; simp [ons] at h
        | cons x l ih =>
          intro hl j h
          unfold ons at h
          split at h
          · rename_i hb
            rcases List.mem_cons.1 h with rfl | h
            · exact h3 x (hl x List.mem_cons_self) hb
            · exact ih (fun e he => hl e (List.mem_cons_of_mem _ he)) j h
          · exact ih (fun e he => hl e (List.mem_cons_of_mem _ he)) j h
      exact key _ (fun e he => by simpa using he)
    have hpre : Looked L tmF o tm := by
      intro p hp hl
      refine hk p ⟨hp, ?_⟩
      by_cases hd : p.1 ∈ dstsE L
      · obtain ⟨k, o', k1, k2⟩ := dstsE_get hd
        have := waitE_spec hw k o' p.1 k1 k2 hl
        exact .inr ⟨k, o', k1, k2, hon k (by simpa using this)⟩
      · exact .inl hd
    have hcount : ((listed.setIfInBounds i true).toList.filter (!·)).length ≤ fuel := by
      have h5 : ((listed.setIfInBounds i true).toList.filter (!·)).length + 1 = (listed.toList.filter (!·)).length := by
        rw [show (listed.setIfInBounds i true).toList = listed.toList.set i true by simp]
        exact count_set (by simp [his, hfalse])
      omega
    have hsz' : (listed.setIfInBounds i true).size = L.length := by simpa using hsz
    have other : ∀ k, k ≠ i → (listed.setIfInBounds i true).getD k false = listed.getD k false := fun k hk => getD_set_ne false (Ne.symm hk)
    have otherT : ∀ k, k ≠ i → (listed.setIfInBounds i true).getD k true = listed.getD k true := fun k hk => getD_set_ne true (Ne.symm hk)
    have hdne : ∀ r ∈ R, r.ar ≠ none → r.a ≠ i → ∀ d, o.dst = some d → r.d ≠ d := fun r hr har hai d hd e => hai (hRu r hr har i o hL (by rw [hd, e])).symm
    have hkeepD : ∀ d s, o.dst = some d → (d, s) ∈ tmF → ∀ p, keepT L (listed.setIfInBounds i true) tmF p → p ∈ (d, s) :: delL tm d := by
      intro d s e1 e2 p hp
      obtain ⟨g1, g2⟩ := hp
      by_cases hpd : p.1 = d
      · have : p = (d, s) := keyF p g1 (d, s) e2 hpd
        rw [this]; exact List.mem_cons_self
      · refine List.mem_cons_of_mem _ (mem_delL (hk p ⟨g1, ?_⟩) hpd)
        rcases g2 with g2 | ⟨k, o', k1, k2, k3⟩
        · exact .inl g2
        · refine .inr ⟨k, o', k1, k2, ?_⟩
          have hki : i ≠ k := by
            intro e; subst e
            rw [hL] at k1; injection k1 with k1; subst k1
            rw [e1] at k2; injection k2 with k2; exact hpd k2.symm
          rwa [getD_set_ne false hki] at k3
    have hnow : ∀ r : Rec, (∀ b cs, r.st = some (b, cs) → b ≠ i) → r.now (listed.setIfInBounds i true) = r.now listed := by
      intro r hr
      unfold Rec.now
      split
      · rename_i b cs hb; rw [other b (hr b cs hb)]
      · rfl
    unfold wpOp
    simp only [List.getElem?_toArray, hL]
    have fin : ∀ {K : Prop} {W : Prop} [Decidable W] {A B : Prop}, (if W then A else K) → (if W then A ∨ B else K) := by
      intro K W _ A B h
      split
      · rename_i hw; rw [if_pos hw] at h; exact .inl h
      · rename_i hw; rw [if_neg hw] at h; exact h
    refine fin ?_
    have harrs : ∀ (tm' : TM) (mm' : MM), (∀ r ∈ R, r.ar ≠ none → (r.a ≠ i ∧ ∀ b cs, r.st = some (b, cs) → b ≠ i)) → (∀ r ∈ R, r.ar ≠ none → ∀ q, q ∈ mm → q.1 = r.d → q ∈ mm') →
        (∀ r ∈ R, r.ar ≠ none → r.a ≠ i → (r.d, ST.v (.one (.own r.d))) ∈ tm → (r.d, ST.v (.one (.own r.d))) ∈ tm') →
        ∀ r ∈ R, ∀ e sz ys, r.ar = some (e, sz, ys) → (listed.setIfInBounds i true).getD r.a true = true → (∀ b cs, r.st = some (b, cs) → (listed.setIfInBounds i true).getD b false = false) → (r.d, MO.arr false e sz ys) ∈ mm' ∧ (r.d, ST.v (.one (.own r.d))) ∈ tm' := by
      intro tm' mm' h1 h2 h3 r hr e sz ys har hl hb
      have hne : r.ar ≠ none := by rw [har]; exact fun h => by cases h
      obtain ⟨g1, g2⟩ := h1 r hr hne
      rw [otherT _ g1] at hl
      obtain ⟨k1, k2⟩ := ho.arrs r hr e sz ys har hl (fun b cs hst => by rw [← other _ (g2 b cs hst)]; exact hb b cs hst)
      exact ⟨h2 r hr hne _ k1 rfl, h3 r hr hne g1 k2⟩
    have hput : ∀ d s, o.dst = some d → ∀ r ∈ R, r.ar ≠ none → r.a ≠ i → (r.d, ST.v (.one (.own r.d))) ∈ tm → (r.d, ST.v (.one (.own r.d))) ∈ (d, s) :: delL tm d := fun d s hd r hr har hai h =>
      List.mem_cons_of_mem _ (mem_delL h (hdne r hr har hai d hd))
    cases hF i o hL with
    | val d s e1 e2 hr h =>
      refine h tm mm hpre ho.base a w _ (QT C n P) hh (fun a' w' h' => ih _ a' w' _ mm hsz' hcount (hkeepD d s e1 e2) ⟨ho.base, fun r hrin har hl => ?_, harrs _ _ (fun r hr' _ => hr r hr') (fun r _ _ q hq _ => hq) (hput d s e1), fun r hrin b cs hst hl => ?_, fun q hq => ?_, ho.nou⟩ h')
      · obtain ⟨r1, r2⟩ := hr r hrin
        rw [otherT _ r1] at hl
        rw [hnow r r2]
        exact ho.recs r hrin har hl
      · rw [other _ ((hr r hrin).2 b cs hst)] at hl
        rw [otherT _ (hr r hrin).1]
        exact ho.order r hrin b cs hst hl
      · rcases ho.only q hq with h | ⟨r, g1, g2, g3⟩
        · exact .inl h
        · exact .inr ⟨r, g1, g2, by rw [otherT _ (hr r g1).1]; exact g3⟩
    | new d s r e1 e2 hrin har hz hra hrd hrb hr h =>
      have hfr : ∀ q ∈ mm, q.1 ≠ d := by
        intro q hq e
        rcases ho.only q hq with (⟨q', g1, g2⟩ | g0) | ⟨r', g1, g2, g3⟩
        · exact hR0 r hrin q' g1 (by rw [g2, e, hrd])
        · exact g0 (by rw [e]; exact dstsE_mem (List.mem_of_getElem? hL) e1)
        · have : r' = r := hRd r' g1 r hrin (by rw [g2, e, hrd])
          subst this
          rw [hra, hfalseT] at g3; cases g3
      refine h tm mm hpre hfr a w _ (QT C n P) hh (fun a' w' h' => ih _ a' w' _ _ hsz' hcount (hkeepD d s e1 e2) ⟨fun q hq => List.mem_cons_of_mem _ (ho.base q hq), fun r' hrin' har' hl => ?_, harrs _ _ (fun r' hr' har' => ?_) (fun r _ _ q hq _ => List.mem_cons_of_mem _ hq) (hput d s e1), fun r' hrin' b cs hst hl => ?_, fun q hq => ?_, fun r' hrin' har' q hq => ?_⟩ h')
      · rcases hr r' hrin' with rfl | ⟨g1, g2⟩
        · rw [hnow _ hrb]
          have : r'.now listed = r'.zr := by
            unfold Rec.now
            split
            · rename_i b cs hb
              have hbl : listed.getD b false = false := by
                cases hv : listed.getD b false with
                | false => rfl
                | true =>
                  have := ho.order r' hrin b cs hb hv
                  rw [hra, hfalseT] at this; cases this
              rw [hbl]; simp
            · rfl
          rw [this, hrd]
          exact List.mem_cons_self
        · rw [otherT _ g1] at hl
          rw [hnow r' g2]
          exact List.mem_cons_of_mem _ (ho.recs r' hrin' har' hl)
      · rcases hr r' hr' with rfl | g
        · exact absurd har har'
        · exact g
      · rcases hr r' hrin' with rfl | ⟨g1, g2⟩
        · rw [hra]; exact getD_set_selfT his
        · rw [other _ (g2 b cs hst)] at hl
          rw [otherT _ g1]
          exact ho.order r' hrin' b cs hst hl
      · rcases List.mem_cons.1 hq with rfl | hq
        · exact .inr ⟨r, hrin, hrd, by rw [hra]; exact getD_set_selfT his⟩
        · rcases ho.only q hq with h | ⟨r', g1, g2, g3⟩
          · exact .inl h
          · refine .inr ⟨r', g1, g2, ?_⟩
            by_cases hki : r'.a = i
            · rw [hki]; exact getD_set_selfT his
            · rw [otherT _ hki]; exact g3
      · rcases List.mem_cons.1 hq with rfl | hq
        · simp only [MO.uses, List.mem_flatMap, not_exists, not_and]
          intro c hc
          rw [hz c hc]; simp
        · exact ho.nou r' hrin' har' q hq
    | set r cs e1 hrin har hst hra hr hai h =>
      have hla : listed.getD r.a true = true := by
        rcases hra with hra | hra
        · have h1 := hon _ hra
          by_cases hlt : r.a < listed.size
          · rw [getD_true hlt]; exact h1
          · simp [Array.getD, hlt]
        · simp [Array.getD, show ¬ r.a < listed.size by omega]
      have hin := ho.recs r hrin har hla
      have hzr : r.now listed = r.zr := by
        unfold Rec.now
        rw [hst]
        simp [hfalse']
      rw [hzr] at hin
      have hup : ∀ q ∈ mm, q.1 ≠ r.d → q ∈ updM mm r.d (.box cs) := fun q hq hne => (mem_updM (.inr ⟨hq, hne⟩))
      refine h tm mm hpre hin a w _ (QT C n P) hh (fun a' w' h' => ih _ a' w' tm _ hsz' hcount (fun p hp => hk p ⟨hp.1, ?_⟩) ⟨fun q hq => hup q (ho.base q hq) (hR0 r hrin q hq), fun r' hrin' har' hl => ?_, harrs _ _ (fun r' hr' har' => ?_) (fun r' hr' har' q hq e => hup q hq (fun e' => ?_)) (fun _ _ _ _ h => h), fun r' hrin' b cs' hst' hl => ?_, fun q hq => ?_, fun r' hrin' har' q hq => ?_⟩ h')
      · rcases hp.2 with g2 | ⟨k, o', k1, k2, k3⟩
        · exact .inl g2
        · have hki : k ≠ i := by
            intro e; subst e
            rw [hL] at k1; injection k1 with k1; subst k1
            rw [e1] at k2; cases k2
          exact .inr ⟨k, o', k1, k2, by rwa [other k hki] at k3⟩
      · rcases hr r' hrin' with rfl | ⟨g1, g2⟩
        · have : r'.now (listed.setIfInBounds i true) = cs := by
            unfold Rec.now
            rw [hst]
            simp only [getD_set_self his, if_true]
          rw [this]
          exact mem_updM (.inl ⟨rfl, _, hin, rfl⟩)
        · rw [otherT _ g1] at hl
          rw [hnow r' g2]
          refine hup _ (ho.recs r' hrin' har' hl) (fun e => ?_)
          have := hRd r' hrin' r hrin e
          subst this
          exact (g2 i cs hst) rfl
      · rcases hr r' hr' with rfl | g
        · exact absurd har har'
        · exact g
      · have := hRd r' hr' r hrin (by rw [← e, e'])
        subst this
        exact har' har
      · rcases hr r' hrin' with rfl | ⟨g1, g2⟩
        · rw [otherT _ hai]; exact hla
        · rw [other _ (g2 b cs' hst')] at hl
          rw [otherT _ g1]
          exact ho.order r' hrin' b cs' hst' hl
      · have hq' : ∃ q' ∈ mm, q'.1 = q.1 := by
          rcases updM_mem q hq with ⟨rfl, q', ho', he⟩ | ⟨hq, _⟩
          · exact ⟨q', ho', he⟩
          · exact ⟨q, hq, rfl⟩
        obtain ⟨q', hq1, hq2⟩ := hq'
        rw [← hq2]
        rcases ho.only q' hq1 with h | ⟨r', g1, g2, g3⟩
        · exact .inl h
        · refine .inr ⟨r', g1, g2, ?_⟩
          by_cases hki : r'.a = i
          · rw [hki]; exact getD_set_selfT his
          · rw [otherT _ hki]; exact g3
      · rcases updM_mem q hq with ⟨rfl, _⟩ | ⟨hq, _⟩
        · have := hMu r hrin har r' hrin' har'
          unfold Rec.fin at this
          rw [hst] at this
          exact this
        · exact ho.nou r' hrin' har' q hq
    | mk d r e sz ys e1 e2 hrin har hra hrd hrb hr h =>
      have hfr : ∀ q ∈ mm, q.1 ≠ d := by
        intro q hq e
        rcases ho.only q hq with (⟨q', g1, g2⟩ | g0) | ⟨r', g1, g2, g3⟩
        · exact hR0 r hrin q' g1 (by rw [g2, e, hrd])
        · exact g0 (by rw [e]; exact dstsE_mem (List.mem_of_getElem? hL) e1)
        · have : r' = r := hRd r' g1 r hrin (by rw [g2, e, hrd])
          subst this
          rw [hra, hfalseT] at g3; cases g3
      have hne : r.ar ≠ none := by rw [har]; exact fun h => by cases h
      refine h tm mm hpre hfr a w _ (QT C n P) hh (fun a' w' h' => ?_)
      have h'' : Has C n ((d, .v (.one .any)) :: (d, .v (.one (.own d))) :: delL tm d) ((d, .arr false e sz ys) :: mm) a' w' := by
        obtain ⟨H, Z, hm⟩ := h'
        refine ⟨H, Z, { hm with tmps := fun p hp => ?_ }⟩
        rcases List.mem_cons.1 hp with rfl | hp
        · trivial
        · exact hm.tmps p hp
      refine ih _ a' w' _ _ hsz' hcount (fun p hp => ?_) ⟨fun q hq => List.mem_cons_of_mem _ (ho.base q hq), fun r' hrin' har' hl => ?_, fun r' hrin' e' sz' ys' har' hl hb => ?_, fun r' hrin' b cs hst hl => ?_, fun q hq => ?_, fun r' hrin' har' q hq => ?_⟩ h''
      · rcases List.mem_cons.1 (hkeepD d _ e1 e2 p hp) with rfl | hp'
        · exact List.mem_cons_self
        · exact List.mem_cons_of_mem _ (List.mem_cons_of_mem _ hp')
      · rcases hr r' hrin' with rfl | ⟨g1, g2⟩
        · exact absurd har' hne
        · rw [otherT _ g1] at hl
          rw [hnow r' g2]
          exact List.mem_cons_of_mem _ (ho.recs r' hrin' har' hl)
      · rcases hr r' hrin' with rfl | ⟨g1, g2⟩
        · rw [har] at har'
          injection har' with har'
          injection har' with q1 q2
          injection q2 with q2 q3
          subst q1 q2 q3
          rw [hrd]
          exact ⟨List.mem_cons_self, List.mem_cons_of_mem _ List.mem_cons_self⟩
        · rw [otherT _ g1] at hl
          have hne' : r'.ar ≠ none := by rw [har']; exact fun h => by cases h
          obtain ⟨k1, k2⟩ := ho.arrs r' hrin' e' sz' ys' har' hl (fun b cs hst => by rw [← other _ (g2 b cs hst)]; exact hb b cs hst)
          exact ⟨List.mem_cons_of_mem _ k1, List.mem_cons_of_mem _ (List.mem_cons_of_mem _ (mem_delL k2 (hdne r' hrin' hne' g1 d e1)))⟩
      · rcases hr r' hrin' with rfl | ⟨g1, g2⟩
        · rw [hra]; exact getD_set_selfT his
        · rw [other _ (g2 b cs hst)] at hl
          rw [otherT _ g1]
          exact ho.order r' hrin' b cs hst hl
      · rcases List.mem_cons.1 hq with rfl | hq
        · exact .inr ⟨r, hrin, hrd, by rw [hra]; exact getD_set_selfT his⟩
        · rcases ho.only q hq with h | ⟨r', g1, g2, g3⟩
          · exact .inl h
          · refine .inr ⟨r', g1, g2, ?_⟩
            by_cases hki : r'.a = i
            · rw [hki]; exact getD_set_selfT his
            · rw [otherT _ hki]; exact g3
      · rcases List.mem_cons.1 hq with rfl | hq
        · simp [MO.uses]
        · exact ho.nou r' hrin' har' q hq
    | take d s r e sz ys e1 e2 hrin har hst hra hr hai h =>
      have hne : r.ar ≠ none := by rw [har]; exact fun h => by cases h
      have hla : listed.getD r.a true = true := by
        rw [getD_true (by rw [hsz]; exact hRa r hrin hne)]
        exact hon _ hra
      obtain ⟨hin1, hin2⟩ := ho.arrs r hrin e sz ys har hla (fun b cs hb => by
        rw [hst] at hb; injection hb with hb; injection hb with hb; rw [← hb]; exact hfalse')
      have hcm : ∀ q ∈ mm, q.1 ≠ r.d → q ∈ cutMm r.d mm := fun q hq hne => List.mem_filter.2 ⟨hq, by simpa using hne⟩
      have hct : ∀ p ∈ tm, p.1 ≠ d → r.d ∉ p.2.uses → p ∈ cutTm d r.d tm := fun p hp h1 h2 => List.mem_filter.2 ⟨hp, by simp [h1, h2]⟩
      refine h tm mm hpre hin2 hin1 (ho.nou r hrin hne) a w _ (QT C n P) hh (fun a' w' h' => ih _ a' w' _ _ hsz' hcount (fun p hp => ?_) ⟨fun q hq => hcm q (ho.base q hq) (hR0 r hrin q hq), fun r' hrin' har' hl => ?_, fun r' hrin' e' sz' ys' har' hl hb => ?_, fun r' hrin' b cs hst' hl => ?_, fun q hq => ?_, fun r' hrin' har' q hq => ho.nou r' hrin' har' q (List.mem_filter.1 hq).1⟩ h')
      · rcases List.mem_cons.1 (hkeepD d s e1 e2 p hp) with rfl | hp'
        · exact List.mem_cons_self
        · obtain ⟨k1, k2⟩ := delL_mem hp'
          exact List.mem_cons_of_mem _ (hct p k1 k2 (hAu p hp.1 r hrin hne))
      · rcases hr r' hrin' with rfl | ⟨g1, g2⟩
        · exact absurd har' hne
        · rw [otherT _ g1] at hl
          rw [hnow r' g2]
          refine hcm _ (ho.recs r' hrin' har' hl) (fun e => ?_)
          have := hRd r' hrin' r hrin e
          subst this
          exact hne har'
      · rcases hr r' hrin' with rfl | ⟨g1, g2⟩
        · have := hb i [] hst
          rw [getD_set_self his] at this; cases this
        · rw [otherT _ g1] at hl
          have hne' : r'.ar ≠ none := by rw [har']; exact fun h => by cases h
          obtain ⟨k1, k2⟩ := ho.arrs r' hrin' e' sz' ys' har' hl (fun b cs hst => by rw [← other _ (g2 b cs hst)]; exact hb b cs hst)
          have hdd : r'.d ≠ r.d := fun e => by
            have := hRd r' hrin' r hrin e
            subst this
            exact (g2 i [] hst) rfl
          exact ⟨hcm _ k1 hdd, List.mem_cons_of_mem _ (hct _ k2 (hdne r' hrin' hne' g1 d e1) (by simp [ST.uses, SV.uses, SC.uses]; exact fun e => hdd e.symm))⟩
      · rcases hr r' hrin' with rfl | ⟨g1, g2⟩
        · rw [otherT _ hai]; exact hla
        · rw [other _ (g2 b cs hst')] at hl
          rw [otherT _ g1]
          exact ho.order r' hrin' b cs hst' hl
      · rcases ho.only q (List.mem_filter.1 hq).1 with h | ⟨r', g1, g2, g3⟩
        · exact .inl h
        · refine .inr ⟨r', g1, g2, ?_⟩
          by_cases hki : r'.a = i
          · rw [hki]; exact getD_set_selfT his
          · rw [otherT _ hki]; exact g3
end
end Go.Sy
namespace Go.Sy
open Go.RowKit
def setR (d i : Nat) (cs : List SC) (r : Rec) : Rec :=
  match Nat.beq r.d d with
  | true => match r.st with
    | none => ⟨r.a, r.d, r.zr, some (i, cs), r.ar⟩
    | some _ => r
  | false => r
theorem setR_spec (d i : Nat) (cs : List SC) (r : Rec) : (setR d i cs r).a = r.a ∧ (setR d i cs r).d = r.d ∧ (setR d i cs r).zr = r.zr ∧ (setR d i cs r).ar = r.ar ∧
    ((setR d i cs r).st = r.st ∨ (r.st = none ∧ (setR d i cs r).st = some (i, cs))) ∧ (∀ x, r.st = some x → setR d i cs r = r) ∧ (r.d = d → r.st = none → (setR d i cs r).st = some (i, cs)) ∧ (r.d ≠ d → setR d i cs r = r) := by
  obtain ⟨a, e, zr, st, ar⟩ := r
  unfold setR
  cases hb : Nat.beq e d with
  | true =>
    have he : e = d := Nat.eq_of_beq_eq_true hb
    cases st <;> simp [he]
  | false =>
    have hne : e ≠ d := fun e' => by subst e'; simp at hb
    simp [hne]
def setRs (d i : Nat) (cs : List SC) : List Rec → List Rec
  | [] => []
  | r :: l => setR d i cs r :: setRs d i cs l
theorem setRs_eq (d i : Nat) (cs : List SC) : ∀ l, setRs d i cs l = l.map (setR d i cs)
  | [] => rfl
  | r :: l => by simp [setRs, setRs_eq d i cs l]
def findR (d : Nat) : List Rec → Option Rec
  | [] => none
  | r :: l => match Nat.beq r.d d with
    | true => some r
    | false => findR d l
theorem findR_spec {d : Nat} {r : Rec} : ∀ {l : List Rec}, findR d l = some r → r ∈ l ∧ r.d = d
  | [], h => by simp [findR] at h
  | a :: l, h => by
    unfold findR at h
    split at h
    · rename_i hb; injection h with h; subst h; exact ⟨List.mem_cons_self, Nat.eq_of_beq_eq_true hb⟩
    · obtain ⟨h1, h2⟩ := findR_spec h; exact ⟨List.mem_cons_of_mem _ h1, h2⟩
section
variable {C : Ctx} {n : Nat} {mm0 : MM} {L : List Oper} {tm0 tm : TM} {l : List Oper} {T : TM → MM → Prop} {o : Oper} {d i j : Nat} {s : ST} {R : List Rec}
theorem Looked.back (hl : d ∉ looksE L o) {tm' : TM} (h : Looked L ((d, s) :: delL tm d) o tm') : Looked L tm o tm' :=
  fun p hp hpl => h p (List.mem_cons_of_mem _ (mem_delL hp fun e => hl (e ▸ hpl))) hpl
theorem OkE.grow (h : OkE C n mm0 L tm R j o) (hd : o.dst ≠ some d) (hl : d ∉ looksE L o) : OkE C n mm0 L ((d, s) :: delL tm d) R j o := by
  cases h with
  | val d' s' e1 e2 hr h => exact .val d' s' e1 (List.mem_cons_of_mem _ (mem_delL e2 fun e => hd (e ▸ e1))) hr fun tm' mm' hL => h tm' mm' (hL.back hl)
  | new d' s' r e1 e2 h3 har hz h4 h5 h6 h7 h => exact .new d' s' r e1 (List.mem_cons_of_mem _ (mem_delL e2 fun e => hd (e ▸ e1))) h3 har hz h4 h5 h6 h7 fun tm' mm' hL => h tm' mm' (hL.back hl)
  | set r cs e1 h2 har h3 h4 h5 h6 h => exact .set r cs e1 h2 har h3 h4 h5 h6 fun tm' mm' hL => h tm' mm' (hL.back hl)
  | mk d' r e sz ys e1 e2 h3 har h4 h5 h6 h7 h => exact .mk d' r e sz ys e1 (List.mem_cons_of_mem _ (mem_delL e2 fun e => hd (e ▸ e1))) h3 har h4 h5 h6 h7 fun tm' mm' hL => h tm' mm' (hL.back hl)
  | take d' s' r e sz ys e1 e2 h3 har h4 h5 h6 h7 h => exact .take d' s' r e sz ys e1 (List.mem_cons_of_mem _ (mem_delL e2 fun e => hd (e ▸ e1))) h3 har h4 h5 h6 h7 fun tm' mm' hL => h tm' mm' (hL.back hl)
theorem OkE.cons (h : OkE C n mm0 L tm R j o) {r0 : Rec} (ha : r0.a ≠ j) (hs : r0.st = none) : OkE C n mm0 L tm (r0 :: R) j o := by
  have key : r0.a ≠ j ∧ ∀ b cs, r0.st = some (b, cs) → b ≠ j := ⟨ha, fun b cs h => by rw [hs] at h; cases h⟩
  cases h with
  | val d' s' e1 e2 hr h => exact .val d' s' e1 e2 (fun r hr' => (List.mem_cons.1 hr').elim (fun e => e ▸ key) (hr r)) h
  | new d' s' r e1 e2 h3 har hz h4 h5 h6 h7 h => exact .new d' s' r e1 e2 (List.mem_cons_of_mem _ h3) har hz h4 h5 h6 (fun r hr' => (List.mem_cons.1 hr').elim (fun e => .inr (e ▸ key)) (h7 r)) h
  | set r cs e1 h2 har h3 h4 h5 h6 h => exact .set r cs e1 (List.mem_cons_of_mem _ h2) har h3 h4 (fun r hr' => (List.mem_cons.1 hr').elim (fun e => .inr (e ▸ key)) (h5 r)) h6 h
  | mk d' r e sz ys e1 e2 h3 har h4 h5 h6 h7 h => exact .mk d' r e sz ys e1 e2 (List.mem_cons_of_mem _ h3) har h4 h5 h6 (fun r hr' => (List.mem_cons.1 hr').elim (fun e => .inr (e ▸ key)) (h7 r)) h
  | take d' s' r e sz ys e1 e2 h3 har h4 h5 h6 h7 h => exact .take d' s' r e sz ys e1 e2 (List.mem_cons_of_mem _ h3) har h4 h5 (fun r hr' => (List.mem_cons.1 hr').elim (fun e => .inr (e ▸ key)) (h6 r)) h7 h
theorem OkE.mapR (h : OkE C n mm0 L tm R j o) {cs : List SC} (hij : i ≠ j) : OkE C n mm0 L tm (R.map (setR d i cs)) j o := by
  have keep : ∀ r : Rec, (r.a ≠ j ∧ ∀ b cs', r.st = some (b, cs') → b ≠ j) → ((setR d i cs r).a ≠ j ∧ ∀ b cs', (setR d i cs r).st = some (b, cs') → b ≠ j) := by
    intro r ⟨h1, h2⟩
    obtain ⟨k1, k2, k3, _, k4, _⟩ := setR_spec d i cs r
    refine ⟨by rw [k1]; exact h1, fun b cs' hb => ?_⟩
    rcases k4 with k4 | ⟨_, k4⟩
    · rw [k4] at hb; exact h2 b cs' hb
    · rw [k4] at hb; injection hb with hb; injection hb with hb; rw [← hb]; exact hij
  cases h with
  | val d' s' e1 e2 hr h => exact .val d' s' e1 e2 (fun r hr' => by obtain ⟨r1, h1, rfl⟩ := List.mem_map.1 hr'; exact keep r1 (hr r1 h1)) h
  | new d' s' r e1 e2 h3 har hz h4 h5 h6 h7 h =>
    obtain ⟨k1, k2, k3, kar, k4, _⟩ := setR_spec d i cs r
    refine .new d' s' (setR d i cs r) e1 e2 (List.mem_map_of_mem h3) (by rw [kar]; exact har) (by rw [k3]; exact hz) (by rw [k1]; exact h4) (by rw [k2]; exact h5) ?_ ?_ (by rw [k3]; exact h)
    · intro b cs' hb
      rcases k4 with k4 | ⟨_, k4⟩
      · rw [k4] at hb; exact h6 b cs' hb
      · rw [k4] at hb; injection hb with hb; injection hb with hb; rw [← hb]; exact hij
    · intro r' hr'
      obtain ⟨r1, h1, rfl⟩ := List.mem_map.1 hr'
      rcases h7 r1 h1 with rfl | h8
      · exact .inl rfl
      · exact .inr (keep r1 h8)
  | set r cs' e1 h2 har h3 h4 h5 h6 h =>
    obtain ⟨k1, k2, k3, kar, k4, k5, _⟩ := setR_spec d i cs r
    have hk := k5 _ h3
    refine .set r cs' e1 (by rw [← hk]; exact List.mem_map_of_mem h2) har h3 h4 ?_ h6 h
    intro r' hr'
    obtain ⟨r1, h1, rfl⟩ := List.mem_map.1 hr'
    rcases h5 r1 h1 with rfl | h8
    · exact .inl hk
    · exact .inr (keep r1 h8)
  | mk d' r e sz ys e1 e2 h3 har h4 h5 h6 h7 h =>
    obtain ⟨k1, k2, k3, kar, k4, _⟩ := setR_spec d i cs r
    refine .mk d' (setR d i cs r) e sz ys e1 e2 (List.mem_map_of_mem h3) (by rw [kar]; exact har) (by rw [k1]; exact h4) (by rw [k2]; exact h5) ?_ ?_ h
    · intro b cs' hb
      rcases k4 with k4 | ⟨_, k4⟩
      · rw [k4] at hb; exact h6 b cs' hb
      · rw [k4] at hb; injection hb with hb; injection hb with hb; rw [← hb]; exact hij
    · intro r' hr'
      obtain ⟨r1, h1, rfl⟩ := List.mem_map.1 hr'
      rcases h7 r1 h1 with rfl | h8
      · exact .inl rfl
      · exact .inr (keep r1 h8)
  | take d' s' r e sz ys e1 e2 h3 har hst h4 h5 h6 h =>
    obtain ⟨k1, k2, k3, kar, k4, k5, _⟩ := setR_spec d i cs r
    have hk := k5 _ hst
    refine .take d' s' r e sz ys e1 e2 (by rw [← hk]; exact List.mem_map_of_mem h3) har hst h4 ?_ h6 h
    intro r' hr'
    obtain ⟨r1, h1, rfl⟩ := List.mem_map.1 hr'
    rcases h5 r1 h1 with rfl | h8
    · exact .inl hk
    · exact .inr (keep r1 h8)
structure ES (C : Ctx) (n : Nat) (mm0 : MM) (L : List Oper) (tm0 : TM) (Pre : Nat → List SC → Prop) (ahead l : List Oper) (i : Nat) (tm : TM) (R : List Rec) : Prop where
  ok : ∀ (j : Nat) (o : Oper), j < i → L[j]? = some o → OkE C n mm0 L tm R j o
  keys : ∀ p ∈ tm, ∀ q ∈ tm, p.1 = q.1 → p = q
  base : ∀ p ∈ tm, p.1 ∉ dstsE L → p ∈ tm0
  okr : okR2 L ahead l i = true
  whole : L = ahead.reverse ++ l
  len : ahead.length = i
  rd : ∀ r ∈ R, ∀ r' ∈ R, r.d = r'.d → r = r'
  r0 : ∀ r ∈ R, ∀ q ∈ mm0, q.1 ≠ r.d
  rl : ∀ r ∈ R, (r.a < i ∨ L.length ≤ r.a) ∧ ∀ b cs, r.st = some (b, cs) → b < i
  rdst : ∀ r ∈ R, (∃ o ∈ ahead, o.dst = some r.d) ∨ r.d ∉ dstsE L
  rar : ∀ r ∈ R, r.ar ≠ none → ∃ o, L[r.a]? = some o ∧ o.dst = some r.d
  rpre : ∀ r ∈ R, L.length ≤ r.a → Pre r.d r.zr
def EOps (C : Ctx) (n : Nat) (mm0 : MM) (L : List Oper) (tm0 : TM) (i : Nat) (l : List Oper) (tm : TM) (R : List Rec) (T : TM → MM → Prop) : Prop :=
  ∀ (Pre : Nat → List SC → Prop) (ahead : List Oper), ES C n mm0 L tm0 Pre ahead l i tm R → ∃ tmF RF, T tmF (mmOf RF mm0) ∧ okT (mmOf RF mm0) tmF = true ∧ okM (mmOf RF mm0) (mmOf RF mm0) = true ∧ ES C n mm0 L tm0 Pre L.reverse [] L.length tmF RF
theorem EOps.nil (h : T tm (mmOf R mm0)) (h1 : okT (mmOf R mm0) tm = true) (h2 : okM (mmOf R mm0) (mmOf R mm0) = true) : EOps C n mm0 L tm0 i [] tm R T := fun Pre ahead hs => by
  have hL : L = ahead.reverse := by have := hs.whole; rwa [List.append_nil] at this
  have hi : i = L.length := by rw [hL, List.length_reverse, hs.len]
  have ha : ahead = L.reverse := by rw [hL, List.reverse_reverse]
  subst hi
  rw [← ha] at *
  exact ⟨tm, R, h, h1, h2, ha ▸ hs⟩
theorem ES.cur {Pre : Nat → List SC → Prop} {ahead : List Oper} (hs : ES C n mm0 L tm0 Pre ahead (o :: l) i tm R) : L[i]? = some o := by
  have h1 := hs.whole
  have h2 : ahead.reverse.length = i := by rw [List.length_reverse, hs.len]
  rw [h1, List.getElem?_append_right (by omega)]
  simp [h2]
theorem ES.before {Pre : Nat → List SC → Prop} {ahead : List Oper} (hs : ES C n mm0 L tm0 Pre ahead (o :: l) i tm R) {o' : Oper} (hj : j < i) (h : L[j]? = some o') : o' ∈ ahead := by
  have h1 := hs.whole
  have h2 : ahead.reverse.length = i := by rw [List.length_reverse, hs.len]
  rw [h1, List.getElem?_append_left (by omega)] at h
  simpa using List.mem_of_getElem? h
theorem ES.next {Pre : Nat → List SC → Prop} {ahead : List Oper} (hs : ES C n mm0 L tm0 Pre ahead (o :: l) i tm R) (hd : o.dst = some d) {R' : List Rec} (hR : R' = R ∨ ∃ zr ar, R' = ⟨i, d, zr, none, ar⟩ :: R ∧ ∀ q ∈ mm0, q.1 ≠ d)
    (hok : d ∉ looksE L o → (∀ r ∈ R, r.d ≠ d) → OkE C n mm0 L ((d, s) :: delL tm d) R' i o) :
    ES C n mm0 L tm0 Pre (o :: ahead) l (i + 1) ((d, s) :: delL tm d) R' := by
  obtain ⟨h2, h3, h4, h5⟩ := okR2_cons hs.okr
  obtain ⟨h6, h7⟩ := h5 d hd
  have hin : o ∈ L := by rw [hs.whole]; simp
  have hRd : ∀ r ∈ R, r.d ≠ d := fun r hr e => by
    rcases hs.rdst r hr with ⟨o', ho', hd'⟩ | hn
    · exact (freeE2_spec h6 o' ho').1 (by rw [hd', e])
    · exact hn (by rw [e]; exact dstsE_mem hin hd)
  have hil : i < L.length := (List.getElem?_eq_some_iff.1 hs.cur).1
  refine ⟨fun j o' hj ho' => ?_, keys_set hs.keys, fun p hp hn => ?_, h4, by rw [hs.whole]; simp, by simp [hs.len], ?_, ?_, ?_, ?_, ?_, ?_⟩
  · by_cases hji : j = i
    · subst hji
      rw [hs.cur] at ho'; injection ho' with ho'; subst ho'
      exact hok h7 hRd
    · have hjl : j < i := by omega
      obtain ⟨k1, k2⟩ := freeE2_spec h6 o' (hs.before hjl ho')
      have := (hs.ok j o' hjl ho').grow (s := s) k1 k2
      rcases hR with rfl | ⟨zr, ar, rfl, _⟩
      · exact this
      · exact this.cons (fun e => hji e.symm) rfl
  · rcases List.mem_cons.1 hp with rfl | hp
    · exact absurd (dstsE_mem hin hd) hn
    · exact hs.base p (delL_mem hp).1 hn
  · rcases hR with rfl | ⟨zr, ar, rfl, _⟩
    · exact hs.rd
    · intro r hr r' hr' e
      rcases List.mem_cons.1 hr with rfl | hr <;> rcases List.mem_cons.1 hr' with rfl | hr'
      · rfl
      · exact absurd e.symm (hRd r' hr')
      · exact absurd e (hRd r hr)
      · exact hs.rd r hr r' hr' e
  · rcases hR with rfl | ⟨zr, ar, rfl, h0⟩
    · exact hs.r0
    · intro r hr
      rcases List.mem_cons.1 hr with rfl | hr
      · exact h0
      · exact hs.r0 r hr
  · have key : ∀ r ∈ R, (r.a < i + 1 ∨ L.length ≤ r.a) ∧ ∀ b cs, r.st = some (b, cs) → b < i + 1 := fun r hr => ⟨(hs.rl r hr).1.imp Nat.lt_succ_of_lt id, fun b cs h => Nat.lt_succ_of_lt ((hs.rl r hr).2 b cs h)⟩
    rcases hR with rfl | ⟨zr, ar, rfl, h0⟩
    · exact key
    · intro r hr
      rcases List.mem_cons.1 hr with rfl | hr
      · exact ⟨.inl (Nat.lt_succ_self _), fun b cs h => by cases h⟩
      · exact key r hr
  · have key : ∀ r ∈ R, (∃ o' ∈ o :: ahead, o'.dst = some r.d) ∨ r.d ∉ dstsE L := fun r hr => (hs.rdst r hr).imp (fun ⟨o', h1, h2⟩ => ⟨o', List.mem_cons_of_mem _ h1, h2⟩) id
    rcases hR with rfl | ⟨zr, ar, rfl, h0⟩
    · exact key
    · intro r hr
      rcases List.mem_cons.1 hr with rfl | hr
      · exact .inl ⟨o, List.mem_cons_self, hd⟩
      · exact key r hr
  · rcases hR with rfl | ⟨zr, ar, rfl, h0⟩
    · exact hs.rar
    · intro r hr har
      rcases List.mem_cons.1 hr with rfl | hr
      · exact ⟨o, hs.cur, hd⟩
      · exact hs.rar r hr har
  · rcases hR with rfl | ⟨zr, ar, rfl, h0⟩
    · exact hs.rpre
    · intro r hr hle
      rcases List.mem_cons.1 hr with rfl | hr
      · exact absurd hle (Nat.not_le.2 hil)
      · exact hs.rpre r hr hle
theorem ES.other {Pre : Nat → List SC → Prop} {ahead : List Oper} (hs : ES C n mm0 L tm0 Pre ahead (o :: l) i tm R) : ∀ r ∈ R, r.a ≠ i ∧ ∀ b cs, r.st = some (b, cs) → b ≠ i :=
  fun r hr => ⟨by
    have h1 := (List.getElem?_eq_some_iff.1 hs.cur).1
    have := (hs.rl r hr).1
    omega, fun b cs h => Nat.ne_of_lt ((hs.rl r hr).2 b cs h)⟩
theorem guard_looked {b : Bool} (h : guardL L (onlyE (looksE L o) tm) o = some b) {tm' : TM} (hs : Looked L tm o tm') {mm' : MM} {a : Act} {w : World} (hh : Has C n tm' mm' a w) :
    Region.wanted o (yielded L.toArray a.tmps) = b := guardL_only h hs hh
theorem EOps.step (hg : guardL L (onlyE (looksE L o) tm) o = some true)
    (h : ∀ mm', (∀ q ∈ mm0, q ∈ mm') → (∀ p ∈ mm', ∀ q ∈ mm', p.1 = q.1 → p = q) → OpX C n mm' o (onlyE (looksE L o) tm) d s) (hd : o.dst = some d)
    (k : EOps C n mm0 L tm0 (i + 1) l ((d, s) :: delL tm d) R T) : EOps C n mm0 L tm0 i (o :: l) tm R T := fun Pre ahead hs =>
  k _ _ (hs.next hd (.inl rfl) fun hl _ => .val d s hd List.mem_cons_self hs.other fun tm' mm' hL hb a w K Q hh hK => by
    have hL' : Looked L tm o tm' := hL.back hl
    rw [if_pos (guard_looked hg hL' hh)]
    exact (h mm' hb (has_uniq hh)).2 tm' (fun p hp => hL' p (onlyE_mem.1 hp).1 (onlyE_mem.1 hp).2) a w K Q hh hK)
theorem EOps.skip (hg : guardL L (onlyE (looksE L o) tm) o = some false) (hd : o.dst = some d) (hn : Nat.blt d n = true)
    (k : EOps C n mm0 L tm0 (i + 1) l ((d, .tup []) :: delL tm d) R T) : EOps C n mm0 L tm0 i (o :: l) tm R T := fun Pre ahead hs =>
  k _ _ (hs.next hd (.inl rfl) fun hl _ => .val d _ hd List.mem_cons_self hs.other fun tm' mm' hL hb a w K Q hh hK => by
    have hL' : Looked L tm o tm' := hL.back hl
    rw [if_neg (by rw [guard_looked hg hL' hh]; simp)]
    obtain ⟨H, Z, hm⟩ := hh
    rw [hd]
    exact hK _ _ ⟨H, Z, hm.setT (Nat.blt_eq.mp hn) ⟨#[], rfl, rfl, fun j c hc => by simp at hc⟩⟩)
theorem EOps.alloc {Θ : Tab} (hΘ : tabOK C.P Θ) {e : TypeId} {z bts : Nat} {ag : Bool} {zr : List CT} {sh : Sh} (hg : guardL L (onlyE (looksE L o) tm) o = some true) (ho : o.op = .alloc e)
    (ht : tyGet Θ e = some ⟨z, bts, ag, some zr, sh⟩) (hd : o.dst = some d) (hn : Nat.blt d n = true) (hfr : hasI mm0 d = false)
    (k : EOps C n mm0 L tm0 (i + 1) l ((d, .v (.one (.ptr d 0))) :: delL tm d) (⟨i, d, zr.map SC.c, none, none⟩ :: R) T) : EOps C n mm0 L tm0 i (o :: l) tm R T := fun Pre ahead hs => by
  have hni := hasI_false hfr
  refine k _ _ (hs.next hd (.inr ⟨_, _, rfl, fun q hq e => hni ⟨q, hq, e⟩⟩) fun hl hRd => ?_)
  refine .new d _ ⟨i, d, zr.map SC.c, none, none⟩ hd List.mem_cons_self List.mem_cons_self rfl (fun c hc => by obtain ⟨x, _, rfl⟩ := List.mem_map.1 hc; rfl) rfl rfl (fun b cs h => by cases h) (fun r' hr' => ?_) fun tm' mm' hL hf a w K Q hh hK => ?_
  · rcases List.mem_cons.1 hr' with rfl | hr'
    · exact .inl rfl
    · exact .inr (hs.other r' hr')
  · have hL' : Looked L tm o tm' := hL.back hl
    rw [if_pos (guard_looked hg hL' hh)]
    have hnone : getM mm' d = none := by
      cases hg' : getM mm' d with
      | none => rfl
      | some x => exact absurd rfl (hf _ (getM_mem hg'))
    exact (op_alloc hΘ ho ht hnone hd hn).wp a w K Q hh hK
theorem evalC_app {l r : TM} {x : Operand} {s : SC} (h : evalC l x = some s) : evalC (l ++ r) x = some s := by
  unfold evalC at h ⊢
  split at h
  · rename_i hs; rw [evalT_app hs]; exact h
  · cases h
theorem EOps.store {Θ : Tab} (hΘ : tabOK C.P Θ) {t : TypeId} {ti : TyI} {x y : Operand} {r : Rec} {cs : List SC} {v : SV} (hg : guardL L (onlyE (looksE L o) tm) o = some true) (ho : o.op = .store t x y)
    (ht : tyGet Θ t = some ti) (hx : evalC (onlyE (looksE L o) tm) x = some (.ptr d 0)) (hf : findR d R = some r) (hst : r.st = none) (har : r.ar = none) (haf : (memN (ons o.after.toList) r.a || Nat.ble L.length r.a) = true)
    (hy : evalV (onlyE (looksE L o) tm) y = some v) (hk : v.cells.all SC.known = true) (hsz : Nat.beq v.cells.length ti.size = true) (hs' : spliceL r.zr 0 v.cells = some cs) (hd : o.dst = none)
    (k : EOps C n mm0 L tm0 (i + 1) l tm (setRs d i cs R) T) : EOps C n mm0 L tm0 i (o :: l) tm R T := fun Pre ahead hs => by
  obtain ⟨h2, h3, h4, h5⟩ := okR2_cons hs.okr
  obtain ⟨f1, f2⟩ := findR_spec hf
  rw [setRs_eq] at k
  obtain ⟨k1, k2, k3, kar, k4, _, k6, _⟩ := setR_spec d i cs r
  have hspec := fun r => setR_spec d i cs r
  have haf' : r.a ∈ ons o.after.toList ∨ L.length ≤ r.a := by
    rw [Bool.or_eq_true] at haf
    exact haf.imp memN_iff.1 Nat.ble_eq.mp
  refine k _ _ ⟨fun j o' hj ho' => ?_, hs.keys, hs.base, h4, by rw [hs.whole]; simp, by simp [hs.len], ?_, ?_, ?_, ?_, ?_, ?_⟩
  · by_cases hji : j = i
    · subst hji
      rw [hs.cur] at ho'; injection ho' with ho'; subst ho'
      refine .set (setR d j cs r) cs hd (List.mem_map_of_mem f1) (by rw [kar]; exact har) (k6 f2 hst) (by rw [k1]; exact haf') (fun r' hr' => ?_) (by rw [k1]; exact (hs.other r f1).1) fun tm' mm' hL hin a w K Q hh hK => ?_
      · obtain ⟨r1, g1, rfl⟩ := List.mem_map.1 hr'
        by_cases hrd : r1.d = d
        · have : r1 = r := hs.rd r1 g1 r f1 (by rw [hrd, f2])
          exact .inl (by rw [this])
        · obtain ⟨_, _, _, _, _, _, _, g7⟩ := hspec r1
          rw [g7 hrd]
          exact .inr (hs.other r1 g1)
      · rw [if_pos (guard_looked hg hL hh)]
        rw [k2, k3] at hin
        rw [k2] at hK
        have hget := getM_of_mem (has_uniq hh) hin
        rw [f2] at hget hK
        have hrun := (op_store_box (C := C) (n := n) (tm := onlyE (looksE L o) tm ++ tm') hΘ ho ht (evalC_app hx) hget (evalV_app hy) hk hsz hs' hd).wp
        refine hrun a w K Q (hh.incl fun p hp => (List.mem_append.1 hp).elim (fun hp => hL p (onlyE_mem.1 hp).1 (onlyE_mem.1 hp).2) id) fun a' w' h' => hK a' w' (h'.incl fun p hp => List.mem_append_right _ hp)
    · have hjl : j < i := by omega
      exact (hs.ok j o' hjl ho').mapR (fun e => hji e.symm)
  · intro a ha b hb e
    obtain ⟨a1, g1, rfl⟩ := List.mem_map.1 ha
    obtain ⟨b1, g2, rfl⟩ := List.mem_map.1 hb
    rw [(hspec a1).2.1, (hspec b1).2.1] at e
    rw [hs.rd a1 g1 b1 g2 e]
  · intro a ha
    obtain ⟨a1, g1, rfl⟩ := List.mem_map.1 ha
    rw [(hspec a1).2.1]
    exact hs.r0 a1 g1
  · intro a ha
    obtain ⟨a1, g1, rfl⟩ := List.mem_map.1 ha
    obtain ⟨q1, _, _, _, q4, _⟩ := hspec a1
    refine ⟨by rw [q1]; exact (hs.rl a1 g1).1.imp Nat.lt_succ_of_lt id, fun b cs' hb => ?_⟩
    rcases q4 with q4 | ⟨_, q4⟩
    · rw [q4] at hb; exact Nat.lt_succ_of_lt ((hs.rl a1 g1).2 b cs' hb)
    · rw [q4] at hb; injection hb with hb; injection hb with hb; omega
  · intro a ha
    obtain ⟨a1, g1, rfl⟩ := List.mem_map.1 ha
    rw [(hspec a1).2.1]
    exact (hs.rdst a1 g1).imp (fun ⟨o', q1, q2⟩ => ⟨o', List.mem_cons_of_mem _ q1, q2⟩) id
  · intro a ha har'
    obtain ⟨a1, g1, rfl⟩ := List.mem_map.1 ha
    obtain ⟨q1, q2, _, qar, _⟩ := hspec a1
    rw [qar] at har'
    rw [q1, q2]
    exact hs.rar a1 g1 har'
  · intro a ha hle
    obtain ⟨a1, g1, rfl⟩ := List.mem_map.1 ha
    obtain ⟨q1, q2, q3, _⟩ := hspec a1
    rw [q1] at hle
    rw [q2, q3]
    exact hs.rpre a1 g1 hle
theorem okR2_behind {d : Nat} {o : Oper} (hd : o.dst = some d) : ∀ {l ahead : List Oper} {i : Nat}, okR2 L ahead l i = true → ∀ (k : Nat), l[k]? = some o → ∀ o' ∈ ahead, o'.dst ≠ some d
  | [], _, _, _, k, ho, _, _ => by simp at ho
  | x :: l, ahead, i, h, k, ho, o', ho' => by
    obtain ⟨_, _, h3, h4⟩ := okR2_cons h
    cases k with
    | zero => simp at ho; subst ho; exact (freeE2_spec (h4 d hd).1 o' ho').1
    | succ k => exact okR2_behind hd h3 k (by simpa using ho) o' (List.mem_cons_of_mem _ ho')
theorem okR2_free {d : Nat} {o o' : Oper} (hd : o.dst = some d) : ∀ {l ahead : List Oper} {i : Nat}, okR2 L ahead l i = true → ∀ (k j : Nat), l[k]? = some o → j < k → l[j]? = some o' → o'.dst ≠ some d
  | [], _, _, _, k, _, ho, _, _ => by simp at ho
  | x :: l, ahead, i, h, k, j, ho, hj, ho' => by
    obtain ⟨_, _, h3, _⟩ := okR2_cons h
    cases k with
    | zero => omega
    | succ k =>
      cases j with
      | zero => simp at ho'; subst ho'; exact okR2_behind hd h3 k (by simpa using ho) _ List.mem_cons_self
      | succ j => exact okR2_free hd h3 k j (by simpa using ho) (by omega) (by simpa using ho')
def preR (len : Nat) (mm : MM) : List Nat → Option (List Rec)
  | [] => some []
  | i :: l => match getM mm i with
    | some (.box cs) => match preR len mm l with
      | some r => some (⟨len, i, cs, none, none⟩ :: r)
      | none => none
    | _ => none
def outM (ids : List Nat) : MM → MM
  | [] => []
  | (i, o) :: r => match memN ids i with
    | true => outM ids r
    | false => (i, o) :: outM ids r
theorem outM_mem {ids : List Nat} {q : Nat × MO} : ∀ {mm : MM}, q ∈ outM ids mm ↔ q ∈ mm ∧ q.1 ∉ ids
  | [] => by simp [outM]
  | (i, o) :: r => by
    unfold outM
    split
    · rename_i hm
      rw [outM_mem]
      constructor
      · rintro ⟨h1, h2⟩; exact ⟨List.mem_cons_of_mem _ h1, h2⟩
      · rintro ⟨h1, h2⟩
        rcases List.mem_cons.1 h1 with rfl | h1
        · exact absurd (memN_iff.1 hm) h2
        · exact ⟨h1, h2⟩
    · rename_i hm
      rw [List.mem_cons, outM_mem]
      constructor
      · rintro (rfl | ⟨h1, h2⟩)
        · exact ⟨List.mem_cons_self, fun hk => by rw [memN_iff.2 hk] at hm; cases hm⟩
        · exact ⟨List.mem_cons_of_mem _ h1, h2⟩
      · rintro ⟨h1, h2⟩
        rcases List.mem_cons.1 h1 with rfl | h1
        · exact .inl rfl
        · exact .inr ⟨h1, h2⟩
theorem outM_nil : ∀ mm : MM, outM [] mm = mm
  | [] => rfl
  | (i, o) :: r => by unfold outM; simp only [memN]; rw [outM_nil r]
theorem preR_spec {len : Nat} {mm : MM} : ∀ {ids : List Nat} {R : List Rec}, preR len mm ids = some R → ∀ r ∈ R, r.a = len ∧ r.st = none ∧ r.ar = none ∧ r.d ∈ ids ∧ (r.d, MO.box r.zr) ∈ mm
  | [], R, h => by
    simp only [preR, Option.some.injEq] at h
    subst h
    exact fun r hr => (by cases hr)
  | i :: l, R, h => by
    unfold preR at h
    split at h
    · rename_i cs hg
      split at h
      · rename_i R' hp
        injection h with h
        subst h
        have h1 := preR_spec hp
        intro r hr
        rcases List.mem_cons.1 hr with rfl | hr
        · exact ⟨rfl, rfl, rfl, List.mem_cons_self, getM_mem hg⟩
        · obtain ⟨g1, g2, g3, g4, g5⟩ := h1 r hr
          exact ⟨g1, g2, g3, List.mem_cons_of_mem _ g4, g5⟩
      · cases h
    · cases h
theorem g_drawG (ids : List Nat) {R0 : List Rec} {f : FuncId} {Rr : Ending → World → Prop} {k : List Item} {id : Nat} (hmix : C.P.follows .mixedOrders = true) (hpre : preR L.length mm0 ids = some R0) (hids : ids.all (fun i => !memN (dstsE L) i) = true)
    (hok : okR2 L [] L 0 = true) (hu : uniT (dstsE L) tm0 = true)
    (h : EOps C n (outM ids mm0) L tm0 0 L tm0 R0 (fun tm' mm' => Goes C f n Rr k tm' mm')) : Goes C f n Rr (.code (.region id L.toArray true) :: k) tm0 mm0 := by
  obtain ⟨u1, u2⟩ := uniT_spec hu
  have p1 := preR_spec hpre
  have hidn : ∀ i ∈ ids, i ∉ dstsE L := fun i hi hk => by
    have := List.all_eq_true.1 hids i hi
    rw [memN_iff.2 hk] at this; cases this
  intro a w hh b cs hb hk
  have huq := has_uniq hh
  have hrd : ∀ r ∈ R0, ∀ r' ∈ R0, r.d = r'.d → r = r' := by
    intro r hr r' hr' e
    obtain ⟨a1, a2, a3, _, a5⟩ := p1 r hr
    obtain ⟨b1, b2, b3, _, b5⟩ := p1 r' hr'
    have := huq _ a5 _ b5 e
    injection this with q1 q2
    injection q2 with q2
    obtain ⟨ra, rd, rz, rs, rr⟩ := r
    obtain ⟨ra', rd', rz', rs', rr'⟩ := r'
    simp only at a1 a2 a3 b1 b2 b3 q1 q2
    simp [a1, a2, a3, b1, b2, b3, q1, q2]
  obtain ⟨tmF, RF, hg, hT, hM, hF⟩ := h (fun d zr => (d, MO.box zr) ∈ mm0) [] ⟨fun j o hj => (by omega), u2, fun p hp _ => hp, hok, rfl, rfl, hrd, fun r hr q hq e => by
      have := (outM_mem.1 hq).2
      rw [e] at this
      exact this (p1 r hr).2.2.2.1,
    fun r hr => ⟨.inr (by rw [(p1 r hr).1]; exact Nat.le_refl _), fun b cs hst => by rw [(p1 r hr).2.1] at hst; cases hst⟩, fun r hr => .inr (hidn _ (p1 r hr).2.2.2.1), fun r hr har => absurd (p1 r hr).2.2.1 har,
    fun r hr _ => (p1 r hr).2.2.2.2⟩
  have hall : ∀ k, k < L.length → (Array.replicate L.length false).getD k false = false := fun k hk => by simp [Array.getD, hk]
  have hallT : ∀ k, k < L.length → (Array.replicate L.length false).getD k true = false := fun k hk => by simp [Array.getD, hk]
  have hfar : ∀ r ∈ RF, r.ar ≠ none → r.d ∉ ids := fun r hr har hi => by
    obtain ⟨o, ho, hd⟩ := hF.rar r hr har
    exact hidn _ hi (dstsE_mem (List.mem_of_getElem? ho) hd)
  have hral : ∀ r ∈ RF, r.ar ≠ none → r.a < L.length := fun r hr har => by
    obtain ⟨o, ho, _⟩ := hF.rar r hr har
    exact (List.getElem?_eq_some_iff.1 ho).1
  have hany := any_okE (P := fun tm' mm' => Goes C f n Rr k tm' mm') hok (fun i o ho => hF.ok i o (List.getElem?_eq_some_iff.1 ho).1 ho) hF.keys hF.rd hF.r0 (fun r hr => (hF.rl r hr).2) hral
    (fun r hr har k o ho hd => by
      obtain ⟨o', ho', hd'⟩ := hF.rar r hr har
      rcases Nat.lt_trichotomy k r.a with hlt | heq | hlt
      · exact absurd hd (okR2_free hd' hok _ _ ho' hlt ho)
      · exact heq
      · exact absurd hd' (okR2_free hd hok _ _ ho hlt ho'))
    hT hM hg L.length (Array.replicate L.length false) a { w with drawn := w.drawn + 1 } tm0 mm0 (by simp)
    (by rw [show (Array.replicate L.length false).toList = List.replicate L.length false by simp]; exact Nat.le_trans (List.length_filter_le _ _) (by simp))
    (fun p hp => by
      obtain ⟨g1, g2 | ⟨k, o, k1, k2, k3⟩⟩ := hp
      · exact hF.base p g1 g2
      · have hkl := (List.getElem?_eq_some_iff.1 k1).1
        rw [hall k hkl] at k3; cases k3)
    ⟨fun q hq => (outM_mem.1 hq).1, fun r hr har hl => by
        by_cases hra : r.a < L.length
        · rw [hallT _ hra] at hl; cases hl
        · have hz := hF.rpre r hr (by omega)
          have : r.now (Array.replicate L.length false) = r.zr := by
            unfold Rec.now
            split
            · rename_i b' cs' hst
              rw [if_neg (by rw [hall _ ((hF.rl r hr).2 b' cs' hst)]; simp)]
            · rfl
          rw [this]; exact hz,
      fun r hr e sz ys har hl _ => (by
        rw [hallT _ (hral r hr (by rw [har]; exact fun h => by cases h))] at hl; cases hl),
      fun r hr b' cs' hst hl => (by
        rw [hall _ ((hF.rl r hr).2 b' cs' hst)] at hl; cases hl),
      fun q hq => .inl (by
        by_cases hqi : q.1 ∈ ids
        · exact .inr (hidn _ hqi)
        · exact .inl ⟨q, outM_mem.2 ⟨hq, hqi⟩, rfl⟩),
      fun r hr har q hq hu' => by
        obtain ⟨q', hq', he⟩ := hh.mm_uses q hq _ hu'
        have hqi : q'.1 ∉ ids := by rw [he]; exact hfar r hr har
        exact hF.r0 r hr q' (outM_mem.2 ⟨hq', hqi⟩) he⟩ hh.drawn
  have hwp := wp_region_any (id := id) (Q := QT C n (fun tm' mm' => Goes C f n Rr k tm' mm')) (ops := L.toArray) (a := a) (w := w) hmix (by simpa using hany)
  obtain ⟨e, a', w', hq, harr⟩ := hwp b k cs
  cases e with
  | normal =>
    obtain ⟨tm', mm', hg, hh'⟩ := hq
    obtain ⟨e, w'', fr, g1, g2, g3⟩ := hg a' w' hh' b cs hb hk
    exact ⟨e, w'', fr, g1, Comes.of_steps harr g2, g3⟩
  | _ => exact hq.elim
theorem g_drawE {f : FuncId} {Rr : Ending → World → Prop} {k : List Item} {id : Nat} (hmix : C.P.follows .mixedOrders = true) (hok : okR2 L [] L 0 = true) (hu : uniT (dstsE L) tm0 = true)
    (h : EOps C n mm0 L tm0 0 L tm0 [] (fun tm' mm' => Goes C f n Rr k tm' mm')) : Goes C f n Rr (.code (.region id L.toArray true) :: k) tm0 mm0 :=
  g_drawG [] hmix rfl rfl hok hu (by rw [outM_nil]; exact h)
end
end Go.Sy
namespace Go.Sy
open Go.RowKit
inductive OutE where
  | stop (i : Nat) (l : List Oper) (tm : TM) (R : List Rec)
  | bad
def goX (Θ : Tab) (n : Nat) (mm0 : MM) (L : List Oper) : Nat → List Oper → TM → List Rec → OutE
  | i, [], tm, R => .stop i [] tm R
  | i, o :: r, tm, R => match guardL L (onlyE (looksE L o) tm) o with
    | some true => match o.dst with
      | some d => match valE Θ (onlyE (looksE L o) tm) mm0 o.op with
        | some st => match setE n d st tm with
          | some tm' => goX Θ n mm0 L (i + 1) r tm' R
          | none => .stop i (o :: r) tm R
        | none => match o.op with
          | .alloc e => match tyGet Θ e with
            | some ⟨_, _, _, some zr, _⟩ => match hasI mm0 d with
              | false => match setE n d (.v (.one (.ptr d 0))) tm with
                | some tm' => goX Θ n mm0 L (i + 1) r tm' (⟨i, d, mkV.mapS SC.c zr, none, none⟩ :: R)
                | none => .stop i (o :: r) tm R
              | true => .stop i (o :: r) tm R
            | _ => .stop i (o :: r) tm R
          | _ => .stop i (o :: r) tm R
      | none => match o.op with
        | .store t x y => match tyGet Θ t with
          | some ⟨sz, _, _, _, _⟩ => match evalC (onlyE (looksE L o) tm) x with
            | some (.ptr d 0) => match findR d R with
              | some ⟨ra, rd, zr, none, none⟩ => match (memN (ons o.after.toList) ra || Nat.ble L.length ra) with
                | true => match evalV (onlyE (looksE L o) tm) y with
                  | some v => match v.cells.all SC.known with
                    | true => match Nat.beq v.cells.length sz with
                      | true => match spliceL zr 0 v.cells with
                        | some cs => goX Θ n mm0 L (i + 1) r tm (setRs d i cs R)
                        | none => .stop i (o :: r) tm R
                      | false => .stop i (o :: r) tm R
                    | false => .stop i (o :: r) tm R
                  | none => .stop i (o :: r) tm R
                | false => .stop i (o :: r) tm R
              | _ => .stop i (o :: r) tm R
            | _ => .stop i (o :: r) tm R
          | none => .stop i (o :: r) tm R
        | _ => .stop i (o :: r) tm R
    | some false => match o.dst with
      | some d => match setE n d (.tup []) tm with
        | some tm' => goX Θ n mm0 L (i + 1) r tm' R
        | none => .stop i (o :: r) tm R
      | none => .stop i (o :: r) tm R
    | none => .stop i (o :: r) tm R
section
variable {C : Ctx} {n : Nat} {mm0 : MM} {L : List Oper} {tm0 : TM} {T : TM → MM → Prop}
theorem mono_get {mm mm' : MM} (hb : ∀ q ∈ mm, q ∈ mm') (hu : ∀ p ∈ mm', ∀ q ∈ mm', p.1 = q.1 → p = q) : ∀ i o, getM mm i = some o → getM mm' i = some o :=
  fun i o h => getM_of_mem hu (hb _ (getM_mem h))
theorem goX_sound {Θ : Tab} (hΘ : tabOK C.P Θ) : ∀ {l : List Oper} {i : Nat} {tm : TM} {R : List Rec} {i' : Nat} {l' : List Oper} {tm' : TM} {R' : List Rec},
    goX Θ n mm0 L i l tm R = .stop i' l' tm' R' → EOps C n mm0 L tm0 i' l' tm' R' T → EOps C n mm0 L tm0 i l tm R T
  | [], i, tm, R, i', l', tm', R', h, k => by
    simp only [goX, OutE.stop.injEq] at h
    obtain ⟨rfl, rfl, rfl, rfl⟩ := h
    exact k
  | o :: r, i, tm, R, i', l', tm', R', h, k => by
    have same : OutE.stop i (o :: r) tm R = .stop i' l' tm' R' → EOps C n mm0 L tm0 i (o :: r) tm R T := by
      intro e
      injection e with e1 e2 e3 e4
      subst e1 e2 e3 e4
      exact k
    unfold goX at h
    split at h
    · rename_i hg
      split at h
      · rename_i d hd
        split at h
        · rename_i st hv
          split at h
          · rename_i tm1 hs
            obtain ⟨hn, rfl⟩ := setE_eq hs
            exact EOps.step hg (fun mm' hb hu => (valE_sound hΘ (valE_monoM (mono_get hb hu) hv) hd hn).toX) hd (goX_sound hΘ h k)
          · exact same h
        · split at h
          · rename_i e ho
            split at h
            · rename_i ht
              split at h
              · rename_i hfr
                split at h
                · rename_i tm1 hs
                  obtain ⟨hn, rfl⟩ := setE_eq hs
                  refine EOps.alloc hΘ hg ho ht hd hn hfr ?_
                  rw [← mapS_eq]
                  exact goX_sound hΘ h k
                · exact same h
              · exact same h
            · exact same h
          · exact same h
      · rename_i hd
        split at h
        · rename_i t x y ho
          split at h
          · rename_i ht
            split at h
            · rename_i d hx
              split at h
              · rename_i ra rd zr hf
                split at h
                · rename_i haf
                  split at h
                  · rename_i v hy
                    split at h
                    · rename_i hk
                      split at h
                      · rename_i hsz
                        split at h
                        · rename_i cs hsp
                          exact EOps.store hΘ hg ho ht hx hf rfl rfl haf hy hk hsz hsp hd (goX_sound hΘ h k)
                        · exact same h
                      · exact same h
                    · exact same h
                  · exact same h
                · exact same h
              · exact same h
            · exact same h
          · exact same h
        · exact same h
    · rename_i hg
      split at h
      · rename_i d hd
        split at h
        · rename_i tm1 hs
          obtain ⟨hn, rfl⟩ := setE_eq hs
          exact EOps.skip hg hd hn (goX_sound hΘ h k)
        · exact same h
      · exact same h
    · exact same h
def runX (Θ : Tab) (n : Nat) (mm0 : MM) (L : List Oper) (i : Nat) (l : List Oper) (tm : TM) (R : List Rec) : Option OutE :=
  match nrmT tm with
  | some tm' => match goX Θ n mm0 L i l tm' R with
    | .stop a b c d => some (.stop a b c d)
    | .bad => none
  | none => none
variable {tm tm' : TM} {l l' : List Oper} {R R' : List Rec} {i i' : Nat} {o : Oper} {d t : Nat} {s : ST}
theorem erun_ {Θ : Tab} (hΘ : tabOK C.P Θ) (h : runX Θ n mm0 L i l tm R = some (.stop i' l' tm' R')) (k : EOps C n mm0 L tm0 i' l' tm' R' T) : EOps C n mm0 L tm0 i l tm R T := by
  unfold runX at h
  split at h
  · rename_i tm1 h1
    rw [← nrmT_eq h1]
    split at h
    · rename_i a b c d h3
      injection h with h
      injection h with e1 e2 e3 e4
      subst e1 e2 e3 e4
      exact goX_sound hΘ h3 k
    · cases h
  · cases h
variable {x y : Operand} {ty ty' : TypeId}
theorem e_step {st : ST} (h : ∀ mm', OpV C n o (onlyE (looksE L o) tm) mm' d st) (hg : guardL L (onlyE (looksE L o) tm) o = some true) (hd : o.dst = some d) (k : EOps C n mm0 L tm0 (i + 1) l ((d, st) :: delL tm d) R T) :
    EOps C n mm0 L tm0 i (o :: l) tm R T := EOps.step hg (fun mm' _ _ => (h mm').toX) hd k
theorem e_idx {Θ : Tab} (hΘ : tabOK C.P Θ) {nn : Bool} {sz : Nat} {xs : List (List CT)} {kd : IntKind} {m : Int} {e : Nat} {z bts : Nat} {ag : Bool} {zr : Option (List CT)} {ei : TyI}
    (ho : o.op = .indexAddr ty x y) (ht : tyGet Θ ty = some ⟨z, bts, ag, zr, .slice e⟩) (hei : tyGet Θ e = some ei) (hx : evalC (onlyE (looksE L o) tm) x = some (.c (.slice nn sz xs))) (hsz : Nat.beq ei.size sz = true)
    (hi : evalC (onlyE (looksE L o) tm) y = some (.c (.int kd m))) (hd : o.dst = some d) (hn : Nat.blt d n = true) (hg : guardL L (onlyE (looksE L o) tm) o = some true)
    (j : Nat) (cs : List CT) (hm : m = (j : Int)) (hj : xs[j]? = some cs) (k : EOps C n mm0 L tm0 (i + 1) l ((d, .v (.one (.eptr cs))) :: delL tm d) R T) : EOps C n mm0 L tm0 i (o :: l) tm R T :=
  e_step (fun mm' => op_idx hΘ ho ht hei hsz hx hi hm hj hd hn) hg hd k
end
structure ConE (P : Program) (f : FuncId) (pre : List (List CT)) (args : List SV) (ι : Type) (Q : ι → Prop) (res : ι → ST) (post : ι → List (List CT)) : Prop where
  ok : CallOK P f
  calls : ∀ (w : World) (M0 : Nat → Prop) (H : Nat → Value) (Z : Nat → Nat) (vs : List Value), Pre w M0 H Z (preMM given pre) →
    Pw (fun v s => RepSV (Iof (preMM given pre)) H Z w (fun b => M0 b ∨ blksOf H (preMM given pre) b) v s) vs args →
    Calls P f vs.toArray w fun e w' => ∃ x, Q x ∧ ∃ v, e = .returned v ∧ Ext (blksOf H (preMM given pre)) w w' ∧
      (∀ p ∈ preMM given (post x), MemOK (Iof (preMM given pre)) H Z w' (fun b => M0 b ∨ blksOf H (preMM given pre) b) p.1 p.2) ∧
      RepST (Iof (preMM given pre)) H Z w' (fun b => M0 b ∨ blksOf H (preMM given pre) b) v (res x)
theorem Goes.weakR {C : Ctx} {f : FuncId} {n : Nat} {R R' : Ending → World → Prop} {t : List Item} {tm : TM} {mm : MM} (h : Goes C f n R t tm mm) (hR : ∀ e w, R e w → R' e w) : Goes C f n R' t tm mm := by
  intro a w hh b cs hb hk
  obtain ⟨e, w', fr, h1, h2⟩ := h a w hh b cs hb hk
  exact ⟨e, w', fr, hR e w' h1, h2⟩
end Go.Sy
namespace Go.Sy
open Go.RowKit
def dropU (i : Nat) : TM → TM
  | [] => []
  | (t, s) :: r => match memN s.uses i with
    | true => dropU i r
    | false => (t, s) :: dropU i r
theorem dropU_mem {i : Nat} {p : Nat × ST} : ∀ {l : TM}, p ∈ dropU i l → p ∈ l ∧ i ∉ p.2.uses
  | [], h => by cases h
  | (t, s) :: r, h => by
    unfold dropU at h
    split at h
    · obtain ⟨h1, h2⟩ := dropU_mem h; exact ⟨List.mem_cons_of_mem _ h1, h2⟩
    · rename_i hm
      rcases List.mem_cons.1 h with rfl | h
      · exact ⟨List.mem_cons_self, fun hk => by rw [memN_iff.2 hk] at hm; cases hm⟩
      · obtain ⟨h1, h2⟩ := dropU_mem h; exact ⟨List.mem_cons_of_mem _ h1, h2⟩
def noUse (i : Nat) : MM → Bool
  | [] => true
  | (_, o) :: r => match memN o.uses i with
    | true => false
    | false => noUse i r
theorem noUse_spec {i : Nat} {p : Nat × MO} : ∀ {l : MM}, noUse i l = true → p ∈ l → i ∉ p.2.uses
  | [], _, h => by cases h
  | (t, s) :: r, hn, h => by
    unfold noUse at hn
    split at hn
    · cases hn
    · rename_i hm
      rcases List.mem_cons.1 h with rfl | h
      · exact fun hk => by rw [memN_iff.2 hk] at hm; cases hm
      · exact noUse_spec hn h
def Elems (C : Ctx) (n : Nat) (tm : TM) (mm : MM) (y : Operand) (sz : Nat) (ys : List (List CT)) : Prop :=
  ∀ H Z a w, Mod C H Z n tm mm a w → (∀ q ∈ ys, q.length = sz) ∧ ∃ (ad : Addr) (c : Nat) (news : List Value), a.eval y = .slice (some ad) ys.length c ∧ news.length = ys.length * sz ∧ (∀ (j : Nat) (u : Value), news[j]? = some u → w.cell? (ad.add j) = some u) ∧
    (∀ (k : Nat) (q : List CT), ys[k]? = some q → ∀ (j : Nat) (ct : CT), q[j]? = some ct → ∃ u, news[k * sz + j]? = some u ∧ RepC w (Mof C H mm) u ct)
section
variable {C : Ctx} {n : Nat} {tm : TM} {mm : MM} {o : Oper} {d : Nat}
theorem one_of_elems {w : World} {M : Nat → Prop} {sz : Nat} {ys : List (List CT)} {news : List Value} (h0 : ∀ q ∈ ys, q.length = sz) (hl : news.length = ys.length * sz)
    (h : ∀ (k : Nat) (q : List CT), ys[k]? = some q → ∀ (j : Nat) (ct : CT), q[j]? = some ct → ∃ u, news[k * sz + j]? = some u ∧ RepC w M u ct) : ∀ u ∈ news, u.oneCell' = true := by
  intro u hu
  obtain ⟨m, hm, hmu⟩ := List.mem_iff_getElem.1 hu
  have hsz : 0 < sz := by
    rcases Nat.eq_zero_or_pos sz with h | h
    · subst h; omega
    · exact h
  have hk : m / sz < ys.length := by rw [Nat.div_lt_iff_lt_mul hsz]; omega
  have hj : m % sz < ys[m / sz].length := by rw [h0 _ (List.getElem_mem hk)]; exact Nat.mod_lt _ hsz
  obtain ⟨u', hu', hr⟩ := h (m / sz) ys[m / sz] (List.getElem?_eq_getElem hk) (m % sz) _ (List.getElem?_eq_getElem hj)
  have e : m / sz * sz + m % sz = m := by rw [Nat.mul_comm]; exact Nat.div_add_mod m sz
  rw [e, List.getElem?_eq_getElem hm, hmu] at hu'
  injection hu' with hu'
  rw [hu']; exact hr.one
theorem elems_own {y : Operand} {k e sz : Nat} {ys : List (List CT)} (hy : evalC tm y = some (.own k)) (hk : getM mm k = some (.arr true e sz ys)) : Elems C n tm mm y sz ys := by
  intro H Z a w hm
  obtain ⟨_, hv⟩ := evalC_rep hm hy
  obtain ⟨hz, us, hown, hnn, hlen, hrep⟩ := hm.mem _ (getM_mem hk)
  rcases hown.2 with ⟨h0, _⟩ | ⟨g, cap, cur, hg, h2⟩
  · exact absurd h0 (hnn rfl)
  · refine ⟨hlen, ⟨g, 0, none⟩, cap, us, by rw [hv, hg], hown.1, fun j u hu => ?_, hrep⟩
    exact World.ownsRow.cells hown (by rw [hg]; rfl) j u hu
theorem op_append {Θ : Tab} (hΘ : tabOK C.P Θ) {t : TypeId} {x y : Operand} {z bts e : Nat} {ag : Bool} {zt : Option (List CT)} {ei : TyI} {zr : List CT} {i : Nat} {nn : Bool} {sz : Nat} {xs ys : List (List CT)}
    (ho : o.op = .call { callee := .builtin .append, args := ⟨[x, y]⟩, argTypes := ⟨[t, t]⟩ }) (ht : tyGet Θ t = some ⟨z, bts, ag, zt, .slice e⟩) (hei : tyGet Θ e = some ei) (hz : ei.zero = some zr)
    (hsz : Nat.beq ei.size sz = true) (hs0 : Nat.blt 0 ei.size = true) (hx : evalC tm x = some (.own i)) (hi : getM mm i = some (.arr nn e sz xs)) (hy : Elems C n tm mm y sz ys)
    (hbig : xs.length + ys.length ≤ 9223372036854775807 ∧ (xs.length + ys.length) * ei.bytes ≤ 140737488355328) (hig : Nat.blt i given = true) (hno : noUse i mm = true) (hd : o.dst = some d) (hn : Nat.blt d n = true) :
    OpR C n o tm mm ((d, .v (.one (.own i))) :: delL (dropU i tm) d) (updM mm i (.arr false e sz (xs ++ ys))) := by
  intro a w ⟨H, Z, hm⟩
  obtain ⟨inf, de, hf⟩ := tyF hΘ ht
  obtain ⟨inf', de', hf'⟩ := tyF hΘ hei
  obtain ⟨zv, hzv, hzc, hzl⟩ := hf'.zero zr hz
  obtain ⟨hz1, _⟩ := zchk_cells (w := w) (M := Mof C H mm) hzc
  have hde : de = .slice e := by
    have := hf.sh
    cases de <;> simp [shChk] at this ⊢
    exact this
  subst hde
  have hszE : ei.size = sz := Nat.eq_of_beq_eq_true hsz
  subst hszE
  have hs0' : 0 < ei.size := Nat.blt_eq.mp hs0
  obtain ⟨_, hv⟩ := evalC_rep hm hx
  obtain ⟨hZ, us, hown, _, hlen, hrep⟩ := hm.mem _ (getM_mem hi)
  obtain ⟨hylen, ad, c, news, hyv, hnl, hcells, hyrep⟩ := hy H Z a w hm
  obtain ⟨v', w', hr, h2, h3, _, h5⟩ := run_append_own_at (P := C.P) w 0 t o.type e inf' zv ei.size ei.bytes hf.und hf'.info hzv hf'.size hf'.bytes (by rw [hz1, hzl]) hs0' (H i) xs.length us hown ad ys.length c news hnl hcells
    (one_of_elems hylen hnl hyrep) (by simp only [maxLen]; omega) hbig.2 (Nat.zero_le _)
  have hrun : (execOp a.eval o).run C.P w = .ok (.value v') w' := by
    unfold execOp
    simp only [ho, resolve, invoke, builtin, Sem.run_bind, Sem.run_pure, Result.andThen_ok, List.map_toArray, List.map_cons, List.map_nil, hv, hyv, hr]
  have hB' : ∀ b, Hb v' b ↔ v'.ownBlock = some b := fun b => Hb_own h2 b
  have hBi : ∀ b, Hb (H i) b ↔ (H i).ownBlock = some b := fun b => Hb_own hown b
  have hext : Ext (fun b => Hb (H i) b) w w' := ⟨h3.os, h3.tape, h3.output, h3.size, fun k hk hne => h3.block k hk (fun e => hne ((hBi _).2 (by first | exact e | exact e.symm)))⟩
  have hnew : ∀ b, Hb v' b → b < w'.heap.size := by
    intro b hb
    rcases h2.2 with ⟨rfl, _⟩ | ⟨g, cap, cur, rfl, _, hg, _⟩
    · simp [Hb, hblk] at hb
    · simp [Hb, hblk] at hb
      subst hb
      exact (Array.getElem?_eq_some_iff.1 hg).1
  have hig' : i < given := Nat.blt_eq.mp hig
  have hI : ∀ j, Iof mm j → Iof (updM mm i (.arr false e ei.size (xs ++ ys))) j := fun j hj => (updM_ids j).2 hj
  refine .inl ⟨v', w', hrun, upd H i v', Z, ?_⟩
  rw [hd]
  refine hm.build (fun b => Hb (H i) b) hext (fun b _ hb => ⟨_, getM_mem hi, hb⟩) (by simpa [Act.put] using hm.defers) (by simp [Act.put, hm.size]) ?_ ?_ ?_ ?_ ?_
  · intro p hp hpg
    have hpi : p.1 ≠ i := by omega
    rw [upd_ne _ _ hpi]
    rcases updM_mem p hp with ⟨rfl, _⟩ | ⟨k1, _⟩
    · exact absurd rfl hpi
    · exact hm.hg p k1 hpg
  · intro p hp q hq he
    rcases updM_mem p hp with ⟨rfl, _⟩ | ⟨k1, k2⟩ <;> rcases updM_mem q hq with ⟨rfl, _⟩ | ⟨k1', k2'⟩
    · rfl
    · exact absurd he.symm k2'
    · exact absurd he k2
    · exact hm.ids p k1 q k1' he
  · intro p hp
    rcases updM_mem p hp with ⟨rfl, _⟩ | ⟨k1, k2⟩
    · refine .inr ⟨fun b hb => ?_, fun hMM hfr => ?_⟩
      · rw [upd_self] at hb
        rcases h5 with h5 | h5
        · exact .inr ⟨_, getM_mem hi, (hBi b).2 (by rw [← h5]; exact (hB' b).1 hb), .inl rfl⟩
        · refine .inl ⟨?_, hnew b hb⟩
          replace hb := (hB' b).1 hb; rw [h5] at hb; injection hb with hb; omega
      · refine ⟨hZ, us ++ news, by rw [upd_self, List.length_append]; exact h2, (fun h => by cases h), fun q hq => ?_, fun k q hk j ct hc => ?_⟩
        · rcases List.mem_append.1 hq with hq | hq
          · exact hlen q hq
          · exact hylen q hq
        · have hul : us.length = xs.length * ei.size := hown.1
          rw [List.getElem?_append] at hk
          split at hk
          · rename_i hkl
            obtain ⟨u, hu, hr⟩ := hrep k q hk j ct hc
            refine ⟨u, ?_, RepC.mono hr h3.size hfr hMM⟩
            rw [List.getElem?_append_left (List.getElem?_eq_some_iff.1 hu).1]
            exact hu
          · rename_i hkl
            obtain ⟨u, hu, hr⟩ := hyrep _ q hk j ct hc
            refine ⟨u, ?_, RepC.mono hr h3.size hfr hMM⟩
            have hle : xs.length * ei.size ≤ k * ei.size := Nat.mul_le_mul_right _ (by omega)
            rw [List.getElem?_append_right (by rw [hul]; omega), hul]
            rw [Nat.sub_mul] at hu
            rw [← hu]; congr 1; omega
    · refine .inl ⟨k1, upd_ne _ _ k2, rfl, fun b hb hx => ?_, fun j hj hij => ⟨hI j hij, upd_ne _ _ (fun e => ?_), rfl⟩⟩
      · exact hm.sep p k1 _ (getM_mem hi) k2 b hb hx
      · subst e; exact noUse_spec hno k1 hj
  · intro p hp q hq hpq b hpb hqb
    have key : ∀ p ∈ mm, p.1 ≠ i → Hb (H p.1) b → Hb v' b → False := by
      intro p hp hpi h1 h2
      rcases h5 with h5 | h5
      · exact hm.sep p hp _ (getM_mem hi) hpi b h1 ((hBi b).2 (by rw [← h5]; exact (hB' b).1 h2))
      · replace h2 := (hB' b).1 h2; rw [h5] at h2
        injection h2 with h2
        have := (hm.fresh p hp b h1).2
        omega
    rcases updM_mem p hp with ⟨rfl, _⟩ | ⟨k1, k2⟩ <;> rcases updM_mem q hq with ⟨rfl, _⟩ | ⟨k1', k2'⟩
    · exact hpq rfl
    · rw [upd_self] at hpb; rw [upd_ne _ _ k2'] at hqb
      exact key q k1' k2' hqb hpb
    · rw [upd_self] at hqb; rw [upd_ne _ _ k2] at hpb
      exact key p k1 k2 hpb hqb
    · rw [upd_ne _ _ k2] at hpb; rw [upd_ne _ _ k2'] at hqb
      exact hm.sep p k1 q k1' hpq b hpb hqb
  · intro p hp
    rcases List.mem_cons.1 hp with rfl | hp
    · refine .inr fun _ _ => ?_
      rw [put_self (by rw [hm.size]; exact Nat.blt_eq.mp hn)]
      exact ⟨hI i ⟨_, getM_mem hi, rfl⟩, (upd_self _ _ _).symm⟩
    · obtain ⟨h1, h2'⟩ := delL_mem hp
      obtain ⟨h3', h4⟩ := dropU_mem h1
      exact .inl ⟨p, h3', rfl, put_other h2', fun j hj hij => ⟨hI j hij, upd_ne _ _ (fun e => h4 (e ▸ hj)), rfl⟩⟩
theorem Has.adopt {a : Act} {w : World} (t j e sz : Nat) (ht : getT tm t = some (.v (.one (.c .nils)))) (hj : Nat.blt j given = true) (hf : hasI mm j = false) (h : Has C n tm mm a w) :
    Has C n ((t, .v (.one (.own j))) :: delL tm t) ((j, .arr false e sz []) :: mm) a w := by
  obtain ⟨H, Z, hm⟩ := h
  have hni := hasI_false hf
  have hne : ∀ p ∈ mm, p.1 ≠ j := fun p hp e => hni ⟨p, hp, e⟩
  have hnj : ∀ k, Iof mm k → k ≠ j := fun k ⟨p, hp, e⟩ e' => hne p hp (e.trans e')
  have hI : ∀ k, Iof mm k → Iof ((j, MO.arr false e sz []) :: mm) k := fun k ⟨p, hp, e⟩ => ⟨p, List.mem_cons_of_mem _ hp, e⟩
  have hjg : j < given := Nat.blt_eq.mp hj
  refine ⟨upd H j (.slice none 0 0), upd Z j sz, hm.build (fun _ => False) (Ext.refl _ _) (fun _ _ h => h.elim) hm.defers hm.size ?_ ?_ ?_ ?_ ?_⟩
  · intro p hp hpg
    rcases List.mem_cons.1 hp with rfl | hp
    · simp only at hpg; omega
    · rw [upd_ne _ _ (hne p hp)]; exact hm.hg p hp hpg
  · intro p hp q hq he
    rcases List.mem_cons.1 hp with rfl | hp <;> rcases List.mem_cons.1 hq with rfl | hq
    · rfl
    · exact absurd he.symm (hne q hq)
    · exact absurd he (hne p hp)
    · exact hm.ids p hp q hq he
  · intro p hp
    rcases List.mem_cons.1 hp with rfl | hp
    · refine .inr ⟨fun b hb => by rw [upd_self] at hb; simp [Hb, hblk] at hb, fun _ _ => ⟨upd_self _ _ _, [], ?_, (fun h => by cases h), (fun q hq => by cases hq), fun k q hq => by simp at hq⟩⟩
      rw [upd_self]
      exact World.ownsRow_nil w 0 e sz
    · exact .inl ⟨hp, upd_ne _ _ (hne p hp), upd_ne _ _ (hne p hp), fun _ _ h => h, fun k _ hk => ⟨hI k hk, upd_ne _ _ (hnj k hk), upd_ne _ _ (hnj k hk)⟩⟩
  · intro p hp q hq hpq b hpb hqb
    rcases List.mem_cons.1 hp with rfl | hp
    · rw [upd_self] at hpb; simp [Hb, hblk] at hpb
    · rcases List.mem_cons.1 hq with rfl | hq
      · rw [upd_self] at hqb; simp [Hb, hblk] at hqb
      · rw [upd_ne _ _ (hne p hp)] at hpb
        rw [upd_ne _ _ (hne q hq)] at hqb
        exact hm.sep p hp q hq hpq b hpb hqb
  · intro p hp
    rcases List.mem_cons.1 hp with rfl | hp
    · refine .inr fun _ _ => ?_
      have : a.tmps.getD t undef = .slice none 0 0 := RepC.nils_inv (hm.tmps _ (getT_mem ht))
      exact ⟨⟨_, List.mem_cons_self, rfl⟩, by rw [upd_self]; exact this⟩
    · exact .inl ⟨p, (delL_mem hp).1, rfl, rfl, fun k _ hk => ⟨hI k hk, upd_ne _ _ (hnj k hk), upd_ne _ _ (hnj k hk)⟩⟩
end
section
variable {C : Ctx} {f : FuncId} {n : Nat} {R : Ending → World → Prop} {k : List Item} {tm : TM} {mm : MM} {L l : List Oper} {T : TM → MM → Prop} {o : Oper} {d : Nat}
theorem g_adopt (t j e sz : Nat) (ht : getT tm t = some (.v (.one (.c .nils)))) (hj : Nat.blt j given = true) (hf : hasI mm j = false)
    (g : Goes C f n R k ((t, .v (.one (.own j))) :: delL tm t) ((j, .arr false e sz []) :: mm)) : Goes C f n R k tm mm := g.mono fun _ _ h => h.adopt t j e sz ht hj hf
theorem s_append {Θ : Tab} (hΘ : tabOK C.P Θ) {t : TypeId} {x y : Operand} {z bts e : Nat} {ag : Bool} {zt : Option (List CT)} {ei : TyI} {zr : List CT} {i k e' : Nat} {nn : Bool} {sz : Nat} {xs ys : List (List CT)}
    (ho : o.op = .call { callee := .builtin .append, args := ⟨[x, y]⟩, argTypes := ⟨[t, t]⟩ }) (ht : tyGet Θ t = some ⟨z, bts, ag, zt, .slice e⟩) (hei : tyGet Θ e = some ei) (hz : ei.zero = some zr)
    (hsz : Nat.beq ei.size sz = true) (hs0 : Nat.blt 0 ei.size = true) (hx : evalC tm x = some (.own i)) (hi : getM mm i = some (.arr nn e sz xs)) (hy : evalC tm y = some (.own k)) (hk : getM mm k = some (.arr true e' sz ys))
    (hig : Nat.blt i given = true) (hno : noUse i mm = true) (hd : o.dst = some d) (hn : Nat.blt d n = true) (hg : guardL L tm o = some true)
    (hbig : xs.length + ys.length ≤ 9223372036854775807 ∧ (xs.length + ys.length) * ei.bytes ≤ 140737488355328)
    (g : SOps C n L.toArray l ((d, .v (.one (.own i))) :: delL (dropU i tm) d) (updM mm i (.arr false e sz (xs ++ ys))) T) : SOps C n L.toArray (o :: l) tm mm T :=
  s_step (op_append hΘ ho ht hei hz hsz hs0 hx hi (elems_own hy hk) hbig hig hno hd hn).wp hg g
end
theorem g_endL {P : Program} {w0 : World} {M0 : Nat → Prop} {f : FuncId} {n : Nat} {tm : TM} {mm : MM} {pre post : List (List CT)} {H : Nat → Value} {Z : Nat → Nat} {Θ : Tab} (hΘ : tabOK P Θ)
    {fn : Func} (hf : P.funcs[f]? = some fn) {rs : List SV} {res : ST} {post' : List (List CT)} {t : List Item} (ht : t = [] ∨ ∃ k, t = .code .ret :: k)
    (hr : resE Θ tm mm fn.results.toList = some rs) (hp : pureS (packS rs) = true) (hpost : postE mm given pre.length = some post')
    (he : LeT (packS rs) res) (hp' : post' = post) :
    Goes ⟨P, w0, M0, blksOf H (preMM given pre), H, fun _ => False, fun _ h => h.elim⟩ f n (EndR H Z pre post w0 M0 res) t tm mm :=
  (g_end hΘ hf ht hr hp hpost ⟨rfl, hp'⟩).weakR fun e w ⟨v, h1, h2, h3, h4⟩ => ⟨v, h1, h2, h3, he.rep h4⟩
theorem g_freeze {C : Ctx} {f : FuncId} {n : Nat} {R : Ending → World → Prop} {k : List Item} {tm : TM} {mm : MM} (i : Nat) {nn : Bool} {e sz : Nat} {xs : List (List CT)} (hi : getM mm i = some (.arr nn e sz xs)) (hg : Nat.blt i given = true)
    (g : Goes C f n R k (subT i (.c (.slice nn sz xs)) tm) (subM i (.c (.slice nn sz xs)) mm)) : Goes C f n R k tm mm := g.mono fun _ _ h => h.freeze hi hg
theorem s_freeze {C : Ctx} {n : Nat} {L l : List Oper} {T : TM → MM → Prop} {tm : TM} {mm : MM} (i : Nat) {nn : Bool} {e sz : Nat} {xs : List (List CT)} (hi : getM mm i = some (.arr nn e sz xs)) (hg : Nat.blt i given = true)
    (g : SOps C n L.toArray l (subT i (.c (.slice nn sz xs)) tm) (subM i (.c (.slice nn sz xs)) mm) T) : SOps C n L.toArray l tm mm T := g.mono fun _ _ h => h.freeze hi hg
end Go.Sy
