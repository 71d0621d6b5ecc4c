/- Symbolic states: regions that draw their order and make variables: the theorem. -/
import Derived.Test.YthjpcefjgmklfaaSymO
namespace Go.Sy
set_option linter.unusedSimpArgs false
set_option linter.unusedVariables false
set_option linter.unusedSectionVars false
open Go.RowKit

theorem getM_of_mem {mm : MM} (hu : ∀ p ∈ mm, ∀ q ∈ mm, p.1 = q.1 → p = q) {i : Nat} {o : MO} (h : (i, o) ∈ mm) : getM mm i = some o := by
  cases hg : getM mm i with
  | none => exact absurd ⟨_, h, rfl⟩ (getM_none hg)
  | some o' =>
    have := hu _ (getM_mem hg) _ h rfl
    injection this with _ e; rw [e]

theorem mem_updM {i : Nat} {o : MO} {p : Nat × MO} : ∀ {mm : MM}, ((p = (i, o) ∧ Iof mm i) ∨ (p ∈ mm ∧ p.1 ≠ i)) → p ∈ updM mm i o
  | [], h => by
    rcases h with ⟨_, q, hq, _⟩ | ⟨h, _⟩
    · cases hq
    · cases h
  | (e, u) :: r, h => by
    unfold updM
    cases hb : Nat.beq e i with
    | true =>
      have he : e = i := Nat.eq_of_beq_eq_true hb
      subst he
      rcases h with ⟨rfl, _⟩ | ⟨h, hne⟩
      · exact List.mem_cons_self
      · rcases List.mem_cons.1 h with rfl | h
        · exact absurd rfl hne
        · exact List.mem_cons_of_mem _ (mem_updM (.inr ⟨h, hne⟩))
    | false =>
      have hne : e ≠ i := fun e' => by subst e'; simp at hb
      rcases h with ⟨rfl, q, hq, hqi⟩ | ⟨h, hn⟩
      · rcases List.mem_cons.1 hq with rfl | hq
        · exact absurd hqi hne
        · exact List.mem_cons_of_mem _ (mem_updM (.inl ⟨rfl, q, hq, hqi⟩))
      · rcases List.mem_cons.1 h with rfl | h
        · exact List.mem_cons_self
        · exact List.mem_cons_of_mem _ (mem_updM (.inr ⟨h, hn⟩))

/-- A variable that the region makes: by the operation a; what st says: by the operation b it is set. -/
structure Rec where
  a : Nat
  d : Nat
  zr : List SC
  st : Option (Nat × List SC)

def Rec.now (r : Rec) (listed : Array Bool) : List SC :=
  match r.st with
  | some (b, cs) => if listed.getD b false = true then cs else r.zr
  | none => r.zr
def Rec.fin (r : Rec) : List SC :=
  match r.st with
  | some (_, cs) => cs
  | none => r.zr
def mmOf : List Rec → MM → MM
  | [], mm => mm
  | r :: l, mm => (r.d, .box r.fin) :: mmOf l mm
theorem mmOf_mem {mm : MM} {q : Nat × MO} : ∀ {R : List Rec}, q ∈ mmOf R mm → q ∈ mm ∨ ∃ r ∈ R, q = (r.d, .box r.fin)
  | [], h => .inl h
  | r :: R, h => by
    unfold mmOf at h
    rcases List.mem_cons.1 h with rfl | h
    · exact .inr ⟨r, List.mem_cons_self, rfl⟩
    · rcases mmOf_mem h with h | ⟨r', h1, h2⟩
      · exact .inl h
      · exact .inr ⟨r', List.mem_cons_of_mem _ h1, h2⟩

section
variable {C : Ctx} {n : Nat} {mm0 : MM} {L : List Oper}

def Looked (L : List Oper) (tm : TM) (o : Oper) (tm' : TM) : Prop := ∀ p ∈ tm, p.1 ∈ looksE L o → p ∈ tm'

inductive OkE (C : Ctx) (n : Nat) (mm0 : MM) (L : List Oper) (tm : TM) (R : List Rec) (i : Nat) (o : Oper) : Prop
  | val (d : Nat) (s : ST) (hd : o.dst = some d) (hin : (d, s) ∈ tm)
      (hr : ∀ r ∈ R, r.a ≠ i ∧ ∀ b cs, r.st = some (b, cs) → b ≠ i)
      (h : ∀ tm' mm', Looked L tm o tm' → (∀ q ∈ mm0, q ∈ mm') → ∀ (a : Act) (w : World) (K : Act → World → Prop) (Q : Exit → Act → World → Prop), Has C n tm' mm' a w →
        (∀ a' w', Has C n ((d, s) :: delL tm' d) mm' a' w' → K a' w') →
        if Region.wanted o (yielded L.toArray a.tmps) then o.wp C.P a w K Q else K (a.put o.dst undef) w)
  | new (d : Nat) (s : ST) (r : Rec) (hd : o.dst = some d) (hin : (d, s) ∈ tm) (hrin : r ∈ R) (hra : r.a = i) (hrd : r.d = d) (hrb : ∀ b cs, r.st = some (b, cs) → b ≠ i)
      (hr : ∀ r' ∈ R, r' = r ∨ (r'.a ≠ i ∧ ∀ b cs, r'.st = some (b, cs) → b ≠ i))
      (h : ∀ tm' mm', Looked L tm o tm' → (∀ q ∈ mm', q.1 ≠ d) → ∀ (a : Act) (w : World) (K : Act → World → Prop) (Q : Exit → Act → World → Prop), Has C n tm' mm' a w →
        (∀ a' w', Has C n ((d, s) :: delL tm' d) ((d, .box r.zr) :: mm') a' w' → K a' w') →
        if Region.wanted o (yielded L.toArray a.tmps) then o.wp C.P a w K Q else K (a.put o.dst undef) w)
  | set (r : Rec) (cs : List SC) (hd : o.dst = none) (hrin : r ∈ R) (hst : r.st = some (i, cs)) (hra : r.a ∈ ons o.after.toList)
      (hr : ∀ r' ∈ R, r' = r ∨ (r'.a ≠ i ∧ ∀ b cs, r'.st = some (b, cs) → b ≠ i)) (hai : r.a ≠ i)
      (h : ∀ tm' mm', Looked L tm o tm' → (r.d, .box r.zr) ∈ mm' → ∀ (a : Act) (w : World) (K : Act → World → Prop) (Q : Exit → Act → World → Prop), Has C n tm' mm' a w →
        (∀ a' w', Has C n tm' (updM mm' r.d (.box cs)) a' w' → K a' w') →
        if Region.wanted o (yielded L.toArray a.tmps) then o.wp C.P a w K Q else K (a.put o.dst undef) w)

/-- The region's own form. -/
def freeE2 (L : List Oper) (d : Nat) : List Oper → Bool
  | [] => true
  | o :: r => match memN (looksE L o) d with
    | true => false
    | false => match o.dst with
      | none => freeE2 L d r
      | some e => match Nat.beq e d with
        | true => false
        | false => freeE2 L d r
def okR2 (L : List Oper) : List Oper → List Oper → Nat → Bool
  | _, [], _ => true
  | ahead, o :: r, i => match waitE (looksE L o) (ons o.after.toList) L 0, allLt (ons o.after.toList) i with
    | true, true => match o.dst with
      | none => okR2 L (o :: ahead) r (i + 1)
      | some d => match freeE2 L d ahead, memN (looksE L o) d with
        | true, false => okR2 L (o :: ahead) r (i + 1)
        | _, _ => false
    | _, _ => false

theorem freeE2_spec {d : Nat} : ∀ {l : List Oper}, freeE2 L d l = true → ∀ o ∈ l, o.dst ≠ some d ∧ d ∉ looksE L o
  | [], _, o, ho => by cases ho
  | a :: l, h, o, ho => by
    unfold freeE2 at h
    split at h
    · cases h
    · rename_i hm
      have hl : d ∉ looksE L a := fun hk => by rw [memN_iff.2 hk] at hm; cases hm
      split at h
      · rename_i he
        rcases List.mem_cons.1 ho with rfl | ho
        · exact ⟨fun e => (by rw [he] at e; cases e), hl⟩
        · exact freeE2_spec h o ho
      · rename_i e he
        split at h
        · cases h
        · rename_i hb
          rcases List.mem_cons.1 ho with rfl | ho
          · exact ⟨fun e' => (by rw [he] at e'; injection e' with e'; subst e'; simp at hb), hl⟩
          · exact freeE2_spec h o ho
theorem okR2_cons {ahead l : List Oper} {o : Oper} {i : Nat} (h : okR2 L ahead (o :: l) i = true) :
    waitE (looksE L o) (ons o.after.toList) L 0 = true ∧ allLt (ons o.after.toList) i = true ∧ okR2 L (o :: ahead) l (i + 1) = true ∧
    ∀ d, o.dst = some d → freeE2 L d ahead = true ∧ d ∉ looksE L o := by
  unfold okR2 at h
  split at h
  · rename_i h1 h2
    split at h
    · rename_i hd; exact ⟨h1, h2, h, fun d e => (by rw [hd] at e; cases e)⟩
    · rename_i d hd
      split at h
      · rename_i h3 h4
        refine ⟨h1, h2, h, fun d' e => ?_⟩
        rw [hd] at e; injection e with e; subst e
        exact ⟨h3, fun hk => (by rw [memN_iff.2 hk] at h4; cases h4)⟩
      · cases h
  · cases h
theorem okR2_get : ∀ {l ahead : List Oper} {i : Nat}, okR2 L ahead l i = true → ∀ (k : Nat) (o : Oper), l[k]? = some o →
    waitE (looksE L o) (ons o.after.toList) L 0 = true ∧ allLt (ons o.after.toList) (i + k) = true
  | [], _, _, _, k, o, ho => by simp at ho
  | a :: l, ahead, i, h, k, o, ho => by
    obtain ⟨h4, h5, h6, _⟩ := okR2_cons h
    cases k with
    | zero => simp at ho; subst ho; exact ⟨h4, h5⟩
    | succ k =>
      have := okR2_get h6 k o (by simpa using ho)
      rwa [show i + 1 + k = i + (k + 1) by omega] at this

/-- What holds of the variables while the region is under way. -/
structure ObjInv (mm0 : MM) (R : List Rec) (listed : Array Bool) (mm : MM) : Prop where
  base : ∀ q ∈ mm0, q ∈ mm
  recs : ∀ r ∈ R, listed.getD r.a false = true → (r.d, MO.box (r.now listed)) ∈ mm
  order : ∀ r ∈ R, ∀ b cs, r.st = some (b, cs) → listed.getD b false = true → listed.getD r.a false = true
  only : ∀ q ∈ mm, (∃ q' ∈ mm0, q'.1 = q.1) ∨ ∃ r ∈ R, r.d = q.1 ∧ listed.getD r.a false = true

theorem getD_set_self {listed : Array Bool} {i : Nat} (h : i < listed.size) : (listed.setIfInBounds i true).getD i false = true := by
  simp [Array.getD, h]

theorem has_uniq {tm : TM} {mm : MM} {a : Act} {w : World} (h : Has C n tm mm a w) : ∀ p ∈ mm, ∀ q ∈ mm, p.1 = q.1 → p = q := by
  obtain ⟨H, Z, hm⟩ := h
  exact hm.ids

/-- Less is known. -/
theorem Has.less {tm tm' : TM} {mm mm' : MM} {a : Act} {w : World} (h : Has C n tm mm a w) (ht : ∀ p ∈ tm', p ∈ tm) (hm : ∀ q ∈ mm', q ∈ mm) (hok : okT mm' tm' = true) (hokm : okM mm' mm' = true) : Has C n tm' mm' a w := by
  obtain ⟨H, Z, hmod⟩ := h
  have hM : ∀ b, b < w.heap.size → Mof C H mm' b → Mof C H mm b := by
    rintro b _ (hb | ⟨p, hp, hpb⟩)
    · exact .inl hb
    · exact .inr ⟨_, hm p hp, hpb⟩
  refine ⟨H, Z, hmod.defers, hmod.size, hmod.nle, fun p hp => hmod.hg p (hm p hp), hmod.ext, hmod.m0, fun p hp q hq => hmod.ids p (hm p hp) q (hm q hq), ?_, fun p hp => hmod.fresh p (hm p hp), fun p hp q hq => hmod.sep p (hm p hp) q (hm q hq), ?_⟩
  · intro p hp
    exact (hmod.mem _ (hm p hp)).mono ⟨rfl, rfl⟩ (fun _ _ => rfl) (fun j hj _ => ⟨okM_spec hokm p hp j hj, rfl, rfl⟩) (Nat.le_refl _) (fun _ _ _ => rfl) hM
  · intro p hp
    exact (hmod.tmps _ (ht p hp)).mono (fun j hj _ => ⟨okT_spec hok p hp j hj, rfl, rfl⟩) (Nat.le_refl _) (fun _ _ _ => rfl) hM

theorem any_okE {tmF : TM} {R : List Rec} (hok : okR2 L [] L 0 = true) (hF : ∀ (i : Nat) (o : Oper), L[i]? = some o → OkE C n mm0 L tmF R i o)
    (keyF : ∀ p ∈ tmF, ∀ q ∈ tmF, p.1 = q.1 → p = q) (hRd : ∀ r ∈ R, ∀ r' ∈ R, r.d = r'.d → r = r') (hR0 : ∀ r ∈ R, ∀ q ∈ mm0, q.1 ≠ r.d) (hRl : ∀ r ∈ R, r.a < L.length ∧ ∀ b cs, r.st = some (b, cs) → b < L.length)
    (hokT : okT (mmOf R mm0) tmF = true) (hokM : okM (mmOf R mm0) (mmOf R mm0) = true) {P : TM → MM → Prop} (hP : P tmF (mmOf R mm0)) :
    ∀ (fuel : Nat) (listed : Array Bool) (a : Act) (w : World) (tm : TM) (mm : MM), listed.size = L.length → (listed.toList.filter (!·)).length ≤ fuel → (∀ p, keepT L listed tmF p → p ∈ tm) → ObjInv mm0 R listed mm → Has C n tm mm a w →
      wpAny C.P .any L.toArray (QT C n P) fuel listed a w := by
  have hready : ∀ (listed : Array Bool), listed.size = L.length → Region.ready .any L.toArray listed = [] → ∀ k, k < L.length → listed.getD k false = true := by
    intro listed hsz hr k
    induction k using Nat.strongRecOn with
    | _ k ih =>
      intro hk
      cases hl : listed.getD k false with
      | true => rfl
      | false =>
        have hmem : k ∈ Region.ready .any L.toArray listed := by
          rw [mem_ready]
          refine ⟨?_, L[k], by simp [hk], fun e he hb => ?_⟩
          · have hks : k < listed.size := by omega
            simp [Array.getD, hks] at hl ⊢; exact hl
          · obtain ⟨_, h3⟩ := okR2_get hok k L[k] (List.getElem?_eq_getElem hk)
            have : e.on ∈ ons L[k].after.toList := by
              have key : ∀ l : List Edge, e ∈ l → e.on ∈ ons l := by
                intro l
                induction l with
                | nil => intro h; cases h
                | cons x l ih =>
                  intro h
                  unfold ons
                  rcases List.mem_cons.1 h with rfl | h
                  · rw [hb]; exact List.mem_cons_self
                  · split
                    · exact List.mem_cons_of_mem _ (ih h)
                    · exact ih h
              exact key _ (by simpa using he)
            have hlt := allLt_spec h3 _ this
            exact ih e.on (by omega) (by omega)
        rw [hr] at hmem; cases hmem
  have hdone : ∀ (listed : Array Bool) (a : Act) (w : World) (tm : TM) (mm : MM), listed.size = L.length → (∀ p, keepT L listed tmF p → p ∈ tm) → ObjInv mm0 R listed mm → Has C n tm mm a w → Region.ready .any L.toArray listed = [] → QT C n P .normal a w := by
    intro listed a w tm mm hsz hk ho hh hr
    refine ⟨tmF, mmOf R mm0, hP, hh.less (fun p hp => hk p ⟨hp, ?_⟩) (fun q hq => ?_) hokT hokM⟩
    · by_cases hd : p.1 ∈ dstsE L
      · obtain ⟨k, o, h1, h2⟩ := dstsE_get hd
        exact .inr ⟨k, o, h1, h2, hready listed hsz hr k (List.getElem?_eq_some_iff.1 h1).1⟩
      · exact .inl hd
    · rcases mmOf_mem hq with hq | ⟨r, h1, rfl⟩
      · exact ho.base q hq
      · have h2 := ho.recs r h1 (hready listed hsz hr r.a (hRl r h1).1)
        have : r.now listed = r.fin := by
          unfold Rec.now Rec.fin
          split
          · rename_i b cs hb
            rw [if_pos (hready listed hsz hr b ((hRl r h1).2 b cs hb))]
          · rfl
        rwa [this] at h2
  intro fuel
  induction fuel with
  | zero =>
    intro listed a w tm mm hsz hc hk ho hh
    have hr : Region.ready .any L.toArray listed = [] := by
      rw [List.eq_nil_iff_forall_not_mem]
      intro j hj
      obtain ⟨h1, o, h2, _⟩ := mem_ready.1 hj
      have hjl : j < listed.size := by rw [hsz]; simpa using (Array.getElem?_eq_some_iff.1 h2).1
      have : listed[j] = false := by simpa [Array.getD, hjl] using h1
      have hm : false ∈ listed.toList.filter (!·) := by
        rw [List.mem_filter]; exact ⟨by rw [← this]; simp, rfl⟩
      have := List.length_pos_of_mem hm
      omega
    exact ⟨hr, hdone listed a w tm mm hsz hk ho hh hr⟩
  | succ fuel ih =>
    intro listed a w tm mm hsz hc hk ho hh
    refine ⟨hdone listed a w tm mm hsz hk ho hh, fun i hi => ?_⟩
    obtain ⟨h1, o, h2, h3⟩ := mem_ready.1 hi
    have hL : L[i]? = some o := by simpa using h2
    have hil : i < L.length := (List.getElem?_eq_some_iff.1 hL).1
    have his : i < listed.size := by omega
    have hfalse : listed[i] = false := by simpa [Array.getD, his] using h1
    have hfalse' : listed.getD i false = false := by simpa [Array.getD, his] using hfalse
    obtain ⟨hw, _⟩ := okR2_get hok i o hL
    have hon : ∀ j, j ∈ ons o.after.toList → listed.getD j false = true := by
      have key : ∀ l : List Edge, (∀ e ∈ l, e ∈ o.after) → ∀ j, j ∈ ons l → listed.getD j false = true := by
        intro l
        induction l with
        | nil => intro _ j h; simp [ons] at h
        | cons x l ih =>
          intro hl j h
          unfold ons at h
          split at h
          · rename_i hb
            rcases List.mem_cons.1 h with rfl | h
            · exact h3 x (hl x List.mem_cons_self) hb
            · exact ih (fun e he => hl e (List.mem_cons_of_mem _ he)) j h
          · exact ih (fun e he => hl e (List.mem_cons_of_mem _ he)) j h
      exact key _ (fun e he => by simpa using he)
    have hpre : Looked L tmF o tm := by
      intro p hp hl
      refine hk p ⟨hp, ?_⟩
      by_cases hd : p.1 ∈ dstsE L
      · obtain ⟨k, o', k1, k2⟩ := dstsE_get hd
        have := waitE_spec hw k o' p.1 k1 k2 hl
        exact .inr ⟨k, o', k1, k2, hon k (by simpa using this)⟩
      · exact .inl hd
    have hcount : ((listed.setIfInBounds i true).toList.filter (!·)).length ≤ fuel := by
      have h5 : ((listed.setIfInBounds i true).toList.filter (!·)).length + 1 = (listed.toList.filter (!·)).length := by
        rw [show (listed.setIfInBounds i true).toList = listed.toList.set i true by simp]
        exact count_set (by simp [his, hfalse])
      omega
    have hsz' : (listed.setIfInBounds i true).size = L.length := by simpa using hsz
    have other : ∀ k, k ≠ i → (listed.setIfInBounds i true).getD k false = listed.getD k false := fun k hk => getD_set_ne false (Ne.symm hk)
    have hkeepD : ∀ d s, o.dst = some d → (d, s) ∈ tmF → ∀ p, keepT L (listed.setIfInBounds i true) tmF p → p ∈ (d, s) :: delL tm d := by
      intro d s e1 e2 p hp
      obtain ⟨g1, g2⟩ := hp
      by_cases hpd : p.1 = d
      · have : p = (d, s) := keyF p g1 (d, s) e2 hpd
        rw [this]; exact List.mem_cons_self
      · refine List.mem_cons_of_mem _ (mem_delL (hk p ⟨g1, ?_⟩) hpd)
        rcases g2 with g2 | ⟨k, o', k1, k2, k3⟩
        · exact .inl g2
        · refine .inr ⟨k, o', k1, k2, ?_⟩
          have hki : i ≠ k := by
            intro e; subst e
            rw [hL] at k1; injection k1 with k1; subst k1
            rw [e1] at k2; injection k2 with k2; exact hpd k2.symm
          rwa [getD_set_ne false hki] at k3
    have hnow : ∀ r : Rec, (∀ b cs, r.st = some (b, cs) → b ≠ i) → r.now (listed.setIfInBounds i true) = r.now listed := by
      intro r hr
      unfold Rec.now
      split
      · rename_i b cs hb; rw [other b (hr b cs hb)]
      · rfl
    unfold wpOp
    simp only [List.getElem?_toArray, hL]
    have fin : ∀ {K : Prop} {W : Prop} [Decidable W] {A B : Prop}, (if W then A else K) → (if W then A ∨ B else K) := by
      intro K W _ A B h
      split
      · rename_i hw; rw [if_pos hw] at h; exact .inl h
      · rename_i hw; rw [if_neg hw] at h; exact h
    refine fin ?_
    cases hF i o hL with
    | val d s e1 e2 hr h =>
      refine h tm mm hpre ho.base a w _ (QT C n P) hh (fun a' w' h' => ih _ a' w' _ mm hsz' hcount (hkeepD d s e1 e2) ⟨ho.base, fun r hrin hl => ?_, fun r hrin b cs hst hl => ?_, fun q hq => ?_⟩ h')
      · obtain ⟨r1, r2⟩ := hr r hrin
        rw [other _ r1] at hl
        rw [hnow r r2]
        exact ho.recs r hrin hl
      · rw [other _ ((hr r hrin).2 b cs hst)] at hl
        rw [other _ (hr r hrin).1]
        exact ho.order r hrin b cs hst hl
      · rcases ho.only q hq with h | ⟨r, g1, g2, g3⟩
        · exact .inl h
        · exact .inr ⟨r, g1, g2, by rw [other _ (hr r g1).1]; exact g3⟩
    | new d s r e1 e2 hrin hra hrd hrb hr h =>
      refine h tm mm hpre (fun q hq e => ?_) a w _ (QT C n P) hh (fun a' w' h' => ih _ a' w' _ _ hsz' hcount (hkeepD d s e1 e2) ⟨fun q hq => List.mem_cons_of_mem _ (ho.base q hq), fun r' hrin' hl => ?_, fun r' hrin' b cs hst hl => ?_, fun q hq => ?_⟩ h')
      · rcases ho.only q hq with ⟨q', g1, g2⟩ | ⟨r', g1, g2, g3⟩
        · exact hR0 r hrin q' g1 (by rw [g2, e, hrd])
        · have : r' = r := hRd r' g1 r hrin (by rw [g2, e, hrd])
          subst this
          rw [hra, hfalse'] at g3; cases g3
      · rcases hr r' hrin' with rfl | ⟨g1, g2⟩
        · rw [hnow _ hrb]
          have : r'.now listed = r'.zr := by
            unfold Rec.now
            split
            · rename_i b cs hb
              have hbl : listed.getD b false = false := by
                cases hv : listed.getD b false with
                | false => rfl
                | true =>
                  have := ho.order r' hrin b cs hb hv
                  rw [hra, hfalse'] at this; cases this
              rw [hbl]; simp
            · rfl
          rw [this, hrd]
          exact List.mem_cons_self
        · rw [other _ g1] at hl
          rw [hnow r' g2]
          exact List.mem_cons_of_mem _ (ho.recs r' hrin' hl)
      · rcases hr r' hrin' with rfl | ⟨g1, g2⟩
        · rw [hra]; exact getD_set_self his
        · rw [other _ (g2 b cs hst)] at hl
          rw [other _ g1]
          exact ho.order r' hrin' b cs hst hl
      · rcases List.mem_cons.1 hq with rfl | hq
        · exact .inr ⟨r, hrin, hrd, by rw [hra]; exact getD_set_self his⟩
        · rcases ho.only q hq with h | ⟨r', g1, g2, g3⟩
          · exact .inl h
          · refine .inr ⟨r', g1, g2, ?_⟩
            by_cases hki : r'.a = i
            · rw [hki]; exact getD_set_self his
            · rw [other _ hki]; exact g3
    | set r cs e1 hrin hst hra hr hai h =>
      have hla : listed.getD r.a false = true := hon _ hra
      have hin := ho.recs r hrin hla
      have hzr : r.now listed = r.zr := by
        unfold Rec.now
        rw [hst]
        simp [hfalse']
      rw [hzr] at hin
      have hup : ∀ q ∈ mm, q.1 ≠ r.d → q ∈ updM mm r.d (.box cs) := fun q hq hne => (mem_updM (.inr ⟨hq, hne⟩))
      refine h tm mm hpre hin a w _ (QT C n P) hh (fun a' w' h' => ih _ a' w' tm _ hsz' hcount (fun p hp => hk p ⟨hp.1, ?_⟩) ⟨fun q hq => hup q (ho.base q hq) (hR0 r hrin q hq), fun r' hrin' hl => ?_, fun r' hrin' b cs' hst' hl => ?_, fun q hq => ?_⟩ h')
      · rcases hp.2 with g2 | ⟨k, o', k1, k2, k3⟩
        · exact .inl g2
        · have hki : k ≠ i := by
            intro e; subst e
            rw [hL] at k1; injection k1 with k1; subst k1
            rw [e1] at k2; cases k2
          exact .inr ⟨k, o', k1, k2, by rwa [other k hki] at k3⟩
      · rcases hr r' hrin' with rfl | ⟨g1, g2⟩
        · have : r'.now (listed.setIfInBounds i true) = cs := by
            unfold Rec.now
            rw [hst]
            simp only [getD_set_self his, if_true]
          rw [this]
          exact mem_updM (.inl ⟨rfl, _, hin, rfl⟩)
        · rw [other _ g1] at hl
          rw [hnow r' g2]
          refine hup _ (ho.recs r' hrin' hl) (fun e => ?_)
          have := hRd r' hrin' r hrin e
          subst this
          exact (g2 i cs hst) rfl
      · rcases hr r' hrin' with rfl | ⟨g1, g2⟩
        · rw [other _ hai]; exact hla
        · rw [other _ (g2 b cs' hst')] at hl
          rw [other _ g1]
          exact ho.order r' hrin' b cs' hst' hl
      · have hq' : ∃ q' ∈ mm, q'.1 = q.1 := by
          rcases updM_mem q hq with ⟨rfl, q', ho', he⟩ | ⟨hq, _⟩
          · exact ⟨q', ho', he⟩
          · exact ⟨q, hq, rfl⟩
        obtain ⟨q', hq1, hq2⟩ := hq'
        rw [← hq2]
        rcases ho.only q' hq1 with h | ⟨r', g1, g2, g3⟩
        · exact .inl h
        · refine .inr ⟨r', g1, g2, ?_⟩
          by_cases hki : r'.a = i
          · rw [hki]; exact getD_set_self his
          · rw [other _ hki]; exact g3
end
end Go.Sy
