/- Symbolic states: regions that draw their order. -/
import Derived.Test.YthjpcefjgmklfaaSymL
import Derived.Orders
namespace Go.Sy
set_option linter.unusedSimpArgs false
set_option linter.unusedVariables false
set_option linter.unusedSectionVars false
open Go.RowKit

theorem Has.incl {C : Ctx} {n : Nat} {tm tm' : TM} {mm : MM} {a : Act} {w : World} (h : Has C n tm mm a w) (hs : ∀ p ∈ tm', p ∈ tm) : Has C n tm' mm a w := by
  obtain ⟨H, Z, hm⟩ := h
  exact ⟨H, Z, hm.sub hs⟩

/-- An operation with what it reads alone: whatever else is known stays. -/
def OpX (C : Ctx) (n : Nat) (mm : MM) (o : Oper) (tmr : TM) (d : Nat) (s : ST) : Prop :=
  (o.dst = some d ∧ Nat.blt d n = true) ∧ ∀ tm' : TM, (∀ p ∈ tmr, p ∈ tm') → OpW C n o tm' mm ((d, s) :: delL tm' d) mm

theorem OpV.toX {C : Ctx} {n : Nat} {mm : MM} {o : Oper} {tmr : TM} {d : Nat} {s : ST} (h : OpV C n o tmr mm d s) : OpX C n mm o tmr d s := by
  refine ⟨h.1, fun tm' hs => ?_⟩
  refine OpV.wp ⟨h.1, fun H Z a w hm => ?_⟩
  exact h.2 H Z a w (hm.sub hs)

theorem getT_app {l r : TM} {t : Nat} {s : ST} (h : getT l t = some s) : getT (l ++ r) t = some s := by
  induction l with
  | nil => simp [getT] at h
  | cons p l ih =>
    obtain ⟨e, u⟩ := p
    unfold getT at h
    show getT ((e, u) :: (l ++ r)) t = some s
    unfold getT
    cases hb : Nat.beq e t with
    | true => rw [hb] at h; exact h
    | false => rw [hb] at h; exact ih h

theorem evalT_app {l r : TM} {x : Operand} {s : ST} (h : evalT l x = some s) : evalT (l ++ r) x = some s := by
  cases x <;> first | exact getT_app h | exact h

theorem evalV_app {l r : TM} {x : Operand} {s : SV} (h : evalV l x = some s) : evalV (l ++ r) x = some s := by
  unfold evalV at h ⊢
  split at h
  · rename_i hs; rw [evalT_app hs]; exact h
  · cases h
theorem evalD_app {l r : TM} {x : Operand} {s : SV} (h : evalD l x = some s) : evalD (l ++ r) x = some s := by
  unfold evalD at h ⊢
  split at h
  · rename_i hs; rw [evalV_app hs]; exact h
  · cases h
theorem evalArgs_app {l r : TM} : ∀ {xs : List Operand} {s : List SV}, evalArgs l xs = some s → evalArgs (l ++ r) xs = some s
  | [], s, h => h
  | x :: xs, s, h => by
    unfold evalArgs at h ⊢
    split at h
    · rename_i hx
      rw [evalD_app hx]
      split at h
      · rename_i hl; rw [evalArgs_app hl]; exact h
      · cases h
    · cases h

def sameM (mm mm' : MM) : Prop := mm = mm'
theorem op_callX {C : Ctx} {n : Nat} {tmr : TM} {mm : MM} {o : Oper} {d : Nat} {f : FuncId} {pre post : List (List CT)} {args args' : List SV} {res : ST} (hc : Con C.P f pre args res post) (ids : List Nat) {xs : Array Operand} {ts : Array TypeId}
    (ho : o.op = .call { callee := .value (.func f), args := xs, argTypes := ts }) (hargs : evalArgs tmr xs.toList = some args') (hren : renVs ids args = some args') (hpre : preE mm ids = some pre)
    (hnd : noDup ids = true) (hlen : post.length = pre.length) (hpure : pureS res = true) (hd : o.dst = some d) (hn : Nat.blt d n = true) (hsame : updMs mm ids post = mm) :
    OpX C n mm o tmr d res := by
  refine ⟨⟨hd, hn⟩, fun tm' hs => ?_⟩
  have h := op_call (tm := tmr ++ tm') hc ids ho (evalArgs_app hargs) hren hpre hnd hlen hpure hd hn
  rw [hsame] at h
  intro a w K Q hh hK
  refine h a w K Q (hh.incl fun p hp => (List.mem_append.1 hp).elim (hs p) id) fun a' w' h' => hK a' w' (h'.incl fun p hp => ?_)
  rcases List.mem_cons.1 hp with rfl | hp
  · exact List.mem_cons_self
  · refine List.mem_cons_of_mem _ ?_
    have key : ∀ {l : TM}, p ∈ l → p.1 ≠ d → p ∈ delL l d := by
      intro l
      induction l with
      | nil => intro h; cases h
      | cons q l ih =>
        intro h hne
        obtain ⟨e, u⟩ := q
        unfold delL
        cases hb : Nat.beq e d with
        | true =>
          rcases List.mem_cons.1 h with rfl | h
          · exact absurd (Nat.eq_of_beq_eq_true hb) hne
          · exact ih h hne
        | false =>
          rcases List.mem_cons.1 h with rfl | h
          · exact List.mem_cons_self
          · exact List.mem_cons_of_mem _ (ih h hne)
    obtain ⟨h1, h2⟩ := delL_mem hp
    exact key (List.mem_append_right _ h1) h2

theorem mem_delL {d : Nat} {p : Nat × ST} : ∀ {l : TM}, p ∈ l → p.1 ≠ d → p ∈ delL l d
  | [], h, _ => by cases h
  | (e, u) :: l, h, hne => by
    unfold delL
    cases hb : Nat.beq e d with
    | true =>
      rcases List.mem_cons.1 h with rfl | h
      · exact absurd (Nat.eq_of_beq_eq_true hb) hne
      · exact mem_delL h hne
    | false =>
      rcases List.mem_cons.1 h with rfl | h
      · exact List.mem_cons_self
      · exact List.mem_cons_of_mem _ (mem_delL h hne)

/-! What an operation looks at. -/
def memN : List Nat → Nat → Bool
  | [], _ => false
  | a :: l, t => match Nat.beq a t with
    | true => true
    | false => memN l t
theorem memN_iff {t : Nat} : ∀ {l : List Nat}, memN l t = true ↔ t ∈ l
  | [] => by simp [memN]
  | a :: l => by
    unfold memN
    cases hb : Nat.beq a t with
    | true => simp [Nat.eq_of_beq_eq_true hb]
    | false =>
      have : ¬ t = a := fun e => by subst e; simp at hb
      simp [this, memN_iff (l := l)]
def tmpsE : List Operand → List Nat
  | [] => []
  | .tmp t :: r => t :: tmpsE r
  | _ :: r => tmpsE r
def looksE (L : List Oper) (o : Oper) : List Nat :=
  match o.guard with
  | none => tmpsE o.op.operands.toList
  | some (j, _) => match nthO L j with
    | some oj => match oj.dst with
      | some t => t :: tmpsE o.op.operands.toList
      | none => tmpsE o.op.operands.toList
    | none => tmpsE o.op.operands.toList
def onlyE (l : List Nat) : TM → TM
  | [] => []
  | (t, s) :: r => match memN l t with
    | true => (t, s) :: onlyE l r
    | false => onlyE l r
theorem onlyE_mem {l : List Nat} {p : Nat × ST} : ∀ {tm : TM}, p ∈ onlyE l tm ↔ p ∈ tm ∧ p.1 ∈ l
  | [] => by simp [onlyE]
  | (t, s) :: r => by
    unfold onlyE
    cases hb : memN l t with
    | true =>
      have := memN_iff.1 hb
      simp only [List.mem_cons, onlyE_mem (tm := r)]
      constructor
      · rintro (rfl | h)
        · exact ⟨.inl rfl, this⟩
        · exact ⟨.inr h.1, h.2⟩
      · rintro ⟨rfl | h, k⟩
        · exact .inl rfl
        · exact .inr ⟨h, k⟩
    | false =>
      have hn : t ∉ l := fun h => by rw [memN_iff.2 h] at hb; cases hb
      simp only [List.mem_cons, onlyE_mem (tm := r)]
      constructor
      · rintro ⟨h, k⟩; exact ⟨.inr h, k⟩
      · rintro ⟨rfl | h, k⟩
        · exact absurd k hn
        · exact ⟨h, k⟩

section
variable {C : Ctx} {n : Nat} {mm : MM} {L : List Oper}

/-- The operation, given what the table says of what it looks at, makes true what the table says of its own result. -/
def OkO (C : Ctx) (n : Nat) (mm : MM) (L : List Oper) (tm : TM) (o : Oper) : Prop :=
  ∃ d s, o.dst = some d ∧ (d, s) ∈ tm ∧ ∀ tm' : TM, (∀ p ∈ tm, p.1 ∈ looksE L o → p ∈ tm') → ∀ (a : Act) (w : World) (K : Act → World → Prop) (Q : Exit → Act → World → Prop), Has C n tm' mm a w →
    (∀ a' w', Has C n ((d, s) :: delL tm' d) mm a' w' → K a' w') →
    if Region.wanted o (yielded L.toArray a.tmps) then o.wp C.P a w K Q else K (a.put o.dst undef) w

theorem nthO_get {L : List Oper} {j : Nat} : nthO L j = L[j]? := nthO_eq L j

theorem guardL_only {tm : TM} {o : Oper} {b : Bool} (h : guardL L (onlyE (looksE L o) tm) o = some b) {tm' : TM} (hs : ∀ p ∈ tm, p.1 ∈ looksE L o → p ∈ tm')
    {a : Act} {w : World} (hh : Has C n tm' mm a w) : Region.wanted o (yielded L.toArray a.tmps) = b :=
  wanted_of (guardL_eq h) (hh.incl fun p hp => hs p (onlyE_mem.1 hp).1 (onlyE_mem.1 hp).2)

theorem okO_step {tm : TM} {o : Oper} {d : Nat} {s : ST} (hg : guardL L (onlyE (looksE L o) tm) o = some true) (h : OpX C n mm o (onlyE (looksE L o) tm) d s) (hfr : d ∉ looksE L o) : OkO C n mm L ((d, s) :: delL tm d) o := by
  refine ⟨d, s, h.1.1, List.mem_cons_self, fun tm' hs a w K Q hh hK => ?_⟩
  have hs' : ∀ p ∈ tm, p.1 ∈ looksE L o → p ∈ tm' := fun p hp hl => hs p (List.mem_cons_of_mem _ (mem_delL hp fun e => hfr (e ▸ hl))) hl
  rw [if_pos (guardL_only hg hs' hh)]
  exact h.2 tm' (fun p hp => hs' p (onlyE_mem.1 hp).1 (onlyE_mem.1 hp).2) a w K Q hh hK

theorem okO_skip {tm : TM} {o : Oper} {d : Nat} (hg : guardL L (onlyE (looksE L o) tm) o = some false) (hd : o.dst = some d) (hn : Nat.blt d n = true) (hfr : d ∉ looksE L o) : OkO C n mm L ((d, .tup []) :: delL tm d) o := by
  refine ⟨d, _, hd, List.mem_cons_self, fun tm' hs a w K Q hh hK => ?_⟩
  have hs' : ∀ p ∈ tm, p.1 ∈ looksE L o → p ∈ tm' := fun p hp hl => hs p (List.mem_cons_of_mem _ (mem_delL hp fun e => hfr (e ▸ hl))) hl
  rw [if_neg (by rw [guardL_only hg hs' hh]; simp)]
  obtain ⟨H, Z, hm⟩ := hh
  rw [hd]
  exact hK _ _ ⟨H, Z, hm.setT (Nat.blt_eq.mp hn) ⟨#[], rfl, rfl, fun j c hc => by simp at hc⟩⟩

/-- The table grows. -/
theorem OkO.grow {tm : TM} {o : Oper} (h : OkO C n mm L tm o) {d : Nat} {s : ST} (hd : o.dst ≠ some d) (hl : d ∉ looksE L o) : OkO C n mm L ((d, s) :: delL tm d) o := by
  obtain ⟨d', s', h1, h2, h3⟩ := h
  have hne : d' ≠ d := fun e => hd (e ▸ h1)
  refine ⟨d', s', h1, List.mem_cons_of_mem _ (mem_delL h2 hne), fun tm' hs => h3 tm' fun p hp hpl => hs p (List.mem_cons_of_mem _ (mem_delL hp fun e => hl (e ▸ hpl))) hpl⟩

/-- A bool is told. -/
theorem OkO.told {tm : TM} {o : Oper} (h : OkO C n mm L tm o) {t : Nat} {b : Bool} (hu : ∀ s, (t, s) ∈ tm → s = .v (.one (.c (.bool b)))) :
    OkO C n mm L ((t, .v (.one (.lit b))) :: delL tm t) o := by
  obtain ⟨d, s, h1, h2, h3⟩ := h
  have conv : ∀ {l l' : TM}, (∀ p ∈ l', p ∈ l ∨ (p = (t, .v (.one (.lit b))) ∧ (t, ST.v (.one (.c (.bool b)))) ∈ l) ∨ (p = (t, .v (.one (.c (.bool b)))) ∧ (t, ST.v (.one (.lit b))) ∈ l)) →
      ∀ a w, Has C n l mm a w → Has C n l' mm a w := by
    intro l l' hl a w ⟨H, Z, hm⟩
    refine ⟨H, Z, { hm with tmps := fun p hp => ?_ }⟩
    rcases hl p hp with h | ⟨rfl, h⟩ | ⟨rfl, h⟩
    · exact hm.tmps p h
    · exact RepC.bool_inv (hm.tmps _ h)
    · have : a.tmps.getD t undef = .bool b := hm.tmps _ h
      show RepC _ _ (a.tmps.getD t undef) _
      rw [this]; exact .bool b
  by_cases hdt : d = t
  · subst hdt
    have hs := hu s h2
    subst hs
    refine ⟨d, _, h1, List.mem_cons_self, fun tm' hs a w K Q hh hK => ?_⟩
    refine h3 (onlyE (looksE L o) tm ++ tm') (fun p hp hl => List.mem_append_left _ (onlyE_mem.2 ⟨hp, hl⟩)) a w K Q (conv ?_ a w hh) (fun a' w' h' => hK a' w' (conv ?_ a' w' h'))
    · intro p hp
      rcases List.mem_append.1 hp with hp | hp
      · obtain ⟨hp, hl⟩ := onlyE_mem.1 hp
        by_cases hpt : p.1 = d
        · have : p = (d, .v (.one (.c (.bool b)))) := Prod.ext hpt (hu p.2 (by rw [← hpt]; exact hp))
          exact .inr (.inr ⟨this, hs _ List.mem_cons_self (hpt ▸ hl)⟩)
        · exact .inl (hs p (List.mem_cons_of_mem _ (mem_delL hp hpt)) hl)
      · exact .inl hp
    · intro p hp
      rcases List.mem_cons.1 hp with rfl | hp
      · exact .inr (.inl ⟨rfl, List.mem_cons_self⟩)
      · obtain ⟨e1, e2⟩ := delL_mem hp
        exact .inl (List.mem_cons_of_mem _ (mem_delL (List.mem_append_right _ e1) e2))
  · refine ⟨d, s, h1, List.mem_cons_of_mem _ (mem_delL h2 hdt), fun tm' hs a w K Q hh hK => ?_⟩
    refine h3 (onlyE (looksE L o) tm ++ tm') (fun p hp hl => List.mem_append_left _ (onlyE_mem.2 ⟨hp, hl⟩)) a w K Q (conv ?_ a w hh) (fun a' w' h' => hK a' w' (conv ?_ a' w' h'))
    · intro p hp
      rcases List.mem_append.1 hp with hp | hp
      · obtain ⟨hp, hl⟩ := onlyE_mem.1 hp
        by_cases hpt : p.1 = t
        · have : p = (t, .v (.one (.c (.bool b)))) := Prod.ext hpt (hu p.2 (by rw [← hpt]; exact hp))
          exact .inr (.inr ⟨this, hs _ List.mem_cons_self (hpt ▸ hl)⟩)
        · exact .inl (hs p (List.mem_cons_of_mem _ (mem_delL hp hpt)) hl)
      · exact .inl hp
    · intro p hp
      rcases List.mem_cons.1 hp with rfl | hp
      · exact .inl List.mem_cons_self
      · obtain ⟨e1, e2⟩ := delL_mem hp
        exact .inl (List.mem_cons_of_mem _ (mem_delL (List.mem_append_right _ e1) e2))

/-! The region's own form. -/
def ons : List Edge → List Nat
  | [] => []
  | e :: r => match Region.binds .any e with
    | true => e.on :: ons r
    | false => ons r
def dstsE : List Oper → List Nat
  | [] => []
  | o :: r => match o.dst with
    | some d => d :: dstsE r
    | none => dstsE r
/-- Of the operations ahead: none of these writes or looks at d. -/
def freeE (L : List Oper) (d : Nat) : List Oper → Bool
  | [] => true
  | o :: r => match o.dst with
    | none => false
    | some e => match Nat.beq e d with
      | true => false
      | false => match memN (looksE L o) d with
        | true => false
        | false => freeE L d r
/-- Whatever an operation of the region writes and o looks at, o waits for. -/
def waitE (lk af : List Nat) : List Oper → Nat → Bool
  | [], _ => true
  | o :: r, j => match o.dst with
    | none => waitE lk af r (j + 1)
    | some e => match memN lk e with
      | false => waitE lk af r (j + 1)
      | true => match memN af j with
        | true => waitE lk af r (j + 1)
        | false => false
def allLt : List Nat → Nat → Bool
  | [], _ => true
  | a :: l, i => match Nat.blt a i with
    | true => allLt l i
    | false => false
def okR (L : List Oper) : List Oper → List Oper → Nat → Bool
  | _, [], _ => true
  | ahead, o :: r, i => match o.dst with
    | none => false
    | some d => match freeE L d ahead, memN (looksE L o) d, waitE (looksE L o) (ons o.after.toList) L 0, allLt (ons o.after.toList) i with
      | true, false, true, true => okR L (o :: ahead) r (i + 1)
      | _, _, _, _ => false


theorem freeE_spec {d : Nat} : ∀ {l : List Oper}, freeE L d l = true → ∀ o ∈ l, o.dst ≠ some d ∧ d ∉ looksE L o
  | [], _, o, ho => by cases ho
  | a :: l, h, o, ho => by
    unfold freeE at h
    split at h
    · cases h
    · rename_i e he
      split at h
      · cases h
      · rename_i hed
        split at h
        · cases h
        · rename_i hm
          rcases List.mem_cons.1 ho with rfl | ho
          · refine ⟨fun e' => ?_, fun hk => by rw [memN_iff.2 hk] at hm; cases hm⟩
            rw [he] at e'; injection e' with e'; subst e'; simp at hed
          · exact freeE_spec h o ho
theorem waitE_spec {lk af : List Nat} : ∀ {l : List Oper} {j : Nat}, waitE lk af l j = true → ∀ (k : Nat) (o : Oper) (e : Nat), l[k]? = some o → o.dst = some e → e ∈ lk → j + k ∈ af
  | [], j, _, k, o, e, ho, _, _ => by simp at ho
  | a :: l, j, h, k, o, e, ho, he, hl => by
    unfold waitE at h
    cases k with
    | zero =>
      simp at ho; subst ho
      rw [he] at h
      simp only [memN_iff.2 hl] at h
      split at h
      · rename_i hm; exact memN_iff.1 hm
      · cases h
    | succ k =>
      have key : waitE lk af l (j + 1) = true := by
        split at h
        · exact h
        · split at h
          · exact h
          · split at h
            · exact h
            · cases h
      have := waitE_spec key k o e (by simpa using ho) he hl
      rwa [show j + (k + 1) = j + 1 + k by omega]
theorem allLt_spec {i : Nat} : ∀ {l : List Nat}, allLt l i = true → ∀ a ∈ l, a < i
  | [], _, a, ha => by cases ha
  | b :: l, h, a, ha => by
    unfold allLt at h
    split at h
    · rename_i hb
      rcases List.mem_cons.1 ha with rfl | ha
      · exact Nat.blt_eq.mp hb
      · exact allLt_spec h a ha
    · cases h
theorem okR_cons {ahead l : List Oper} {o : Oper} {i : Nat} (h : okR L ahead (o :: l) i = true) :
    ∃ d, o.dst = some d ∧ freeE L d ahead = true ∧ d ∉ looksE L o ∧ waitE (looksE L o) (ons o.after.toList) L 0 = true ∧ allLt (ons o.after.toList) i = true ∧ okR L (o :: ahead) l (i + 1) = true := by
  unfold okR at h
  split at h
  · cases h
  · rename_i d hd
    split at h
    · rename_i h1 h2 h3 h4
      exact ⟨d, hd, h1, (fun hk => by rw [memN_iff.2 hk] at h2; cases h2), h3, h4, h⟩
    · cases h
theorem okR_get : ∀ {l ahead : List Oper} {i : Nat}, okR L ahead l i = true → ∀ (k : Nat) (o : Oper), l[k]? = some o →
    (∃ d, o.dst = some d) ∧ waitE (looksE L o) (ons o.after.toList) L 0 = true ∧ allLt (ons o.after.toList) (i + k) = true
  | [], _, _, _, k, o, ho => by simp at ho
  | a :: l, ahead, i, h, k, o, ho => by
    obtain ⟨d, h1, _, _, h4, h5, h6⟩ := okR_cons h
    cases k with
    | zero => simp at ho; subst ho; exact ⟨⟨d, h1⟩, h4, h5⟩
    | succ k =>
      have := okR_get h6 k o (by simpa using ho)
      rwa [show i + 1 + k = i + (k + 1) by omega] at this

structure DS (C : Ctx) (n : Nat) (mm : MM) (L : List Oper) (tm0 : TM) (ahead l : List Oper) (i : Nat) (tm : TM) : Prop where
  ok : ∀ o ∈ ahead, OkO C n mm L tm o
  keys : ∀ p ∈ tm, ∀ q ∈ tm, p.1 = q.1 → p = q
  base : ∀ p ∈ tm, p.1 ∉ dstsE L → p ∈ tm0
  okr : okR L ahead l i = true
  whole : L = ahead.reverse ++ l

/-- The rest of the region, in the text's order. -/
def DOps (C : Ctx) (n : Nat) (mm : MM) (L : List Oper) (tm0 : TM) (l : List Oper) (tm : TM) (T : TM → Prop) : Prop :=
  ∀ ahead i, DS C n mm L tm0 ahead l i tm → ∃ tmF, T tmF ∧ (∀ o ∈ L, OkO C n mm L tmF o) ∧ (∀ p ∈ tmF, p.1 ∉ dstsE L → p ∈ tm0) ∧ (∀ p ∈ tmF, ∀ q ∈ tmF, p.1 = q.1 → p = q)

variable {tm0 tm : TM} {l : List Oper} {T : TM → Prop} {o : Oper} {d : Nat} {s : ST}

theorem DOps.nil (h : T tm) : DOps C n mm L tm0 [] tm T := fun ahead i hs =>
  ⟨tm, h, fun o ho => hs.ok o (by have := hs.whole; rw [List.append_nil] at this; rw [this] at ho; simpa using ho), hs.base, hs.keys⟩

theorem keys_set {tm : TM} (h : ∀ p ∈ tm, ∀ q ∈ tm, p.1 = q.1 → p = q) : ∀ p ∈ (d, s) :: delL tm d, ∀ q ∈ (d, s) :: delL tm d, p.1 = q.1 → p = q := by
  intro p hp q hq he
  rcases List.mem_cons.1 hp with rfl | hp <;> rcases List.mem_cons.1 hq with rfl | hq
  · rfl
  · exact absurd he.symm (delL_mem hq).2
  · exact absurd he (delL_mem hp).2
  · exact h p (delL_mem hp).1 q (delL_mem hq).1 he

theorem dstsE_mem {o : Oper} {d : Nat} : ∀ {l : List Oper}, o ∈ l → o.dst = some d → d ∈ dstsE l
  | [], h, _ => by cases h
  | a :: l, h, hd => by
    unfold dstsE
    rcases List.mem_cons.1 h with rfl | h
    · rw [hd]; exact List.mem_cons_self
    · split
      · exact List.mem_cons_of_mem _ (dstsE_mem h hd)
      · exact dstsE_mem h hd
theorem dstsE_get {d : Nat} : ∀ {l : List Oper}, d ∈ dstsE l → ∃ (k : Nat) (o : Oper), l[k]? = some o ∧ o.dst = some d
  | [], h => by simp [dstsE] at h
  | a :: l, h => by
    unfold dstsE at h
    split at h
    · rename_i e he
      rcases List.mem_cons.1 h with rfl | h
      · exact ⟨0, a, rfl, he⟩
      · obtain ⟨k, o, h1, h2⟩ := dstsE_get h
        exact ⟨k + 1, o, by simpa using h1, h2⟩
    · obtain ⟨k, o, h1, h2⟩ := dstsE_get h
      exact ⟨k + 1, o, by simpa using h1, h2⟩

theorem DS.next {ahead : List Oper} {i : Nat} (hs : DS C n mm L tm0 ahead (o :: l) i tm) (hd : o.dst = some d) (hok : d ∉ looksE L o → OkO C n mm L ((d, s) :: delL tm d) o) :
    DS C n mm L tm0 (o :: ahead) l (i + 1) ((d, s) :: delL tm d) := by
  obtain ⟨d', h1, h2, h3, h4, h5, h6⟩ := okR_cons hs.okr
  rw [hd] at h1; injection h1 with h1; subst h1
  have hin : o ∈ L := by rw [hs.whole]; simp
  refine ⟨fun o' ho' => ?_, keys_set hs.keys, fun p hp hn => ?_, h6, by rw [hs.whole]; simp⟩
  · rcases List.mem_cons.1 ho' with rfl | ho'
    · exact hok h3
    · obtain ⟨k1, k2⟩ := freeE_spec h2 o' ho'
      exact (hs.ok o' ho').grow k1 k2
  · rcases List.mem_cons.1 hp with rfl | hp
    · exact absurd (dstsE_mem hin hd) hn
    · exact hs.base p (delL_mem hp).1 hn

theorem DOps.step (hg : guardL L (onlyE (looksE L o) tm) o = some true) (h : OpX C n mm o (onlyE (looksE L o) tm) d s) (k : DOps C n mm L tm0 l ((d, s) :: delL tm d) T) :
    DOps C n mm L tm0 (o :: l) tm T := fun ahead i hs => k _ _ (hs.next h.1.1 (okO_step hg h))
theorem DOps.skip (hg : guardL L (onlyE (looksE L o) tm) o = some false) (hd : o.dst = some d) (hn : Nat.blt d n = true) (k : DOps C n mm L tm0 l ((d, .tup []) :: delL tm d) T) :
    DOps C n mm L tm0 (o :: l) tm T := fun ahead i hs => k _ _ (hs.next hd (okO_skip hg hd hn))
/-- Ways part. -/
theorem DOps.split {t : Nat} {b : Bool} (hin : memN (dstsE L) t = true) (hm : (t, ST.v (.one (.c (.bool b)))) ∈ tm)
    (h1 : b = true → DOps C n mm L tm0 l ((t, ST.v (.one (.lit true))) :: delL tm t) T)
    (h2 : b = false → DOps C n mm L tm0 l ((t, ST.v (.one (.lit false))) :: delL tm t) T) : DOps C n mm L tm0 l tm T := fun ahead i hs => by
  have key : ∀ b', b = b' → DS C n mm L tm0 ahead l i ((t, ST.v (.one (.lit b'))) :: delL tm t) := by
    intro b' hb
    subst hb
    refine ⟨fun o ho => (hs.ok o ho).told fun s hs' => ?_, keys_set hs.keys, fun p hp hn => ?_, hs.okr, hs.whole⟩
    · have := hs.keys _ hs' _ hm rfl
      injection this
    · rcases List.mem_cons.1 hp with rfl | hp
      · exact absurd (memN_iff.1 hin) hn
      · exact hs.base p (delL_mem hp).1 hn
  cases b with
  | true => exact h1 rfl _ _ (key true rfl)
  | false => exact h2 rfl _ _ (key false rfl)

theorem Has.drawn {tm : TM} {a : Act} {w : World} (h : Has C n tm mm a w) : Has C n tm mm a { w with drawn := w.drawn + 1 } := by
  obtain ⟨H, Z, hm⟩ := h
  refine ⟨H, Z, hm.build (fun _ => False) ⟨rfl, rfl, rfl, Nat.le_refl _, fun _ _ _ => rfl⟩ (fun _ _ h => h.elim) hm.defers hm.size hm.hg hm.ids
    (fun p hp => .inl ⟨hp, rfl, rfl, fun _ _ h => h, fun j _ hj => ⟨hj, rfl, rfl⟩⟩) hm.sep (fun p hp => .inl ⟨p, hp, rfl, rfl, fun j _ hj => ⟨hj, rfl, rfl⟩⟩)⟩

/-- What is known when these operations are done. -/
def keepT (L : List Oper) (listed : Array Bool) (tm : TM) (p : Nat × ST) : Prop :=
  p ∈ tm ∧ (p.1 ∉ dstsE L ∨ ∃ (k : Nat) (o : Oper), L[k]? = some o ∧ o.dst = some p.1 ∧ listed.getD k false = true)

theorem count_set : ∀ {l : List Bool} {i : Nat}, l[i]? = some false → ((l.set i true).filter (!·)).length + 1 = (l.filter (!·)).length
  | [], i, h => by simp at h
  | x :: l, 0, h => by simp at h; subst h; simp
  | x :: l, i + 1, h => by
    have := count_set (l := l) (i := i) (by simpa using h)
    cases x <;> simp_all

theorem any_ok {tmF : TM} (hok : okR L [] L 0 = true) (hF : ∀ o ∈ L, OkO C n mm L tmF o) (keyF : ∀ p ∈ tmF, ∀ q ∈ tmF, p.1 = q.1 → p = q)
    {P : TM → MM → Prop} (hP : P tmF mm) :
    ∀ (fuel : Nat) (listed : Array Bool) (a : Act) (w : World) (tm : TM), listed.size = L.length → (listed.toList.filter (!·)).length ≤ fuel → (∀ p, keepT L listed tmF p → p ∈ tm) → Has C n tm mm a w →
      wpAny C.P .any L.toArray (QT C n P) fuel listed a w := by
  have hready : ∀ (listed : Array Bool), listed.size = L.length → Region.ready .any L.toArray listed = [] → ∀ k, k < L.length → listed.getD k false = true := by
    intro listed hsz hr k
    induction k using Nat.strongRecOn with
    | _ k ih =>
      intro hk
      cases hl : listed.getD k false with
      | true => rfl
      | false =>
        have hmem : k ∈ Region.ready .any L.toArray listed := by
          rw [mem_ready]
          refine ⟨?_, L[k], by simp [hk], fun e he hb => ?_⟩
          · have hks : k < listed.size := by omega
            simp [Array.getD, hks] at hl ⊢; exact hl
          · obtain ⟨_, _, h3⟩ := okR_get hok k L[k] (List.getElem?_eq_getElem hk)
            have : e.on ∈ ons L[k].after.toList := by
              have key : ∀ l : List Edge, e ∈ l → e.on ∈ ons l := by
                intro l
                induction l with
                | nil => intro h; cases h
                | cons x l ih =>
                  intro h
                  unfold ons
                  rcases List.mem_cons.1 h with rfl | h
                  · rw [hb]; exact List.mem_cons_self
                  · split
                    · exact List.mem_cons_of_mem _ (ih h)
                    · exact ih h
              exact key _ (by simpa using he)
            have hlt := allLt_spec h3 _ this
            exact ih e.on (by omega) (by omega)
        rw [hr] at hmem; cases hmem
  have hdone : ∀ (listed : Array Bool) (a : Act) (w : World) (tm : TM), listed.size = L.length → (∀ p, keepT L listed tmF p → p ∈ tm) → Has C n tm mm a w → Region.ready .any L.toArray listed = [] → QT C n P .normal a w := by
    intro listed a w tm hsz hk hh hr
    refine ⟨tmF, mm, hP, hh.incl fun p hp => hk p ⟨hp, ?_⟩⟩
    by_cases hd : p.1 ∈ dstsE L
    · obtain ⟨k, o, h1, h2⟩ := dstsE_get hd
      exact .inr ⟨k, o, h1, h2, hready listed hsz hr k (List.getElem?_eq_some_iff.1 h1).1⟩
    · exact .inl hd
  intro fuel
  induction fuel with
  | zero =>
    intro listed a w tm hsz hc hk hh
    have hr : Region.ready .any L.toArray listed = [] := by
      rw [List.eq_nil_iff_forall_not_mem]
      intro j hj
      obtain ⟨h1, o, h2, _⟩ := mem_ready.1 hj
      have hjl : j < listed.size := by rw [hsz]; simpa using (Array.getElem?_eq_some_iff.1 h2).1
      have : listed[j] = false := by simpa [Array.getD, hjl] using h1
      have hm : false ∈ listed.toList.filter (!·) := by
        rw [List.mem_filter]; exact ⟨by rw [← this]; simp, rfl⟩
      have := List.length_pos_of_mem hm
      omega
    exact ⟨hr, hdone listed a w tm hsz hk hh hr⟩
  | succ fuel ih =>
    intro listed a w tm hsz hc hk hh
    refine ⟨hdone listed a w tm hsz hk hh, fun i hi => ?_⟩
    obtain ⟨h1, o, h2, h3⟩ := mem_ready.1 hi
    have hL : L[i]? = some o := by simpa using h2
    have hil : i < L.length := (List.getElem?_eq_some_iff.1 hL).1
    have his : i < listed.size := by omega
    have hfalse : listed[i] = false := by simpa [Array.getD, his] using h1
    obtain ⟨_, hw, _⟩ := okR_get hok i o hL
    obtain ⟨d, s, e1, e2, e3⟩ := hF o (List.mem_of_getElem? hL)
    have hon : ∀ j, j ∈ ons o.after.toList → listed.getD j false = true := by
      have key : ∀ l : List Edge, (∀ e ∈ l, e ∈ o.after) → ∀ j, j ∈ ons l → listed.getD j false = true := by
        intro l
        induction l with
        | nil => intro _ j h; simp [ons] at h
        | cons x l ih =>
          intro hl j h
          unfold ons at h
          split at h
          · rename_i hb
            rcases List.mem_cons.1 h with rfl | h
            · exact h3 x (hl x List.mem_cons_self) hb
            · exact ih (fun e he => hl e (List.mem_cons_of_mem _ he)) j h
          · exact ih (fun e he => hl e (List.mem_cons_of_mem _ he)) j h
      exact key _ (fun e he => by simpa using he)
    have hpre : ∀ p ∈ tmF, p.1 ∈ looksE L o → p ∈ tm := by
      intro p hp hl
      refine hk p ⟨hp, ?_⟩
      by_cases hd : p.1 ∈ dstsE L
      · obtain ⟨k, o', k1, k2⟩ := dstsE_get hd
        have := waitE_spec hw k o' p.1 k1 k2 hl
        exact .inr ⟨k, o', k1, k2, hon k (by simpa using this)⟩
      · exact .inl hd
    have hcount : ((listed.setIfInBounds i true).toList.filter (!·)).length ≤ fuel := by
      have h5 : ((listed.setIfInBounds i true).toList.filter (!·)).length + 1 = (listed.toList.filter (!·)).length := by
        rw [show (listed.setIfInBounds i true).toList = listed.toList.set i true by simp]
        exact count_set (by simp [his, hfalse])
      omega
    have hnext : ∀ a' w', Has C n ((d, s) :: delL tm d) mm a' w' → wpAny C.P .any L.toArray (QT C n P) fuel (listed.setIfInBounds i true) a' w' := by
      intro a' w' h'
      refine ih (listed.setIfInBounds i true) a' w' _ (by simpa using hsz) hcount (fun p hp => ?_) h'
      obtain ⟨g1, g2⟩ := hp
      by_cases hpd : p.1 = d
      · have : p = (d, s) := by
          exact keyF p g1 (d, s) e2 hpd
        rw [this]; exact List.mem_cons_self
      · refine List.mem_cons_of_mem _ (mem_delL (hk p ⟨g1, ?_⟩) hpd)
        rcases g2 with g2 | ⟨k, o', k1, k2, k3⟩
        · exact .inl g2
        · refine .inr ⟨k, o', k1, k2, ?_⟩
          have hki : i ≠ k := by
            intro e; subst e
            rw [hL] at k1; injection k1 with k1; subst k1
            rw [e1] at k2; injection k2 with k2; exact hpd k2.symm
          rwa [getD_set_ne false hki] at k3
    unfold wpOp
    simp only [List.getElem?_toArray, hL]
    have h6 := e3 tm hpre a w (wpAny C.P .any L.toArray (QT C n P) fuel (listed.setIfInBounds i true)) (QT C n P) hh hnext
    split
    · rename_i hwd; rw [if_pos hwd] at h6; exact .inl h6
    · rename_i hwd; rw [if_neg hwd] at h6; exact h6

/-- No temporary twice, none of those. -/
def uniT : List Nat → TM → Bool
  | _, [] => true
  | ds, (t, _) :: r => match memN ds t with
    | true => false
    | false => uniT (t :: ds) r
theorem uniT_spec : ∀ {l : TM} {ds : List Nat}, uniT ds l = true → (∀ p ∈ l, p.1 ∉ ds) ∧ ∀ p ∈ l, ∀ q ∈ l, p.1 = q.1 → p = q
  | [], ds, _ => ⟨fun p hp => (by cases hp), fun p hp => (by cases hp)⟩
  | (t, s) :: r, ds, h => by
    unfold uniT at h
    split at h
    · cases h
    · rename_i hm
      obtain ⟨h1, h2⟩ := uniT_spec h
      have ht : t ∉ ds := fun hk => by rw [memN_iff.2 hk] at hm; cases hm
      refine ⟨fun p hp => ?_, fun p hp q hq he => ?_⟩
      · rcases List.mem_cons.1 hp with rfl | hp
        · exact ht
        · exact fun hk => h1 p hp (List.mem_cons_of_mem _ hk)
      · rcases List.mem_cons.1 hp with rfl | hp <;> rcases List.mem_cons.1 hq with rfl | hq
        · rfl
        · exact absurd (List.mem_cons.2 (.inl he.symm)) (h1 q hq)
        · exact absurd (List.mem_cons.2 (.inl he)) (h1 p hp)
        · exact h2 p hp q hq he

/-- A region that draws its order, walked once in the text's. -/
theorem g_draw {f : FuncId} {R : Ending → World → Prop} {k : List Item} {id : Nat} (hmix : C.P.follows .mixedOrders = true) (hok : okR L [] L 0 = true) (hu : uniT (dstsE L) tm0 = true)
    (h : DOps C n mm L tm0 L tm0 (fun tm' => Goes C f n R k tm' mm)) : Goes C f n R (.code (.region id L.toArray true) :: k) tm0 mm := by
  obtain ⟨u1, u2⟩ := uniT_spec hu
  obtain ⟨tmF, hg, hF, hbase, hkeys⟩ := h [] 0 ⟨fun o ho => (by cases ho), u2, fun p hp _ => hp, hok, rfl⟩
  intro a w hh b cs hb hk
  have hany := any_ok (P := fun tm' mm' => Goes C f n R k tm' mm') hok hF hkeys hg L.length (Array.replicate L.length false) a { w with drawn := w.drawn + 1 } tm0 (by simp)
    (by rw [show (Array.replicate L.length false).toList = List.replicate L.length false by simp]; exact Nat.le_trans (List.length_filter_le _ _) (by simp))
    (fun p hp => by
      obtain ⟨g1, g2 | ⟨k, o, k1, k2, k3⟩⟩ := hp
      · exact hbase p g1 g2
      · have hkl := (List.getElem?_eq_some_iff.1 k1).1
        simp [Array.getD, hkl] at k3) hh.drawn
  have hwp := wp_region_any (id := id) (Q := QT C n (fun tm' mm' => Goes C f n R k tm' mm')) (ops := L.toArray) (a := a) (w := w) hmix (by simpa using hany)
  obtain ⟨e, a', w', hq, harr⟩ := hwp b k cs
  cases e with
  | normal =>
    obtain ⟨tm', mm', hg, hh'⟩ := hq
    obtain ⟨e, w'', fr, g1, g2, g3⟩ := hg a' w' hh' b cs hb hk
    exact ⟨e, w'', fr, g1, Comes.of_steps harr g2, g3⟩
  | _ => exact hq.elim

/-! The engine. -/
def goD (Θ : Tab) (n : Nat) (mm : MM) (L : List Oper) : List Oper → TM → Out
  | [], tm => .stop [] tm mm
  | o :: r, tm => match guardL L (onlyE (looksE L o) tm) o with
    | some true => match o.dst, valE Θ (onlyE (looksE L o) tm) mm o.op with
      | some d, some st => match setE n d st tm with
        | some tm' => goD Θ n mm L r tm'
        | none => .stop (o :: r) tm mm
      | _, _ => .stop (o :: r) tm mm
    | some false => match o.dst with
      | some d => match setE n d (.tup []) tm with
        | some tm' => goD Θ n mm L r tm'
        | none => .stop (o :: r) tm mm
      | none => .stop (o :: r) tm mm
    | none => .stop (o :: r) tm mm
theorem goD_sound {Θ : Tab} (hΘ : tabOK C.P Θ) : ∀ {l : List Oper} {tm : TM} {l' : List Oper} {tm' : TM} {mm' : MM},
    goD Θ n mm L l tm = .stop l' tm' mm' → DOps C n mm L tm0 l' tm' T → DOps C n mm L tm0 l tm T
  | [], tm, l', tm', mm', h, k => by
    simp only [goD, Out.stop.injEq] at h
    obtain ⟨rfl, rfl, _⟩ := h
    exact k
  | o :: r, tm, l', tm', mm', h, k => by
    have same : Out.stop (o :: r) tm mm = .stop l' tm' mm' → DOps C n mm L tm0 (o :: r) tm T := by
      intro e
      injection e with e1 e2 e3
      subst e1 e2
      exact k
    unfold goD at h
    split at h
    · rename_i hg
      split at h
      · rename_i d st hd hv
        split at h
        · rename_i tm1 hs
          obtain ⟨hn, rfl⟩ := setE_eq hs
          exact DOps.step hg (valE_sound hΘ hv hd hn).toX (goD_sound hΘ h k)
        · exact same h
      · exact same h
    · rename_i hg
      split at h
      · rename_i d hd
        split at h
        · rename_i tm1 hs
          obtain ⟨hn, rfl⟩ := setE_eq hs
          exact DOps.skip hg hd hn (goD_sound hΘ h k)
        · exact same h
      · exact same h
    · exact same h
def runD (Θ : Tab) (n : Nat) (mm : MM) (L : List Oper) (l : List Oper) (tm : TM) : Option Out :=
  match nrmT tm with
  | some tm' => match goD Θ n mm L l tm' with
    | .stop a b c => some (.stop a b c)
    | .bad => none
  | none => none
theorem drun_ {Θ : Tab} (hΘ : tabOK C.P Θ) {l' : List Oper} {tm' : TM} {mm' : MM}
    (h : runD Θ n mm L l tm = some (.stop l' tm' mm')) (k : DOps C n mm L tm0 l' tm' T) : DOps C n mm L tm0 l tm T := by
  unfold runD at h
  split at h
  · rename_i tm1 h1
    rw [← nrmT_eq h1]
    split at h
    · rename_i a b c h3
      injection h with h
      injection h with e1 e2 e3
      subst e1 e2 e3
      exact goD_sound hΘ h3 k
    · cases h
  · cases h

variable {t : Nat}
theorem d_split {b : Bool} (hn : needT L o = some t) (ht : getT tm t = some (.v (.one (.c (.bool b))))) (hin : memN (dstsE L) t = true)
    (h1 : b = true → DOps C n mm L tm0 (o :: l) ((t, .v (.one (.lit true))) :: delL tm t) T)
    (h2 : b = false → DOps C n mm L tm0 (o :: l) ((t, .v (.one (.lit false))) :: delL tm t) T) : DOps C n mm L tm0 (o :: l) tm T :=
  have _ := hn
  DOps.split hin (getT_mem ht) h1 h2
theorem d_step {st : ST} (h : OpV C n o (onlyE (looksE L o) tm) mm d st) (hg : guardL L (onlyE (looksE L o) tm) o = some true) (k : DOps C n mm L tm0 l ((d, st) :: delL tm d) T) :
    DOps C n mm L tm0 (o :: l) tm T := DOps.step hg h.toX k

variable {x y : Operand} {ty ty' : TypeId}
theorem d_add {a b : Int} (ho : o.op = .binOp .add ty x y ty') (hx : evalC (onlyE (looksE L o) tm) x = some (.c (.int .i64 a))) (hy : evalC (onlyE (looksE L o) tm) y = some (.c (.int .i64 b))) (hd : o.dst = some d) (hn : Nat.blt d n = true) (hg : guardL L (onlyE (looksE L o) tm) o = some true)
    (hr : -9223372036854775808 ≤ a + b ∧ a + b ≤ 9223372036854775807) (k : DOps C n mm L tm0 l ((d, .v (.one (.c (.int .i64 (a + b))))) :: delL tm d) T) : DOps C n mm L tm0 (o :: l) tm T :=
  d_step (op_arith (p := .add) ho hx hy (IntWalk.i64_in _ (by omega)) hd hn) hg k
theorem d_subI {a b : Int} (ho : o.op = .binOp .sub ty x y ty') (hx : evalC (onlyE (looksE L o) tm) x = some (.c (.int .i64 a))) (hy : evalC (onlyE (looksE L o) tm) y = some (.c (.int .i64 b))) (hd : o.dst = some d) (hn : Nat.blt d n = true) (hg : guardL L (onlyE (looksE L o) tm) o = some true)
    (hr : -9223372036854775808 ≤ a - b ∧ a - b ≤ 9223372036854775807) (k : DOps C n mm L tm0 l ((d, .v (.one (.c (.int .i64 (a - b))))) :: delL tm d) T) : DOps C n mm L tm0 (o :: l) tm T :=
  d_step (op_arith (p := .sub) ho hx hy (IntWalk.i64_in _ (by omega)) hd hn) hg k
theorem d_rem {kd : IntKind} {a b : Int} (ho : o.op = .binOp .rem ty x y ty') (hx : evalC (onlyE (looksE L o) tm) x = some (.c (.int kd a))) (hy : evalC (onlyE (looksE L o) tm) y = some (.c (.int kd b))) (hd : o.dst = some d) (hn : Nat.blt d n = true) (hg : guardL L (onlyE (looksE L o) tm) o = some true)
    (hr : b ≠ 0) (k : DOps C n mm L tm0 l ((d, .v (.one (.c (.int kd (a.tmod b))))) :: delL tm d) T) : DOps C n mm L tm0 (o :: l) tm T :=
  d_step (op_arith (p := .rem) ho hx hy ⟨hr, rfl⟩ hd hn) hg k
theorem d_str {Θ : Tab} (hΘ : tabOK C.P Θ) {s : ByteArray} {kd : IntKind} {m : Int} {z bts : Nat} {ag : Bool} {zr : Option (List CT)}
    (ho : o.op = .index ty x y) (ht : tyGet Θ ty = some ⟨z, bts, ag, zr, .string⟩) (hx : evalC (onlyE (looksE L o) tm) x = some (.c (.str s))) (hi : evalC (onlyE (looksE L o) tm) y = some (.c (.int kd m))) (hd : o.dst = some d) (hn : Nat.blt d n = true) (hg : guardL L (onlyE (looksE L o) tm) o = some true)
    (j : Nat) (b : UInt8) (hm : m = (j : Int)) (hb : s.data.toList[j]? = some b) (k : DOps C n mm L tm0 l ((d, .v (.one (.c (.int .u8 (b.toNat : Int))))) :: delL tm d) T) : DOps C n mm L tm0 (o :: l) tm T :=
  d_step (op_indexS hΘ ho ht hx hi hm hb hd hn) hg k
theorem d_idx {Θ : Tab} (hΘ : tabOK C.P Θ) {nn : Bool} {sz : Nat} {xs : List (List CT)} {kd : IntKind} {m : Int} {e : Nat} {z bts : Nat} {ag : Bool} {zr : Option (List CT)} {ei : TyI}
    (ho : o.op = .indexAddr ty x y) (ht : tyGet Θ ty = some ⟨z, bts, ag, zr, .slice e⟩) (hei : tyGet Θ e = some ei) (hx : evalC (onlyE (looksE L o) tm) x = some (.c (.slice nn sz xs))) (hsz : Nat.beq ei.size sz = true)
    (hi : evalC (onlyE (looksE L o) tm) y = some (.c (.int kd m))) (hd : o.dst = some d) (hn : Nat.blt d n = true) (hg : guardL L (onlyE (looksE L o) tm) o = some true)
    (j : Nat) (cs : List CT) (hm : m = (j : Int)) (hj : xs[j]? = some cs) (k : DOps C n mm L tm0 l ((d, .v (.one (.eptr cs))) :: delL tm d) T) : DOps C n mm L tm0 (o :: l) tm T :=
  d_step (op_idx hΘ ho ht hei hsz hx hi hm hj hd hn) hg k
theorem d_call {g : FuncId} {pre post : List (List CT)} {args args' : List SV} {res : ST} (hc : Con C.P g pre args res post) (ids : List Nat) {xs : Array Operand} {ts : Array TypeId}
    (ho : o.op = .call { callee := .value (.func g), args := xs, argTypes := ts }) (hargs : evalArgs (onlyE (looksE L o) tm) xs.toList = some args') (hren : renVs ids args = some args') (hpre : preE mm ids = some pre)
    (hnd : noDup ids = true) (hlen : post.length = pre.length) (hpure : pureS res = true) (hd : o.dst = some d) (hn : Nat.blt d n = true) (hg : guardL L (onlyE (looksE L o) tm) o = some true) (hsame : updMs mm ids post = mm)
    (k : DOps C n mm L tm0 l ((d, res) :: delL tm d) T) : DOps C n mm L tm0 (o :: l) tm T :=
  DOps.step hg (op_callX hc ids ho hargs hren hpre hnd hlen hpure hd hn hsame) k

end
end Go.Sy
