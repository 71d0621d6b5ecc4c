/- Symbolic states: how one is made from another (a new temporary, a new object, a change in place, an object given up). -/
import Derived.Test.YthjpcefjgmklfaaSymA
namespace Go.Sy
set_option linter.unusedSimpArgs false
set_option linter.unusedVariables false
set_option linter.unusedSectionVars false
open Go.RowKit

def Has (C : Ctx) (n : Nat) (tm : TM) (mm : MM) (a : Act) (w : World) : Prop := ∃ H Z, Mod C H Z n tm mm a w

def QT (C : Ctx) (n : Nat) (T : TM → MM → Prop) : Exit → Act → World → Prop
  | .normal, a, w => ∃ tm mm, T tm mm ∧ Has C n tm mm a w
  | _, _, _ => False

def SOps (C : Ctx) (n : Nat) (ops : Array Oper) (l : List Oper) (tm : TM) (mm : MM) (T : TM → MM → Prop) : Prop :=
  ∀ a w, Has C n tm mm a w → wpList C.P ops (QT C n T) l a w

def OpW (C : Ctx) (n : Nat) (o : Oper) (tm : TM) (mm : MM) (tm' : TM) (mm' : MM) : Prop :=
  ∀ a w (K : Act → World → Prop) (Q : Exit → Act → World → Prop), Has C n tm mm a w → (∀ a' w', Has C n tm' mm' a' w' → K a' w') → o.wp C.P a w K Q

/-- An operation that gives a value (or nothing) at once. -/
def OpR (C : Ctx) (n : Nat) (o : Oper) (tm : TM) (mm : MM) (tm' : TM) (mm' : MM) : Prop :=
  ∀ a w, Has C n tm mm a w → (∃ v w', (execOp a.eval o).run C.P w = .ok (.value v) w' ∧ Has C n tm' mm' (a.put o.dst v) w') ∨
    (∃ w', (execOp a.eval o).run C.P w = .ok .skip w' ∧ Has C n tm' mm' (a.put o.dst undef) w')

theorem OpR.wp {C : Ctx} {n : Nat} {o : Oper} {tm tm' : TM} {mm mm' : MM} (h : OpR C n o tm mm tm' mm') : OpW C n o tm mm tm' mm' := by
  intro a w K Q hh hK
  unfold Oper.wp
  rcases h a w hh with ⟨v, w', hr, hm⟩ | ⟨w', hr, hm⟩
  · rw [hr]; exact hK _ _ hm
  · rw [hr]; exact hK _ _ hm

section
variable {C : Ctx} {n : Nat} {ops : Array Oper} {l : List Oper} {tm tm' : TM} {mm mm' : MM} {T : TM → MM → Prop} {o : Oper}
theorem SOps.nil (h : T tm mm) : SOps C n ops [] tm mm T := fun _ _ hh => ⟨tm, mm, h, hh⟩

/-- Is the operation carried out? none: not known. -/
def lookB (tm : TM) (t : Nat) : Option Bool :=
  match tm with
  | [] => none
  | (e, u) :: r => match Nat.beq e t with
    | true => match u with
      | .v (.one (.lit true)) => some true
      | .v (.one (.lit false)) => some false
      | _ => none
    | false => lookB r t

theorem lookB_spec {b : Bool} {t : Nat} (h : lookB tm t = some b) : (t, ST.v (.one (.lit b))) ∈ tm := by
  induction tm with
  | nil => simp [lookB] at h
  | cons p r ih =>
    obtain ⟨e, u⟩ := p
    unfold lookB at h
    cases hb : Nat.beq e t with
    | true =>
      have he : e = t := Nat.eq_of_beq_eq_true hb
      subst he
      rw [hb] at h
      simp only at h
      split at h
      · injection h with h; subst h; exact List.mem_cons_self
      · injection h with h; subst h; exact List.mem_cons_self
      · cases h
    | false =>
      rw [hb] at h
      exact List.mem_cons_of_mem _ (ih h)

/-- What was left out: no value. -/
def isU (tm : TM) (t : Nat) : Option Bool :=
  match tm with
  | [] => none
  | (e, u) :: r => match Nat.beq e t with
    | true => match u with
      | .tup [] => some false
      | _ => none
    | false => isU r t
theorem isU_spec {t : Nat} {b : Bool} (h : isU tm t = some b) : b = false ∧ (t, ST.tup []) ∈ tm := by
  induction tm with
  | nil => simp [isU] at h
  | cons p r ih =>
    obtain ⟨e, u⟩ := p
    unfold isU at h
    cases hb : Nat.beq e t with
    | true =>
      have he : e = t := Nat.eq_of_beq_eq_true hb
      subst he
      rw [hb] at h
      simp only at h
      split at h
      · injection h with h; exact ⟨h.symm, List.mem_cons_self⟩
      · cases h
    | false =>
      rw [hb] at h
      exact ⟨(ih h).1, List.mem_cons_of_mem _ (ih h).2⟩

def guardB (ops : Array Oper) (tm : TM) (o : Oper) : Option Bool :=
  match o.guard with
  | none => some true
  | some (j, want) =>
    match ops[j]? with
    | none => none
    | some oj =>
      match oj.dst with
      | none => none
      | some t =>
        match lookB tm t with
        | none => isU tm t
        | some b => some (match b, want with | true, true => true | false, false => true | _, _ => false)

theorem wanted_of {a : Act} {w : World} {b : Bool} (h : guardB ops tm o = some b) (hh : Has C n tm mm a w) : Region.wanted o (yielded ops a.tmps) = b := by
  obtain ⟨H, Z, hm⟩ := hh
  unfold guardB at h
  unfold Region.wanted
  split at h
  · rename_i hg; rw [hg]; injection h
  · rename_i j want hg
    rw [hg]
    split at h
    · cases h
    · rename_i oj hoj
      split at h
      · cases h
      · rename_i t ht
        split at h
        · obtain ⟨rfl, hmem⟩ := isU_spec h
          obtain ⟨vs, hv, hsz, _⟩ := hm.tmps _ hmem
          have hv : a.tmps.getD t undef = .tuple vs := hv
          have hy : yielded ops a.tmps j = none := by
            unfold yielded
            rw [Array.getD_eq_getD_getElem?] at hv
            cases hq : a.tmps[t]? with
            | none => simp [hoj, ht, hq]
            | some x => rw [hq] at hv; simp at hv; subst hv; simp [hoj, ht, hq]
          simp only [hy]
          cases want <;> rfl
        · rename_i b' hb'
          have hmem := hm.tmps _ (lookB_spec hb')
          have hv : a.tmps.getD t undef = .bool b' := hmem
          have hy : yielded ops a.tmps j = some b' := by
            unfold yielded
            have : a.tmps[t]? = some (.bool b') := by
              rw [Array.getD_eq_getD_getElem?] at hv
              cases hq : a.tmps[t]? with
              | none => rw [hq] at hv; simp [undef] at hv
              | some x => rw [hq] at hv; simpa using hv
            simp [hoj, ht, this]
          simp only [hy]
          injection h with h
          rw [← h]
          cases b' <;> cases want <;> rfl

theorem SOps.step (hg : guardB ops tm o = some true) (h : OpW C n o tm mm tm' mm') (k : SOps C n ops l tm' mm' T) : SOps C n ops (o :: l) tm mm T := by
  intro a w hh
  unfold wpList
  rw [if_pos (wanted_of hg hh)]
  exact .inl (h a w _ _ hh (fun a' w' h' => k a' w' h'))

def delL (tm : TM) (d : Nat) : TM :=
  match tm with
  | [] => []
  | (e, u) :: r => match Nat.beq e d with
    | true => delL r d
    | false => (e, u) :: delL r d

theorem delL_mem {d : Nat} {p : Nat × ST} (h : p ∈ delL tm d) : p ∈ tm ∧ p.1 ≠ d := by
  induction tm with
  | nil => simp [delL] at h
  | cons q r ih =>
    obtain ⟨e, u⟩ := q
    unfold delL at h
    cases hb : Nat.beq e d with
    | true => rw [hb] at h; exact ⟨List.mem_cons_of_mem _ (ih h).1, (ih h).2⟩
    | false =>
      rw [hb] at h
      rcases List.mem_cons.1 h with rfl | h
      · exact ⟨List.mem_cons_self, fun he => by rw [show e = d from he] at hb; simp at hb⟩
      · exact ⟨List.mem_cons_of_mem _ (ih h).1, (ih h).2⟩

def delO (tm : TM) (d : Option Nat) : TM :=
  match d with
  | none => tm
  | some d => delL tm d

theorem put_other {a : Act} {d t : Nat} {v : Value} (h : t ≠ d) : (a.put (some d) v).tmps.getD t undef = a.tmps.getD t undef := by
  simp [Act.put, Array.getD_eq_getD_getElem?, Array.getElem?_setIfInBounds_ne (Ne.symm h)]
theorem put_self {a : Act} {d : Nat} {v : Value} (h : d < a.tmps.size) : (a.put (some d) v).tmps.getD d undef = v := by
  simp [Act.put, Array.getD_eq_getD_getElem?, h]

theorem Mod.sub {H : Nat → Value} {Z : Nat → Nat} {a : Act} {w : World} (h : Mod C H Z n tm mm a w) (hs : ∀ p ∈ tm', p ∈ tm) : Mod C H Z n tm' mm a w :=
  { h with tmps := fun p hp => h.tmps p (hs p hp) }

/-- A temporary is written. -/
theorem Mod.setT {H : Nat → Value} {Z : Nat → Nat} {a : Act} {w : World} (h : Mod C H Z n tm mm a w) {d : Nat} (hd : d < n) {v : Value} {st : ST}
    (hr : RepST (Iof mm) H Z w (Mof C H mm) v st) : Mod C H Z n ((d, st) :: delL tm d) mm (a.put (some d) v) w :=
  { h with
    size := by simp [Act.put, h.size]
    tmps := by
      intro p hp
      rcases List.mem_cons.1 hp with rfl | hp
      · rw [put_self (by rw [h.size]; exact hd)]; exact hr
      · obtain ⟨h1, h2⟩ := delL_mem hp
        rw [put_other h2]
        exact h.tmps p h1 }

/-- Something unknown is written to a temporary, or nothing at all. -/
theorem Mod.putAny {H : Nat → Value} {Z : Nat → Nat} {a : Act} {w : World} (h : Mod C H Z n tm mm a w) (d : Option Nat) (v : Value) : Mod C H Z n (delO tm d) mm (a.put d v) w := by
  cases d with
  | none => exact h
  | some d =>
    exact { h with
      size := by simp [Act.put, h.size]
      tmps := by
        intro p hp
        obtain ⟨h1, h2⟩ := delL_mem hp
        rw [put_other h2]
        exact h.tmps p h1 }

theorem SOps.skip (hg : guardB ops tm o = some false) (k : SOps C n ops l (delO tm o.dst) mm T) : SOps C n ops (o :: l) tm mm T := by
  intro a w hh
  unfold wpList
  rw [if_neg (by rw [wanted_of hg hh]; simp)]
  obtain ⟨H, Z, hm⟩ := hh
  exact k _ _ ⟨H, Z, hm.putAny _ _⟩

theorem SOps.skipU {d : Nat} (hg : guardB ops tm o = some false) (hd : o.dst = some d) (hn : Nat.blt d n = true) (k : SOps C n ops l ((d, .tup []) :: delL tm d) mm T) : SOps C n ops (o :: l) tm mm T := by
  intro a w hh
  unfold wpList
  rw [if_neg (by rw [wanted_of hg hh]; simp)]
  obtain ⟨H, Z, hm⟩ := hh
  rw [hd]
  exact k _ _ ⟨H, Z, hm.setT (Nat.blt_eq.mp hn) ⟨#[], rfl, rfl, fun j c hc => by simp at hc⟩⟩

/-- Ways part on a bool that is not known. -/
theorem SOps.split {t : Nat} {b : Bool} (hm : (t, ST.v (.one (.c (.bool b)))) ∈ tm)
    (h1 : b = true → SOps C n ops l ((t, ST.v (.one (.lit true))) :: delL tm t) mm T)
    (h2 : b = false → SOps C n ops l ((t, ST.v (.one (.lit false))) :: delL tm t) mm T) : SOps C n ops l tm mm T := by
  intro a w hh
  obtain ⟨H, Z, hmod⟩ := hh
  have hv : a.tmps.getD t undef = .bool b := RepC.bool_inv (hmod.tmps _ hm)
  have key : ∀ b' : Bool, b = b' → Has C n ((t, ST.v (.one (.lit b'))) :: delL tm t) mm a w := by
    intro b' hb
    refine ⟨H, Z, { hmod with tmps := ?_ }⟩
    intro p hp
    rcases List.mem_cons.1 hp with rfl | hp
    · show _ = _; rw [← hb]; exact hv
    · exact hmod.tmps p (delL_mem hp).1
  cases b with
  | true => exact h1 rfl a w (key true rfl)
  | false => exact h2 rfl a w (key false rfl)
end

/-- THE general step: objects change, the world grows. X: the blocks that are written. -/
theorem Mod.build {C : Ctx} {n : Nat} {tm tm' : TM} {mm mm' : MM} {H H' : Nat → Value} {Z Z' : Nat → Nat} {a a' : Act} {w w' : World}
    (h : Mod C H Z n tm mm a w) (X : Nat → Prop)
    (hext : Ext X w w') (hX : ∀ b, b < w.heap.size → X b → ∃ p ∈ mm, hblk (H p.1) = some b)
    (hdef : a'.defers = []) (hsize : a'.tmps.size = n)
    (hgv : ∀ p ∈ mm', given ≤ p.1 → H' p.1 = C.H0 p.1)
    (hids : ∀ p ∈ mm', ∀ q ∈ mm', p.1 = q.1 → p = q)
    (hmem : ∀ p ∈ mm', (p ∈ mm ∧ H' p.1 = H p.1 ∧ Z' p.1 = Z p.1 ∧ (∀ b, hblk (H p.1) = some b → ¬ X b) ∧
        (∀ j ∈ p.2.uses, Iof mm j → Iof mm' j ∧ H' j = H j ∧ Z' j = Z j)) ∨
      ((∀ b, hblk (H' p.1) = some b → (w.heap.size ≤ b ∧ b < w'.heap.size) ∨
          (∃ q ∈ mm, hblk (H q.1) = some b ∧ (p.1 = q.1 ∨ (q.1 < given ∧ p.1 < given)))) ∧
        ((∀ b, b < w.heap.size → Mof C H' mm' b → Mof C H mm b) → (∀ b, b < w.heap.size → ¬ Mof C H mm b → w'.heap[b]? = w.heap[b]?) →
          MemOK (Iof mm') H' Z' w' (Mof C H' mm') p.1 p.2)))
    (hsep : ∀ p ∈ mm', ∀ q ∈ mm', p.1 ≠ q.1 → ∀ b, hblk (H' p.1) = some b → hblk (H' q.1) ≠ some b)
    (htm : ∀ p ∈ tm', (∃ q ∈ tm, q.2 = p.2 ∧ a'.tmps.getD p.1 undef = a.tmps.getD q.1 undef ∧ (∀ j ∈ p.2.uses, Iof mm j → Iof mm' j ∧ H' j = H j ∧ Z' j = Z j)) ∨
      ((∀ b, b < w.heap.size → Mof C H' mm' b → Mof C H mm b) → (∀ b, b < w.heap.size → ¬ Mof C H mm b → w'.heap[b]? = w.heap[b]?) →
        RepST (Iof mm') H' Z' w' (Mof C H' mm') (a'.tmps.getD p.1 undef) p.2)) : Mod C H' Z' n tm' mm' a' w' := by
  have hMM : ∀ b, b < w.heap.size → Mof C H' mm' b → Mof C H mm b := by
    intro b hb hm
    rcases hm with hm | ⟨p, hp, hpb⟩
    · exact .inl hm
    · rcases hmem p hp with ⟨k1, k2, _⟩ | ⟨k1, _⟩
      · exact .inr ⟨p, k1, by rw [← k2]; exact hpb⟩
      · rcases k1 b hpb with k | ⟨q, hq, hqb, _⟩
        · omega
        · exact .inr ⟨q, hq, hqb⟩
  have hfr : ∀ b, b < w.heap.size → ¬ Mof C H mm b → w'.heap[b]? = w.heap[b]? := by
    intro b hb hm
    exact hext.block b hb (fun hx => hm (.inr (hX b hb hx)))
  refine ⟨hdef, hsize, h.nle, hgv, ?_, h.m0, hids, ?_, ?_, hsep, ?_⟩
  · refine h.ext.trans hext (fun b hb hx => ?_)
    obtain ⟨p, hp, hpb⟩ := hX b (Nat.lt_of_lt_of_le hb h.ext.size) hx
    rcases (h.fresh p hp b hpb).1 with ⟨_, k⟩ | ⟨_, k | k⟩
    · omega
    · exact k
    · omega
  · intro p hp
    rcases hmem p hp with ⟨k1, k2, k3, k4, k5⟩ | ⟨_, k2⟩
    · refine (h.mem p k1).mono ⟨k2, k3⟩ (fun b hb => ?_) k5 hext.size hfr hMM
      exact hext.block b (h.fresh p k1 b hb).2 (k4 b hb)
    · exact k2 hMM hfr
  · intro p hp b hb
    rcases hmem p hp with ⟨k1, k2, _⟩ | ⟨k1, _⟩
    · rw [k2] at hb
      obtain ⟨e1, e2⟩ := h.fresh p k1 b hb
      exact ⟨e1, Nat.lt_of_lt_of_le e2 hext.size⟩
    · rcases k1 b hb with ⟨e1, e2⟩ | ⟨q, hq, hqb, e⟩
      · refine ⟨?_, e2⟩
        have e3 := Nat.le_trans h.ext.size e1
        rcases Nat.lt_or_ge p.1 given with e4 | e4
        · exact .inl ⟨e4, e3⟩
        · exact .inr ⟨e4, .inr e3⟩
      · obtain ⟨e1, e2⟩ := h.fresh q hq b hqb
        refine ⟨?_, Nat.lt_of_lt_of_le e2 hext.size⟩
        rcases e with e | ⟨eq, ep⟩
        · rw [e]; exact e1
        · rcases e1 with ⟨_, e1⟩ | ⟨e1, _⟩
          · exact .inl ⟨ep, e1⟩
          · omega
  · intro p hp
    rcases htm p hp with ⟨q, hq, e1, e2, e3⟩ | k
    · rw [e2]
      have := h.tmps q hq
      rw [e1] at this
      exact this.mono e3 hext.size hfr hMM
    · exact k hMM hfr
end Go.Sy
