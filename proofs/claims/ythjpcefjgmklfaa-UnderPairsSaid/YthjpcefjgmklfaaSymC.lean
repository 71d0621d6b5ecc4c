/- Symbolic states: types, and the operations one by one. -/
import Derived.Test.YthjpcefjgmklfaaSymB
import Derived.Laws.Strings
import Derived.Laws.StructEq
namespace Go.Sy
set_option linter.unusedSimpArgs false
set_option linter.unusedVariables false
set_option linter.unusedSectionVars false
open Go.RowKit

inductive Sh where
  | bool
  | int (k : IntKind)
  | string
  | struct (fs : List (Nat × Nat))
  | arr (len elem : Nat)
  | slice (elem : Nat)
  | map (k e : Nat)
  | other

structure TyI where
  size : Nat
  bytes : Nat
  agg : Bool
  zero : Option (List CT)
  sh : Sh

def zchk1 : Value → CT → Bool
  | .int k n, .int k' n' => decide (k = k') && decide (n = n')
  | .bool b, .bool b' => b == b'
  | .string s, .str s' => s.data.toList == s'.data.toList
  | .slice none 0 0, .nils => true
  | _, _ => false

def zchkL : List Value → List CT → Bool
  | [], [] => true
  | v :: vs, c :: cs => zchk1 v c && zchkL vs cs
  | _, _ => false

def zchk (agg : Bool) (z : Value) (cs : List CT) : Bool :=
  match agg, z with
  | true, .agg vs => zchkL vs.toList cs
  | true, _ => false
  | false, v => zchkL [v] cs

def shChk (P : Program) : TypeDesc → Sh → Bool
  | .bool, .bool => true
  | .int k, .int k' => decide (k = k')
  | .string, .string => true
  | .struct fs, .struct os => fs.toList.map (fun f => (f.offset, f.type)) == os && fs.all (fun f => P.cellsOf f.type != 0)
  | .array n e, .arr n' e' => n == n' && e == e'
  | .slice e, .slice e' => e == e'
  | .map k e, .map k' e' => k == k' && e == e'
  | _, .other => true
  | _, _ => false

def aggOf : TypeDesc → Bool
  | .struct _ | .array _ _ => true
  | _ => false

def tyChk (P : Program) (t : Nat) (i : TyI) : Bool :=
  match P.info? t, P.underlying t with
  | some inf, some d => inf.size == i.size && (inf.bytes == i.bytes && (aggOf d == i.agg && (shChk P d i.sh &&
      (match i.zero with
       | none => true
       | some cs => match inf.zero with
         | none => false
         | some z => zchk i.agg z cs && cs.length == i.size))))
  | _, _ => false

abbrev Tab := List (Nat × TyI)
def tabOK (P : Program) (Θ : Tab) : Prop := ∀ p ∈ Θ, tyChk P p.1 p.2 = true
theorem tabOK_of {P : Program} {Θ : Tab} (h : Θ.all (fun p => tyChk P p.1 p.2) = true) : tabOK P Θ := by
  intro p hp
  exact (List.all_eq_true.1 h) p hp

def tyGet (Θ : Tab) (t : Nat) : Option TyI :=
  match Θ with
  | [] => none
  | (e, i) :: r => match Nat.beq e t with
    | true => some i
    | false => tyGet r t

theorem tyGet_mem {Θ : Tab} {t : Nat} {i : TyI} (h : tyGet Θ t = some i) : (t, i) ∈ Θ := by
  induction Θ with
  | nil => simp [tyGet] at h
  | cons p r ih =>
    obtain ⟨e, u⟩ := p
    unfold tyGet at h
    cases hb : Nat.beq e t with
    | true =>
      have he : e = t := Nat.eq_of_beq_eq_true hb
      subst he
      rw [hb] at h
      injection h with h; subst h; exact List.mem_cons_self
    | false => rw [hb] at h; exact List.mem_cons_of_mem _ (ih h)

theorem zchk1_rep {w : World} {M : Nat → Prop} {v : Value} {c : CT} (h : zchk1 v c = true) : RepC w M v c := by
  unfold zchk1 at h
  split at h
  · simp at h; obtain ⟨rfl, rfl⟩ := h; exact .int _ _
  · simp at h; subst h; exact .bool _
  · rename_i s s'
    simp at h
    have : s = s' := by
      cases s; cases s'; simp at h ⊢; exact h
    subst this; exact .str _
  · exact .nils
  · cases h

theorem zchkL_rep {w : World} {M : Nat → Prop} : ∀ {vs : List Value} {cs : List CT}, zchkL vs cs = true →
    vs.length = cs.length ∧ ∀ (j : Nat) (c : CT), cs[j]? = some c → ∃ u : Value, vs[j]? = some u ∧ RepC w M u c
  | [], [], _ => ⟨rfl, fun j c h => by simp at h⟩
  | [], _ :: _, h => by simp [zchkL] at h
  | _ :: _, [], h => by simp [zchkL] at h
  | v :: vs, c :: cs, h => by
    simp only [zchkL, Bool.and_eq_true] at h
    obtain ⟨h1, h2⟩ := zchkL_rep (w := w) (M := M) h.2
    refine ⟨by simp [h1], fun j d hd => ?_⟩
    cases j with
    | zero =>
      simp at hd; subst hd
      exact ⟨v, by simp, zchk1_rep h.1⟩
    | succ j =>
      simp at hd
      simpa using h2 j d hd

/-- What a checked row of the table says. -/
structure TyF (P : Program) (t : Nat) (i : TyI) (inf : TypeInfo) (d : TypeDesc) : Prop where
  info : P.info? t = some inf
  und : P.underlying t = some d
  size : inf.size = i.size
  bytes : inf.bytes = i.bytes
  agg : aggOf d = i.agg
  sh : shChk P d i.sh = true
  zero : ∀ cs, i.zero = some cs → ∃ z, inf.zero = some z ∧ zchk i.agg z cs = true ∧ cs.length = i.size

theorem tyF {P : Program} {Θ : Tab} (hΘ : tabOK P Θ) {t : Nat} {i : TyI} (h : tyGet Θ t = some i) : ∃ inf d, TyF P t i inf d := by
  have hc := hΘ _ (tyGet_mem h)
  unfold tyChk at hc
  split at hc
  · rename_i inf d h1 h2
    simp only [Bool.and_eq_true] at hc
    obtain ⟨c1, c2, c3, c4, c5⟩ := hc
    refine ⟨inf, d, h1, h2, by simpa using c1, by simpa using c2, by simpa using c3, c4, fun cs hcs => ?_⟩
    rw [hcs] at c5
    simp only at c5
    cases hz : inf.zero with
    | none => rw [hz] at c5; cases c5
    | some z =>
      rw [hz] at c5
      simp only [Bool.and_eq_true] at c5
      exact ⟨z, rfl, c5.1, by simpa using c5.2⟩
  · cases hc

theorem zchk_cells {w : World} {M : Nat → Prop} {agg : Bool} {z : Value} {cs : List CT} (h : zchk agg z cs = true) :
    z.cells.size = cs.length ∧ ∀ (j : Nat) (c : CT), cs[j]? = some c → ∃ u : Value, z.cells[j]? = some u ∧ RepC w M u c := by
  unfold zchk at h
  split at h
  · rename_i vs
    obtain ⟨h1, h2⟩ := zchkL_rep (w := w) (M := M) h
    exact ⟨by simpa [Value.cells] using h1, fun j c hc => by simpa [Value.cells] using h2 j c hc⟩
  · cases h
  · obtain ⟨h1, h2⟩ := zchkL_rep (w := w) (M := M) h
    cases cs with
    | nil => simp at h1
    | cons c cs =>
      cases cs with
      | cons d cs => simp at h1
      | nil =>
        obtain ⟨u, hu, hr⟩ := h2 0 c rfl
        simp at hu; subst hu
        rw [hr.cells]
        exact ⟨rfl, fun j d hd => by
          cases j with
          | zero => simp at hd; subst hd; exact ⟨_, rfl, hr⟩
          | succ j => simp at hd⟩

section
variable {P : Program} {w : World}
theorem TyF.typeInfo {t : Nat} {i : TyI} {inf : TypeInfo} {d : TypeDesc} (h : TyF P t i inf d) : (typeInfo t).run P w = .ok inf w := by
  simp [Go.typeInfo, h.info]
theorem TyF.sizeOf {t : Nat} {i : TyI} {inf : TypeInfo} {d : TypeDesc} (h : TyF P t i inf d) : (sizeOf t).run P w = .ok i.size w := by
  simp [Go.sizeOf, h.typeInfo, h.size]
theorem TyF.underlying {t : Nat} {i : TyI} {inf : TypeInfo} {d : TypeDesc} (h : TyF P t i inf d) : (underlying t).run P w = .ok d w := run_underlying h.und w
theorem TyF.isAgg {t : Nat} {i : TyI} {inf : TypeInfo} {d : TypeDesc} (h : TyF P t i inf d) : (isAgg t).run P w = .ok i.agg w := by
  rw [← h.agg]
  simp only [Go.isAgg, Sem.run_bind, h.underlying, Result.andThen_ok]
  cases d <;> rfl
theorem TyF.zeroValue {t : Nat} {i : TyI} {inf : TypeInfo} {d : TypeDesc} (h : TyF P t i inf d) {z : Value} (hz : inf.zero = some z) : (zeroValue t).run P w = .ok z w := by
  simp [Go.zeroValue, h.typeInfo, hz]
end

/-! Operands -/
def constT : Value → Option ST
  | .int k n => some (.v (.one (.c (.int k n))))
  | .bool b => some (.v (.one (.lit b)))
  | .string s => some (.v (.one (.c (.str s))))
  | .slice none 0 0 => some (.v (.one (.c .nils)))
  | _ => none

def getT (tm : TM) (t : Nat) : Option ST :=
  match tm with
  | [] => none
  | (e, u) :: r => match Nat.beq e t with
    | true => some u
    | false => getT r t

theorem getT_mem {tm : TM} {t : Nat} {st : ST} (h : getT tm t = some st) : (t, st) ∈ tm := by
  induction tm with
  | nil => simp [getT] at h
  | cons p r ih =>
    obtain ⟨e, u⟩ := p
    unfold getT at h
    cases hb : Nat.beq e t with
    | true =>
      have he : e = t := Nat.eq_of_beq_eq_true hb
      subst he
      rw [hb] at h
      injection h with h; subst h; exact List.mem_cons_self
    | false => rw [hb] at h; exact List.mem_cons_of_mem _ (ih h)

def evalT (tm : TM) : Operand → Option ST
  | .tmp t => getT tm t
  | .const v => constT v
  | _ => none

theorem constT_rep {I : Nat → Prop} {H : Nat → Value} {Z : Nat → Nat} {w : World} {M : Nat → Prop} {v : Value} {st : ST} (h : constT v = some st) : RepST I H Z w M v st := by
  unfold constT at h
  split at h <;> first
    | (injection h with h; subst h; first | exact .int _ _ | rfl | exact .str _ | exact .nils)
    | cases h

theorem evalT_rep {C : Ctx} {H : Nat → Value} {Z : Nat → Nat} {n : Nat} {tm : TM} {mm : MM} {a : Act} {w : World} (h : Mod C H Z n tm mm a w)
    {x : Operand} {st : ST} (he : evalT tm x = some st) : RepST (Iof mm) H Z w (Mof C H mm) (a.eval x) st := by
  cases x with
  | tmp t => exact h.tmps _ (getT_mem he)
  | const v => exact constT_rep he
  | global g => cases he
  | func f => cases he

def evalV (tm : TM) (x : Operand) : Option SV :=
  match evalT tm x with
  | some (.v s) => some s
  | _ => none
theorem evalV_rep {C : Ctx} {H : Nat → Value} {Z : Nat → Nat} {n : Nat} {tm : TM} {mm : MM} {a : Act} {w : World} (h : Mod C H Z n tm mm a w)
    {x : Operand} {s : SV} (he : evalV tm x = some s) : RepSV (Iof mm) H Z w (Mof C H mm) (a.eval x) s := by
  unfold evalV at he
  split at he
  · rename_i s' hs
    injection he with he; subst he
    exact evalT_rep h hs
  · cases he
def evalC (tm : TM) (x : Operand) : Option SC :=
  match evalT tm x with
  | some (.v (.one s)) => some s
  | _ => none
theorem evalC_rep {C : Ctx} {H : Nat → Value} {Z : Nat → Nat} {n : Nat} {tm : TM} {mm : MM} {a : Act} {w : World} (h : Mod C H Z n tm mm a w)
    {x : Operand} {s : SC} (he : evalC tm x = some s) : RepSC (Iof mm) H Z w (Mof C H mm) (a.eval x) s := by
  unfold evalC at he
  split at he
  · rename_i s' hs
    injection he with he; subst he
    exact evalT_rep h hs
  · cases he

/-! Operations that only compute -/
section
variable {C : Ctx} {n : Nat} {tm : TM} {mm : MM} {o : Oper} {d : Nat}

/-- An operation that only computes or reads: the value, the world as it was. -/
def OpV (C : Ctx) (n : Nat) (o : Oper) (tm : TM) (mm : MM) (d : Nat) (st : ST) : Prop :=
  (o.dst = some d ∧ Nat.blt d n = true) ∧ ∀ H Z a w, Mod C H Z n tm mm a w → ∃ v, (execOp a.eval o).run C.P w = .ok (.value v) w ∧ RepST (Iof mm) H Z w (Mof C H mm) v st

theorem OpV.val (hd : o.dst = some d) (hn : Nat.blt d n = true) (st : ST)
    (h : ∀ H Z a w, Mod C H Z n tm mm a w → ∃ v, (execOp a.eval o).run C.P w = .ok (.value v) w ∧ RepST (Iof mm) H Z w (Mof C H mm) v st) :
    OpV C n o tm mm d st := ⟨⟨hd, hn⟩, h⟩

theorem OpV.toR {st : ST} (h : OpV C n o tm mm d st) : OpR C n o tm mm ((d, st) :: delL tm d) mm := by
  intro a w ⟨H, Z, hm⟩
  obtain ⟨⟨hd, hn⟩, h⟩ := h
  obtain ⟨v, h1, h2⟩ := h H Z a w hm
  exact .inl ⟨v, w, h1, H, Z, by rw [hd]; exact hm.setT (Nat.blt_eq.mp hn) h2⟩
theorem OpV.wp {st : ST} (h : OpV C n o tm mm d st) : OpW C n o tm mm ((d, st) :: delL tm d) mm := h.toR.wp

theorem op_move {x : Operand} {st : ST} (ho : o.op = .move x) (he : evalT tm x = some st) (hd : o.dst = some d) (hn : Nat.blt d n = true) :
    OpV C n o tm mm d (st) :=
  OpV.val hd hn st fun H Z a w hm => ⟨a.eval x, by simp [execOp, ho], evalT_rep hm he⟩

theorem op_assign {x : Operand} {st : ST} (ho : o.op = .assign x) (he : evalT tm x = some st) (hd : o.dst = some d) (hn : Nat.blt d n = true) :
    OpV C n o tm mm d (st) :=
  OpV.val hd hn st fun H Z a w hm => ⟨a.eval x, by simp [execOp, ho], evalT_rep hm he⟩

theorem op_pick {c x y : Operand} {st : ST} {b : Bool} (ho : o.op = .pick c x y) (hc : evalC tm c = some (.lit b))
    (he : evalT tm (match b with | true => x | false => y) = some st) (hd : o.dst = some d) (hn : Nat.blt d n = true) :
    OpV C n o tm mm d (st) :=
  OpV.val hd hn st fun H Z a w hm => by
    have h1 : a.eval c = .bool b := evalC_rep hm hc
    cases b with
    | true => exact ⟨a.eval x, by simp [execOp, ho, h1, asBool], evalT_rep hm he⟩
    | false => exact ⟨a.eval y, by simp [execOp, ho, h1, asBool], evalT_rep hm he⟩

def boolOf : SC → Option Bool
  | .lit b => some b
  | .c (.bool b) => some b
  | _ => none
def evalB (tm : TM) (x : Operand) : Option Bool :=
  match evalC tm x with
  | some s => boolOf s
  | none => none
theorem evalB_rep {H : Nat → Value} {Z : Nat → Nat} {a : Act} {w : World} (h : Mod C H Z n tm mm a w) {x : Operand} {b : Bool} (he : evalB tm x = some b) : a.eval x = .bool b := by
  unfold evalB at he
  split at he
  · rename_i s hs
    have := evalC_rep h hs
    cases s <;> simp only [boolOf] at he <;> try (cases he; done)
    · rename_i c
      cases c <;> simp only at he <;> try (cases he; done)
      injection he with he; subst he
      exact RepC.bool_inv this
    · injection he with he; subst he; exact this
  · cases he

theorem op_not {x : Operand} {b : Bool} {ty : Nat} (ho : o.op = .unOp .not ty x) (hc : evalB tm x = some b) (hd : o.dst = some d) (hn : Nat.blt d n = true) :
    OpV C n o tm mm d (.v (.one (.c (.bool (!b))))) :=
  OpV.val hd hn _ fun H Z a w hm => by
    have h1 : a.eval x = .bool b := evalB_rep hm hc
    exact ⟨.bool (!b), by simp [execOp, ho, h1, Op.unary], .bool _⟩

/-- Comparisons of numbers. -/
def cmpI : BinOp → Int → Int → Option Bool
  | .eql, x, y => some (decide (x = y))
  | .neq, x, y => some (!decide (x = y))
  | .lss, x, y => some (decide (x < y))
  | .leq, x, y => some (decide (x ≤ y))
  | .gtr, x, y => some (decide (y < x))
  | .geq, x, y => some (decide (y ≤ x))
  | _, _, _ => none

theorem op_cmpI {p : BinOp} {k : IntKind} {t t' : Nat} {x y : Operand} {m q : Int} {b : Bool} (ho : o.op = .binOp p t x y t')
    (hx : evalC tm x = some (.c (.int k m))) (hy : evalC tm y = some (.c (.int k q))) (hb : cmpI p m q = some b) (hd : o.dst = some d) (hn : Nat.blt d n = true) :
    OpV C n o tm mm d (.v (.one (.c (.bool b)))) :=
  OpV.val hd hn _ fun H Z a w hm => by
    have h1 : a.eval x = .int k m := RepC.int_inv (evalC_rep hm hx)
    have h2 : a.eval y = .int k q := RepC.int_inv (evalC_rep hm hy)
    refine ⟨.bool b, ?_, .bool _⟩
    cases p <;> simp only [cmpI] at hb <;> first
      | (cases hb; done)
      | (injection hb with hb; subst hb
         simp [execOp, ho, h1, h2, eqGuard, binOp, Op.intCmp]
         try first | rfl | (by_cases hmq : m = q <;> simp [hmq]) )

theorem toList_inj {a b : ByteArray} : (a.toList == b.toList) = decide (a = b) := by
  have h : ∀ s : ByteArray, s.toList = s.data.toList := fun s => ByteArray.toList_eq s
  by_cases hab : a = b
  · subst hab; simp
  · simp [h, hab]
    intro hh
    apply hab
    cases a; cases b; simp at hh ⊢; exact hh

/-- Go's order on texts. -/
def sLt (x y : ByteArray) : Bool := Op.bytesLess x.toList y.toList

def cmpS : BinOp → ByteArray → ByteArray → Option Bool
  | .eql, x, y => some (decide (x = y))
  | .neq, x, y => some (!decide (x = y))
  | .lss, x, y => some (sLt x y)
  | .leq, x, y => some (sLt x y || decide (x = y))
  | .gtr, x, y => some (!(sLt x y || decide (x = y)))
  | .geq, x, y => some (!sLt x y)
  | _, _, _ => none

theorem op_cmpS {p : BinOp} {t t' : Nat} {x y : Operand} {m q : ByteArray} {b : Bool} (ho : o.op = .binOp p t x y t')
    (hx : evalC tm x = some (.c (.str m))) (hy : evalC tm y = some (.c (.str q))) (hb : cmpS p m q = some b) (hd : o.dst = some d) (hn : Nat.blt d n = true) :
    OpV C n o tm mm d (.v (.one (.c (.bool b)))) :=
  OpV.val hd hn _ fun H Z a w hm => by
    have h1 : a.eval x = .string m := RepC.str_inv (evalC_rep hm hx)
    have h2 : a.eval y = .string q := RepC.str_inv (evalC_rep hm hy)
    refine ⟨.bool b, ?_, .bool _⟩
    cases p <;> simp only [cmpS] at hb <;> first
      | (cases hb; done)
      | (injection hb with hb; subst hb
         simp only [execOp, ho, h1, h2, Sem.run_bind]
         simp [eqGuard, binOp, Op.stringOp, toList_inj, sLt])

theorem op_cmpB {p : BinOp} {t t' : Nat} {x y : Operand} {m q : Bool} {Θ : Tab} (hΘ : tabOK C.P Θ) {z : Nat} {bts : Nat} {ag : Bool} {zr : Option (List CT)}
    (ho : o.op = .binOp p t x y t') (ht : tyGet Θ t = some ⟨z, bts, ag, zr, .bool⟩)
    (hp : p = .eql ∨ p = .neq) (hx : evalB tm x = some m) (hy : evalB tm y = some q) (hd : o.dst = some d) (hn : Nat.blt d n = true) :
    OpV C n o tm mm d (.v (.one (.c (.bool (match p with | .eql => m == q | _ => m != q))))) :=
  OpV.val hd hn _ fun H Z a w hm => by
    have h1 : a.eval x = .bool m := evalB_rep hm hx
    have h2 : a.eval y = .bool q := evalB_rep hm hy
    obtain ⟨inf, de, hf⟩ := tyF hΘ ht
    have hde : de = .bool := by
      have := hf.sh
      cases de <;> simp [shChk] at this ⊢
    subst hde
    refine ⟨.bool (match p with | .eql => m == q | _ => m != q), ?_, .bool _⟩
    have he : (Op.equal t (.bool m) (.bool q)).run C.P w = .ok (m == q) w := run_equalIn_bool w 9999 t m q hf.und
    rcases hp with rfl | rfl
    · simp only [execOp, ho, h1, h2, Sem.run_bind]
      simp only [eqGuard, binOp, Sem.run_bind, he, Result.andThen_ok, Sem.run_pure]
      simp [he]
    · simp only [execOp, ho, h1, h2, Sem.run_bind]
      simp only [eqGuard, binOp, Sem.run_bind, he, Result.andThen_ok, Sem.run_pure]
      simp [he]
      cases m <;> cases q <;> rfl

theorem op_convI {t t' : Nat} {x : Operand} {m : Int} {k k' : IntKind} {Θ : Tab} (hΘ : tabOK C.P Θ) {z z' : Nat} {bts bts' : Nat} {ag ag' : Bool} {zr zr' : Option (List CT)}
    (ho : o.op = .convert t t' x) (ht : tyGet Θ t = some ⟨z, bts, ag, zr, .int k⟩) (ht' : tyGet Θ t' = some ⟨z', bts', ag', zr', .int k'⟩)
    (hx : evalC tm x = some (.c (.int k m))) (hd : o.dst = some d) (hn : Nat.blt d n = true) :
    OpV C n o tm mm d (.v (.one (.c (.int k' (k'.wrap m))))) :=
  OpV.val hd hn _ fun H Z a w hm => by
    have h1 : a.eval x = .int k m := RepC.int_inv (evalC_rep hm hx)
    obtain ⟨inf, de, hf⟩ := tyF hΘ ht
    obtain ⟨inf', de', hf'⟩ := tyF hΘ ht'
    have hde' : de' = .int k' := by
      have := hf'.sh
      cases de' <;> simp [shChk] at this ⊢
      exact this
    subst hde'
    refine ⟨.int k' (k'.wrap m), ?_, .int _ _⟩
    simp [execOp, ho, h1, convert, hf.underlying, hf'.underlying, Conv.intToInt]

theorem op_extract {x : Operand} {i : Nat} {xs : List SV} {s : SV} (ho : o.op = .extract x i) (hx : evalT tm x = some (.tup xs)) (hi : xs[i]? = some s) (hd : o.dst = some d) (hn : Nat.blt d n = true) :
    OpV C n o tm mm d (.v s) :=
  OpV.val hd hn _ fun H Z a w hm => by
    obtain ⟨vs, h1, h2, h3⟩ := evalT_rep hm hx
    obtain ⟨u, hu, hr⟩ := h3 i s hi
    exact ⟨u, by simp [execOp, ho, h1, Instr.extract, hu], hr⟩

theorem op_nilCheck {x : Operand} {s : SC} (ho : o.op = .nilCheck x) (hx : evalC tm x = some s) (hs : (match s with | .ptr _ _ | .aptr _ _ _ | .eptr _ => true | _ => false) = true)
    (hd : o.dst = some d) (hn : Nat.blt d n = true) : OpV C n o tm mm d (.v (.one s)) :=
  OpV.val hd hn _ fun H Z a w hm => by
    have h1 := evalC_rep hm hx
    refine ⟨a.eval x, ?_, h1⟩
    cases s <;> simp at hs
    · obtain ⟨_, b, _, hv⟩ := h1; simp [execOp, ho, hv]
    · obtain ⟨_, b, _, hv⟩ := h1; simp [execOp, ho, hv]
    · obtain ⟨ad, hv, _⟩ := h1; simp [execOp, ho, hv]
end
end Go.Sy
