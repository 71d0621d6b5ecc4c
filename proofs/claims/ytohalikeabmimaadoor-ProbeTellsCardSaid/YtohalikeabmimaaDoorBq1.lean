/- Contracts of the reference, bundle Bq1. -/
import Derived.Lib.ItoaNum
import Derived.Test.YtohalikeabmimaaDoorBf1
import Derived.Test.YtohalikeabmimaaDoorSy8
/- The plain law of equality: keys as rows of bytes, the numbering of keys. -/
set_option linter.unusedSimpArgs false
set_option linter.unusedVariables false
set_option linter.unusedSectionVars false
namespace Go.Sy

/-! ### Rows of bytes -/
/-- No separator. -/
def pln (l : List UInt8) : Prop := ∀ c ∈ l, c ≠ 32 ∧ c ≠ 44 ∧ c ≠ 58
theorem pln.tail {c : UInt8} {u : List UInt8} (h : pln (c :: u)) : pln u := fun x hx => h x (List.mem_cons_of_mem _ hx)
def digs (k : Nat) : List UInt8 := if k < 10 then [UInt8.ofNat (48 + k)] else [UInt8.ofNat (48 + k / 10), UInt8.ofNat (48 + k % 10)]
theorem digs_eq {k : Nat} (h : k < 100) : Lib.decDigits k = digs k := by
  unfold digs
  rw [Lib.decDigits]
  split
  · simp_all
  · rename_i hk
    rw [Lib.decDigits, dif_pos (by omega)]; rfl
def undig : List UInt8 → Nat
  | [a] => a.toNat - 48
  | [a, b] => (a.toNat - 48) * 10 + (b.toNat - 48)
  | _ => 0
theorem digs_all : ∀ k : Fin 100, undig (digs k.val) = k.val ∧ (digs k.val).all (fun c => decide (c ≠ 32 ∧ c ≠ 44 ∧ c ≠ 58)) = true := by decide +kernel
theorem digs_pln {k : Nat} (h : k < 100) : pln (digs k) := by
  have := (digs_all ⟨k, h⟩).2
  rw [List.all_eq_true] at this
  exact fun c hc => by simpa using this c hc
theorem digs_inj {k m : Nat} (hk : k < 100) (hm : m < 100) (h : digs k = digs m) : k = m := by
  have h1 := (digs_all ⟨k, hk⟩).1
  have h2 := (digs_all ⟨m, hm⟩).1
  simp only at h1 h2
  rw [← h1, ← h2, h]

/-! ### The numbering of keys -/
section
variable {α β : Type} [DecidableEq α] [DecidableEq β]
/-! How many keys there are. -/
end
end Go.Sy

/- The plain law of equality: keys of nodes, the coarsest equality, the classes. -/
namespace Go.Sy

theorem q_node {b : Bk} (h : bookB b = true) {x : Nd} (hx : x ∈ b.nodes) : nodeB b.nodes.length x = true := by
  simp only [bookB, Bool.and_eq_true] at h
  exact List.all_eq_true.1 h.2.2.2 x hx
theorem q_arms {n : Int} {x : Nd} (h : nodeB n x = true) : x.arms.length ≤ 6 ∧ ∀ i, i < x.arms.length → okAt n x.arms i = true := by
  unfold nodeB at h
  split at h
  · simp only [Bool.and_eq_true, decide_eq_true_eq] at h
    exact ⟨by omega, fun i hi => by omega⟩
  · simp only [Bool.and_eq_true, decide_eq_true_eq] at h
    exact ⟨h.2.2.2.1, fun i hi => List.all_eq_true.1 h.2.2.2.2 i (List.mem_range.2 hi)⟩
theorem q_edge {n : Int} {x : Nd} (h : nodeB n x = true) {e : Edge} (he : e ∈ x.arms) : nameB e.label = true ∧ 0 ≤ e.next ∧ e.next < n ∧ sortB e.kind e.at_ n = true := by
  obtain ⟨i, hi, rfl⟩ := List.mem_iff_getElem.1 he
  have := (q_arms h).2 i hi
  cases i with
  | zero =>
    rw [okAt_zero hi] at this
    simp only [Bool.and_eq_true, decide_eq_true_eq] at this
    exact ⟨this.1, this.2.1, this.2.2.1, this.2.2.2⟩
  | succ j =>
    rw [okAt_succ hi] at this
    simp only [Bool.and_eq_true, decide_eq_true_eq] at this
    exact ⟨this.1, this.2.2.1, this.2.2.2.1, this.2.2.2.2⟩
/-- What equality needs to know of an edge, of a node. -/
structure GE (n : Int) (e : Edge) : Prop where
  lab : pln e.label.data.toList
  ll : e.label.data.toList.length ≤ 12
  k0 : 0 ≤ e.kind
  k6 : e.kind < 6
  nx : 0 ≤ e.next ∧ e.next < n
  at_ : e.kind = 5 → 0 ≤ e.at_ ∧ e.at_ < n
structure GN (n : Int) (x : Nd) : Prop where
  k0 : 0 ≤ x.kind
  k3 : x.kind < 3
  peer : pln x.peer.data.toList
  pl : x.peer.data.toList.length ≤ 12
  len : x.arms.length ≤ 6
  arm : ∀ e ∈ x.arms, GE n e
/-! ### Signs and keys -/
structure FitA (R : Int → Int → Prop) (a e : Edge) : Prop where
  label : a.label = e.label
  kind : a.kind = e.kind
  next : R a.next e.next
  at_ : a.kind = 5 → R a.at_ e.at_
structure FitP (R : Int → Int → Prop) (x y : Nd) : Prop where
  kind : x.kind = y.kind
  peer : x.peer = y.peer
  len : x.arms.length = y.arms.length
  arm : ∀ i (h : i < x.arms.length) (h' : i < y.arms.length), FitA R x.arms[i] y.arms[i]
theorem FitA.mono {R S : Int → Int → Prop} {a e : Edge} (h : FitA R a e) (hn : R a.next e.next → S a.next e.next) (ha : a.kind = 5 → R a.at_ e.at_ → S a.at_ e.at_) : FitA S a e := ⟨h.label, h.kind, hn h.next, fun k => ha k (h.at_ k)⟩

theorem ba_ext {s t : ByteArray} (h : s.data.toList = t.data.toList) : s = t := ByteArray.ext (Array.ext' h)
/-! ### The coarsest equality -/
def ndE (b : Bk) (x : Int) : Nd := (b.nodes[x.toNat]?).getD ⟨0, ⟨#[]⟩, []⟩
def inQ (n : Nat) (x y : Int) : Prop := 0 ≤ x ∧ x < n ∧ 0 ≤ y ∧ y < n
def BisE (b : Bk) (E : Int → Int → Prop) : Prop := ∀ x y, E x y → inQ b.nodes.length x y ∧ FitP E (ndE b x) (ndE b y)
/-- Two nodes are equal (P10.1). -/
def Bis (b : Bk) (x y : Int) : Prop := ∃ E, BisE b E ∧ E x y
theorem bis_self (b : Bk) : BisE b (Bis b) := by
  rintro x y ⟨E, hE, h⟩
  obtain ⟨h1, h2⟩ := hE x y h
  exact ⟨h1, h2.kind, h2.peer, h2.len, fun i hi hi' => (h2.arm i hi hi').mono (fun h => ⟨E, hE, h⟩) (fun _ h => ⟨E, hE, h⟩)⟩
/-- A book that is known in its nodes. -/
def GB (b : Bk) : Prop := ∀ x ∈ b.nodes, GN b.nodes.length x
theorem GB.at {b : Bk} (h : GB b) {x : Int} (h0 : 0 ≤ x) (h1 : x < b.nodes.length) : GN b.nodes.length (ndE b x) := by
  have hi : x.toNat < b.nodes.length := by omega
  have : ndE b x = b.nodes[x.toNat] := by simp [ndE, hi]
  rw [this]
  exact h _ (List.getElem_mem hi)
/-- A row of keys (of classes) that never parts equal nodes. -/
structure Coarse {α : Type} (b : Bk) (ks : List α) : Prop where
  len : ks.length = b.nodes.length
  le : ∀ i j : Nat, Bis b i j → ks[i]? = ks[j]?
theorem Coarse.of {α β : Type} {b : Bk} {ks : List α} {ms : List β} (h : Coarse b ks) (hl : ms.length = ks.length) (he : ∀ i j, i < ks.length → j < ks.length → ks[i]? = ks[j]? → ms[i]? = ms[j]?) : Coarse b ms := by
  refine ⟨hl.trans h.len, fun i j hij => ?_⟩
  obtain ⟨⟨_, hi, _, hj⟩, _⟩ := bis_self b _ _ hij
  have hl := h.len
  exact he i j (by omega) (by omega) (h.le i j hij)
/-! ### The classes -/
section
variable {b : Bk} (h : GB b) (hn : b.nodes.length ≤ 99)
include h hn
end
end Go.Sy

/- Layer: a slice compared with nil, maps with keys of one kind and the lookup that tells whether, a field of a struct's value, a closure that reads a map. -/
namespace Go.Sy
open Go.RowKit

/-! ### A slice compared with nil -/
section
variable {C : Ctx} {n : Nat} {tm : TM} {mm : MM} {o : Oper} {d : Nat} {x y : Operand} {ty ty' : TypeId}
end

/-! ### Keys of one kind -/
theorem now_find {α : Type} [DecidableEq α] {rep : α → Value} {kind : TypeDesc} (hnow : ∀ a b, Instr.sameNow kind (rep a) (rep b) = some (decide (a = b))) (a : α) :
    ∀ (es : List MapEntry) (m : List α) (i : Nat), es.map (·.key) = m.map rep →
      Instr.findNow kind (rep a) es i = some ((m.findIdx? (fun b => decide (a = b))).bind fun j => (es[j]?).map fun x => (j + i, x.val))
  | [], m, i, h => by cases m <;> simp at h; simp [Instr.findNow]
  | x :: es, [], i, h => by simp at h
  | x :: es, b :: m, i, h => by
    simp only [List.map_cons, List.cons.injEq] at h
    obtain ⟨h1, h2⟩ := h
    rw [Instr.findNow, h1, hnow]
    by_cases hab : a = b
    · subst hab; simp [List.findIdx?_cons]
    · have := now_find hnow a es m (i + 1) h2
      simp only [hab, decide_false, this, List.findIdx?_cons, Bool.false_eq_true, if_false]
      cases m.findIdx? fun b => decide (a = b) with
      | none => simp
      | some j =>
        have : j + (i + 1) = j + 1 + i := by omega
        simp [this]
theorem keyL_now {P : Program} {k : TypeId} {ik : TyI} {infk : TypeInfo} {kind : TypeDesc} {α : Type} [DecidableEq α] {rep : α → Value} (hk : TyF P k ik infk kind)
    (hnow : ∀ a b, Instr.sameNow kind (rep a) (rep b) = some (decide (a = b))) (hchk : ∀ em a w, (Instr.checkKey em 10000 k (rep a)).run P w = .ok () w) (hbits : ∀ a, Instr.sameBits 10000 (rep a) (rep a) = true) : KeyL P k rep := by
  refine ⟨hchk, fun a es m w hm => ?_, hbits⟩
  unfold Instr.findKey
  simp only [Sem.run_bind, run_underlying hk.und, Result.andThen_ok]
  rw [now_find hnow a es m 0 hm]
  simp
theorem ba_beq (a b : ByteArray) : (a == b) = decide (a = b) := by
  obtain ⟨x⟩ := a
  obtain ⟨y⟩ := b
  have : (ByteArray.mk x == ByteArray.mk y) = (x == y) := rfl
  rw [this]
  by_cases h : x = y
  · subst h; simp
  · simp [h]
abbrev strV (s : ByteArray) : Value := .string s
abbrev strF (s : ByteArray) : FV := .one (.str s)
theorem str_keyL {P : Program} {k : TypeId} {ik : TyI} {infk : TypeInfo} (hk : TyF P k ik infk .string) : KeyL P k strV := by
  refine keyL_now hk (fun a b => ?_) (fun em a w => ?_) (fun a => by simp [Instr.sameBits, ba_beq])
  · show some (a == b) = some (decide (a = b))
    rw [ba_beq]
  rw [show (10000 : Nat) = 9999 + 1 from rfl, Instr.checkKey]
  simp [Sem.run_bind, run_underlying hk.und]
theorem strF_iff (w : World) (M : Nat → Prop) (v : Value) (a : ByteArray) : RepF w M v (strF a) ↔ v = strV a := ⟨fun h => RepC.str_inv h, fun h => by subst h; exact RepC.str _⟩
theorem tyF_str {P : Program} {Θ : Tab} (hΘ : tabOK P Θ) {t : Nat} {z bts : Nat} {ag : Bool} {zt : Option (List CT)} (h : tyGet Θ t = some ⟨z, bts, ag, zt, .string⟩) : KeyL P t strV := by
  obtain ⟨inf, de, hf⟩ := tyF hΘ h
  have h1 : de = .string := by
    have := hf.sh
    cases de <;> simp [shChk] at this ⊢
  subst h1
  exact str_keyL hf

/-! ### The lookup that tells whether -/
def hasC {α : Type} [DecidableEq α] (m : List (α × CT)) (a : α) : Bool := (m.find? fun q => decide (a = q.1)).isSome
section
variable {C : Ctx} {n : Nat} {tm : TM} {mm : MM} {o : Oper} {d : Nat} {α : Type} [DecidableEq α]
theorem op_lookupOk {Θ : Tab} (hΘ : tabOK C.P Θ) {t k e : TypeId} {x y : Operand} {z bts : Nat} {ag : Bool} {zt : Option (List CT)} {ei : TyI} {zc : CT} {i : Nat} {rep : α → Value} {kf : α → FV} {m : List (α × CT)} {a0 : α} {s : SV}
    (ho : o.op = .lookup t x y true) (ht : tyGet Θ t = some ⟨z, bts, ag, zt, .map k e⟩) (hei : tyGet Θ e = some ei) (hz : ei.zero = some [zc]) (hna : ei.agg = false)
    (hK : KeyL C.P k rep) (hkf : ∀ (w : World) (M : Nat → Prop) (v : Value) (a : α), RepF w M v (kf a) → v = rep a)
    (hx : evalC tm x = some (.mp i)) (hi : getM mm i = some (.mpo (entF kf m))) (hy : evalV tm y = some s) (hs : ∀ I H Z w M v, RepSV I H Z w M v s → v = rep a0) (hd : o.dst = some d) (hn : Nat.blt d n = true) :
    OpV C n o tm mm d (.tup [.one (.c (lookC m a0 zc)), .one (.c (.bool (hasC m a0)))]) :=
  OpV.val hd hn _ fun H Z a w hm => by
    have hpair : ∀ (v : Value) (b : Bool) (c : CT), RepC w (Mof C H mm) v c → RepST (Iof mm) H Z w (Mof C H mm) (.tuple #[v, .bool b]) (.tup [.one (.c c), .one (.c (.bool b))]) := by
      intro v b c hv
      refine ⟨_, rfl, rfl, fun j s hs => ?_⟩
      match j, hs with
      | 0, hs => simp at hs; subst hs; exact ⟨v, rfl, hv⟩
      | 1, hs => simp at hs; subst hs; exact ⟨.bool b, rfl, RepC.bool b⟩
      | j + 2, hs => simp at hs
    obtain ⟨inf, de, hf⟩ := tyF hΘ ht
    obtain ⟨inf', de', hf'⟩ := tyF hΘ hei
    obtain ⟨zv, hzv, hzc, hzl⟩ := hf'.zero _ hz
    have hde : de = .map k e := by
      have := hf.sh
      cases de <;> simp [shChk] at this ⊢
      exact this
    subst hde
    obtain ⟨_, hv⟩ := evalC_rep hm hx
    obtain ⟨r, es, ck, h1, h2, h3, h4⟩ := hm.mem _ (getM_mem hi)
    have hk := hs _ _ _ _ _ _ (evalV_rep hm hy)
    have hkeys := ent_keys hkf h3 h4
    have hfind := hK.find a0 es.toList (m.map (·.1)) w (by simpa using hkeys)
    rw [find_ent] at hfind
    have hget : (getObj r).run C.P w = .ok (.map es ck) w := by simp [getObj, Sem.run, h2]
    have hz1 := hf'.zeroValue (w := w) hzv
    have hzrep : RepC w (Mof C H mm) zv zc := by
      obtain ⟨q1, q2⟩ := zchk_cells (w := w) (M := Mof C H mm) hzc
      obtain ⟨u, hu, hr⟩ := q2 0 zc rfl
      rw [hna] at hzc
      have : u = zv := by
        cases zv <;> first
          | (simp [Value.cells] at hu; exact hu.symm)
          | (cases zc <;> simp [zchk, zchkL, zchk1] at hzc)
      rw [← this]; exact hr
    cases hfi : m.findIdx? fun q => decide (a0 = q.1) with
    | none =>
      have hnf : m.find? (fun q => decide (a0 = q.1)) = none := by
        rw [List.find?_eq_none]
        intro q hq
        rw [List.findIdx?_eq_none_iff] at hfi
        simp [hfi q hq]
      have hl : lookC m a0 zc = zc := by simp [lookC, hnf]
      have hb : hasC m a0 = false := by simp [hasC, hnf]
      rw [hl, hb]
      refine ⟨.tuple #[zv, .bool false], ?_, hpair _ _ _ hzrep⟩
      rw [hfi] at hfind
      simp only [execOp, ho, Instr.lookup, Sem.run_bind, hf.underlying, Result.andThen_ok, hv, h1, hk, hget, hK.chk, Sem.run_pure]
      simp at hfind
      simp [hfind, hz1, Sem.run_bind]
    | some j =>
      have hfi' := hfi
      rw [List.findIdx?_eq_some_iff_getElem] at hfi'
      obtain ⟨hj, hj1, hj2⟩ := hfi'
      have hsf : m.find? (fun q => decide (a0 = q.1)) = some m[j] := by
        rw [List.find?_eq_some_iff_getElem]
        exact ⟨hj1, j, hj, rfl, fun i hi => by simpa using hj2 i hi⟩
      have hl : lookC m a0 zc = m[j].2 := by simp [lookC, hsf]
      have hb : hasC m a0 = true := by simp [hasC, hsf]
      rw [hl, hb]
      obtain ⟨en, g1, g2, g3⟩ := h4 j (kf m[j].1, .one m[j].2) (by simp [entF, hj])
      refine ⟨.tuple #[en.val, .bool true], ?_, hpair _ _ _ g3⟩
      rw [hfi] at hfind
      have g1' : es.toList[j]? = some en := by simpa using g1
      simp only [Option.bind_some, g1', Option.map_some] at hfind
      simp only [execOp, ho, Instr.lookup, Sem.run_bind, hf.underlying, Result.andThen_ok, hv, h1, hk, hget, hK.chk, Sem.run_pure, hfind]
      simp
end
section
variable {C : Ctx} {n : Nat} {tm : TM} {mm : MM} {o : Oper} {d : Nat} {x y : Operand}
theorem strS_rep {a : ByteArray} (I : Nat → Prop) (H : Nat → Value) (Z : Nat → Nat) (w : World) (M : Nat → Prop) (v : Value) (h : RepSV I H Z w M v (.one (.c (.str a)))) : v = strV a := RepC.str_inv h
theorem op_lookSOk {Θ : Tab} (hΘ : tabOK C.P Θ) {t k e : TypeId} {z bts zk bk : Nat} {ag agk : Bool} {zt ztk : Option (List CT)} {ei : TyI} {zc : CT} {i : Nat} {m : List (ByteArray × CT)} {a0 : ByteArray}
    (ho : o.op = .lookup t x y true) (ht : tyGet Θ t = some ⟨z, bts, ag, zt, .map k e⟩) (hk : tyGet Θ k = some ⟨zk, bk, agk, ztk, .string⟩) (hei : tyGet Θ e = some ei) (hz : ei.zero = some [zc]) (hna : ei.agg = false)
    (hx : evalC tm x = some (.mp i)) (hi : getM mm i = some (.mpo (entF strF m))) (hy : evalV tm y = some (.one (.c (.str a0)))) (hd : o.dst = some d) (hn : Nat.blt d n = true) : OpV C n o tm mm d (.tup [.one (.c (lookC m a0 zc)), .one (.c (.bool (hasC m a0)))]) :=
  op_lookupOk hΘ ho ht hei hz hna (tyF_str hΘ hk) (fun w M v a h => (strF_iff w M v a).1 h) hx hi hy strS_rep hd hn
end
section
variable {C : Ctx} {n : Nat} {tm : TM} {mm : MM} {L l : List Oper} {T : TM → MM → Prop} {o : Oper} {d : Nat} {x y vx : Operand}
theorem s_putS {Θ : Tab} (hΘ : tabOK C.P Θ) {t k e : TypeId} {z bts zk bk : Nat} {ag agk : Bool} {zt ztk : Option (List CT)} {c : CT} {i : Nat} {m : List (ByteArray × CT)} {a0 : ByteArray}
    (ho : o.op = .mapUpdate t x y vx ∨ o.op = .insert t x y vx) (ht : tyGet Θ t = some ⟨z, bts, ag, zt, .map k e⟩) (hk : tyGet Θ k = some ⟨zk, bk, agk, ztk, .string⟩)
    (hx : evalC tm x = some (.mp i)) (hi : getM mm i = some (.mpo (entF strF m))) (hy : evalV tm y = some (.one (.c (.str a0)))) (hvx : evalD tm vx = some (.one (.c c))) (hd : o.dst = none) (hg : guardL L tm o = some true)
    (g : SOps C n L.toArray l tm (updM mm i (.mpo (entF strF (putC m a0 c)))) T) : SOps C n L.toArray (o :: l) tm mm T :=
  s_step (op_mapUpdate (n := n) hΘ ho ht (tyF_str hΘ hk) strF_iff hx hi hy strS_rep hvx hd).wp hg g
end

/-! ### A field of a struct's value, of one cell -/
section
variable {C : Ctx} {n : Nat} {tm : TM} {mm : MM} {o : Oper} {d : Nat} {x : Operand}
end
/-! ### A store to an element of one's own row -/
section
variable {C : Ctx} {n : Nat} {tm : TM} {mm : MM} {o : Oper} {x y : Operand}
end
section
variable {C : Ctx} {n : Nat} {tm : TM} {mm : MM} {L l : List Oper} {T : TM → MM → Prop} {o : Oper} {d : Nat} {x y : Operand} {ty ty' : TypeId}
theorem s_cat {a b : ByteArray} (ho : o.op = .binOp .add ty x y ty') (hx : evalC tm x = some (.c (.str a))) (hy : evalC tm y = some (.c (.str b))) (hd : o.dst = some d) (hn : Nat.blt d n = true) (hg : guardL L tm o = some true)
    (hr : a.size + b.size ≤ 9223372036854775807) (k : SOps C n L.toArray l ((d, .v (.one (.c (.str (a ++ b))))) :: delL tm d) mm T) : SOps C n L.toArray (o :: l) tm mm T :=
  s_step (op_catS ho hx hy hr hd hn).wp hg k
end
section
variable {C : Ctx} {n : Nat} {tm tm0 : TM} {mm : MM} {L l : List Oper} {T : TM → Prop} {o : Oper} {d : Nat} {x y : Operand} {ty ty' : TypeId}
end

/-! ### Numbered keys -/
section
variable {α : Type} [DecidableEq α]
def numK : Nat → List α → List (α × CT)
  | _, [] => []
  | k, a :: l => (a, .int .i64 (k : Int)) :: numK (k + 1) l
/-- Each key with its number. -/
def numM (l : List α) : List (α × CT) := numK 0 l
theorem numK_app (l : List α) (a : α) : ∀ k, numK k (l ++ [a]) = numK k l ++ [(a, .int .i64 ((k + l.length : Nat) : Int))] := by
  induction l with
  | nil => intro k; simp [numK]
  | cons b l ih =>
    intro k
    simp only [List.cons_append, numK, ih, List.length_cons]
    rw [show k + 1 + l.length = k + (l.length + 1) by omega]
theorem numK_find (a : α) (l : List α) : ∀ k, (numK k l).find? (fun q => decide (a = q.1)) = if a ∈ l then some (a, .int .i64 ((k + l.idxOf a : Nat) : Int)) else none := by
  induction l with
  | nil => intro k; simp [numK]
  | cons b l ih =>
    intro k
    by_cases h : a = b
    · subst h; simp [numK]
    · have hb : (b == a) = false := by simpa using fun e : b = a => h e.symm
      rw [numK, List.find?_cons]
      simp only [h, decide_false, ih, List.mem_cons, false_or, List.idxOf_cons, hb, cond_false]
      split
      · rw [show k + 1 + l.idxOf a = k + (l.idxOf a + 1) by omega]
      · rfl
def numI (l : List α) (a : α) : Nat := if a ∈ l then l.idxOf a else 0
theorem num_look (l : List α) (a : α) : lookC (numM l) a (.int .i64 0) = .int .i64 ((numI l a : Nat) : Int) := by
  unfold lookC numM
  rw [numK_find, numI]
  by_cases h : a ∈ l <;> simp [h]
theorem num_has (l : List α) (a : α) : hasC (numM l) a = decide (a ∈ l) := by
  unfold hasC numM
  rw [numK_find]
  by_cases h : a ∈ l <;> simp [h]
theorem num_put {l : List α} {a : α} (h : a ∉ l) : putC (numM l) a (.int .i64 (l.length : Int)) = numM (l ++ [a]) := by
  have hn : (numM l).findIdx? (fun q => decide (a = q.1)) = none := by
    have := numK_find a l 0
    rw [if_neg h] at this
    rw [List.findIdx?_eq_none_iff]
    intro q hq
    have := List.find?_eq_none.1 this q hq
    simpa using this
  unfold putC
  rw [hn]
  simp only
  rw [numM, numM, numK_app, Nat.zero_add]
end

/-! ### Maps looked through (one value), and sets of keys -/
section
variable {C : Ctx} {n : Nat} {tm : TM} {mm : MM} {L l : List Oper} {T : TM → MM → Prop} {o : Oper} {d : Nat} {x y : Operand}
theorem s_lookS {Θ : Tab} (hΘ : tabOK C.P Θ) {t k e : TypeId} {z bts zk bk : Nat} {ag agk : Bool} {zt ztk : Option (List CT)} {ei : TyI} {zc : CT} {i : Nat} {m : List (ByteArray × CT)} {a0 : ByteArray}
    (ho : o.op = .lookup t x y false) (ht : tyGet Θ t = some ⟨z, bts, ag, zt, .map k e⟩) (hk : tyGet Θ k = some ⟨zk, bk, agk, ztk, .string⟩) (hei : tyGet Θ e = some ei) (hz : ei.zero = some [zc]) (hna : ei.agg = false)
    (hx : evalC tm x = some (.mp i)) (hi : getM mm i = some (.mpo (entF strF m))) (hy : evalV tm y = some (.one (.c (.str a0)))) (hd : o.dst = some d) (hn : Nat.blt d n = true) (hg : guardL L tm o = some true)
    (g : SOps C n L.toArray l ((d, .v (.one (.c (lookC m a0 zc)))) :: delL tm d) mm T) : SOps C n L.toArray (o :: l) tm mm T :=
  s_step (op_lookup hΘ ho ht hei hz hna (tyF_str hΘ hk) (fun w M v a h => (strF_iff w M v a).1 h) hx hi hy strS_rep hd hn).wp hg g
end
section
variable {α : Type} [DecidableEq α]
/-- A set of keys: a map to bools of which each entry is true. -/
abbrev setK (l : List α) : List (α × CT) := l.map fun a => (a, CT.bool true)
theorem setK_find {l : List α} {a : α} : (setK l).find? (fun q => decide (a = q.1)) = if a ∈ l then some (a, .bool true) else none := by
  induction l with
  | nil => simp
  | cons b l ih =>
    simp only [setK, List.map_cons, List.find?_cons]
    by_cases h : a = b
    · subst h; simp
    · simp only [h, decide_false, List.mem_cons, false_or]; exact ih
theorem setK_look (l : List α) (a : α) : lookC (setK l) a (.bool false) = .bool (decide (a ∈ l)) := by
  unfold lookC
  rw [setK_find]
  by_cases h : a ∈ l <;> simp [h]
theorem setK_put {l : List α} {a : α} (h : a ∉ l) : putC (setK l) a (.bool true) = setK (l ++ [a]) := by
  have hn : (setK l).findIdx? (fun q => decide (a = q.1)) = none := by
    rw [List.findIdx?_eq_none_iff]
    intro q hq
    obtain ⟨b, hb, rfl⟩ := List.mem_map.1 hq
    simp only [decide_eq_false_iff_not]
    rintro rfl; exact h hb
  unfold putC
  rw [hn]
  simp
end
end Go.Sy

/- Layer: a closure over a map and a row that it only reads. -/
namespace Go.Sy
open Go.RowKit

/-- What such a closure has in hand: a variable that holds a map, a variable that holds a frozen value, the map. -/
def mmS (es : List (FV × FV)) (ct : CT) : MM := [(given, .box [.mp (given + 2)]), (given + 1, .box [.c ct]), (given + 2, .mpo es)]
structure ConS (P : Program) (f : FuncId) (es : List (FV × FV)) (ct : CT) (args : List SV) (res : ST) : Prop where
  ok : CallOK P f
  calls : ∀ (w : World) (M0 : Nat → Prop) (H : Nat → Value) (Z : Nat → Nat) (vs : List Value), Pre w M0 H Z (mmS es ct) →
    Pw (fun v s => RepSV (Iof (mmS es ct)) H Z w (fun b => M0 b ∨ blksOf H (mmS es ct) b) v s) vs args →
    Calls P f vs.toArray w fun e w' => ∃ v, e = .returned v ∧ Ext (blksOf H (mmS es ct)) w w' ∧
      (∃ H' Z', H' given = H given ∧ H' (given + 1) = H (given + 1) ∧ H' (given + 2) = H (given + 2) ∧ ∀ p ∈ mmS es ct, MemOK (Iof (mmS es ct)) H' Z' w' (fun b => M0 b ∨ blksOf H (mmS es ct) b) p.1 p.2) ∧
      RepST (Iof (mmS es ct)) H Z w' (fun b => M0 b ∨ blksOf H (mmS es ct) b) v res
/-! ### The call -/
section
variable {C : Ctx} {n : Nat} {tm : TM} {mm : MM} {o : Oper} {d : Nat}
end
end Go.Sy

/- Layer: a region that draws its order, of which the last operation waits for all others and may set what the others read. -/
namespace Go.Sy
open Go.RowKit

section
variable {C : Ctx} {n : Nat} {mm : MM} {L : List Oper} {z : Oper}
end
end Go.Sy

/- Layer: a region that draws its order, of which some operations make objects and the last waits for all others. -/
namespace Go.Sy
open Go.RowKit

section
variable {C : Ctx} {n : Nat} {mm0 : MM} {L : List Oper} {z : Oper}
abbrev MKs := List (Nat × (Nat × MO))

/-- What an operation of such a region does, wherever it comes up. -/
structure OkM (C : Ctx) (n : Nat) (mm0 : MM) (L : List Oper) (tmF : TM) (MK : MKs) (i : Nat) (o : Oper) (d : Nat) (s : ST) (add : MM) : Prop where
  dst : o.dst = some d
  tin : (d, s) ∈ tmF
  made : ∀ q, (i, q) ∈ MK ↔ q ∈ add
  ok : ∀ tm' mm', Looked L tmF o tm' → (∀ q ∈ mm0, q ∈ mm') → (∀ j q, (j, q) ∈ MK → j ∈ ons o.after.toList → q ∈ mm') → (∀ q ∈ add, ∀ r ∈ mm', r.1 ≠ q.1) →
    ∀ (a : Act) (w : World) (K : Act → World → Prop) (Q : Exit → Act → World → Prop), Has C n tm' mm' a w →
      (∀ a' w', Has C n ((d, s) :: delL tm' d) (add ++ mm') a' w' → K a' w') →
      if Region.wanted o (yielded L.toArray a.tmps) then o.wp C.P a w K Q else K (a.put o.dst undef) w

/-! ### The tests -/
/-! ### The operations -/
variable {tmF : TM} {MK : MKs} {i : Nat} {o : Oper} {d : Nat} {s : ST} {x y : Operand}
end
end Go.Sy
