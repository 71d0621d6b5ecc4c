/- Contracts of the reference, bundle Bu1. -/
import Derived.Test.YtdjocfajcbhmgaaDoorSy8
set_option linter.unusedSimpArgs false
set_option linter.unusedVariables false
set_option linter.unusedSectionVars false
namespace Go.Sy
open Go.RowKit
section
variable {C : Ctx} {n : Nat} {tm : TM} {mm : MM} {o : Oper} {d : Nat} {x y : Operand} {ty ty' : TypeId}
end
theorem now_find {α : Type} [DecidableEq α] {rep : α → Value} {kind : TypeDesc} (hnow : ∀ a b, Instr.sameNow kind (rep a) (rep b) = some (decide (a = b))) (a : α) :
    ∀ (es : List MapEntry) (m : List α) (i : Nat), es.map (·.key) = m.map rep →
      Instr.findNow kind (rep a) es i = some ((m.findIdx? (fun b => decide (a = b))).bind fun j => (es[j]?).map fun x => (j + i, x.val))
  | [], m, i, h => by cases m <;> simp at h; simp [Instr.findNow]
  | x :: es, [], i, h => by simp at h
  | x :: es, b :: m, i, h => by
    simp only [List.map_cons, List.cons.injEq] at h
    obtain ⟨h1, h2⟩ := h
    rw [Instr.findNow, h1, hnow]
    by_cases hab : a = b
    · subst hab; simp [List.findIdx?_cons]
    · have := now_find hnow a es m (i + 1) h2
      simp only [hab, decide_false, this, List.findIdx?_cons, Bool.false_eq_true, if_false]
      cases m.findIdx? fun b => decide (a = b) with
      | none => simp
      | some j =>
        have : j + (i + 1) = j + 1 + i := by omega
        simp [this]
theorem keyL_now {P : Program} {k : TypeId} {ik : TyI} {infk : TypeInfo} {kind : TypeDesc} {α : Type} [DecidableEq α] {rep : α → Value} (hk : TyF P k ik infk kind)
    (hnow : ∀ a b, Instr.sameNow kind (rep a) (rep b) = some (decide (a = b))) (hchk : ∀ em a w, (Instr.checkKey em 10000 k (rep a)).run P w = .ok () w) (hbits : ∀ a, Instr.sameBits 10000 (rep a) (rep a) = true) : KeyL P k rep := by
  refine ⟨hchk, fun a es m w hm => ?_, hbits⟩
  unfold Instr.findKey
  simp only [Sem.run_bind, run_underlying hk.und, Result.andThen_ok]
  rw [now_find hnow a es m 0 hm]
  simp
theorem ba_beq (a b : ByteArray) : (a == b) = decide (a = b) := by
  obtain ⟨x⟩ := a
  obtain ⟨y⟩ := b
  have : (ByteArray.mk x == ByteArray.mk y) = (x == y) := rfl
  rw [this]
  by_cases h : x = y
  · subst h; simp
  · simp [h]
abbrev intV (a : Int) : Value := .int .i64 a
abbrev strV (s : ByteArray) : Value := .string s
abbrev intF (a : Int) : FV := .one (.int .i64 a)
abbrev strF (s : ByteArray) : FV := .one (.str s)
theorem int_keyL {P : Program} {k : TypeId} {ik : TyI} {infk : TypeInfo} (hk : TyF P k ik infk (.int .i64)) : KeyL P k intV := by
  refine keyL_now hk (fun a b => by simp [Instr.sameNow]; rfl) (fun em a w => ?_) (fun a => by simp [Instr.sameBits])
  rw [show (10000 : Nat) = 9999 + 1 from rfl, Instr.checkKey]
  simp [Sem.run_bind, run_underlying hk.und]
theorem str_keyL {P : Program} {k : TypeId} {ik : TyI} {infk : TypeInfo} (hk : TyF P k ik infk .string) : KeyL P k strV := by
  refine keyL_now hk (fun a b => ?_) (fun em a w => ?_) (fun a => by simp [Instr.sameBits, ba_beq])
  · show some (a == b) = some (decide (a = b))
    rw [ba_beq]
  rw [show (10000 : Nat) = 9999 + 1 from rfl, Instr.checkKey]
  simp [Sem.run_bind, run_underlying hk.und]
theorem intF_iff (w : World) (M : Nat → Prop) (v : Value) (a : Int) : RepF w M v (intF a) ↔ v = intV a := ⟨fun h => RepC.int_inv h, fun h => by subst h; exact RepC.int _ _⟩
theorem strF_iff (w : World) (M : Nat → Prop) (v : Value) (a : ByteArray) : RepF w M v (strF a) ↔ v = strV a := ⟨fun h => RepC.str_inv h, fun h => by subst h; exact RepC.str _⟩
theorem tyF_int {P : Program} {Θ : Tab} (hΘ : tabOK P Θ) {t : Nat} {z bts : Nat} {ag : Bool} {zt : Option (List CT)} (h : tyGet Θ t = some ⟨z, bts, ag, zt, .int .i64⟩) : KeyL P t intV := by
  obtain ⟨inf, de, hf⟩ := tyF hΘ h
  have h1 : de = .int .i64 := by
    have := hf.sh
    cases de <;> simp [shChk] at this ⊢
    exact this
  subst h1
  exact int_keyL hf
theorem tyF_str {P : Program} {Θ : Tab} (hΘ : tabOK P Θ) {t : Nat} {z bts : Nat} {ag : Bool} {zt : Option (List CT)} (h : tyGet Θ t = some ⟨z, bts, ag, zt, .string⟩) : KeyL P t strV := by
  obtain ⟨inf, de, hf⟩ := tyF hΘ h
  have h1 : de = .string := by
    have := hf.sh
    cases de <;> simp [shChk] at this ⊢
  subst h1
  exact str_keyL hf
def hasC {α : Type} [DecidableEq α] (m : List (α × CT)) (a : α) : Bool := (m.find? fun q => decide (a = q.1)).isSome
section
variable {C : Ctx} {n : Nat} {tm : TM} {mm : MM} {o : Oper} {d : Nat} {α : Type} [DecidableEq α]
theorem op_lookupOk {Θ : Tab} (hΘ : tabOK C.P Θ) {t k e : TypeId} {x y : Operand} {z bts : Nat} {ag : Bool} {zt : Option (List CT)} {ei : TyI} {zc : CT} {i : Nat} {rep : α → Value} {kf : α → FV} {m : List (α × CT)} {a0 : α} {s : SV}
    (ho : o.op = .lookup t x y true) (ht : tyGet Θ t = some ⟨z, bts, ag, zt, .map k e⟩) (hei : tyGet Θ e = some ei) (hz : ei.zero = some [zc]) (hna : ei.agg = false)
    (hK : KeyL C.P k rep) (hkf : ∀ (w : World) (M : Nat → Prop) (v : Value) (a : α), RepF w M v (kf a) → v = rep a)
    (hx : evalC tm x = some (.mp i)) (hi : getM mm i = some (.mpo (entF kf m))) (hy : evalV tm y = some s) (hs : ∀ I H Z w M v, RepSV I H Z w M v s → v = rep a0) (hd : o.dst = some d) (hn : Nat.blt d n = true) :
    OpV C n o tm mm d (.tup [.one (.c (lookC m a0 zc)), .one (.c (.bool (hasC m a0)))]) :=
  OpV.val hd hn _ fun H Z a w hm => by
    have hpair : ∀ (v : Value) (b : Bool) (c : CT), RepC w (Mof C H mm) v c → RepST (Iof mm) H Z w (Mof C H mm) (.tuple #[v, .bool b]) (.tup [.one (.c c), .one (.c (.bool b))]) := by
      intro v b c hv
      refine ⟨_, rfl, rfl, fun j s hs => ?_⟩
      match j, hs with
      | 0, hs => simp at hs; subst hs; exact ⟨v, rfl, hv⟩
      | 1, hs => simp at hs; subst hs; exact ⟨.bool b, rfl, RepC.bool b⟩
      | j + 2, hs => simp at hs
    obtain ⟨inf, de, hf⟩ := tyF hΘ ht
    obtain ⟨inf', de', hf'⟩ := tyF hΘ hei
    obtain ⟨zv, hzv, hzc, hzl⟩ := hf'.zero _ hz
    have hde : de = .map k e := by
      have := hf.sh
      cases de <;> simp [shChk] at this ⊢
      exact this
    subst hde
    obtain ⟨_, hv⟩ := evalC_rep hm hx
    obtain ⟨r, es, ck, h1, h2, h3, h4⟩ := hm.mem _ (getM_mem hi)
    have hk := hs _ _ _ _ _ _ (evalV_rep hm hy)
    have hkeys := ent_keys hkf h3 h4
    have hfind := hK.find a0 es.toList (m.map (·.1)) w (by simpa using hkeys)
    rw [find_ent] at hfind
    have hget : (getObj r).run C.P w = .ok (.map es ck) w := by simp [getObj, Sem.run, h2]
    have hz1 := hf'.zeroValue (w := w) hzv
    have hzrep : RepC w (Mof C H mm) zv zc := by
      obtain ⟨q1, q2⟩ := zchk_cells (w := w) (M := Mof C H mm) hzc
      obtain ⟨u, hu, hr⟩ := q2 0 zc rfl
      rw [hna] at hzc
      have : u = zv := by
        cases zv <;> first
          | (simp [Value.cells] at hu; exact hu.symm)
          | (cases zc <;> simp [zchk, zchkL, zchk1] at hzc)
      rw [← this]; exact hr
    cases hfi : m.findIdx? fun q => decide (a0 = q.1) with
    | none =>
      have hnf : m.find? (fun q => decide (a0 = q.1)) = none := by
        rw [List.find?_eq_none]
        intro q hq
        rw [List.findIdx?_eq_none_iff] at hfi
        simp [hfi q hq]
      have hl : lookC m a0 zc = zc := by simp [lookC, hnf]
      have hb : hasC m a0 = false := by simp [hasC, hnf]
      rw [hl, hb]
      refine ⟨.tuple #[zv, .bool false], ?_, hpair _ _ _ hzrep⟩
      rw [hfi] at hfind
      simp only [execOp, ho, Instr.lookup, Sem.run_bind, hf.underlying, Result.andThen_ok, hv, h1, hk, hget, hK.chk, Sem.run_pure]
      simp at hfind
      simp [hfind, hz1, Sem.run_bind]
    | some j =>
      have hfi' := hfi
      rw [List.findIdx?_eq_some_iff_getElem] at hfi'
      obtain ⟨hj, hj1, hj2⟩ := hfi'
      have hsf : m.find? (fun q => decide (a0 = q.1)) = some m[j] := by
        rw [List.find?_eq_some_iff_getElem]
        exact ⟨hj1, j, hj, rfl, fun i hi => by simpa using hj2 i hi⟩
      have hl : lookC m a0 zc = m[j].2 := by simp [lookC, hsf]
      have hb : hasC m a0 = true := by simp [hasC, hsf]
      rw [hl, hb]
      obtain ⟨en, g1, g2, g3⟩ := h4 j (kf m[j].1, .one m[j].2) (by simp [entF, hj])
      refine ⟨.tuple #[en.val, .bool true], ?_, hpair _ _ _ g3⟩
      rw [hfi] at hfind
      have g1' : es.toList[j]? = some en := by simpa using g1
      simp only [Option.bind_some, g1', Option.map_some] at hfind
      simp only [execOp, ho, Instr.lookup, Sem.run_bind, hf.underlying, Result.andThen_ok, hv, h1, hk, hget, hK.chk, Sem.run_pure, hfind]
      simp
end
section
variable {C : Ctx} {n : Nat} {tm : TM} {mm : MM} {o : Oper} {d : Nat} {x y : Operand}
theorem intS_rep {a : Int} (I : Nat → Prop) (H : Nat → Value) (Z : Nat → Nat) (w : World) (M : Nat → Prop) (v : Value) (h : RepSV I H Z w M v (.one (.c (.int .i64 a)))) : v = intV a := RepC.int_inv h
theorem strS_rep {a : ByteArray} (I : Nat → Prop) (H : Nat → Value) (Z : Nat → Nat) (w : World) (M : Nat → Prop) (v : Value) (h : RepSV I H Z w M v (.one (.c (.str a)))) : v = strV a := RepC.str_inv h
theorem op_lookI {Θ : Tab} (hΘ : tabOK C.P Θ) {t k e : TypeId} {z bts zk bk : Nat} {ag agk : Bool} {zt ztk : Option (List CT)} {ei : TyI} {zc : CT} {i : Nat} {m : List (Int × CT)} {a0 : Int}
    (ho : o.op = .lookup t x y false) (ht : tyGet Θ t = some ⟨z, bts, ag, zt, .map k e⟩) (hk : tyGet Θ k = some ⟨zk, bk, agk, ztk, .int .i64⟩) (hei : tyGet Θ e = some ei) (hz : ei.zero = some [zc]) (hna : ei.agg = false)
    (hx : evalC tm x = some (.mp i)) (hi : getM mm i = some (.mpo (entF intF m))) (hy : evalV tm y = some (.one (.c (.int .i64 a0)))) (hd : o.dst = some d) (hn : Nat.blt d n = true) : OpV C n o tm mm d (.v (.one (.c (lookC m a0 zc)))) :=
  op_lookup hΘ ho ht hei hz hna (tyF_int hΘ hk) (fun w M v a h => (intF_iff w M v a).1 h) hx hi hy intS_rep hd hn
theorem op_lookSOk {Θ : Tab} (hΘ : tabOK C.P Θ) {t k e : TypeId} {z bts zk bk : Nat} {ag agk : Bool} {zt ztk : Option (List CT)} {ei : TyI} {zc : CT} {i : Nat} {m : List (ByteArray × CT)} {a0 : ByteArray}
    (ho : o.op = .lookup t x y true) (ht : tyGet Θ t = some ⟨z, bts, ag, zt, .map k e⟩) (hk : tyGet Θ k = some ⟨zk, bk, agk, ztk, .string⟩) (hei : tyGet Θ e = some ei) (hz : ei.zero = some [zc]) (hna : ei.agg = false)
    (hx : evalC tm x = some (.mp i)) (hi : getM mm i = some (.mpo (entF strF m))) (hy : evalV tm y = some (.one (.c (.str a0)))) (hd : o.dst = some d) (hn : Nat.blt d n = true) : OpV C n o tm mm d (.tup [.one (.c (lookC m a0 zc)), .one (.c (.bool (hasC m a0)))]) :=
  op_lookupOk hΘ ho ht hei hz hna (tyF_str hΘ hk) (fun w M v a h => (strF_iff w M v a).1 h) hx hi hy strS_rep hd hn
end
section
variable {C : Ctx} {n : Nat} {tm : TM} {mm : MM} {L l : List Oper} {T : TM → MM → Prop} {o : Oper} {d : Nat} {x y vx : Operand}
theorem s_putI {Θ : Tab} (hΘ : tabOK C.P Θ) {t k e : TypeId} {z bts zk bk : Nat} {ag agk : Bool} {zt ztk : Option (List CT)} {c : CT} {i : Nat} {m : List (Int × CT)} {a0 : Int}
    (ho : o.op = .mapUpdate t x y vx ∨ o.op = .insert t x y vx) (ht : tyGet Θ t = some ⟨z, bts, ag, zt, .map k e⟩) (hk : tyGet Θ k = some ⟨zk, bk, agk, ztk, .int .i64⟩)
    (hx : evalC tm x = some (.mp i)) (hi : getM mm i = some (.mpo (entF intF m))) (hy : evalV tm y = some (.one (.c (.int .i64 a0)))) (hvx : evalD tm vx = some (.one (.c c))) (hd : o.dst = none) (hg : guardL L tm o = some true)
    (g : SOps C n L.toArray l tm (updM mm i (.mpo (entF intF (putC m a0 c)))) T) : SOps C n L.toArray (o :: l) tm mm T :=
  s_step (op_mapUpdate (n := n) hΘ ho ht (tyF_int hΘ hk) intF_iff hx hi hy intS_rep hvx hd).wp hg g
theorem s_putS {Θ : Tab} (hΘ : tabOK C.P Θ) {t k e : TypeId} {z bts zk bk : Nat} {ag agk : Bool} {zt ztk : Option (List CT)} {c : CT} {i : Nat} {m : List (ByteArray × CT)} {a0 : ByteArray}
    (ho : o.op = .mapUpdate t x y vx ∨ o.op = .insert t x y vx) (ht : tyGet Θ t = some ⟨z, bts, ag, zt, .map k e⟩) (hk : tyGet Θ k = some ⟨zk, bk, agk, ztk, .string⟩)
    (hx : evalC tm x = some (.mp i)) (hi : getM mm i = some (.mpo (entF strF m))) (hy : evalV tm y = some (.one (.c (.str a0)))) (hvx : evalD tm vx = some (.one (.c c))) (hd : o.dst = none) (hg : guardL L tm o = some true)
    (g : SOps C n L.toArray l tm (updM mm i (.mpo (entF strF (putC m a0 c)))) T) : SOps C n L.toArray (o :: l) tm mm T :=
  s_step (op_mapUpdate (n := n) hΘ ho ht (tyF_str hΘ hk) strF_iff hx hi hy strS_rep hvx hd).wp hg g
end
section
variable {C : Ctx} {n : Nat} {tm : TM} {mm : MM} {o : Oper} {d : Nat} {x : Operand}
end
section
variable {C : Ctx} {n : Nat} {tm : TM} {mm : MM} {o : Oper} {x y : Operand}
end
section
variable {C : Ctx} {n : Nat} {tm : TM} {mm : MM} {L l : List Oper} {T : TM → MM → Prop} {o : Oper} {d : Nat} {x y : Operand} {ty ty' : TypeId}
theorem s_cat {a b : ByteArray} (ho : o.op = .binOp .add ty x y ty') (hx : evalC tm x = some (.c (.str a))) (hy : evalC tm y = some (.c (.str b))) (hd : o.dst = some d) (hn : Nat.blt d n = true) (hg : guardL L tm o = some true)
    (hr : a.size + b.size ≤ 9223372036854775807) (k : SOps C n L.toArray l ((d, .v (.one (.c (.str (a ++ b))))) :: delL tm d) mm T) : SOps C n L.toArray (o :: l) tm mm T :=
  s_step (op_catS ho hx hy hr hd hn).wp hg k
end
section
variable {C : Ctx} {n : Nat} {tm tm0 : TM} {mm : MM} {L l : List Oper} {T : TM → Prop} {o : Oper} {d : Nat} {x y : Operand} {ty ty' : TypeId}
end
section
variable {α : Type} [DecidableEq α]
def numK : Nat → List α → List (α × CT)
  | _, [] => []
  | k, a :: l => (a, .int .i64 (k : Int)) :: numK (k + 1) l
def numM (l : List α) : List (α × CT) := numK 0 l
theorem numK_app (l : List α) (a : α) : ∀ k, numK k (l ++ [a]) = numK k l ++ [(a, .int .i64 ((k + l.length : Nat) : Int))] := by
  induction l with
  | nil => intro k; simp [numK]
  | cons b l ih =>
    intro k
    simp only [List.cons_append, numK, ih, List.length_cons]
    rw [show k + 1 + l.length = k + (l.length + 1) by omega]
theorem numK_find (a : α) (l : List α) : ∀ k, (numK k l).find? (fun q => decide (a = q.1)) = if a ∈ l then some (a, .int .i64 ((k + l.idxOf a : Nat) : Int)) else none := by
  induction l with
  | nil => intro k; simp [numK]
  | cons b l ih =>
    intro k
    by_cases h : a = b
    · subst h; simp [numK]
    · have hb : (b == a) = false := by simpa using fun e : b = a => h e.symm
      rw [numK, List.find?_cons]
      simp only [h, decide_false, ih, List.mem_cons, false_or, List.idxOf_cons, hb, cond_false]
      split
      · rw [show k + 1 + l.idxOf a = k + (l.idxOf a + 1) by omega]
      · rfl
def numI (l : List α) (a : α) : Nat := if a ∈ l then l.idxOf a else 0
theorem num_look (l : List α) (a : α) : lookC (numM l) a (.int .i64 0) = .int .i64 ((numI l a : Nat) : Int) := by
  unfold lookC numM
  rw [numK_find, numI]
  by_cases h : a ∈ l <;> simp [h]
theorem num_has (l : List α) (a : α) : hasC (numM l) a = decide (a ∈ l) := by
  unfold hasC numM
  rw [numK_find]
  by_cases h : a ∈ l <;> simp [h]
theorem num_put {l : List α} {a : α} (h : a ∉ l) : putC (numM l) a (.int .i64 (l.length : Int)) = numM (l ++ [a]) := by
  have hn : (numM l).findIdx? (fun q => decide (a = q.1)) = none := by
    have := numK_find a l 0
    rw [if_neg h] at this
    rw [List.findIdx?_eq_none_iff]
    intro q hq
    have := List.find?_eq_none.1 this q hq
    simpa using this
  unfold putC
  rw [hn]
  simp only
  rw [numM, numM, numK_app, Nat.zero_add]
end
section
variable {C : Ctx} {n : Nat} {tm : TM} {mm : MM} {L l : List Oper} {T : TM → MM → Prop} {o : Oper} {d : Nat} {x y : Operand}
theorem s_lookI {Θ : Tab} (hΘ : tabOK C.P Θ) {t k e : TypeId} {z bts zk bk : Nat} {ag agk : Bool} {zt ztk : Option (List CT)} {ei : TyI} {zc : CT} {i : Nat} {m : List (Int × CT)} {a0 : Int}
    (ho : o.op = .lookup t x y false) (ht : tyGet Θ t = some ⟨z, bts, ag, zt, .map k e⟩) (hk : tyGet Θ k = some ⟨zk, bk, agk, ztk, .int .i64⟩) (hei : tyGet Θ e = some ei) (hz : ei.zero = some [zc]) (hna : ei.agg = false)
    (hx : evalC tm x = some (.mp i)) (hi : getM mm i = some (.mpo (entF intF m))) (hy : evalV tm y = some (.one (.c (.int .i64 a0)))) (hd : o.dst = some d) (hn : Nat.blt d n = true) (hg : guardL L tm o = some true)
    (g : SOps C n L.toArray l ((d, .v (.one (.c (lookC m a0 zc)))) :: delL tm d) mm T) : SOps C n L.toArray (o :: l) tm mm T :=
  s_step (op_lookI hΘ ho ht hk hei hz hna hx hi hy hd hn).wp hg g
theorem s_lookS {Θ : Tab} (hΘ : tabOK C.P Θ) {t k e : TypeId} {z bts zk bk : Nat} {ag agk : Bool} {zt ztk : Option (List CT)} {ei : TyI} {zc : CT} {i : Nat} {m : List (ByteArray × CT)} {a0 : ByteArray}
    (ho : o.op = .lookup t x y false) (ht : tyGet Θ t = some ⟨z, bts, ag, zt, .map k e⟩) (hk : tyGet Θ k = some ⟨zk, bk, agk, ztk, .string⟩) (hei : tyGet Θ e = some ei) (hz : ei.zero = some [zc]) (hna : ei.agg = false)
    (hx : evalC tm x = some (.mp i)) (hi : getM mm i = some (.mpo (entF strF m))) (hy : evalV tm y = some (.one (.c (.str a0)))) (hd : o.dst = some d) (hn : Nat.blt d n = true) (hg : guardL L tm o = some true)
    (g : SOps C n L.toArray l ((d, .v (.one (.c (lookC m a0 zc)))) :: delL tm d) mm T) : SOps C n L.toArray (o :: l) tm mm T :=
  s_step (op_lookup hΘ ho ht hei hz hna (tyF_str hΘ hk) (fun w M v a h => (strF_iff w M v a).1 h) hx hi hy strS_rep hd hn).wp hg g
end
section
variable {α : Type} [DecidableEq α]
abbrev setK (l : List α) : List (α × CT) := l.map fun a => (a, CT.bool true)
theorem setK_find {l : List α} {a : α} : (setK l).find? (fun q => decide (a = q.1)) = if a ∈ l then some (a, .bool true) else none := by
  induction l with
  | nil => simp
  | cons b l ih =>
    simp only [setK, List.map_cons, List.find?_cons]
    by_cases h : a = b
    · subst h; simp
    · simp only [h, decide_false, List.mem_cons, false_or]; exact ih
theorem setK_look (l : List α) (a : α) : lookC (setK l) a (.bool false) = .bool (decide (a ∈ l)) := by
  unfold lookC
  rw [setK_find]
  by_cases h : a ∈ l <;> simp [h]
theorem setK_put {l : List α} {a : α} (h : a ∉ l) : putC (setK l) a (.bool true) = setK (l ++ [a]) := by
  have hn : (setK l).findIdx? (fun q => decide (a = q.1)) = none := by
    rw [List.findIdx?_eq_none_iff]
    intro q hq
    obtain ⟨b, hb, rfl⟩ := List.mem_map.1 hq
    simp only [decide_eq_false_iff_not]
    rintro rfl; exact h hb
  unfold putC
  rw [hn]
  simp
end
end Go.Sy
namespace Go.Sy
open Go.RowKit
set_option maxRecDepth 100000
attribute [local irreducible] SOps Goes DOps EOps
def memB {α : Type} [DecidableEq α] (l : List α) (a : α) : Bool := decide (a ∈ l)
section
variable {C : Ctx} {n : Nat} {tm : TM} {mm : MM} {L l : List Oper} {T : TM → MM → Prop} {o : Oper} {d : Nat} {x y vx : Operand}
theorem num_hasB {α : Type} [DecidableEq α] (l : List α) (a : α) : hasC (numM l) a = memB l a := num_has l a
theorem s_lookNS {Θ : Tab} (hΘ : tabOK C.P Θ) {t k e : TypeId} {z bts zk bk ze be : Nat} {ag agk : Bool} {zt ztk : Option (List CT)} {she : Sh} {i : Nat} {m : List ByteArray} {a0 : ByteArray}
    (ho : o.op = .lookup t x y true) (ht : tyGet Θ t = some ⟨z, bts, ag, zt, .map k e⟩) (hk : tyGet Θ k = some ⟨zk, bk, agk, ztk, .string⟩) (hei : tyGet Θ e = some ⟨ze, be, false, some [.int .i64 0], she⟩)
    (hx : evalC tm x = some (.mp i)) (hi : getM mm i = some (.mpo (entF strF (numM m)))) (hy : evalV tm y = some (.one (.c (.str a0)))) (hd : o.dst = some d) (hn : Nat.blt d n = true) (hg : guardL L tm o = some true)
    (g : SOps C n L.toArray l ((d, .tup [.one (.c (.int .i64 ((numI m a0 : Nat) : Int))), .one (.c (.bool (memB m a0)))]) :: delL tm d) mm T) : SOps C n L.toArray (o :: l) tm mm T := by
  have h := op_lookSOk (n := n) (zc := .int .i64 0) hΘ ho ht hk hei rfl rfl hx hi hy hd hn
  rw [num_look, num_hasB] at h
  exact s_step h.wp hg g
theorem s_putNS {Θ : Tab} (hΘ : tabOK C.P Θ) {t k e : TypeId} {z bts zk bk : Nat} {ag agk : Bool} {zt ztk : Option (List CT)} {i : Nat} {m : List ByteArray} {a0 : ByteArray} {c : Int}
    (ho : o.op = .mapUpdate t x y vx ∨ o.op = .insert t x y vx) (ht : tyGet Θ t = some ⟨z, bts, ag, zt, .map k e⟩) (hk : tyGet Θ k = some ⟨zk, bk, agk, ztk, .string⟩)
    (hx : evalC tm x = some (.mp i)) (hi : getM mm i = some (.mpo (entF strF (numM m)))) (hy : evalV tm y = some (.one (.c (.str a0)))) (hvx : evalD tm vx = some (.one (.c (.int .i64 c)))) (hd : o.dst = none) (hg : guardL L tm o = some true)
    (hc : c = (m.length : Int)) (hm : a0 ∉ m)
    (g : SOps C n L.toArray l tm (updM mm i (.mpo (entF strF (numM (m ++ [a0]))))) T) : SOps C n L.toArray (o :: l) tm mm T := by
  subst hc
  rw [← num_put hm] at g
  exact s_putS hΘ ho ht hk hx hi hy hvx hd hg g
end
end Go.Sy
namespace Go.Sy
open Go.RowKit
def mmS (es : List (FV × FV)) (ct : CT) : MM := [(given, .box [.mp (given + 2)]), (given + 1, .box [.c ct]), (given + 2, .mpo es)]
structure ConS (P : Program) (f : FuncId) (es : List (FV × FV)) (ct : CT) (args : List SV) (res : ST) : Prop where
  ok : CallOK P f
  calls : ∀ (w : World) (M0 : Nat → Prop) (H : Nat → Value) (Z : Nat → Nat) (vs : List Value), Pre w M0 H Z (mmS es ct) →
    Pw (fun v s => RepSV (Iof (mmS es ct)) H Z w (fun b => M0 b ∨ blksOf H (mmS es ct) b) v s) vs args →
    Calls P f vs.toArray w fun e w' => ∃ v, e = .returned v ∧ Ext (blksOf H (mmS es ct)) w w' ∧
      (∃ H' Z', H' given = H given ∧ H' (given + 1) = H (given + 1) ∧ H' (given + 2) = H (given + 2) ∧ ∀ p ∈ mmS es ct, MemOK (Iof (mmS es ct)) H' Z' w' (fun b => M0 b ∨ blksOf H (mmS es ct) b) p.1 p.2) ∧
      RepST (Iof (mmS es ct)) H Z w' (fun b => M0 b ∨ blksOf H (mmS es ct) b) v res
section
variable {C : Ctx} {n : Nat} {tm : TM} {mm : MM} {o : Oper} {d : Nat}
end
end Go.Sy
namespace Go.Sy
open Go.RowKit
def splitE : List Oper → Option (List Oper × Oper)
  | [] => none
  | [z] => some ([], z)
  | o :: r => match splitE r with
    | some (l, z) => some (o :: l, z)
    | none => none
theorem splitE_eq : ∀ {L L' : List Oper} {z : Oper}, splitE L = some (L', z) → L = L' ++ [z]
  | [], _, _, h => by simp [splitE] at h
  | [o], _, _, h => by simp [splitE] at h; obtain ⟨rfl, rfl⟩ := h; rfl
  | o :: p :: r, L', z, h => by
    simp only [splitE] at h
    split at h
    · rename_i l z' hs
      simp only [Option.some.injEq, Prod.mk.injEq] at h
      obtain ⟨rfl, rfl⟩ := h
      rw [splitE_eq hs]; rfl
    · cases h
def guardsE (n : Nat) : List Oper → Bool
  | [] => true
  | o :: r => match o.guard with
    | none => guardsE n r
    | some (j, _) => match Nat.blt j n with
      | true => guardsE n r
      | false => false
theorem guardsE_spec {n : Nat} : ∀ {l : List Oper}, guardsE n l = true → ∀ o ∈ l, ∀ j b, o.guard = some (j, b) → j < n
  | [], _, _, ho, _, _, _ => by cases ho
  | o :: r, h, o', ho, j, b, hg => by
    unfold guardsE at h
    rcases List.mem_cons.1 ho with rfl | ho
    · rw [hg] at h
      simp only at h
      split at h
      · rename_i hb; exact Nat.blt_eq.mp hb
      · cases h
    · split at h
      · exact guardsE_spec h o' ho j b hg
      · split at h
        · exact guardsE_spec h o' ho j b hg
        · cases h
theorem ons_mem {e : Go.Edge} : ∀ {l : List Go.Edge}, e ∈ l → Region.binds .any e = true → e.on ∈ ons l
  | x :: l, h, hb => by
    unfold ons
    rcases List.mem_cons.1 h with rfl | h
    · rw [hb]; exact List.mem_cons_self
    · split
      · exact List.mem_cons_of_mem _ (ons_mem h hb)
      · exact ons_mem h hb
theorem ons_of {j : Nat} : ∀ {l : List Go.Edge}, j ∈ ons l → ∃ e ∈ l, Region.binds .any e = true ∧ e.on = j
  | [], h => by simp [ons] at h
  | x :: l, h => by
    unfold ons at h
    split at h
    · rename_i hb
      rcases List.mem_cons.1 h with rfl | h
      · exact ⟨x, List.mem_cons_self, hb, rfl⟩
      · obtain ⟨e, h1, h2⟩ := ons_of h
        exact ⟨e, List.mem_cons_of_mem _ h1, h2⟩
    · obtain ⟨e, h1, h2⟩ := ons_of h
      exact ⟨e, List.mem_cons_of_mem _ h1, h2⟩
def anyE (k : Nat) : List Oper → Bool
  | [] => false
  | o :: r => match memN (ons o.after.toList) k with
    | true => true
    | false => anyE k r
def covE2 (L : List Oper) (af : List Nat) : Nat → Bool
  | 0 => true
  | k + 1 => match memN af k with
    | true => covE2 L af k
    | false => match anyE k L with
      | true => covE2 L af k
      | false => false
theorem anyE_spec {k : Nat} : ∀ {L : List Oper}, anyE k L = true → ∃ o ∈ L, k ∈ ons o.after.toList
  | [], h => by cases h
  | o :: r, h => by
    unfold anyE at h
    split at h
    · rename_i hm; exact ⟨o, List.mem_cons_self, memN_iff.1 hm⟩
    · obtain ⟨o', ho, hk⟩ := anyE_spec h
      exact ⟨o', List.mem_cons_of_mem _ ho, hk⟩
theorem covE2_spec {L : List Oper} {af : List Nat} : ∀ {n : Nat}, covE2 L af n = true → ∀ k, k < n → k ∈ af ∨ ∃ o ∈ L, k ∈ ons o.after.toList
  | n + 1, h, k, hk => by
    unfold covE2 at h
    have hrec : ∀ m, covE2 L af n = true → m < n → m ∈ af ∨ ∃ o ∈ L, m ∈ ons o.after.toList := fun m hh hm => covE2_spec hh m hm
    split at h
    · rename_i hm
      rcases Nat.lt_or_ge k n with h1 | h1
      · exact hrec k h h1
      · have : k = n := by omega
        subst this; exact .inl (memN_iff.1 hm)
    · split at h
      · rename_i hm
        rcases Nat.lt_or_ge k n with h1 | h1
        · exact hrec k h h1
        · have : k = n := by omega
          subst this; exact .inr (anyE_spec hm)
      · cases h
section
variable {C : Ctx} {n : Nat} {mm : MM} {L : List Oper} {z : Oper}
theorem wanted_app {o : Oper} {a : Act} (h : ∀ j b, o.guard = some (j, b) → j < L.length) : Region.wanted o (yielded (L ++ [z]).toArray a.tmps) = Region.wanted o (yielded L.toArray a.tmps) := by
  unfold Region.wanted
  split
  · rfl
  · rename_i j want hg
    have hj := h j want hg
    have : yielded (L ++ [z]).toArray a.tmps j = yielded L.toArray a.tmps j := by
      unfold yielded
      simp [List.getElem?_append_left hj]
    rw [this]
theorem any_last {tmF : TM} (hok : okR L [] L 0 = true) (hF : ∀ o ∈ L, OkO C n mm L tmF o) (keyF : ∀ p ∈ tmF, ∀ q ∈ tmF, p.1 = q.1 → p = q)
    (hcov : ∀ k, k < L.length → k ∈ ons z.after.toList ∨ ∃ o ∈ L, k ∈ ons o.after.toList) (hlt : allLt (ons z.after.toList) L.length = true) (hgd : ∀ o ∈ L, ∀ j b, o.guard = some (j, b) → j < L.length)
    {P : TM → MM → Prop} (hP : SOps C n (L ++ [z]).toArray [z] tmF mm P) :
    ∀ (fuel : Nat) (listed : Array Bool) (a : Act) (w : World) (tm : TM), listed.size = L.length + 1 → listed.getD L.length true = false → (listed.toList.filter (!·)).length ≤ fuel → (∀ p, keepT L listed tmF p → p ∈ tm) → (∀ j o, L[j]? = some o → listed.getD j false = true → ∀ i ∈ ons o.after.toList, listed.getD i false = true) → Has C n tm mm a w →
      wpAny C.P .any (L ++ [z]).toArray (QT C n P) fuel listed a w := by
  have hLz : (L ++ [z])[L.length]? = some z := by simp
  have hLk : ∀ k, k < L.length → (L ++ [z])[k]? = L[k]? := fun k hk => List.getElem?_append_left hk
  have hall : ∀ (listed : Array Bool), listed.size = L.length + 1 → (∀ j, j ∈ Region.ready .any (L ++ [z]).toArray listed → j = L.length) → ∀ k, k < L.length → listed.getD k false = true := by
    intro listed hsz hr k
    induction k using Nat.strongRecOn with
    | _ k ih =>
      intro hk
      cases hl : listed.getD k false with
      | true => rfl
      | false =>
        have hmem : k ∈ Region.ready .any (L ++ [z]).toArray listed := by
          rw [mem_ready]
          refine ⟨?_, L[k], by rw [List.getElem?_toArray, hLk k hk, List.getElem?_eq_getElem hk], fun e he hb => ?_⟩
          · have hks : k < listed.size := by omega
            simp [Array.getD, hks] at hl ⊢; exact hl
          · obtain ⟨_, _, h3⟩ := okR_get hok k L[k] (List.getElem?_eq_getElem hk)
            have := ons_mem (l := L[k].after.toList) (by simpa using he) hb
            have hlt := allLt_spec h3 _ this
            exact ih e.on (by omega) (by omega)
        have := hr k hmem
        omega
  have hlast : ∀ (listed : Array Bool), listed.size = L.length + 1 → listed.getD L.length true = false → (∀ k, k < L.length → listed.getD k false = true) → L.length ∈ Region.ready .any (L ++ [z]).toArray listed := by
    intro listed hsz hz ha
    rw [mem_ready]
    refine ⟨hz, z, by simp, fun e he hb => ?_⟩
    exact ha _ (allLt_spec hlt _ (ons_mem (by simpa using he) hb))
  have hend : ∀ (fuel : Nat) (listed : Array Bool) (a : Act) (w : World) (tm : TM), listed.size = L.length + 1 → (∀ k, k < L.length → listed.getD k false = true) → (∀ p, keepT L listed tmF p → p ∈ tm) → Has C n tm mm a w →
      wpOp C.P (L ++ [z]).toArray (QT C n P) L.length (wpAny C.P .any (L ++ [z]).toArray (QT C n P) fuel (listed.setIfInBounds L.length true)) a w := by
    intro fuel listed a w tm hsz ha hk hh
    have hF' : Has C n tmF mm a w := hh.incl fun p hp => hk p ⟨hp, by
      by_cases hd : p.1 ∈ dstsE L
      · obtain ⟨k, o, h1, h2⟩ := dstsE_get hd
        exact .inr ⟨k, o, h1, h2, ha k (List.getElem?_eq_some_iff.1 h1).1⟩
      · exact .inl hd⟩
    have hnone : Region.ready .any (L ++ [z]).toArray (listed.setIfInBounds L.length true) = [] := by
      rw [List.eq_nil_iff_forall_not_mem]
      intro j hj
      obtain ⟨h1, o, h2, _⟩ := mem_ready.1 hj
      have hjl : j < (L ++ [z]).length := by simpa using (Array.getElem?_eq_some_iff.1 h2).1
      simp only [List.length_append, List.length_singleton] at hjl
      by_cases hjz : j = L.length
      · subst hjz
        have : L.length < listed.size := by omega
        simp [Array.getD, this] at h1
      · have h3 := ha j (by omega)
        have hjs : j < listed.size := by omega
        have hne : L.length ≠ j := fun e => hjz e.symm
        rw [getD_set_ne true hne] at h1
        simp [Array.getD, hjs] at h1 h3
        rw [h3] at h1; cases h1
    have hw := hP a w hF'
    have hmono : ∀ a' w', QT C n P .normal a' w' → wpAny C.P .any (L ++ [z]).toArray (QT C n P) fuel (listed.setIfInBounds L.length true) a' w' := by
      intro a' w' hq
      cases fuel with
      | zero => exact ⟨hnone, hq⟩
      | succ fuel => exact ⟨fun _ => hq, fun i hi => by rw [hnone] at hi; cases hi⟩
    unfold wpOp
    simp only [List.getElem?_toArray, hLz]
    unfold wpList at hw
    split at hw
    · rename_i hwd
      rw [if_pos hwd]
      rcases hw with hw | hw
      · exact .inl (Oper.wp_mono (fun a' w' h' => hmono a' w' h') hw)
      · exact .inr hw
    · rename_i hwd
      rw [if_neg hwd]
      exact hmono _ _ hw
  intro fuel
  induction fuel with
  | zero =>
    intro listed a w tm hsz hz hc hk hdn hh
    exfalso
    have hm : false ∈ listed.toList.filter (!·) := by
      rw [List.mem_filter]
      have hs : L.length < listed.size := by omega
      have : listed[L.length] = false := by simpa [Array.getD, hs] using hz
      exact ⟨by rw [← this]; simp, rfl⟩
    have := List.length_pos_of_mem hm
    omega
  | succ fuel ih =>
    intro listed a w tm hsz hz hc hk hdn hh
    refine ⟨fun hr => ?_, fun i hi => ?_⟩
    · exfalso
      have := hlast listed hsz hz (hall listed hsz fun j hj => by rw [hr] at hj; cases hj)
      rw [hr] at this; cases this
    obtain ⟨h1, o, h2, h3⟩ := mem_ready.1 hi
    have hil : i < (L ++ [z]).length := by simpa using (Array.getElem?_eq_some_iff.1 h2).1
    simp only [List.length_append, List.length_singleton] at hil
    by_cases hiz : i = L.length
    · subst hiz
      have hoz : o = z := by simpa using h2.symm
      subst hoz
      refine hend fuel listed a w tm hsz (fun k hkl => ?_) hk hh
      have key : ∀ m, ∀ k, k + m = L.length → 0 < m → listed.getD k false = true := by
        intro m
        induction m using Nat.strongRecOn with
        | _ m ihm =>
          intro k hkm hm0
          rcases hcov k (by omega) with hkz | ⟨o', ho', hko⟩
          · obtain ⟨e, he, hb, heo⟩ := ons_of hkz
            have := h3 e (by simpa using he) hb
            rwa [heo] at this
          · obtain ⟨j, hj, hjo⟩ := List.mem_iff_getElem.1 ho'
            have hLj : L[j]? = some o' := by rw [List.getElem?_eq_getElem hj, hjo]
            obtain ⟨_, _, g3⟩ := okR_get hok j o' hLj
            have hlt' := allLt_spec g3 _ hko
            exact hdn j o' hLj (ihm (L.length - j) (by omega) j (by omega) (by omega)) k hko
      exact key (L.length - k) k (by omega) (by omega)
    have hil' : i < L.length := by omega
    have hL : L[i]? = some o := by
      have : (L ++ [z])[i]? = some o := by simpa using h2
      rwa [hLk i hil'] at this
    have his : i < listed.size := by omega
    have hfalse : listed[i] = false := by simpa [Array.getD, his] using h1
    obtain ⟨_, hw, _⟩ := okR_get hok i o hL
    obtain ⟨d, s, e1, e2, e3⟩ := hF o (List.mem_of_getElem? hL)
    have hon : ∀ j, j ∈ ons o.after.toList → listed.getD j false = true := by
      intro j hj
      obtain ⟨e, he, hb, heo⟩ := ons_of hj
      have := h3 e (by simpa using he) hb
      rwa [heo] at this
    have hpre : ∀ p ∈ tmF, p.1 ∈ looksE L o → p ∈ tm := by
      intro p hp hl
      refine hk p ⟨hp, ?_⟩
      by_cases hd : p.1 ∈ dstsE L
      · obtain ⟨k, o', k1, k2⟩ := dstsE_get hd
        have := waitE_spec hw k o' p.1 k1 k2 hl
        exact .inr ⟨k, o', k1, k2, hon k (by simpa using this)⟩
      · exact .inl hd
    have hcount : ((listed.setIfInBounds i true).toList.filter (!·)).length ≤ fuel := by
      have h5 : ((listed.setIfInBounds i true).toList.filter (!·)).length + 1 = (listed.toList.filter (!·)).length := by
        rw [show (listed.setIfInBounds i true).toList = listed.toList.set i true by simp]
        exact count_set (by simp [his, hfalse])
      omega
    have hnext : ∀ a' w', Has C n ((d, s) :: delL tm d) mm a' w' → wpAny C.P .any (L ++ [z]).toArray (QT C n P) fuel (listed.setIfInBounds i true) a' w' := by
      intro a' w' h'
      refine ih (listed.setIfInBounds i true) a' w' _ (by simpa using hsz) (by rw [getD_set_ne true hiz]; exact hz) hcount (fun p hp => ?_) (fun j oj hj hjl q hq => ?_) h'
      rotate_left
      · by_cases hqi : q = i
        · subst hqi; simp [Array.getD, his]
        · rw [getD_set_ne false (fun e => hqi e.symm)]
          by_cases hji : j = i
          · subst hji
            rw [hL] at hj; injection hj with hj; subst hj
            exact hon q hq
          · rw [getD_set_ne false (fun e => hji e.symm)] at hjl
            exact hdn j oj hj hjl q hq
      obtain ⟨g1, g2⟩ := hp
      by_cases hpd : p.1 = d
      · have : p = (d, s) := keyF p g1 (d, s) e2 hpd
        rw [this]; exact List.mem_cons_self
      · refine List.mem_cons_of_mem _ (mem_delL (hk p ⟨g1, ?_⟩) hpd)
        rcases g2 with g2 | ⟨k, o', k1, k2, k3⟩
        · exact .inl g2
        · refine .inr ⟨k, o', k1, k2, ?_⟩
          have hki : i ≠ k := by
            intro e; subst e
            rw [hL] at k1; injection k1 with k1; subst k1
            rw [e1] at k2; injection k2 with k2; exact hpd k2.symm
          rwa [getD_set_ne false hki] at k3
    unfold wpOp
    have h2' : (L ++ [z])[i]? = some o := by simpa using h2
    simp only [List.getElem?_toArray, h2']
    have h6 := e3 tm hpre a w (wpAny C.P .any (L ++ [z]).toArray (QT C n P) fuel (listed.setIfInBounds i true)) (QT C n P) hh hnext
    rw [← wanted_app (z := z) (a := a) (hgd o (List.mem_of_getElem? hL))] at h6
    split
    · rename_i hwd; rw [if_pos hwd] at h6; exact .inl h6
    · rename_i hwd; rw [if_neg hwd] at h6; exact h6
theorem g_drawA {Lf : List Oper} {f : FuncId} {R : Ending → World → Prop} {k : List Item} {id : Nat} {tm : TM} (hmix : C.P.follows .mixedOrders = true) (hsp : splitE Lf = some (L, z)) (hok : okR L [] L 0 = true) (hu : uniT (dstsE L) (cutT (dstsE L) tm) = true)
    (hcov : covE2 L (ons z.after.toList) L.length = true) (hlt : allLt (ons z.after.toList) L.length = true) (hgd : guardsE L.length L = true)
    (h : DOps C n mm L (cutT (dstsE L) tm) L (cutT (dstsE L) tm) (fun tm' => SOps C n Lf.toArray [z] tm' mm (fun tm'' mm'' => Goes C f n R k tm'' mm''))) : Goes C f n R (.code (.region id Lf.toArray true) :: k) tm mm := by
  have hLf := splitE_eq hsp
  subst hLf
  obtain ⟨u1, u2⟩ := uniT_spec hu
  obtain ⟨tmF, hg, hF, hbase, hkeys⟩ := h [] 0 ⟨fun o ho => (by cases ho), u2, fun p hp _ => hp, hok, rfl⟩
  intro a w hh0 b cs hb hk
  have hh : Has C n (cutT (dstsE L) tm) mm a w := hh0.incl fun _ hp => cutT_mem hp
  have hany := any_last (z := z) (P := fun tm' mm' => Goes C f n R k tm' mm') hok hF hkeys (covE2_spec hcov) hlt (guardsE_spec hgd) hg (L.length + 1) (Array.replicate (L.length + 1) false) a { w with drawn := w.drawn + 1 } (cutT (dstsE L) tm) (by simp) (by simp [Array.getD])
    (by rw [show (Array.replicate (L.length + 1) false).toList = List.replicate (L.length + 1) false by simp]; exact Nat.le_trans (List.length_filter_le _ _) (by simp))
    (fun p hp => by
      obtain ⟨g1, g2 | ⟨k, o, k1, k2, k3⟩⟩ := hp
      · exact hbase p g1 g2
      · have hkl := (List.getElem?_eq_some_iff.1 k1).1
        simp [Array.getD, show k < L.length + 1 by omega] at k3) (fun j o _ hjl => by
      exfalso
      by_cases hj : j < L.length + 1
      · simp [Array.getD, hj] at hjl
      · simp [Array.getD, hj] at hjl) hh.drawn
  have hwp := wp_region_any (id := id) (Q := QT C n (fun tm' mm' => Goes C f n R k tm' mm')) (ops := (L ++ [z]).toArray) (a := a) (w := w) hmix (by simpa using hany)
  obtain ⟨e, a', w', hq, harr⟩ := hwp b k cs
  cases e with
  | normal =>
    obtain ⟨tm', mm', hg, hh'⟩ := hq
    obtain ⟨e, w'', fr, g1, g2, g3⟩ := hg a' w' hh' b cs hb hk
    exact ⟨e, w'', fr, g1, Comes.of_steps harr g2, g3⟩
  | _ => exact hq.elim
end
end Go.Sy
namespace Go.Sy
open Go.RowKit
section
variable {C : Ctx} {n : Nat} {tm : TM} {mm : MM} {o : Oper} {d : Nat} {x y : Operand}
theorem op_storef {Θ : Tab} (hΘ : tabOK C.P Θ) {t : TypeId} {ti : TyI} {i j off e sz : Nat} {nn : Bool} {xs : List (List CT)} {s : SV} {cs x0 x1 : List CT}
    (ho : o.op = .store t x y) (ht : tyGet Θ t = some ti) (hx : evalC tm x = some (.aptr i j off)) (hi : getM mm i = some (.arr nn e sz xs)) (hj : xs[j]? = some x0)
    (hy : evalV tm y = some s) (hc : ctsOf s.cells = some cs) (hsz : Nat.beq cs.length ti.size = true) (hsp : spliceL x0 off cs = some x1) (hkn : s.cells.all SC.known = true) (hd : o.dst = none) :
    OpR C n o tm mm tm (updM mm i (.arr nn e sz (xs.set j x1))) := by
  intro a w ⟨H, Z, hm⟩
  obtain ⟨inf, de, hf⟩ := tyF hΘ ht
  obtain ⟨hz, us, hown, hnn, hlen, hrep⟩ := hm.mem _ (getM_mem hi)
  obtain ⟨_, bb, hbb, hx'⟩ := evalC_rep hm hx
  simp only at hz hown hnn hrep
  obtain ⟨hxe, hoff⟩ := spliceL_spec hsp
  have hjl : j < xs.length := (List.getElem?_eq_some_iff.1 hj).1
  have hx0 : x0.length = sz := hlen x0 (List.mem_of_getElem? hj)
  have hcl : cs.length = ti.size := Nat.eq_of_beq_eq_true hsz
  obtain ⟨c1, c2⟩ := (evalV_rep hm hy).cells hm hkn
  have hcp : Pw (fun u c => RepC w (Mof C H mm) u c) (a.eval y).cells.toList cs :=
    ctsOf_pw hc ⟨by simpa using c1, fun j c hc => let ⟨u, hu, _, hr⟩ := c2 j c hc; ⟨u, by simpa using hu, hr⟩⟩
  have hone : ∀ v ∈ (a.eval y).cells.toList, v.oneCell' = true := by
    intro v hv
    obtain ⟨j, hj, hjv⟩ := List.mem_iff_getElem.1 hv
    have hjl : j < cs.length := by rw [← hcp.1]; exact hj
    obtain ⟨u, hu, hr⟩ := hcp.2 j cs[j] (List.getElem?_eq_getElem hjl)
    rw [List.getElem?_eq_getElem hj, hjv] at hu
    injection hu with hu
    rw [hu]; exact hr.one
  have hcsl : (a.eval y).cells.toList.length = cs.length := hcp.1
  rcases hown.2 with ⟨_, h0⟩ | ⟨g, cap, cur, hv, hg0, hheap, hcap, hmax, hcur, htake⟩
  · omega
  have hb : bb = g := by rw [hv] at hbb; simp [hblk] at hbb; exact hbb.symm
  subst hb
  rw [hz] at hx'
  have hjs : j * sz + sz ≤ xs.length * sz := by
    have := Nat.mul_le_mul_right sz (show j + 1 ≤ xs.length from hjl)
    rw [Nat.add_mul] at this; omega
  have hcaps : xs.length * sz ≤ cap * sz := Nat.mul_le_mul_right _ hcap
  obtain ⟨p, hp⟩ : ∃ p, p = j * sz + off := ⟨_, rfl⟩
  have hpe : p + cs.length ≤ j * sz + sz := by omega
  rw [← hp] at hx'
  have hrun := run_storeCells_at (P := C.P) bb p e (a.eval y).cells.toList 0 cur w hheap (by rw [hcsl, hcur]; omega) hone
  have hsize : (a.eval y).cells.size = ti.size := by rw [← hcl, ← hcsl]; simp
  have hrow := setRow_heap w bb cur (cur.toList.take (p + 0) ++ (a.eval y).cells.toList ++ cur.toList.drop (p + 0 + (a.eval y).cells.toList.length)).toArray e (0, 0) hheap
  have hext := setRow_ext w bb (cur.toList.take (p + 0) ++ (a.eval y).cells.toList ++ cur.toList.drop (p + 0 + (a.eval y).cells.toList.length)).toArray
  generalize hw' : w.setRow bb (cur.toList.take (p + 0) ++ (a.eval y).cells.toList ++ cur.toList.drop (p + 0 + (a.eval y).cells.toList.length)).toArray = w' at hrow hext hrun
  have hus : us = cur.toList.take (xs.length * sz) := htake.symm
  have hcurl : cur.toList.length = cap * sz := by simpa using hcur
  refine .inr ⟨w', ?_, H, Z, ?_⟩
  · simp only [execOp, ho, hx', Instr.storeAt, Instr.sureAddr, storeVar, Sem.run_bind, Sem.run_pure, Result.andThen_ok, hf.sizeOf, hsize, ne_eq, not_true, if_false, hrun]
  · rw [hd]
    refine hm.upd (b0 := bb) ⟨_, getM_mem hi, rfl⟩ (by rw [hv]; rfl) hext hm.defers hm.size ?_ (fun p hp => ⟨hp, rfl⟩)
    intro hMM hfr
    have hx1 : x1.length = sz := by rw [hxe, List.length_append, List.length_append, List.length_take, List.length_drop, hx0]; omega
    refine ⟨hz, us.take p ++ (a.eval y).cells.toList ++ us.drop (p + cs.length), ⟨?_, .inr ⟨bb, cap, _, by rw [hv]; simp, hg0, hrow, by simpa using hcap, hmax, ?_, ?_⟩⟩, hnn, fun q hq => ?_, fun l q hq m ct hct => ?_⟩
    · have hul := hown.1
      rw [List.length_append, List.length_append, List.length_take, List.length_drop, hcsl, hul, List.length_set]; omega
    · rw [List.size_toArray, List.length_append, List.length_append, List.length_take, List.length_drop, hcsl, hcurl]; omega
    · simp only [List.length_set, Nat.add_zero]
      rw [splice_take (by rw [hcsl]; omega) (by omega), htake, hcsl]
    · rcases List.mem_or_eq_of_mem_set hq with hq | rfl
      · exact hlen q hq
      · exact hx1
    · have hul : us.length = xs.length * sz := hown.1
      rw [List.getElem?_set] at hq
      have hlsz : ∀ {q : List CT}, q.length = sz → q[m]? = some ct → m < sz := fun h1 h2 => by rw [← h1]; exact (List.getElem?_eq_some_iff.1 h2).1
      have hget : ∀ {r u}, us[r]? = some u → (r < p ∨ p + cs.length ≤ r) → (us.take p ++ (a.eval y).cells.toList ++ us.drop (p + cs.length))[r]? = some u := by
        intro r u hu hr
        have hrl := (List.getElem?_eq_some_iff.1 hu).1
        rcases hr with hr | hr
        · rw [List.append_assoc, List.getElem?_append_left (by rw [List.length_take]; omega), List.getElem?_take, if_pos hr]
          exact hu
        · rw [List.getElem?_append_right (by rw [List.length_append, List.length_take, hcsl]; omega), List.getElem?_drop]
          rw [← hu]; congr 1; rw [List.length_append, List.length_take, hcsl]; omega
      split at hq
      · rename_i hjl'; subst hjl'
        injection hq with hq; subst hq
        have hm' := hlsz hx1 hct
        by_cases hmo : m < off ∨ off + cs.length ≤ m
        · have hct0 : x0[m]? = some ct := by
            rw [hxe] at hct
            rcases hmo with hmo | hmo
            · rw [List.append_assoc, List.getElem?_append_left (by rw [List.length_take]; omega), List.getElem?_take, if_pos hmo] at hct
              exact hct
            · rw [List.getElem?_append_right (by rw [List.length_append, List.length_take]; omega), List.getElem?_drop] at hct
              rw [← hct]; congr 1; rw [List.length_append, List.length_take]; omega
          obtain ⟨u, hu, hr⟩ := hrep j x0 hj m ct hct0
          exact ⟨u, hget hu (by omega), RepC.mono hr hext.size hfr hMM⟩
        · have hctc : cs[m - off]? = some ct := by
            rw [hxe, List.getElem?_append_left (by rw [List.length_append, List.length_take]; omega), List.getElem?_append_right (by rw [List.length_take]; omega)] at hct
            rw [← hct]; congr 1; rw [List.length_take]; omega
          obtain ⟨u, hu, hr⟩ := hcp.2 (m - off) ct hctc
          refine ⟨u, ?_, RepC.mono hr hext.size hfr hMM⟩
          rw [List.getElem?_append_left (by rw [List.length_append, List.length_take, hcsl, hul]; omega), List.getElem?_append_right (by rw [List.length_take, hul]; omega)]
          rw [← hu]; congr 1; rw [List.length_take, hul]; omega
      · rename_i hjl'
        have hl : l < xs.length := (List.getElem?_eq_some_iff.1 hq).1
        have hm' := hlsz (hlen q (List.mem_of_getElem? hq)) hct
        obtain ⟨u, hu, hr⟩ := hrep l q hq m ct hct
        refine ⟨u, hget hu ?_, RepC.mono hr hext.size hfr hMM⟩
        rcases Nat.lt_or_ge l j with hlt | hge
        · have hle : l * sz + sz ≤ j * sz := by
            have := Nat.mul_le_mul_right sz (show l + 1 ≤ j from hlt)
            rw [Nat.add_mul] at this; omega
          omega
        · have hle : j * sz + sz ≤ l * sz := by
            have := Nat.mul_le_mul_right sz (show j + 1 ≤ l by omega)
            rw [Nat.add_mul] at this; omega
          omega
end
section
variable {C : Ctx} {n : Nat} {tm : TM} {mm : MM} {L l : List Oper} {T : TM → MM → Prop} {o : Oper} {d : Nat} {x y : Operand}
theorem s_storef {Θ : Tab} (hΘ : tabOK C.P Θ) {t : TypeId} {ti : TyI} {i j off e sz : Nat} {nn : Bool} {xs : List (List CT)} {s : SV} {cs x1 : List CT} (x0 : List CT)
    (ho : o.op = .store t x y) (ht : tyGet Θ t = some ti) (hx : evalC tm x = some (.aptr i j off)) (hi : getM mm i = some (.arr nn e sz xs)) (hj : xs[j]? = some x0)
    (hy : evalV tm y = some s) (hc : ctsOf s.cells = some cs) (hsz : Nat.beq cs.length ti.size = true) (hsp : spliceL x0 off cs = some x1) (hkn : s.cells.all SC.known = true) (hd : o.dst = none) (hg : guardL L tm o = some true)
    (k : SOps C n L.toArray l tm (updM mm i (.arr nn e sz (xs.set j x1))) T) : SOps C n L.toArray (o :: l) tm mm T :=
  s_step (op_storef hΘ ho ht hx hi hj hy hc hsz hsp hkn hd).wp hg k
theorem s_ownP (i j t : Nat) {e sz : Nat} {v : Value} {xs : List (List CT)} (hi : getM mm i = some (.pool e sz [(v, xs)])) (hig : Nat.blt i given = true) (ht : getT tm t = some (.v (.one (.c (.val v)))))
    (hjg : Nat.blt j given = true) (hjf : hasI mm j = false) (hno : noUse i mm = true) (hnt : noUseT i tm = true)
    (g : SOps C n L.toArray l ((t, .v (.one (.own j))) :: delL tm t) ((j, .arr false e sz xs) :: outM [i] mm) T) : SOps C n L.toArray l tm mm T :=
  fun a w hh => g a w (Has.ownP i j t hi hig ht hjg hjf hno hnt hh)
end
section
variable {C : Ctx} {n : Nat} {tm tm0 : TM} {mm : MM} {L l : List Oper} {T : TM → Prop} {o : Oper} {d : Nat} {x y : Operand}
theorem d_lookI {Θ : Tab} (hΘ : tabOK C.P Θ) {t k e : TypeId} {z bts zk bk : Nat} {ag agk : Bool} {zt ztk : Option (List CT)} {ei : TyI} {zc : CT} {i : Nat} {m : List (Int × CT)} {a0 : Int}
    (ho : o.op = .lookup t x y false) (ht : tyGet Θ t = some ⟨z, bts, ag, zt, .map k e⟩) (hk : tyGet Θ k = some ⟨zk, bk, agk, ztk, .int .i64⟩) (hei : tyGet Θ e = some ei) (hz : ei.zero = some [zc]) (hna : ei.agg = false)
    (hx : evalC (onlyE (looksE L o) tm) x = some (.mp i)) (hi : getM mm i = some (.mpo (entF intF m))) (hy : evalV (onlyE (looksE L o) tm) y = some (.one (.c (.int .i64 a0)))) (hd : o.dst = some d) (hn : Nat.blt d n = true) (hg : guardL L (onlyE (looksE L o) tm) o = some true)
    (g : DOps C n mm L tm0 l ((d, .v (.one (.c (lookC m a0 zc)))) :: delL tm d) T) : DOps C n mm L tm0 (o :: l) tm T :=
  d_step (op_lookI hΘ ho ht hk hei hz hna hx hi hy hd hn) hg g
end
end Go.Sy
