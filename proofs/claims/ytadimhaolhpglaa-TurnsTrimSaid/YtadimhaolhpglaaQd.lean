/- Layer: a slice compared with nil, maps with keys of one kind and the lookup that tells whether, a field of a struct's value, a closure that reads a map. -/
import Derived.Test.YtadimhaolhpglaaSy8
set_option linter.unusedSimpArgs false
set_option linter.unusedVariables false
set_option linter.unusedSectionVars false
namespace Go.Sy
open Go.RowKit

/-! ### A slice compared with nil -/
def isNilC : CT → Option Bool
  | .nils => some true
  | .slice true _ _ => some false
  | _ => none
section
variable {C : Ctx} {n : Nat} {tm : TM} {mm : MM} {o : Oper} {d : Nat} {x y : Operand} {ty ty' : TypeId}
theorem op_isNil {Θ : Tab} (hΘ : tabOK C.P Θ) {p : BinOp} {z bts e : Nat} {ag : Bool} {zr : Option (List CT)} {c : CT} {b : Bool}
    (ho : o.op = .binOp p ty x y ty') (hp : p = .eql ∨ p = .neq) (ht : tyGet Θ ty = some ⟨z, bts, ag, zr, .slice e⟩) (hx : evalC tm x = some (.c c)) (hy : evalC tm y = some (.c .nils)) (hc : isNilC c = some b)
    (hd : o.dst = some d) (hn : Nat.blt d n = true) : OpV C n o tm mm d (.v (.one (.c (.bool (match p with | .eql => b | _ => !b))))) :=
  OpV.val hd hn _ fun H Z a w hm => by
    have h1 : RepC w (Mof C H mm) (a.eval x) c := evalC_rep hm hx
    have h2 : a.eval y = .slice none 0 0 := RepC.nils_inv (evalC_rep hm hy)
    obtain ⟨ad, len, cap, hA, hb⟩ : ∃ ad len cap, a.eval x = .slice ad len cap ∧ ad.isNone = b := by
      generalize a.eval x = v at h1
      cases h1 with
      | nils => simp [isNilC] at hc; exact ⟨_, _, _, rfl, by simp [← hc]⟩
      | @slice nn sz xs ad len cap u hlen hcap hmax hnn hszs had hrep =>
        cases nn with
        | false => simp [isNilC] at hc
        | true =>
          simp [isNilC] at hc
          have h3 := hnn rfl
          exact ⟨_, _, _, rfl, by cases ad <;> simp_all⟩
      | _ => simp [isNilC] at hc
    obtain ⟨inf, de, hf⟩ := tyF hΘ ht
    have hde : de = .slice e := by
      have := hf.sh
      cases de <;> simp [shChk] at this ⊢
      exact this
    subst hde
    refine ⟨.bool (match p with | .eql => b | _ => !b), ?_, .bool _⟩
    rcases hp with rfl | rfl
    · simp only [execOp, ho, hA, h2, Sem.run_bind]
      simp [eqGuard, binOp, Sem.run_bind, run_equal_slice_nil w ty e ad len cap hf.und, Sem.run_pure, hb]
    · simp only [execOp, ho, hA, h2, Sem.run_bind]
      simp [eqGuard, binOp, Sem.run_bind, run_equal_slice_nil w ty e ad len cap hf.und, Sem.run_pure, hb]
end

/-! ### Keys of one kind -/
theorem now_find {α : Type} [DecidableEq α] {rep : α → Value} {kind : TypeDesc} (hnow : ∀ a b, Instr.sameNow kind (rep a) (rep b) = some (decide (a = b))) (a : α) :
    ∀ (es : List MapEntry) (m : List α) (i : Nat), es.map (·.key) = m.map rep →
      Instr.findNow kind (rep a) es i = some ((m.findIdx? (fun b => decide (a = b))).bind fun j => (es[j]?).map fun x => (j + i, x.val))
  | [], m, i, h => by cases m <;> simp at h; simp [Instr.findNow]
  | x :: es, [], i, h => by simp at h
  | x :: es, b :: m, i, h => by
    simp only [List.map_cons, List.cons.injEq] at h
    obtain ⟨h1, h2⟩ := h
    rw [Instr.findNow, h1, hnow]
    by_cases hab : a = b
    · subst hab; simp [List.findIdx?_cons]
    · have := now_find hnow a es m (i + 1) h2
      simp only [hab, decide_false, this, List.findIdx?_cons, Bool.false_eq_true, if_false]
      cases m.findIdx? fun b => decide (a = b) with
      | none => simp
      | some j =>
        have : j + (i + 1) = j + 1 + i := by omega
        simp [this]
theorem keyL_now {P : Program} {k : TypeId} {ik : TyI} {infk : TypeInfo} {kind : TypeDesc} {α : Type} [DecidableEq α] {rep : α → Value} (hk : TyF P k ik infk kind)
    (hnow : ∀ a b, Instr.sameNow kind (rep a) (rep b) = some (decide (a = b))) (hchk : ∀ em a w, (Instr.checkKey em 10000 k (rep a)).run P w = .ok () w) (hbits : ∀ a, Instr.sameBits 10000 (rep a) (rep a) = true) : KeyL P k rep := by
  refine ⟨hchk, fun a es m w hm => ?_, hbits⟩
  unfold Instr.findKey
  simp only [Sem.run_bind, run_underlying hk.und, Result.andThen_ok]
  rw [now_find hnow a es m 0 hm]
  simp
theorem ba_beq (a b : ByteArray) : (a == b) = decide (a = b) := by
  obtain ⟨x⟩ := a
  obtain ⟨y⟩ := b
  have : (ByteArray.mk x == ByteArray.mk y) = (x == y) := rfl
  rw [this]
  by_cases h : x = y
  · subst h; simp
  · simp [h]
abbrev intV (a : Int) : Value := .int .i64 a
abbrev strV (s : ByteArray) : Value := .string s
abbrev intF (a : Int) : FV := .one (.int .i64 a)
abbrev strF (s : ByteArray) : FV := .one (.str s)
theorem int_keyL {P : Program} {k : TypeId} {ik : TyI} {infk : TypeInfo} (hk : TyF P k ik infk (.int .i64)) : KeyL P k intV := by
  refine keyL_now hk (fun a b => by simp [Instr.sameNow]; rfl) (fun em a w => ?_) (fun a => by simp [Instr.sameBits])
  rw [show (10000 : Nat) = 9999 + 1 from rfl, Instr.checkKey]
  simp [Sem.run_bind, run_underlying hk.und]
theorem str_keyL {P : Program} {k : TypeId} {ik : TyI} {infk : TypeInfo} (hk : TyF P k ik infk .string) : KeyL P k strV := by
  refine keyL_now hk (fun a b => ?_) (fun em a w => ?_) (fun a => by simp [Instr.sameBits, ba_beq])
  · show some (a == b) = some (decide (a = b))
    rw [ba_beq]
  rw [show (10000 : Nat) = 9999 + 1 from rfl, Instr.checkKey]
  simp [Sem.run_bind, run_underlying hk.und]
theorem intF_iff (w : World) (M : Nat → Prop) (v : Value) (a : Int) : RepF w M v (intF a) ↔ v = intV a := ⟨fun h => RepC.int_inv h, fun h => by subst h; exact RepC.int _ _⟩
theorem strF_iff (w : World) (M : Nat → Prop) (v : Value) (a : ByteArray) : RepF w M v (strF a) ↔ v = strV a := ⟨fun h => RepC.str_inv h, fun h => by subst h; exact RepC.str _⟩
theorem tyF_int {P : Program} {Θ : Tab} (hΘ : tabOK P Θ) {t : Nat} {z bts : Nat} {ag : Bool} {zt : Option (List CT)} (h : tyGet Θ t = some ⟨z, bts, ag, zt, .int .i64⟩) : KeyL P t intV := by
  obtain ⟨inf, de, hf⟩ := tyF hΘ h
  have h1 : de = .int .i64 := by
    have := hf.sh
    cases de <;> simp [shChk] at this ⊢
    exact this
  subst h1
  exact int_keyL hf
theorem tyF_str {P : Program} {Θ : Tab} (hΘ : tabOK P Θ) {t : Nat} {z bts : Nat} {ag : Bool} {zt : Option (List CT)} (h : tyGet Θ t = some ⟨z, bts, ag, zt, .string⟩) : KeyL P t strV := by
  obtain ⟨inf, de, hf⟩ := tyF hΘ h
  have h1 : de = .string := by
    have := hf.sh
    cases de <;> simp [shChk] at this ⊢
  subst h1
  exact str_keyL hf

/-! ### The lookup that tells whether -/
def hasC {α : Type} [DecidableEq α] (m : List (α × CT)) (a : α) : Bool := (m.find? fun q => decide (a = q.1)).isSome
section
variable {C : Ctx} {n : Nat} {tm : TM} {mm : MM} {o : Oper} {d : Nat} {α : Type} [DecidableEq α]
theorem op_lookupOk {Θ : Tab} (hΘ : tabOK C.P Θ) {t k e : TypeId} {x y : Operand} {z bts : Nat} {ag : Bool} {zt : Option (List CT)} {ei : TyI} {zc : CT} {i : Nat} {rep : α → Value} {kf : α → FV} {m : List (α × CT)} {a0 : α} {s : SV}
    (ho : o.op = .lookup t x y true) (ht : tyGet Θ t = some ⟨z, bts, ag, zt, .map k e⟩) (hei : tyGet Θ e = some ei) (hz : ei.zero = some [zc]) (hna : ei.agg = false)
    (hK : KeyL C.P k rep) (hkf : ∀ (w : World) (M : Nat → Prop) (v : Value) (a : α), RepF w M v (kf a) → v = rep a)
    (hx : evalC tm x = some (.mp i)) (hi : getM mm i = some (.mpo (entF kf m))) (hy : evalV tm y = some s) (hs : ∀ I H Z w M v, RepSV I H Z w M v s → v = rep a0) (hd : o.dst = some d) (hn : Nat.blt d n = true) :
    OpV C n o tm mm d (.tup [.one (.c (lookC m a0 zc)), .one (.c (.bool (hasC m a0)))]) :=
  OpV.val hd hn _ fun H Z a w hm => by
    have hpair : ∀ (v : Value) (b : Bool) (c : CT), RepC w (Mof C H mm) v c → RepST (Iof mm) H Z w (Mof C H mm) (.tuple #[v, .bool b]) (.tup [.one (.c c), .one (.c (.bool b))]) := by
      intro v b c hv
      refine ⟨_, rfl, rfl, fun j s hs => ?_⟩
      match j, hs with
      | 0, hs => simp at hs; subst hs; exact ⟨v, rfl, hv⟩
      | 1, hs => simp at hs; subst hs; exact ⟨.bool b, rfl, RepC.bool b⟩
      | j + 2, hs => simp at hs
    obtain ⟨inf, de, hf⟩ := tyF hΘ ht
    obtain ⟨inf', de', hf'⟩ := tyF hΘ hei
    obtain ⟨zv, hzv, hzc, hzl⟩ := hf'.zero _ hz
    have hde : de = .map k e := by
      have := hf.sh
      cases de <;> simp [shChk] at this ⊢
      exact this
    subst hde
    obtain ⟨_, hv⟩ := evalC_rep hm hx
    obtain ⟨r, es, ck, h1, h2, h3, h4⟩ := hm.mem _ (getM_mem hi)
    have hk := hs _ _ _ _ _ _ (evalV_rep hm hy)
    have hkeys := ent_keys hkf h3 h4
    have hfind := hK.find a0 es.toList (m.map (·.1)) w (by simpa using hkeys)
    rw [find_ent] at hfind
    have hget : (getObj r).run C.P w = .ok (.map es ck) w := by simp [getObj, Sem.run, h2]
    have hz1 := hf'.zeroValue (w := w) hzv
    have hzrep : RepC w (Mof C H mm) zv zc := by
      obtain ⟨q1, q2⟩ := zchk_cells (w := w) (M := Mof C H mm) hzc
      obtain ⟨u, hu, hr⟩ := q2 0 zc rfl
      rw [hna] at hzc
      have : u = zv := by
        cases zv <;> first
          | (simp [Value.cells] at hu; exact hu.symm)
          | (cases zc <;> simp [zchk, zchkL, zchk1] at hzc)
      rw [← this]; exact hr
    cases hfi : m.findIdx? fun q => decide (a0 = q.1) with
    | none =>
      have hnf : m.find? (fun q => decide (a0 = q.1)) = none := by
        rw [List.find?_eq_none]
        intro q hq
        rw [List.findIdx?_eq_none_iff] at hfi
        simp [hfi q hq]
      have hl : lookC m a0 zc = zc := by simp [lookC, hnf]
      have hb : hasC m a0 = false := by simp [hasC, hnf]
      rw [hl, hb]
      refine ⟨.tuple #[zv, .bool false], ?_, hpair _ _ _ hzrep⟩
      rw [hfi] at hfind
      simp only [execOp, ho, Instr.lookup, Sem.run_bind, hf.underlying, Result.andThen_ok, hv, h1, hk, hget, hK.chk, Sem.run_pure]
      simp at hfind
      simp [hfind, hz1, Sem.run_bind]
    | some j =>
      have hfi' := hfi
      rw [List.findIdx?_eq_some_iff_getElem] at hfi'
      obtain ⟨hj, hj1, hj2⟩ := hfi'
      have hsf : m.find? (fun q => decide (a0 = q.1)) = some m[j] := by
        rw [List.find?_eq_some_iff_getElem]
        exact ⟨hj1, j, hj, rfl, fun i hi => by simpa using hj2 i hi⟩
      have hl : lookC m a0 zc = m[j].2 := by simp [lookC, hsf]
      have hb : hasC m a0 = true := by simp [hasC, hsf]
      rw [hl, hb]
      obtain ⟨en, g1, g2, g3⟩ := h4 j (kf m[j].1, .one m[j].2) (by simp [entF, hj])
      refine ⟨.tuple #[en.val, .bool true], ?_, hpair _ _ _ g3⟩
      rw [hfi] at hfind
      have g1' : es.toList[j]? = some en := by simpa using g1
      simp only [Option.bind_some, g1', Option.map_some] at hfind
      simp only [execOp, ho, Instr.lookup, Sem.run_bind, hf.underlying, Result.andThen_ok, hv, h1, hk, hget, hK.chk, Sem.run_pure, hfind]
      simp
end
section
variable {C : Ctx} {n : Nat} {tm : TM} {mm : MM} {o : Oper} {d : Nat} {x y : Operand}
theorem intS_rep {a : Int} (I : Nat → Prop) (H : Nat → Value) (Z : Nat → Nat) (w : World) (M : Nat → Prop) (v : Value) (h : RepSV I H Z w M v (.one (.c (.int .i64 a)))) : v = intV a := RepC.int_inv h
theorem strS_rep {a : ByteArray} (I : Nat → Prop) (H : Nat → Value) (Z : Nat → Nat) (w : World) (M : Nat → Prop) (v : Value) (h : RepSV I H Z w M v (.one (.c (.str a)))) : v = strV a := RepC.str_inv h
/-- Maps with int keys. -/
theorem op_lookI {Θ : Tab} (hΘ : tabOK C.P Θ) {t k e : TypeId} {z bts zk bk : Nat} {ag agk : Bool} {zt ztk : Option (List CT)} {ei : TyI} {zc : CT} {i : Nat} {m : List (Int × CT)} {a0 : Int}
    (ho : o.op = .lookup t x y false) (ht : tyGet Θ t = some ⟨z, bts, ag, zt, .map k e⟩) (hk : tyGet Θ k = some ⟨zk, bk, agk, ztk, .int .i64⟩) (hei : tyGet Θ e = some ei) (hz : ei.zero = some [zc]) (hna : ei.agg = false)
    (hx : evalC tm x = some (.mp i)) (hi : getM mm i = some (.mpo (entF intF m))) (hy : evalV tm y = some (.one (.c (.int .i64 a0)))) (hd : o.dst = some d) (hn : Nat.blt d n = true) : OpV C n o tm mm d (.v (.one (.c (lookC m a0 zc)))) :=
  op_lookup hΘ ho ht hei hz hna (tyF_int hΘ hk) (fun w M v a h => (intF_iff w M v a).1 h) hx hi hy intS_rep hd hn
theorem op_lookIOk {Θ : Tab} (hΘ : tabOK C.P Θ) {t k e : TypeId} {z bts zk bk : Nat} {ag agk : Bool} {zt ztk : Option (List CT)} {ei : TyI} {zc : CT} {i : Nat} {m : List (Int × CT)} {a0 : Int}
    (ho : o.op = .lookup t x y true) (ht : tyGet Θ t = some ⟨z, bts, ag, zt, .map k e⟩) (hk : tyGet Θ k = some ⟨zk, bk, agk, ztk, .int .i64⟩) (hei : tyGet Θ e = some ei) (hz : ei.zero = some [zc]) (hna : ei.agg = false)
    (hx : evalC tm x = some (.mp i)) (hi : getM mm i = some (.mpo (entF intF m))) (hy : evalV tm y = some (.one (.c (.int .i64 a0)))) (hd : o.dst = some d) (hn : Nat.blt d n = true) : OpV C n o tm mm d (.tup [.one (.c (lookC m a0 zc)), .one (.c (.bool (hasC m a0)))]) :=
  op_lookupOk hΘ ho ht hei hz hna (tyF_int hΘ hk) (fun w M v a h => (intF_iff w M v a).1 h) hx hi hy intS_rep hd hn
theorem op_lookSOk {Θ : Tab} (hΘ : tabOK C.P Θ) {t k e : TypeId} {z bts zk bk : Nat} {ag agk : Bool} {zt ztk : Option (List CT)} {ei : TyI} {zc : CT} {i : Nat} {m : List (ByteArray × CT)} {a0 : ByteArray}
    (ho : o.op = .lookup t x y true) (ht : tyGet Θ t = some ⟨z, bts, ag, zt, .map k e⟩) (hk : tyGet Θ k = some ⟨zk, bk, agk, ztk, .string⟩) (hei : tyGet Θ e = some ei) (hz : ei.zero = some [zc]) (hna : ei.agg = false)
    (hx : evalC tm x = some (.mp i)) (hi : getM mm i = some (.mpo (entF strF m))) (hy : evalV tm y = some (.one (.c (.str a0)))) (hd : o.dst = some d) (hn : Nat.blt d n = true) : OpV C n o tm mm d (.tup [.one (.c (lookC m a0 zc)), .one (.c (.bool (hasC m a0)))]) :=
  op_lookupOk hΘ ho ht hei hz hna (tyF_str hΘ hk) (fun w M v a h => (strF_iff w M v a).1 h) hx hi hy strS_rep hd hn
end
section
variable {C : Ctx} {n : Nat} {tm : TM} {mm : MM} {L l : List Oper} {T : TM → MM → Prop} {o : Oper} {d : Nat} {x y vx : Operand}
theorem s_putI {Θ : Tab} (hΘ : tabOK C.P Θ) {t k e : TypeId} {z bts zk bk : Nat} {ag agk : Bool} {zt ztk : Option (List CT)} {c : CT} {i : Nat} {m : List (Int × CT)} {a0 : Int}
    (ho : o.op = .mapUpdate t x y vx ∨ o.op = .insert t x y vx) (ht : tyGet Θ t = some ⟨z, bts, ag, zt, .map k e⟩) (hk : tyGet Θ k = some ⟨zk, bk, agk, ztk, .int .i64⟩)
    (hx : evalC tm x = some (.mp i)) (hi : getM mm i = some (.mpo (entF intF m))) (hy : evalV tm y = some (.one (.c (.int .i64 a0)))) (hvx : evalD tm vx = some (.one (.c c))) (hd : o.dst = none) (hg : guardL L tm o = some true)
    (g : SOps C n L.toArray l tm (updM mm i (.mpo (entF intF (putC m a0 c)))) T) : SOps C n L.toArray (o :: l) tm mm T :=
  s_step (op_mapUpdate (n := n) hΘ ho ht (tyF_int hΘ hk) intF_iff hx hi hy intS_rep hvx hd).wp hg g
theorem s_putS {Θ : Tab} (hΘ : tabOK C.P Θ) {t k e : TypeId} {z bts zk bk : Nat} {ag agk : Bool} {zt ztk : Option (List CT)} {c : CT} {i : Nat} {m : List (ByteArray × CT)} {a0 : ByteArray}
    (ho : o.op = .mapUpdate t x y vx ∨ o.op = .insert t x y vx) (ht : tyGet Θ t = some ⟨z, bts, ag, zt, .map k e⟩) (hk : tyGet Θ k = some ⟨zk, bk, agk, ztk, .string⟩)
    (hx : evalC tm x = some (.mp i)) (hi : getM mm i = some (.mpo (entF strF m))) (hy : evalV tm y = some (.one (.c (.str a0)))) (hvx : evalD tm vx = some (.one (.c c))) (hd : o.dst = none) (hg : guardL L tm o = some true)
    (g : SOps C n L.toArray l tm (updM mm i (.mpo (entF strF (putC m a0 c)))) T) : SOps C n L.toArray (o :: l) tm mm T :=
  s_step (op_mapUpdate (n := n) hΘ ho ht (tyF_str hΘ hk) strF_iff hx hi hy strS_rep hvx hd).wp hg g
end

/-! ### A field of a struct's value, of one cell -/
section
variable {C : Ctx} {n : Nat} {tm : TM} {mm : MM} {o : Oper} {d : Nat} {x : Operand}
theorem op_field1 {Θ : Tab} (hΘ : tabOK C.P Θ) {t tt : TypeId} {z bts : Nat} {ag : Bool} {zr : Option (List CT)} {fs : List (Nat × Nat)} {k off : Nat} {xs : List SC} {s : SC} {ei : TyI}
    (ho : o.op = .field t x k) (ht : tyGet Θ t = some ⟨z, bts, ag, zr, .struct fs⟩) (hx : evalV tm x = some (.agg xs)) (hk : fs[k]? = some (off, tt)) (hei : tyGet Θ tt = some ei) (hna : ei.agg = false) (hs : xs[off]? = some s)
    (hd : o.dst = some d) (hn : Nat.blt d n = true) : OpV C n o tm mm d (.v (.one s)) :=
  OpV.val hd hn _ fun H Z a w hm => by
    obtain ⟨inf, de, hf⟩ := tyF hΘ ht
    obtain ⟨inf', de', hf'⟩ := tyF hΘ hei
    obtain ⟨vs, hv, hvs, hr⟩ := evalV_rep hm hx
    have hsh := hf.sh
    cases de <;> simp only [shChk] at hsh <;> try (cases hsh; done)
    rename_i fields
    simp only [Bool.and_eq_true] at hsh
    have hfs : fields.toList.map (fun f => (f.offset, f.type)) = fs := by simpa using hsh.1
    rw [← hfs] at hk
    simp only [List.getElem?_map, Option.map_eq_some_iff, Prod.mk.injEq] at hk
    obtain ⟨f, hf1, hf2, hf3⟩ := hk
    have hf1 : fields[k]? = some f := by simpa using hf1
    obtain ⟨u, hu, hru⟩ := hr off s hs
    refine ⟨u, ?_, hru⟩
    have ha : (isAgg tt).run C.P w = .ok false w := by rw [← hna]; exact hf'.isAgg
    simp only [execOp, ho, hv, Instr.field, Sem.run_bind, hf.underlying, Result.andThen_ok, hf1, asAgg, Sem.run_pure]
    simp [part, Sem.run_bind, hf2, hf3, ha, hu]
end
/-! ### A store to an element of one's own row -/
section
variable {C : Ctx} {n : Nat} {tm : TM} {mm : MM} {o : Oper} {x y : Operand}
theorem op_storea {Θ : Tab} (hΘ : tabOK C.P Θ) {t : TypeId} {ti : TyI} {i j e sz : Nat} {nn : Bool} {xs : List (List CT)} {s : SV} {cs : List CT}
    (ho : o.op = .store t x y) (ht : tyGet Θ t = some ti) (hx : evalC tm x = some (.aptr i j 0)) (hi : getM mm i = some (.arr nn e sz xs)) (hj : j < xs.length)
    (hy : evalV tm y = some s) (hc : ctsOf s.cells = some cs) (hsz : Nat.beq cs.length ti.size = true) (hts : Nat.beq ti.size sz = true) (hkn : s.cells.all SC.known = true) (hd : o.dst = none) :
    OpR C n o tm mm tm (updM mm i (.arr nn e sz (xs.set j cs))) := by
  intro a w ⟨H, Z, hm⟩
  obtain ⟨inf, de, hf⟩ := tyF hΘ ht
  obtain ⟨hz, us, hown, hnn, hlen, hrep⟩ := hm.mem _ (getM_mem hi)
  obtain ⟨_, bb, hbb, hx'⟩ := evalC_rep hm hx
  simp only at hz hown hnn hrep
  have htsE : ti.size = sz := Nat.eq_of_beq_eq_true hts
  have hcl : cs.length = sz := by rw [← htsE]; exact Nat.eq_of_beq_eq_true hsz
  obtain ⟨c1, c2⟩ := (evalV_rep hm hy).cells hm hkn
  have hcp : Pw (fun u c => RepC w (Mof C H mm) u c) (a.eval y).cells.toList cs :=
    ctsOf_pw hc ⟨by simpa using c1, fun j c hc => let ⟨u, hu, _, hr⟩ := c2 j c hc; ⟨u, by simpa using hu, hr⟩⟩
  have hone : ∀ v ∈ (a.eval y).cells.toList, v.oneCell' = true := by
    intro v hv
    obtain ⟨j, hj, hjv⟩ := List.mem_iff_getElem.1 hv
    have hjl : j < cs.length := by rw [← hcp.1]; exact hj
    obtain ⟨u, hu, hr⟩ := hcp.2 j cs[j] (List.getElem?_eq_getElem hjl)
    rw [List.getElem?_eq_getElem hj, hjv] at hu
    injection hu with hu
    rw [hu]; exact hr.one
  have hcsl : (a.eval y).cells.toList.length = sz := by rw [hcp.1, hcl]
  rcases hown.2 with ⟨_, h0⟩ | ⟨g, cap, cur, hv, hg0, hheap, hcap, hmax, hcur, htake⟩
  · omega
  have hb : bb = g := by rw [hv] at hbb; simp [hblk] at hbb; exact hbb.symm
  subst hb
  rw [hz, Nat.add_zero] at hx'
  have hjs : j * sz + sz ≤ xs.length * sz := by
    have := Nat.mul_le_mul_right sz (show j + 1 ≤ xs.length from hj)
    rw [Nat.add_mul] at this; omega
  have hcaps : xs.length * sz ≤ cap * sz := Nat.mul_le_mul_right _ hcap
  have hrun := run_storeCells_at (P := C.P) bb (j * sz) e (a.eval y).cells.toList 0 cur w hheap (by rw [hcsl, hcur]; omega) hone
  have hsize : (a.eval y).cells.size = ti.size := by rw [htsE, ← hcsl]; simp
  have hrow := setRow_heap w bb cur (cur.toList.take (j * sz + 0) ++ (a.eval y).cells.toList ++ cur.toList.drop (j * sz + 0 + (a.eval y).cells.toList.length)).toArray e (0, 0) hheap
  have hext := setRow_ext w bb (cur.toList.take (j * sz + 0) ++ (a.eval y).cells.toList ++ cur.toList.drop (j * sz + 0 + (a.eval y).cells.toList.length)).toArray
  generalize hw' : w.setRow bb (cur.toList.take (j * sz + 0) ++ (a.eval y).cells.toList ++ cur.toList.drop (j * sz + 0 + (a.eval y).cells.toList.length)).toArray = w' at hrow hext hrun
  have hus : us = cur.toList.take (xs.length * sz) := htake.symm
  have hcurl : cur.toList.length = cap * sz := by simpa using hcur
  refine .inr ⟨w', ?_, H, Z, ?_⟩
  · simp only [execOp, ho, hx', Instr.storeAt, Instr.sureAddr, storeVar, Sem.run_bind, Sem.run_pure, Result.andThen_ok, hf.sizeOf, hsize, ne_eq, not_true, if_false, hrun]
  · rw [hd]
    refine hm.upd (b0 := bb) ⟨_, getM_mem hi, rfl⟩ (by rw [hv]; rfl) hext hm.defers hm.size ?_ (fun p hp => ⟨hp, rfl⟩)
    intro hMM hfr
    refine ⟨hz, us.take (j * sz) ++ (a.eval y).cells.toList ++ us.drop (j * sz + sz), ⟨?_, .inr ⟨bb, cap, _, by rw [hv]; simp, hg0, hrow, by simpa using hcap, hmax, ?_, ?_⟩⟩, hnn, fun q hq => ?_, fun l q hq m ct hct => ?_⟩
    · have hul := hown.1
      rw [List.length_append, List.length_append, List.length_take, List.length_drop, hcsl, hul, List.length_set]; omega
    · rw [List.size_toArray, List.length_append, List.length_append, List.length_take, List.length_drop, hcsl, hcurl]; omega
    · simp only [List.length_set, Nat.add_zero]
      rw [splice_take (by rw [hcsl]; omega) (by omega), htake, hcsl]
    · rcases List.mem_or_eq_of_mem_set hq with hq | rfl
      · exact hlen q hq
      · exact hcl
    · have hul : us.length = xs.length * sz := hown.1
      rw [List.getElem?_set] at hq
      have hlsz : ∀ {q : List CT}, q.length = sz → q[m]? = some ct → m < sz := fun h1 h2 => by rw [← h1]; exact (List.getElem?_eq_some_iff.1 h2).1
      split at hq
      · rename_i hjl; subst hjl
        injection hq with hq; subst hq
        have hm' := hlsz hcl hct
        obtain ⟨u, hu, hr⟩ := hcp.2 m ct hct
        refine ⟨u, ?_, RepC.mono hr hext.size hfr hMM⟩
        rw [List.getElem?_append_left (by rw [List.length_append, List.length_take, hcsl, hul]; omega), List.getElem?_append_right (by rw [List.length_take, hul]; omega)]
        rw [← hu]; congr 1; rw [List.length_take, hul]; omega
      · rename_i hjl
        have hl : l < xs.length := (List.getElem?_eq_some_iff.1 hq).1
        have hm' := hlsz (hlen q (List.mem_of_getElem? hq)) hct
        obtain ⟨u, hu, hr⟩ := hrep l q hq m ct hct
        refine ⟨u, ?_, RepC.mono hr hext.size hfr hMM⟩
        rcases Nat.lt_or_ge l j with hlt | hge
        · have hle : l * sz + sz ≤ j * sz := by
            have := Nat.mul_le_mul_right sz (show l + 1 ≤ j from hlt)
            rw [Nat.add_mul] at this; omega
          rw [List.append_assoc, List.getElem?_append_left (by rw [List.length_take, hul]; omega), List.getElem?_take, if_pos (by omega)]
          exact hu
        · have hle : j * sz + sz ≤ l * sz := by
            have := Nat.mul_le_mul_right sz (show j + 1 ≤ l by omega)
            rw [Nat.add_mul] at this; omega
          rw [List.getElem?_append_right (by rw [List.length_append, List.length_take, hcsl, hul]; omega), List.getElem?_drop]
          rw [← hu]; congr 1; rw [List.length_append, List.length_take, hcsl, hul]; omega
end
section
variable {C : Ctx} {n : Nat} {tm : TM} {mm : MM} {L l : List Oper} {T : TM → MM → Prop} {o : Oper} {d : Nat} {x y : Operand} {ty ty' : TypeId}
theorem s_storea {Θ : Tab} (hΘ : tabOK C.P Θ) {t : TypeId} {ti : TyI} {i j e sz : Nat} {nn : Bool} {xs : List (List CT)} {s : SV} {cs : List CT}
    (ho : o.op = .store t x y) (ht : tyGet Θ t = some ti) (hx : evalC tm x = some (.aptr i j 0)) (hi : getM mm i = some (.arr nn e sz xs))
    (hy : evalV tm y = some s) (hc : ctsOf s.cells = some cs) (hsz : Nat.beq cs.length ti.size = true) (hts : Nat.beq ti.size sz = true) (hkn : s.cells.all SC.known = true) (hd : o.dst = none) (hg : guardL L tm o = some true) (hj : j < xs.length)
    (k : SOps C n L.toArray l tm (updM mm i (.arr nn e sz (xs.set j cs))) T) : SOps C n L.toArray (o :: l) tm mm T :=
  s_step (op_storea hΘ ho ht hx hi hj hy hc hsz hts hkn hd).wp hg k
theorem s_nilE {Θ : Tab} (hΘ : tabOK C.P Θ) {z bts e : Nat} {ag : Bool} {zr : Option (List CT)} {c : CT} {b : Bool}
    (ho : o.op = .binOp .eql ty x y ty') (ht : tyGet Θ ty = some ⟨z, bts, ag, zr, .slice e⟩) (hx : evalC tm x = some (.c c)) (hy : evalC tm y = some (.c .nils)) (hc : isNilC c = some b)
    (hd : o.dst = some d) (hn : Nat.blt d n = true) (hg : guardL L tm o = some true) (k : SOps C n L.toArray l ((d, .v (.one (.c (.bool b)))) :: delL tm d) mm T) : SOps C n L.toArray (o :: l) tm mm T :=
  s_step (op_isNil hΘ ho (.inl rfl) ht hx hy hc hd hn).wp hg k
theorem s_nilN {Θ : Tab} (hΘ : tabOK C.P Θ) {z bts e : Nat} {ag : Bool} {zr : Option (List CT)} {c : CT} {b : Bool}
    (ho : o.op = .binOp .neq ty x y ty') (ht : tyGet Θ ty = some ⟨z, bts, ag, zr, .slice e⟩) (hx : evalC tm x = some (.c c)) (hy : evalC tm y = some (.c .nils)) (hc : isNilC c = some b)
    (hd : o.dst = some d) (hn : Nat.blt d n = true) (hg : guardL L tm o = some true) (k : SOps C n L.toArray l ((d, .v (.one (.c (.bool (!b))))) :: delL tm d) mm T) : SOps C n L.toArray (o :: l) tm mm T :=
  s_step (op_isNil hΘ ho (.inr rfl) ht hx hy hc hd hn).wp hg k
theorem s_cat {a b : ByteArray} (ho : o.op = .binOp .add ty x y ty') (hx : evalC tm x = some (.c (.str a))) (hy : evalC tm y = some (.c (.str b))) (hd : o.dst = some d) (hn : Nat.blt d n = true) (hg : guardL L tm o = some true)
    (hr : a.size + b.size ≤ 9223372036854775807) (k : SOps C n L.toArray l ((d, .v (.one (.c (.str (a ++ b))))) :: delL tm d) mm T) : SOps C n L.toArray (o :: l) tm mm T :=
  s_step (op_catS ho hx hy hr hd hn).wp hg k
end
section
variable {C : Ctx} {n : Nat} {tm tm0 : TM} {mm : MM} {L l : List Oper} {T : TM → Prop} {o : Oper} {d : Nat} {x y : Operand} {ty ty' : TypeId}
theorem d_cat {a b : ByteArray} (ho : o.op = .binOp .add ty x y ty') (hx : evalC (onlyE (looksE L o) tm) x = some (.c (.str a))) (hy : evalC (onlyE (looksE L o) tm) y = some (.c (.str b))) (hd : o.dst = some d) (hn : Nat.blt d n = true) (hg : guardL L (onlyE (looksE L o) tm) o = some true)
    (hr : a.size + b.size ≤ 9223372036854775807) (k : DOps C n mm L tm0 l ((d, .v (.one (.c (.str (a ++ b))))) :: delL tm d) T) : DOps C n mm L tm0 (o :: l) tm T :=
  d_step (op_catS ho hx hy hr hd hn) hg k
end

/-! ### Numbered keys -/
section
variable {α : Type} [DecidableEq α]
def numK : Nat → List α → List (α × CT)
  | _, [] => []
  | k, a :: l => (a, .int .i64 (k : Int)) :: numK (k + 1) l
/-- Each key with its number. -/
def numM (l : List α) : List (α × CT) := numK 0 l
theorem numK_len (l : List α) : ∀ k, (numK k l).length = l.length := by
  induction l with
  | nil => intro k; rfl
  | cons a l ih => intro k; simp [numK, ih]
theorem numK_app (l : List α) (a : α) : ∀ k, numK k (l ++ [a]) = numK k l ++ [(a, .int .i64 ((k + l.length : Nat) : Int))] := by
  induction l with
  | nil => intro k; simp [numK]
  | cons b l ih =>
    intro k
    simp only [List.cons_append, numK, ih, List.length_cons]
    rw [show k + 1 + l.length = k + (l.length + 1) by omega]
theorem numK_find (a : α) (l : List α) : ∀ k, (numK k l).find? (fun q => decide (a = q.1)) = if a ∈ l then some (a, .int .i64 ((k + l.idxOf a : Nat) : Int)) else none := by
  induction l with
  | nil => intro k; simp [numK]
  | cons b l ih =>
    intro k
    by_cases h : a = b
    · subst h; simp [numK]
    · have hb : (b == a) = false := by simpa using fun e : b = a => h e.symm
      rw [numK, List.find?_cons]
      simp only [h, decide_false, ih, List.mem_cons, false_or, List.idxOf_cons, hb, cond_false]
      split
      · rw [show k + 1 + l.idxOf a = k + (l.idxOf a + 1) by omega]
      · rfl
def numI (l : List α) (a : α) : Nat := if a ∈ l then l.idxOf a else 0
theorem num_look (l : List α) (a : α) : lookC (numM l) a (.int .i64 0) = .int .i64 ((numI l a : Nat) : Int) := by
  unfold lookC numM
  rw [numK_find, numI]
  by_cases h : a ∈ l <;> simp [h]
theorem num_has (l : List α) (a : α) : hasC (numM l) a = decide (a ∈ l) := by
  unfold hasC numM
  rw [numK_find]
  by_cases h : a ∈ l <;> simp [h]
theorem num_put {l : List α} {a : α} (h : a ∉ l) : putC (numM l) a (.int .i64 (l.length : Int)) = numM (l ++ [a]) := by
  have hn : (numM l).findIdx? (fun q => decide (a = q.1)) = none := by
    have := numK_find a l 0
    rw [if_neg h] at this
    rw [List.findIdx?_eq_none_iff]
    intro q hq
    have := List.find?_eq_none.1 this q hq
    simpa using this
  unfold putC
  rw [hn]
  simp only
  rw [numM, numM, numK_app, Nat.zero_add]
end

/-! ### Maps looked through (one value), and sets of keys -/
section
variable {C : Ctx} {n : Nat} {tm : TM} {mm : MM} {L l : List Oper} {T : TM → MM → Prop} {o : Oper} {d : Nat} {x y : Operand}
theorem s_lookI {Θ : Tab} (hΘ : tabOK C.P Θ) {t k e : TypeId} {z bts zk bk : Nat} {ag agk : Bool} {zt ztk : Option (List CT)} {ei : TyI} {zc : CT} {i : Nat} {m : List (Int × CT)} {a0 : Int}
    (ho : o.op = .lookup t x y false) (ht : tyGet Θ t = some ⟨z, bts, ag, zt, .map k e⟩) (hk : tyGet Θ k = some ⟨zk, bk, agk, ztk, .int .i64⟩) (hei : tyGet Θ e = some ei) (hz : ei.zero = some [zc]) (hna : ei.agg = false)
    (hx : evalC tm x = some (.mp i)) (hi : getM mm i = some (.mpo (entF intF m))) (hy : evalV tm y = some (.one (.c (.int .i64 a0)))) (hd : o.dst = some d) (hn : Nat.blt d n = true) (hg : guardL L tm o = some true)
    (g : SOps C n L.toArray l ((d, .v (.one (.c (lookC m a0 zc)))) :: delL tm d) mm T) : SOps C n L.toArray (o :: l) tm mm T :=
  s_step (op_lookI hΘ ho ht hk hei hz hna hx hi hy hd hn).wp hg g
theorem s_lookS {Θ : Tab} (hΘ : tabOK C.P Θ) {t k e : TypeId} {z bts zk bk : Nat} {ag agk : Bool} {zt ztk : Option (List CT)} {ei : TyI} {zc : CT} {i : Nat} {m : List (ByteArray × CT)} {a0 : ByteArray}
    (ho : o.op = .lookup t x y false) (ht : tyGet Θ t = some ⟨z, bts, ag, zt, .map k e⟩) (hk : tyGet Θ k = some ⟨zk, bk, agk, ztk, .string⟩) (hei : tyGet Θ e = some ei) (hz : ei.zero = some [zc]) (hna : ei.agg = false)
    (hx : evalC tm x = some (.mp i)) (hi : getM mm i = some (.mpo (entF strF m))) (hy : evalV tm y = some (.one (.c (.str a0)))) (hd : o.dst = some d) (hn : Nat.blt d n = true) (hg : guardL L tm o = some true)
    (g : SOps C n L.toArray l ((d, .v (.one (.c (lookC m a0 zc)))) :: delL tm d) mm T) : SOps C n L.toArray (o :: l) tm mm T :=
  s_step (op_lookup hΘ ho ht hei hz hna (tyF_str hΘ hk) (fun w M v a h => (strF_iff w M v a).1 h) hx hi hy strS_rep hd hn).wp hg g
end
section
variable {α : Type} [DecidableEq α]
/-- A set of keys: a map to bools of which each entry is true. -/
abbrev setK (l : List α) : List (α × CT) := l.map fun a => (a, CT.bool true)
theorem setK_find {l : List α} {a : α} : (setK l).find? (fun q => decide (a = q.1)) = if a ∈ l then some (a, .bool true) else none := by
  induction l with
  | nil => simp
  | cons b l ih =>
    simp only [setK, List.map_cons, List.find?_cons]
    by_cases h : a = b
    · subst h; simp
    · simp only [h, decide_false, List.mem_cons, false_or]; exact ih
theorem setK_look (l : List α) (a : α) : lookC (setK l) a (.bool false) = .bool (decide (a ∈ l)) := by
  unfold lookC
  rw [setK_find]
  by_cases h : a ∈ l <;> simp [h]
theorem setK_put {l : List α} {a : α} (h : a ∉ l) : putC (setK l) a (.bool true) = setK (l ++ [a]) := by
  have hn : (setK l).findIdx? (fun q => decide (a = q.1)) = none := by
    rw [List.findIdx?_eq_none_iff]
    intro q hq
    obtain ⟨b, hb, rfl⟩ := List.mem_map.1 hq
    simp only [decide_eq_false_iff_not]
    rintro rfl; exact h hb
  unfold putC
  rw [hn]
  simp
end
end Go.Sy
