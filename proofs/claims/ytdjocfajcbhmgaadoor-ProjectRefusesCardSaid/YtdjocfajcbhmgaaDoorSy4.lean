/- The symbolic layer, bundle Sy4. -/
import Derived.Test.YtdjocfajcbhmgaaDoorSy3
import Derived.Laws.StructEq
import Derived.MapKept
set_option linter.unusedSimpArgs false
set_option linter.unusedVariables false
set_option linter.unusedSectionVars false
namespace Go.Sy
open Go.RowKit
structure KeyL (P : Program) (k : TypeId) {α : Type} [DecidableEq α] (rep : α → Value) : Prop where
  chk : ∀ em a w, (Instr.checkKey em 10000 k (rep a)).run P w = .ok () w
  find : ∀ (a : α) (es : List MapEntry) (m : List α) (w : World), es.map (·.key) = m.map rep →
    (Instr.findKey k (rep a) es).run P w = .ok ((m.findIdx? (fun b => decide (a = b))).bind fun i => (es[i]?).map fun e => (i, e.val)) w
  bits : ∀ a, Instr.sameBits 10000 (rep a) (rep a) = true
end Go.Sy
namespace Go.Sy
open Go.RowKit
def entF {α : Type} (kf : α → FV) (m : List (α × CT)) : List (FV × FV) := m.map fun q => (kf q.1, .one q.2)
def lookC {α : Type} [DecidableEq α] (m : List (α × CT)) (a : α) (z : CT) : CT :=
  match m.find? fun q => decide (a = q.1) with
  | some q => q.2
  | none => z
def putC {α : Type} [DecidableEq α] (m : List (α × CT)) (a : α) (c : CT) : List (α × CT) :=
  match m.findIdx? fun q => decide (a = q.1) with
  | some i => m.set i (a, c)
  | none => m ++ [(a, c)]
theorem ent_keys {α : Type} {rep : α → Value} {kf : α → FV} (hkf : ∀ (w : World) (M : Nat → Prop) (v : Value) (a : α), RepF w M v (kf a) → v = rep a) {w : World} {M : Nat → Prop} {m : List (α × CT)} {es : Array MapEntry}
    (hs : es.size = (entF kf m).length) (h : ∀ (j : Nat) (p : FV × FV), (entF kf m)[j]? = some p → ∃ en : MapEntry, es[j]? = some en ∧ RepF w M en.key p.1 ∧ RepF w M en.val p.2) :
    es.toList.map (·.key) = (m.map (·.1)).map rep := by
  apply List.ext_getElem?
  intro j
  rw [List.getElem?_map, List.getElem?_map, List.getElem?_map]
  cases hm : m[j]? with
  | none =>
    have : es.toList[j]? = none := by
      rw [List.getElem?_eq_none_iff] at hm ⊢
      simp [entF] at hs
      simp; omega
    rw [this]; rfl
  | some q =>
    obtain ⟨en, h1, h2, _⟩ := h j (kf q.1, .one q.2) (by simp [entF, hm])
    have : es.toList[j]? = some en := by simpa using h1
    rw [this]
    simp [hkf _ _ _ _ h2]
section
variable {C : Ctx} {n : Nat} {tm : TM} {mm : MM} {o : Oper} {d : Nat} {α : Type} [DecidableEq α]
theorem find_ent {m : List (α × CT)} {a : α} : ((m.map (·.1)).findIdx? fun b => decide (a = b)) = m.findIdx? fun q => decide (a = q.1) := by
  rw [List.findIdx?_map]; rfl
theorem op_lookup {Θ : Tab} (hΘ : tabOK C.P Θ) {t k e : TypeId} {x y : Operand} {z bts : Nat} {ag : Bool} {zt : Option (List CT)} {ei : TyI} {zc : CT} {i : Nat} {rep : α → Value} {kf : α → FV} {m : List (α × CT)} {a0 : α} {s : SV}
    (ho : o.op = .lookup t x y false) (ht : tyGet Θ t = some ⟨z, bts, ag, zt, .map k e⟩) (hei : tyGet Θ e = some ei) (hz : ei.zero = some [zc]) (hna : ei.agg = false)
    (hK : KeyL C.P k rep) (hkf : ∀ (w : World) (M : Nat → Prop) (v : Value) (a : α), RepF w M v (kf a) → v = rep a)
    (hx : evalC tm x = some (.mp i)) (hi : getM mm i = some (.mpo (entF kf m))) (hy : evalV tm y = some s) (hs : ∀ I H Z w M v, RepSV I H Z w M v s → v = rep a0) (hd : o.dst = some d) (hn : Nat.blt d n = true) :
    OpV C n o tm mm d (.v (.one (.c (lookC m a0 zc)))) :=
  OpV.val hd hn _ fun H Z a w hm => by
    obtain ⟨inf, de, hf⟩ := tyF hΘ ht
    obtain ⟨inf', de', hf'⟩ := tyF hΘ hei
    obtain ⟨zv, hzv, hzc, hzl⟩ := hf'.zero _ hz
    have hde : de = .map k e := by
      have := hf.sh
      cases de <;> simp [shChk] at this ⊢
      exact this
    subst hde
    obtain ⟨_, hv⟩ := evalC_rep hm hx
    obtain ⟨r, es, ck, h1, h2, h3, h4⟩ := hm.mem _ (getM_mem hi)
    have hk := hs _ _ _ _ _ _ (evalV_rep hm hy)
    have hkeys := ent_keys hkf h3 h4
    have hfind := hK.find a0 es.toList (m.map (·.1)) w (by simpa using hkeys)
    rw [find_ent] at hfind
    have hget : (getObj r).run C.P w = .ok (.map es ck) w := by simp [getObj, Sem.run, h2]
    have hz1 := hf'.zeroValue (w := w) hzv
    have hzrep : RepC w (Mof C H mm) zv zc := by
      obtain ⟨q1, q2⟩ := zchk_cells (w := w) (M := Mof C H mm) hzc
      obtain ⟨u, hu, hr⟩ := q2 0 zc rfl
      rw [hna] at hzc
      have : u = zv := by
        cases zv <;> first
          | (simp [Value.cells] at hu; exact hu.symm)
          | (cases zc <;> simp [zchk, zchkL, zchk1] at hzc)
      rw [← this]; exact hr
    cases hfi : m.findIdx? fun q => decide (a0 = q.1) with
    | none =>
      have hl : lookC m a0 zc = zc := by
        have : m.find? (fun q => decide (a0 = q.1)) = none := by
          rw [List.find?_eq_none]
          intro q hq
          rw [List.findIdx?_eq_none_iff] at hfi
          simp [hfi q hq]
        simp [lookC, this]
      rw [hl]
      refine ⟨zv, ?_, hzrep⟩
      rw [hfi] at hfind
      simp only [execOp, ho, Instr.lookup, Sem.run_bind, hf.underlying, Result.andThen_ok, hv, h1, hk, hget, hK.chk, Sem.run_pure]
      simp at hfind
      simp [hfind, hz1, Sem.run_bind]
    | some j =>
      have hfi' := hfi
      rw [List.findIdx?_eq_some_iff_getElem] at hfi'
      obtain ⟨hj, hj1, hj2⟩ := hfi'
      have hl : lookC m a0 zc = m[j].2 := by
        have : m.find? (fun q => decide (a0 = q.1)) = some m[j] := by
          rw [List.find?_eq_some_iff_getElem]
          exact ⟨hj1, j, hj, rfl, fun i hi => by simpa using hj2 i hi⟩
        simp [lookC, this]
      rw [hl]
      obtain ⟨en, g1, g2, g3⟩ := h4 j (kf m[j].1, .one m[j].2) (by simp [entF, hj])
      refine ⟨en.val, ?_, g3⟩
      rw [hfi] at hfind
      have g1' : es.toList[j]? = some en := by simpa using g1
      simp only [Option.bind_some, g1', Option.map_some] at hfind
      simp only [execOp, ho, Instr.lookup, Sem.run_bind, hf.underlying, Result.andThen_ok, hv, h1, hk, hget, hK.chk, Sem.run_pure, hfind]
      simp
theorem op_mapUpdate {Θ : Tab} (hΘ : tabOK C.P Θ) {t k e : TypeId} {x y vx : Operand} {z bts : Nat} {ag : Bool} {zt : Option (List CT)} {c : CT} {i : Nat} {rep : α → Value} {kf : α → FV} {m : List (α × CT)} {a0 : α} {s : SV}
    (ho : o.op = .mapUpdate t x y vx ∨ o.op = .insert t x y vx) (ht : tyGet Θ t = some ⟨z, bts, ag, zt, .map k e⟩)
    (hK : KeyL C.P k rep) (hkf : ∀ (w : World) (M : Nat → Prop) (v : Value) (a : α), RepF w M v (kf a) ↔ v = rep a)
    (hx : evalC tm x = some (.mp i)) (hi : getM mm i = some (.mpo (entF kf m))) (hy : evalV tm y = some s) (hs : ∀ I H Z w M v, RepSV I H Z w M v s → v = rep a0) (hvx : evalD tm vx = some (.one (.c c)))
    (hd : o.dst = none) : OpR C n o tm mm tm (updM mm i (.mpo (entF kf (putC m a0 c)))) := by
  intro a w ⟨H, Z, hm⟩
  obtain ⟨inf, de, hf⟩ := tyF hΘ ht
  have hde : de = .map k e := by
    have := hf.sh
    cases de <;> simp [shChk] at this ⊢
    exact this
  subst hde
  obtain ⟨_, hv⟩ := evalC_rep hm hx
  obtain ⟨r, es, ck, h1, h2, h3, h4⟩ := hm.mem _ (getM_mem hi)
  have hk := hs _ _ _ _ _ _ (evalV_rep hm hy)
  have hval : RepC w (Mof C H mm) (a.eval vx) c := evalD_rep hm hvx
  have hkeys := ent_keys (fun w M v a h => (hkf w M v a).1 h) h3 h4
  have hfind := hK.find a0 es.toList (m.map (·.1)) w (by simpa using hkeys)
  rw [find_ent] at hfind
  have hHb : Hb (H i) r := by rw [h1]; rfl
  have hrl : r < w.heap.size := (Array.getElem?_eq_some_iff.1 h2).1
  have fin : ∀ (es' : Array MapEntry) (ck' : Nat), (execOp a.eval o).run C.P w = .ok .skip { w with heap := w.heap.setIfInBounds r (.map es' ck') } → es'.size = (entF kf (putC m a0 c)).length →
      (∀ (j : Nat) (p : FV × FV), (entF kf (putC m a0 c))[j]? = some p → ∃ en : MapEntry, es'[j]? = some en ∧ RepF w (Mof C H mm) en.key p.1 ∧ RepF w (Mof C H mm) en.val p.2) →
      (∃ v w', (execOp a.eval o).run C.P w = .ok (.value v) w' ∧ Has C n tm (updM mm i (.mpo (entF kf (putC m a0 c)))) (a.put o.dst v) w') ∨
      (∃ w', (execOp a.eval o).run C.P w = .ok .skip w' ∧ Has C n tm (updM mm i (.mpo (entF kf (putC m a0 c)))) (a.put o.dst undef) w') := by
    intro es' ck' hrun hsz hent
    have hext : Ext (fun b => b = r) w { w with heap := w.heap.setIfInBounds r (.map es' ck') } :=
      ⟨rfl, rfl, rfl, by simp, fun k _ hne => by simp [Array.getElem?_setIfInBounds_ne (Ne.symm hne)]⟩
    refine .inr ⟨_, hrun, H, Z, ?_⟩
    rw [hd]
    refine hm.upd (b0 := r) ⟨_, getM_mem hi, rfl⟩ hHb hext hm.defers hm.size ?_ (fun p hp => ⟨hp, rfl⟩)
    intro hMM hfr
    refine ⟨r, es', ck', h1, by simp [hrl], hsz, fun j p hp => ?_⟩
    obtain ⟨en, q1, q2, q3⟩ := hent j p hp
    exact ⟨en, q1, q2.mono hext.size hfr hMM, q3.mono hext.size hfr hMM⟩
  cases hfi : m.findIdx? fun q => decide (a0 = q.1) with
  | none =>
    rw [hfi] at hfind
    simp only [Option.bind_none] at hfind
    have hput : putC m a0 c = m ++ [(a0, c)] := by simp [putC, hfi]
    refine fin (es.push { key := rep a0, val := a.eval vx, born := ck }) (ck + 1) ?_ ?_ ?_
    · rcases ho with ho | ho <;>
        simp [execOp, ho, Instr.mapUpdate, Sem.run_bind, hf.underlying, hv, h1, hk, MapKept.run_getObj_map h2, hK.chk, hfind, MapKept.run_setObj_map _ h2, Result.andThen]
    · rw [hput]; simp [entF] at h3 ⊢; exact h3
    · intro j p hp
      rw [hput] at hp
      simp only [entF, List.map_append, List.map_cons, List.map_nil] at hp
      have hml : es.size = (m.map fun q => (kf q.1, FV.one q.2)).length := h3
      rw [List.getElem?_append] at hp
      split at hp
      · rename_i hjl
        obtain ⟨en, q1, q2⟩ := h4 j p hp
        exact ⟨en, by rw [Array.getElem?_push, if_neg (by omega)]; exact q1, q2⟩
      · rename_i hjl
        have hj0 : j = es.size := by
          have := (List.getElem?_eq_some_iff.1 hp).1
          simp at this hjl hml
          omega
        subst hj0
        rw [hml, Nat.sub_self] at hp
        simp at hp
        subst hp
        refine ⟨{ key := rep a0, val := a.eval vx, born := ck }, by rw [Array.getElem?_push, if_pos rfl], (hkf _ _ _ _).2 rfl, ?_⟩
        exact hval
  | some j =>
    have hfi' := hfi
    rw [List.findIdx?_eq_some_iff_getElem] at hfi'
    obtain ⟨hj, hj1, hj2⟩ := hfi'
    obtain ⟨en, g1, g2, g3⟩ := h4 j (kf m[j].1, .one m[j].2) (by simp [entF, hj])
    have hkey : en.key = rep a0 := by
      rw [(hkf _ _ _ _).1 g2]
      have : a0 = m[j].1 := by simpa using hj1
      rw [← this]
    rw [hfi] at hfind
    have g1' : es.toList[j]? = some en := by simpa using g1
    simp only [Option.bind_some, g1', Option.map_some] at hfind
    have hput : putC m a0 c = m.set j (a0, c) := by simp [putC, hfi]
    refine fin (es.modify j fun e => { e with key := rep a0, val := a.eval vx }) ck ?_ ?_ ?_
    · rcases ho with ho | ho <;>
        simp [execOp, ho, Instr.mapUpdate, Sem.run_bind, hf.underlying, hv, h1, hk, MapKept.run_getObj_map h2, hK.chk, hfind, g1, hkey, Instr.keyThatStays, hK.bits, MapKept.run_setObj_map _ h2, Result.andThen]
    · rw [hput]; simp [entF] at h3 ⊢; exact h3
    · intro j' p hp
      rw [hput] at hp
      simp only [entF, List.getElem?_map, List.getElem?_set] at hp
      by_cases hjj : j = j'
      · subst hjj
        rw [if_pos rfl, if_pos hj] at hp
        simp at hp
        subst hp
        refine ⟨{ en with key := rep a0, val := a.eval vx }, by rw [Array.getElem?_modify, if_pos rfl, g1]; rfl, (hkf _ _ _ _).2 rfl, ?_⟩
        exact hval
      · rw [if_neg hjj] at hp
        obtain ⟨en', q1, q2⟩ := h4 j' p (by simpa [entF] using hp)
        exact ⟨en', by rw [Array.getElem?_modify, if_neg hjj]; exact q1, q2⟩
end
end Go.Sy
namespace Go.Sy
open Go.RowKit
section
variable {C : Ctx} {n : Nat} {tm : TM} {mm : MM} {L l : List Oper} {T : TM → MM → Prop} {o : Oper} {d : Nat}
theorem s_idxo {Θ : Tab} (hΘ : tabOK C.P Θ) {t : TypeId} {x y : Operand} {id : Nat} {nn : Bool} {sz : Nat} {xs : List (List CT)} {kd : IntKind} {m : Int} {e e' : Nat} {z bts : Nat} {ag : Bool} {zr : Option (List CT)} {ei : TyI}
    (ho : o.op = .indexAddr t x y) (ht : tyGet Θ t = some ⟨z, bts, ag, zr, .slice e⟩) (hei : tyGet Θ e = some ei) (hsz : Nat.beq ei.size sz = true)
    (hx : evalC tm x = some (.own id)) (hid : getM mm id = some (.arr nn e' sz xs)) (hi : evalC tm y = some (.c (.int kd m))) (hd : o.dst = some d) (hn : Nat.blt d n = true) (hg : guardL L tm o = some true)
    (j : Nat) (hm : m = (j : Int)) (hj : j < xs.length) (k : SOps C n L.toArray l ((d, .v (.one (.aptr id j 0))) :: delL tm d) mm T) : SOps C n L.toArray (o :: l) tm mm T :=
  s_step (op_idx_own hΘ ho ht hei hsz hx hid hi hm hj hd hn).wp hg k
theorem s_loada {Θ : Tab} (hΘ : tabOK C.P Θ) {t : TypeId} {ti : TyI} {x : Operand} {i j off e sz : Nat} {nn : Bool} {xs : List (List CT)} {ys : List CT} {s : SV} (cs : List CT)
    (ho : o.op = .load t x) (ht : tyGet Θ t = some ti) (hx : evalC tm x = some (.aptr i j off)) (hi : getM mm i = some (.arr nn e sz xs)) (hj : xs[j]? = some cs)
    (hs : subL cs off ti.size = some ys) (hv : mkV SC.c ti.agg ys = some s) (hd : o.dst = some d) (hn : Nat.blt d n = true) (hg : guardL L tm o = some true)
    (k : SOps C n L.toArray l ((d, .v s) :: delL tm d) mm T) : SOps C n L.toArray (o :: l) tm mm T :=
  s_step (op_load_aptr hΘ ho ht hx hi hj hs hv hd hn).wp hg k
end
section
variable {C : Ctx} {n : Nat} {tm tm0 : TM} {mm : MM} {L l : List Oper} {T : TM → Prop} {o : Oper} {d : Nat}
theorem d_idxo {Θ : Tab} (hΘ : tabOK C.P Θ) {t : TypeId} {x y : Operand} {id : Nat} {nn : Bool} {sz : Nat} {xs : List (List CT)} {kd : IntKind} {m : Int} {e e' : Nat} {z bts : Nat} {ag : Bool} {zr : Option (List CT)} {ei : TyI}
    (ho : o.op = .indexAddr t x y) (ht : tyGet Θ t = some ⟨z, bts, ag, zr, .slice e⟩) (hei : tyGet Θ e = some ei) (hsz : Nat.beq ei.size sz = true)
    (hx : evalC (onlyE (looksE L o) tm) x = some (.own id)) (hid : getM mm id = some (.arr nn e' sz xs)) (hi : evalC (onlyE (looksE L o) tm) y = some (.c (.int kd m))) (hd : o.dst = some d) (hn : Nat.blt d n = true) (hg : guardL L (onlyE (looksE L o) tm) o = some true)
    (j : Nat) (hm : m = (j : Int)) (hj : j < xs.length) (k : DOps C n mm L tm0 l ((d, .v (.one (.aptr id j 0))) :: delL tm d) T) : DOps C n mm L tm0 (o :: l) tm T :=
  d_step (op_idx_own hΘ ho ht hei hsz hx hid hi hm hj hd hn) hg k
theorem d_loada {Θ : Tab} (hΘ : tabOK C.P Θ) {t : TypeId} {ti : TyI} {x : Operand} {i j off e sz : Nat} {nn : Bool} {xs : List (List CT)} {ys : List CT} {s : SV} (cs : List CT)
    (ho : o.op = .load t x) (ht : tyGet Θ t = some ti) (hx : evalC (onlyE (looksE L o) tm) x = some (.aptr i j off)) (hi : getM mm i = some (.arr nn e sz xs)) (hj : xs[j]? = some cs)
    (hs : subL cs off ti.size = some ys) (hv : mkV SC.c ti.agg ys = some s) (hd : o.dst = some d) (hn : Nat.blt d n = true) (hg : guardL L (onlyE (looksE L o) tm) o = some true)
    (k : DOps C n mm L tm0 l ((d, .v s) :: delL tm d) T) : DOps C n mm L tm0 (o :: l) tm T :=
  d_step (op_load_aptr hΘ ho ht hx hi hj hs hv hd hn) hg k
end
end Go.Sy
namespace Go.Sy
open Go.RowKit
section
variable {C : Ctx} {f : FuncId} {n : Nat} {R : Ending → World → Prop} {k : List Item} {tm : TM} {mm : MM} {L l : List Oper} {T : TM → MM → Prop}
def setL {α : Type} : List α → Nat → α → List α
  | [], _, _ => []
  | _ :: l, 0, x => x :: l
  | a :: l, j + 1, x => a :: setL l j x
theorem setL_eq {α : Type} : ∀ (l : List α) (j : Nat) (x : α), setL l j x = l.set j x
  | [], _, _ => rfl
  | _ :: _, 0, _ => rfl
  | a :: l, j + 1, x => by simp [setL, setL_eq l j x]
def nthC : List SC → Nat → Option SC
  | [], _ => none
  | a :: _, 0 => some a
  | _ :: l, j + 1 => nthC l j
theorem nthC_eq : ∀ (l : List SC) (j : Nat), nthC l j = l[j]?
  | [], _ => by simp [nthC]
  | _ :: _, 0 => rfl
  | a :: l, j + 1 => by simpa [nthC] using nthC_eq l j
theorem g_lenB (i j : Nat) {cs : List SC} {nn : Bool} {sz : Nat} {xs : List (List CT)} (hi : getM mm i = some (.box cs)) (hj : nthC cs j = some (.c (.slice nn sz xs))) (g : xs.length ≤ 9223372036854775807 → Goes C f n R k tm mm) : Goes C f n R k tm mm := by
  intro a w hh
  obtain ⟨H, Z, hm⟩ := hh
  rw [nthC_eq] at hj
  obtain ⟨b, ty, vs, h1, h2, h3, h4⟩ := hm.mem _ (getM_mem hi)
  obtain ⟨u, hu, ho, hr⟩ := h4 j _ hj
  have := RepC.len_le hr
  exact g (Nat.le_trans this (by decide)) a w ⟨H, Z, hm⟩
def cutT (ds : List Nat) : TM → TM
  | [] => []
  | (t, s) :: r => match memN ds t with
    | true => cutT ds r
    | false => (t, s) :: cutT ds r
theorem cutT_mem {ds : List Nat} {p : Nat × ST} : ∀ {l : TM}, p ∈ cutT ds l → p ∈ l
  | [], h => by cases h
  | (t, s) :: r, h => by
    unfold cutT at h
    split at h
    · exact List.mem_cons_of_mem _ (cutT_mem h)
    · rcases List.mem_cons.1 h with rfl | h
      · exact List.mem_cons_self
      · exact List.mem_cons_of_mem _ (cutT_mem h)
theorem g_drawC {id : Nat} (hmix : C.P.follows .mixedOrders = true) (hok : okR L [] L 0 = true) (hu : uniT (dstsE L) (cutT (dstsE L) tm) = true)
    (h : DOps C n mm L (cutT (dstsE L) tm) L (cutT (dstsE L) tm) (fun tm' => Goes C f n R k tm' mm)) : Goes C f n R (.code (.region id L.toArray true) :: k) tm mm :=
  (g_draw hmix hok hu h).mono fun _ _ hh => hh.incl fun _ hp => cutT_mem hp
theorem g_drawEC {id : Nat} (hmix : C.P.follows .mixedOrders = true) (hok : okR2 L [] L 0 = true) (hu : uniT (dstsE L) (cutT (dstsE L) tm) = true)
    (h : EOps C n mm L (cutT (dstsE L) tm) 0 L (cutT (dstsE L) tm) [] (fun tm' mm' => Goes C f n R k tm' mm')) : Goes C f n R (.code (.region id L.toArray true) :: k) tm mm :=
  (g_drawE hmix hok hu h).mono fun _ _ hh => hh.incl fun _ hp => cutT_mem hp
end
end Go.Sy
namespace Go.Sy
open Go.RowKit
def NewAt (w : World) (M0 : Nat → Prop) (cs : List CT) (e : Ending) (w' : World) : Prop :=
  ∃ b ty us, e = .returned (.pointer (some ⟨b, 0, none⟩)) ∧ Ext (fun _ => False) w w' ∧ w.heap.size ≤ b ∧ w'.heap[b]? = some (.cells us ty (0, 0)) ∧ us.size = cs.length ∧
    ∀ (j : Nat) (c : CT), cs[j]? = some c → ∃ u : Value, us[j]? = some u ∧ RepC w' (fun q => M0 q ∨ q = b) u c
structure ConN (P : Program) (f : FuncId) (args : List SV) (cs : List CT) : Prop where
  ok : CallOK P f
  calls : ∀ (w : World) (M0 : Nat → Prop) (H : Nat → Value) (Z : Nat → Nat) (vs : List Value), (∀ b, M0 b → b < w.heap.size) →
    Pw (fun v s => RepSV (Iof []) H Z w M0 v s) vs args → Calls P f vs.toArray w (NewAt w M0 cs)
section
variable {C : Ctx} {n : Nat} {tm : TM} {mm : MM} {o : Oper} {d : Nat} {L l : List Oper} {T : TM → MM → Prop}
theorem op_callN {f : FuncId} {args : List SV} {cs : List CT} (hc : ConN C.P f args cs) {xs : Array Operand} {ts : Array TypeId}
    (ho : o.op = .call { callee := .value (.func f), args := xs, argTypes := ts }) (hargs : evalArgs tm xs.toList = some args) (hren : renVs [] args = some args)
    (hi : getM mm d = none) (hd : o.dst = some d) (hn : Nat.blt d n = true) :
    OpW C n o tm mm ((d, .v (.one (.ptr d 0))) :: delL tm d) ((d, .box (cs.map SC.c)) :: mm) := by
  intro a w K Q ⟨H, Z, hm⟩ hK
  have hargs' := evalArgs_rep hm hargs
  have hI : ∀ i j, renI [] i = some j → Iof mm j → Iof [] i ∧ H i = H j := fun i j h _ => by
    have := (renI_spec h).2; simp at this
  have hM0 : ∀ b, Mof C H mm b → b < w.heap.size := by
    rintro b (hb | ⟨p, hp, hpb⟩)
    · exact Nat.lt_of_lt_of_le (hm.m0 b hb) hm.ext.size
    · exact (hm.fresh p hp b hpb).2
  have hcalls := hc.calls w (Mof C H mm) H Z _ hM0 (renVs_rep hI (fun b _ h => h) hren hargs')
  unfold Oper.wp
  have hrun : (execOp a.eval o).run C.P w = .ok (.enter f (xs.toList.map a.eval).toArray) w := by
    have hmap : xs.map a.eval = (xs.toList.map a.eval).toArray := by simp [← List.map_toArray]
    simp only [execOp, ho, resolve, hmap, Deferred.ofValue, Act.eval, invoke, Sem.run_bind, Sem.run_pure, Result.andThen_ok, Array.append_empty, Array.empty_append, hc.ok w]
  rw [hrun]
  show Calls _ _ _ _ _
  refine Calls.mono hcalls ?_
  rintro e w' ⟨b, ty, us, rfl, hext, hb, hh, hl, hr⟩
  refine hK _ _ ⟨Sy.upd H d (.pointer (some ⟨b, 0, none⟩)), Sy.upd Z d 0, ?_⟩
  rw [hd]
  have hbl : b < w'.heap.size := (Array.getElem?_eq_some_iff.1 hh).1
  refine hm.add (i := d) (hv := .pointer (some ⟨b, 0, none⟩)) (z := 0) (o := .box (cs.map SC.c)) (getM_none hi) (Nat.blt_eq.mp hn) rfl hext ?_ ?_ ?_
  · intro b' hb'
    simp [Hb, hblk] at hb'
    subst hb'
    exact ⟨hb, hbl⟩
  · intro hMM hfr
    refine ⟨b, ty, us, upd_self _ _ _, hh, by simpa using hl, fun j c hc => ?_⟩
    rw [List.getElem?_map] at hc
    cases hq : cs[j]? with
    | none => rw [hq] at hc; cases hc
    | some ct =>
      rw [hq] at hc; injection hc with hc; subst hc
      obtain ⟨u, hu, hrep⟩ := hr j ct hq
      refine ⟨u, hu, hrep.one, RepC.mono hrep (Nat.le_refl _) (fun _ _ _ => rfl) (fun q hq hMq => ?_)⟩
      rcases hMq with hMq | ⟨p, hp, hpb⟩
      · exact .inl (.inl hMq)
      · rcases List.mem_cons.1 hp with rfl | hp
        · rw [upd_self] at hpb; simp [Hb, hblk] at hpb; exact .inr hpb.symm
        · have hne : p.1 ≠ d := fun e => getM_none hi ⟨p, hp, e⟩
          rw [upd_ne _ _ hne] at hpb
          exact .inl (.inr ⟨p, hp, hpb⟩)
  · exact ⟨⟨_, List.mem_cons_self, rfl⟩, b, by rw [upd_self]; rfl, rfl⟩
end
theorem conN_of {P : Program} {f : FuncId} {fn : Func} {c : Code} {args : List SV} {cs : List CT}
    (hf : P.funcs[f]? = some fn) (hb : fn.body = some c) (hn : Nat.ble args.length fn.ntmps = true) (hng : Nat.ble fn.ntmps given = true) (hnm : (fn.name == "runtime.NumGoroutine") = false)
    (h : ∀ (w : World) (M0 : Nat → Prop) (H : Nat → Value), Goes ⟨P, w, M0, fun _ => False, H, fun _ => False, fun _ h => h.elim⟩ f fn.ntmps (NewAt w M0 cs) [.code c] (argT 0 args) []) : ConN P f args cs := by
  refine ⟨callOK hf hb hnm, ?_⟩
  intro w M0 H Z vs hM0 hargs fs
  have hlen : vs.length = args.length := hargs.1
  let a : Act := { tmps := vs.toArray ++ Array.replicate (fn.ntmps - vs.toArray.size) undef, defers := [] }
  have hn := Nat.ble_eq.mp hn
  have hmod : Mod ⟨P, w, M0, fun _ => False, H, fun _ => False, fun _ h => h.elim⟩ H Z fn.ntmps (argT 0 args) [] a w := by
    refine ⟨rfl, by simp [a]; omega, Nat.ble_eq.mp hng, (fun p hp => by cases hp), Ext.refl _ _, hM0, (fun p hp => by cases hp), (fun p hp => by cases hp), (fun p hp => by cases hp), (fun p hp => by cases hp), ?_⟩
    intro p hp
    obtain ⟨j, s, rfl, hj⟩ := argT_mem hp
    obtain ⟨u, hu, hr⟩ := hargs.2 j s hj
    have hjl : j < vs.length := (List.getElem?_eq_some_iff.1 hu).1
    have : a.tmps.getD (0 + j) undef = u := by
      have hju : vs[j] = u := by
        have := List.getElem?_eq_getElem hjl
        rw [hu] at this
        injection this with this; exact this.symm
      simp [a, Array.getD_eq_getD_getElem?, Array.getElem?_append, hjl, hju]
    rw [this]
    exact RepSV.mono hr (fun i _ hi => ⟨hi, rfl, rfl⟩) (Nat.le_refl _) (fun _ _ _ => rfl) (fun b _ hb => by
      rcases hb with hb | ⟨p, hp, _⟩
      · exact hb
      · cases hp)
  let b : Frame := { (default : Frame) with fn := f, kind := .normal }
  have henter : Frame.enter P f vs.toArray .normal = b.at a [.code c] := by
    simp [Frame.enter, Frame.at, hf, hb, b, a]
  obtain ⟨e, w', fr, h1, h2, h3, h4⟩ := h w M0 H a w ⟨H, Z, hmod⟩ b fs rfl rfl
  rw [henter]
  exact ⟨e, w', fr, h1, h2, h3, h4⟩
theorem g_endN {P : Program} {w0 : World} {M0 : Nat → Prop} {f : FuncId} {n : Nat} {tm : TM} {mm : MM} {H : Nat → Value} {Θ : Tab} (hΘ : tabOK P Θ)
    {fn : Func} (hf : P.funcs[f]? = some fn) {i : Nat} {cs : List SC} {ct res : List CT} {t : List Item} (ht : t = [] ∨ ∃ k, t = .code .ret :: k)
    (hr : resE Θ tm mm fn.results.toList = some [.one (.ptr i 0)]) (hi : getM mm i = some (.box cs)) (hg : Nat.blt i given = true) (hc : ctsOf cs = some ct) (he : ct = res) :
    Goes ⟨P, w0, M0, fun _ => False, H, fun _ => False, fun _ h => h.elim⟩ f n (NewAt w0 M0 res) t tm mm := by
  subst he
  intro a w ⟨H', Z', hm⟩ b fs hb hk
  obtain ⟨v, h1, h2⟩ := results_run hΘ hm hr
  obtain ⟨_, b0, hb0, hv⟩ : RepSC (Iof mm) H' Z' w (Mof ⟨P, w0, M0, fun _ => False, H, fun _ => False, fun _ h => h.elim⟩ H' mm) v (.ptr i 0) := h2
  obtain ⟨b1, ty, vs, g1, g2, g3, g4⟩ := hm.mem _ (getM_mem hi)
  have hbb : b0 = b1 := by
    rw [show H' i = _ from g1] at hb0
    simp [Hb, hblk] at hb0
    exact hb0.symm
  subst hbb
  have hfr := (hm.fresh _ (getM_mem hi) b0 (Hb_of hb0)).1
  have hge : w0.heap.size ≤ b0 := by
    rcases hfr with ⟨_, h | h⟩ | ⟨h, _⟩
    · exact h
    · exact h.elim
    · have := Nat.blt_eq.mp hg
      simp only at h
      omega
  have hpw : Pw (fun u c => RepSC (Iof mm) H' Z' w (Mof ⟨P, w0, M0, fun _ => False, H, fun _ => False, fun _ h => h.elim⟩ H' mm) u c) vs.toList cs :=
    ⟨by simpa using g3, fun j c hc => let ⟨u, hu, _, hr⟩ := g4 j c hc; ⟨u, by simpa using hu, hr⟩⟩
  have hcp := ctsOf_pw hc hpw
  have hfin : NewAt w0 M0 ct (.returned v) w := by
    refine ⟨b0, ty, vs, by rw [hv], hm.ext, hge, g2, by simpa using hcp.1, fun j c hc => ?_⟩
    obtain ⟨u, hu, hrep⟩ := hcp.2 j c hc
    refine ⟨u, by simpa using hu, RepC.mono hrep (Nat.le_refl _) (fun _ _ _ => rfl) (fun q _ hq => ?_)⟩
    rcases hq with hq | rfl
    · exact .inl hq
    · exact .inr ⟨_, getM_mem hi, Hb_of hb0⟩
  rcases ht with rfl | ⟨k, rfl⟩
  · exact ⟨.returned v, w, _, hfin, Steps.one step_end, hb, rfl, hm.defers, hk, fn, hb ▸ hf, h1⟩
  · exact ⟨.returned v, w, _, hfin, Steps.one step_ret, hb, rfl, hm.defers, hk, fn, hb ▸ hf, h1⟩
end Go.Sy
