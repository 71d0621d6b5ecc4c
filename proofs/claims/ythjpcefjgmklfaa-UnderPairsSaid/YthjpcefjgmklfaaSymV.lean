/- Symbolic states: maps: lookup, update. -/
import Derived.Test.YthjpcefjgmklfaaSymU
import Derived.MapKept
namespace Go.Sy
set_option linter.unusedSimpArgs false
set_option linter.unusedVariables false
set_option linter.unusedSectionVars false
open Go.RowKit

/-- The entries of a map with keys of one kind and values of one cell. -/
def entF {α : Type} (kf : α → FV) (m : List (α × CT)) : List (FV × FV) := m.map fun q => (kf q.1, .one q.2)
def lookC {α : Type} [DecidableEq α] (m : List (α × CT)) (a : α) (z : CT) : CT :=
  match m.find? fun q => decide (a = q.1) with
  | some q => q.2
  | none => z
/-- The map with an entry more, or an entry's value anew. -/
def putC {α : Type} [DecidableEq α] (m : List (α × CT)) (a : α) (c : CT) : List (α × CT) :=
  match m.findIdx? fun q => decide (a = q.1) with
  | some i => m.set i (a, c)
  | none => m ++ [(a, c)]

theorem ent_keys {α : Type} {rep : α → Value} {kf : α → FV} (hkf : ∀ (w : World) (M : Nat → Prop) (v : Value) (a : α), RepF w M v (kf a) → v = rep a) {w : World} {M : Nat → Prop} {m : List (α × CT)} {es : Array MapEntry}
    (hs : es.size = (entF kf m).length) (h : ∀ (j : Nat) (p : FV × FV), (entF kf m)[j]? = some p → ∃ en : MapEntry, es[j]? = some en ∧ RepF w M en.key p.1 ∧ RepF w M en.val p.2) :
    es.toList.map (·.key) = (m.map (·.1)).map rep := by
  apply List.ext_getElem?
  intro j
  rw [List.getElem?_map, List.getElem?_map, List.getElem?_map]
  cases hm : m[j]? with
  | none =>
    have : es.toList[j]? = none := by
      rw [List.getElem?_eq_none_iff] at hm ⊢
      simp [entF] at hs
      simp; omega
    rw [this]; rfl
  | some q =>
    obtain ⟨en, h1, h2, _⟩ := h j (kf q.1, .one q.2) (by simp [entF, hm])
    have : es.toList[j]? = some en := by simpa using h1
    rw [this]
    simp [hkf _ _ _ _ h2]

section
variable {C : Ctx} {n : Nat} {tm : TM} {mm : MM} {o : Oper} {d : Nat} {α : Type} [DecidableEq α]

theorem find_ent {m : List (α × CT)} {a : α} : ((m.map (·.1)).findIdx? fun b => decide (a = b)) = m.findIdx? fun q => decide (a = q.1) := by
  rw [List.findIdx?_map]; rfl

theorem op_lookup {Θ : Tab} (hΘ : tabOK C.P Θ) {t k e : TypeId} {x y : Operand} {z bts : Nat} {ag : Bool} {zt : Option (List CT)} {ei : TyI} {zc : CT} {i : Nat} {rep : α → Value} {kf : α → FV} {m : List (α × CT)} {a0 : α} {s : SV}
    (ho : o.op = .lookup t x y false) (ht : tyGet Θ t = some ⟨z, bts, ag, zt, .map k e⟩) (hei : tyGet Θ e = some ei) (hz : ei.zero = some [zc]) (hna : ei.agg = false)
    (hK : KeyL C.P k rep) (hkf : ∀ (w : World) (M : Nat → Prop) (v : Value) (a : α), RepF w M v (kf a) → v = rep a)
    (hx : evalC tm x = some (.mp i)) (hi : getM mm i = some (.mpo (entF kf m))) (hy : evalV tm y = some s) (hs : ∀ I H Z w M v, RepSV I H Z w M v s → v = rep a0) (hd : o.dst = some d) (hn : Nat.blt d n = true) :
    OpV C n o tm mm d (.v (.one (.c (lookC m a0 zc)))) :=
  OpV.val hd hn _ fun H Z a w hm => by
    obtain ⟨inf, de, hf⟩ := tyF hΘ ht
    obtain ⟨inf', de', hf'⟩ := tyF hΘ hei
    obtain ⟨zv, hzv, hzc, hzl⟩ := hf'.zero _ hz
    have hde : de = .map k e := by
      have := hf.sh
      cases de <;> simp [shChk] at this ⊢
      exact this
    subst hde
    obtain ⟨_, hv⟩ := evalC_rep hm hx
    obtain ⟨r, es, ck, h1, h2, h3, h4⟩ := hm.mem _ (getM_mem hi)
    have hk := hs _ _ _ _ _ _ (evalV_rep hm hy)
    have hkeys := ent_keys hkf h3 h4
    have hfind := hK.find a0 es.toList (m.map (·.1)) w (by simpa using hkeys)
    rw [find_ent] at hfind
    have hget : (getObj r).run C.P w = .ok (.map es ck) w := by simp [getObj, Sem.run, h2]
    have hz1 := hf'.zeroValue (w := w) hzv
    have hzrep : RepC w (Mof C H mm) zv zc := by
      obtain ⟨q1, q2⟩ := zchk_cells (w := w) (M := Mof C H mm) hzc
      obtain ⟨u, hu, hr⟩ := q2 0 zc rfl
      rw [hna] at hzc
      have : u = zv := by
        cases zv <;> first
          | (simp [Value.cells] at hu; exact hu.symm)
          | (cases zc <;> simp [zchk, zchkL, zchk1] at hzc)
      rw [← this]; exact hr
    cases hfi : m.findIdx? fun q => decide (a0 = q.1) with
    | none =>
      have hl : lookC m a0 zc = zc := by
        have : m.find? (fun q => decide (a0 = q.1)) = none := by
          rw [List.find?_eq_none]
          intro q hq
          rw [List.findIdx?_eq_none_iff] at hfi
          simp [hfi q hq]
        simp [lookC, this]
      rw [hl]
      refine ⟨zv, ?_, hzrep⟩
      rw [hfi] at hfind
      simp only [execOp, ho, Instr.lookup, Sem.run_bind, hf.underlying, Result.andThen_ok, hv, h1, hk, hget, hK.chk, Sem.run_pure]
      simp at hfind
      simp [hfind, hz1, Sem.run_bind]
    | some j =>
      have hfi' := hfi
      rw [List.findIdx?_eq_some_iff_getElem] at hfi'
      obtain ⟨hj, hj1, hj2⟩ := hfi'
      have hl : lookC m a0 zc = m[j].2 := by
        have : m.find? (fun q => decide (a0 = q.1)) = some m[j] := by
          rw [List.find?_eq_some_iff_getElem]
          exact ⟨hj1, j, hj, rfl, fun i hi => by simpa using hj2 i hi⟩
        simp [lookC, this]
      rw [hl]
      obtain ⟨en, g1, g2, g3⟩ := h4 j (kf m[j].1, .one m[j].2) (by simp [entF, hj])
      refine ⟨en.val, ?_, g3⟩
      rw [hfi] at hfind
      have g1' : es.toList[j]? = some en := by simpa using g1
      simp only [Option.bind_some, g1', Option.map_some] at hfind
      simp only [execOp, ho, Instr.lookup, Sem.run_bind, hf.underlying, Result.andThen_ok, hv, h1, hk, hget, hK.chk, Sem.run_pure, hfind]
      simp

theorem op_mapUpdate {Θ : Tab} (hΘ : tabOK C.P Θ) {t k e : TypeId} {x y vx : Operand} {z bts : Nat} {ag : Bool} {zt : Option (List CT)} {c : CT} {i : Nat} {rep : α → Value} {kf : α → FV} {m : List (α × CT)} {a0 : α} {s : SV}
    (ho : o.op = .mapUpdate t x y vx ∨ o.op = .insert t x y vx) (ht : tyGet Θ t = some ⟨z, bts, ag, zt, .map k e⟩)
    (hK : KeyL C.P k rep) (hkf : ∀ (w : World) (M : Nat → Prop) (v : Value) (a : α), RepF w M v (kf a) ↔ v = rep a)
    (hx : evalC tm x = some (.mp i)) (hi : getM mm i = some (.mpo (entF kf m))) (hy : evalV tm y = some s) (hs : ∀ I H Z w M v, RepSV I H Z w M v s → v = rep a0) (hvx : evalD tm vx = some (.one (.c c)))
    (hd : o.dst = none) : OpR C n o tm mm tm (updM mm i (.mpo (entF kf (putC m a0 c)))) := by
  intro a w ⟨H, Z, hm⟩
  obtain ⟨inf, de, hf⟩ := tyF hΘ ht
  have hde : de = .map k e := by
    have := hf.sh
    cases de <;> simp [shChk] at this ⊢
    exact this
  subst hde
  obtain ⟨_, hv⟩ := evalC_rep hm hx
  obtain ⟨r, es, ck, h1, h2, h3, h4⟩ := hm.mem _ (getM_mem hi)
  have hk := hs _ _ _ _ _ _ (evalV_rep hm hy)
  have hval : RepC w (Mof C H mm) (a.eval vx) c := evalD_rep hm hvx
  have hkeys := ent_keys (fun w M v a h => (hkf w M v a).1 h) h3 h4
  have hfind := hK.find a0 es.toList (m.map (·.1)) w (by simpa using hkeys)
  rw [find_ent] at hfind
  have hHb : hblk (H i) = some r := by rw [h1]; rfl
  have hrl : r < w.heap.size := (Array.getElem?_eq_some_iff.1 h2).1
  have fin : ∀ (es' : Array MapEntry) (ck' : Nat), (execOp a.eval o).run C.P w = .ok .skip { w with heap := w.heap.setIfInBounds r (.map es' ck') } → es'.size = (entF kf (putC m a0 c)).length →
      (∀ (j : Nat) (p : FV × FV), (entF kf (putC m a0 c))[j]? = some p → ∃ en : MapEntry, es'[j]? = some en ∧ RepF w (Mof C H mm) en.key p.1 ∧ RepF w (Mof C H mm) en.val p.2) →
      (∃ v w', (execOp a.eval o).run C.P w = .ok (.value v) w' ∧ Has C n tm (updM mm i (.mpo (entF kf (putC m a0 c)))) (a.put o.dst v) w') ∨
      (∃ w', (execOp a.eval o).run C.P w = .ok .skip w' ∧ Has C n tm (updM mm i (.mpo (entF kf (putC m a0 c)))) (a.put o.dst undef) w') := by
    intro es' ck' hrun hsz hent
    have hext : Ext (fun b => b = r) w { w with heap := w.heap.setIfInBounds r (.map es' ck') } :=
      ⟨rfl, rfl, rfl, by simp, fun k _ hne => by simp [Array.getElem?_setIfInBounds_ne (Ne.symm hne)]⟩
    refine .inr ⟨_, hrun, H, Z, ?_⟩
    rw [hd]
    refine hm.upd (b0 := r) ⟨_, getM_mem hi, rfl⟩ hHb hext hm.defers hm.size ?_ (fun p hp => ⟨hp, rfl⟩)
    intro hMM hfr
    refine ⟨r, es', ck', h1, by simp [hrl], hsz, fun j p hp => ?_⟩
    obtain ⟨en, q1, q2, q3⟩ := hent j p hp
    exact ⟨en, q1, q2.mono hext.size hfr hMM, q3.mono hext.size hfr hMM⟩
  cases hfi : m.findIdx? fun q => decide (a0 = q.1) with
  | none =>
    rw [hfi] at hfind
    simp only [Option.bind_none] at hfind
    have hput : putC m a0 c = m ++ [(a0, c)] := by simp [putC, hfi]
    refine fin (es.push { key := rep a0, val := a.eval vx, born := ck }) (ck + 1) ?_ ?_ ?_
    · rcases ho with ho | ho <;>
        simp [execOp, ho, Instr.mapUpdate, Sem.run_bind, hf.underlying, hv, h1, hk, MapKept.run_getObj_map h2, hK.chk, hfind, MapKept.run_setObj_map _ h2, Result.andThen]
    · rw [hput]; simp [entF] at h3 ⊢; exact h3
    · intro j p hp
      rw [hput] at hp
      simp only [entF, List.map_append, List.map_cons, List.map_nil] at hp
      have hml : es.size = (m.map fun q => (kf q.1, FV.one q.2)).length := h3
      rw [List.getElem?_append] at hp
      split at hp
      · rename_i hjl
        obtain ⟨en, q1, q2⟩ := h4 j p hp
        exact ⟨en, by rw [Array.getElem?_push, if_neg (by omega)]; exact q1, q2⟩
      · rename_i hjl
        have hj0 : j = es.size := by
          have := (List.getElem?_eq_some_iff.1 hp).1
          simp at this hjl hml
          omega
        subst hj0
        rw [hml, Nat.sub_self] at hp
        simp at hp
        subst hp
        refine ⟨{ key := rep a0, val := a.eval vx, born := ck }, by rw [Array.getElem?_push, if_pos rfl], (hkf _ _ _ _).2 rfl, ?_⟩
        exact hval
  | some j =>
    have hfi' := hfi
    rw [List.findIdx?_eq_some_iff_getElem] at hfi'
    obtain ⟨hj, hj1, hj2⟩ := hfi'
    obtain ⟨en, g1, g2, g3⟩ := h4 j (kf m[j].1, .one m[j].2) (by simp [entF, hj])
    have hkey : en.key = rep a0 := by
      rw [(hkf _ _ _ _).1 g2]
      have : a0 = m[j].1 := by simpa using hj1
      rw [← this]
    rw [hfi] at hfind
    have g1' : es.toList[j]? = some en := by simpa using g1
    simp only [Option.bind_some, g1', Option.map_some] at hfind
    have hput : putC m a0 c = m.set j (a0, c) := by simp [putC, hfi]
    refine fin (es.modify j fun e => { e with key := rep a0, val := a.eval vx }) ck ?_ ?_ ?_
    · rcases ho with ho | ho <;>
        simp [execOp, ho, Instr.mapUpdate, Sem.run_bind, hf.underlying, hv, h1, hk, MapKept.run_getObj_map h2, hK.chk, hfind, g1, hkey, Instr.keyThatStays, hK.bits, MapKept.run_setObj_map _ h2, Result.andThen]
    · rw [hput]; simp [entF] at h3 ⊢; exact h3
    · intro j' p hp
      rw [hput] at hp
      simp only [entF, List.getElem?_map, List.getElem?_set] at hp
      by_cases hjj : j = j'
      · subst hjj
        rw [if_pos rfl, if_pos hj] at hp
        simp at hp
        subst hp
        refine ⟨{ en with key := rep a0, val := a.eval vx }, by rw [Array.getElem?_modify, if_pos rfl, g1]; rfl, (hkf _ _ _ _).2 rfl, ?_⟩
        exact hval
      · rw [if_neg hjj] at hp
        obtain ⟨en', q1, q2⟩ := h4 j' p (by simpa [entF] using hp)
        exact ⟨en', by rw [Array.getElem?_modify, if_neg hjj]; exact q1, q2⟩
end
end Go.Sy
