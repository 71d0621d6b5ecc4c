/- Symbolic states: maps whose values are structs: lookup, update. -/
import Derived.Test.YtdjocfajcbhmgaaDoorSymZs
import Derived.Test.YtdjocfajcbhmgaaDoorBu1
import Derived.MapKept
set_option linter.unusedSimpArgs false
set_option linter.unusedVariables false
set_option linter.unusedSectionVars false
namespace Go.Sy
open Go.RowKit
def svF : FV → SV
  | .one c => .one (.c c)
  | .agg cs => .agg (mkV.mapS SC.c cs)
theorem repF_sv {I : Nat → Prop} {H : Nat → Value} {Z : Nat → Nat} {w : World} {M : Nat → Prop} {v : Value} {c : FV} (h : RepF w M v c) : RepSV I H Z w M v (svF c) := by
  cases c with
  | one c => exact h
  | agg cs =>
    obtain ⟨vs, h1, h2, h3⟩ := h
    refine ⟨vs, h1, by rw [mapS_eq, List.length_map]; exact h2, fun j c hc => ?_⟩
    rw [mapS_eq, List.getElem?_map] at hc
    cases hq : cs[j]? with
    | none => rw [hq] at hc; cases hc
    | some c0 =>
      rw [hq] at hc; injection hc with hc; subst hc
      exact h3 j c0 hq
theorem sv_repF {I : Nat → Prop} {H : Nat → Value} {Z : Nat → Nat} {w : World} {M : Nat → Prop} {v : Value} {cs : List CT} (h : RepSV I H Z w M v (.agg (mkV.mapS SC.c cs))) : RepF w M v (.agg cs) := by
  obtain ⟨vs, h1, h2, h3⟩ := h
  rw [mapS_eq] at h2 h3
  exact ⟨vs, h1, by simpa using h2, fun j c hc => h3 j (.c c) (by rw [List.getElem?_map, hc]; rfl)⟩
def entG {α : Type} (kf : α → FV) (m : List (α × FV)) : List (FV × FV) := m.map fun q => (kf q.1, q.2)
def hasG {α : Type} [DecidableEq α] (m : List (α × FV)) (a : α) : Bool := (m.find? fun q => decide (a = q.1)).isSome
def lookG {α : Type} [DecidableEq α] (m : List (α × FV)) (a : α) (z : FV) : FV :=
  match m.find? fun q => decide (a = q.1) with
  | some q => q.2
  | none => z
def putG {α : Type} [DecidableEq α] (m : List (α × FV)) (a : α) (c : FV) : List (α × FV) :=
  match m.findIdx? fun q => decide (a = q.1) with
  | some i => m.set i (a, c)
  | none => m ++ [(a, c)]
theorem ent_keysG {α : Type} {rep : α → Value} {kf : α → FV} (hkf : ∀ (w : World) (M : Nat → Prop) (v : Value) (a : α), RepF w M v (kf a) → v = rep a) {w : World} {M : Nat → Prop} {m : List (α × FV)} {es : Array MapEntry}
    (hs : es.size = (entG kf m).length) (h : ∀ (j : Nat) (p : FV × FV), (entG kf m)[j]? = some p → ∃ en : MapEntry, es[j]? = some en ∧ RepF w M en.key p.1 ∧ RepF w M en.val p.2) :
    es.toList.map (·.key) = (m.map (·.1)).map rep := by
  apply List.ext_getElem?
  intro j
  rw [List.getElem?_map, List.getElem?_map, List.getElem?_map]
  cases hm : m[j]? with
  | none =>
    have : es.toList[j]? = none := by
      rw [List.getElem?_eq_none_iff] at hm ⊢
      simp [entG] at hs
      simp; omega
    rw [this]; rfl
  | some q =>
    obtain ⟨en, h1, h2, _⟩ := h j (kf q.1, q.2) (by simp [entG, hm])
    have : es.toList[j]? = some en := by simpa using h1
    rw [this]
    simp [hkf _ _ _ _ h2]
section
variable {C : Ctx} {n : Nat} {tm : TM} {mm : MM} {o : Oper} {d : Nat} {α : Type} [DecidableEq α]
theorem find_entG {m : List (α × FV)} {a : α} : ((m.map (·.1)).findIdx? fun b => decide (a = b)) = m.findIdx? fun q => decide (a = q.1) := by
  rw [List.findIdx?_map]; rfl
theorem op_lookupG {Θ : Tab} (hΘ : tabOK C.P Θ) {t k e : TypeId} {x y : Operand} {z bts : Nat} {ag : Bool} {zt : Option (List CT)} {ei : TyI} {zc : List CT} {i : Nat} {rep : α → Value} {kf : α → FV} {m : List (α × FV)} {a0 : α} {s : SV}
    (ho : o.op = .lookup t x y false) (ht : tyGet Θ t = some ⟨z, bts, ag, zt, .map k e⟩) (hei : tyGet Θ e = some ei) (hz : ei.zero = some zc) (hna : ei.agg = true)
    (hK : KeyL C.P k rep) (hkf : ∀ (w : World) (M : Nat → Prop) (v : Value) (a : α), RepF w M v (kf a) → v = rep a)
    (hx : evalC tm x = some (.mp i)) (hi : getM mm i = some (.mpo (entG kf m))) (hy : evalV tm y = some s) (hs : ∀ I H Z w M v, RepSV I H Z w M v s → v = rep a0) (hd : o.dst = some d) (hn : Nat.blt d n = true) :
    OpV C n o tm mm d (.v (svF (lookG m a0 (.agg zc)))) :=
  OpV.val hd hn _ fun H Z a w hm => by
    obtain ⟨inf, de, hf⟩ := tyF hΘ ht
    obtain ⟨inf', de', hf'⟩ := tyF hΘ hei
    obtain ⟨zv, hzv, hzc, hzl⟩ := hf'.zero _ hz
    have hde : de = .map k e := by
      have := hf.sh
      cases de <;> simp [shChk] at this ⊢
      exact this
    subst hde
    obtain ⟨_, hv⟩ := evalC_rep hm hx
    obtain ⟨r, es, ck, h1, h2, h3, h4⟩ := hm.mem _ (getM_mem hi)
    have hk := hs _ _ _ _ _ _ (evalV_rep hm hy)
    have hkeys := ent_keysG hkf h3 h4
    have hfind := hK.find a0 es.toList (m.map (·.1)) w (by simpa using hkeys)
    rw [find_entG] at hfind
    have hget : (getObj r).run C.P w = .ok (.map es ck) w := by simp [getObj, Sem.run, h2]
    have hz1 := hf'.zeroValue (w := w) hzv
    have hzrep : RepF w (Mof C H mm) zv (.agg zc) := by
      rw [hna] at hzc
      cases zv with
      | agg vs =>
        obtain ⟨q1, q2⟩ := zchkL_rep (w := w) (M := Mof C H mm) (show zchkL vs.toList zc = true from hzc)
        exact ⟨vs, rfl, by simpa using q1, fun j c hc => let ⟨u, hu, hr⟩ := q2 j c hc; ⟨u, by simpa using hu, hr⟩⟩
      | _ => simp [zchk] at hzc
    cases hfi : m.findIdx? fun q => decide (a0 = q.1) with
    | none =>
      have hl : lookG m a0 (.agg zc) = .agg zc := by
        have : m.find? (fun q => decide (a0 = q.1)) = none := by
          rw [List.find?_eq_none]
          intro q hq
          rw [List.findIdx?_eq_none_iff] at hfi
          simp [hfi q hq]
        simp [lookG, this]
      rw [hl]
      refine ⟨zv, ?_, repF_sv hzrep⟩
      rw [hfi] at hfind
      simp only [execOp, ho, Instr.lookup, Sem.run_bind, hf.underlying, Result.andThen_ok, hv, h1, hk, hget, hK.chk, Sem.run_pure]
      simp at hfind
      simp [hfind, hz1, Sem.run_bind]
    | some j =>
      have hfi' := hfi
      rw [List.findIdx?_eq_some_iff_getElem] at hfi'
      obtain ⟨hj, hj1, hj2⟩ := hfi'
      have hl : lookG m a0 (.agg zc) = m[j].2 := by
        have : m.find? (fun q => decide (a0 = q.1)) = some m[j] := by
          rw [List.find?_eq_some_iff_getElem]
          exact ⟨hj1, j, hj, rfl, fun i hi => by simpa using hj2 i hi⟩
        simp [lookG, this]
      rw [hl]
      obtain ⟨en, g1, g2, g3⟩ := h4 j (kf m[j].1, m[j].2) (by simp [entG, hj])
      refine ⟨en.val, ?_, repF_sv g3⟩
      rw [hfi] at hfind
      have g1' : es.toList[j]? = some en := by simpa using g1
      simp only [Option.bind_some, g1', Option.map_some] at hfind
      simp only [execOp, ho, Instr.lookup, Sem.run_bind, hf.underlying, Result.andThen_ok, hv, h1, hk, hget, hK.chk, Sem.run_pure, hfind]
      simp
theorem op_mapUpdateG {Θ : Tab} (hΘ : tabOK C.P Θ) {t k e : TypeId} {x y vx : Operand} {z bts : Nat} {ag : Bool} {zt : Option (List CT)} {c : FV} {i : Nat} {rep : α → Value} {kf : α → FV} {m : List (α × FV)} {a0 : α} {s : SV}
    (ho : o.op = .mapUpdate t x y vx ∨ o.op = .insert t x y vx) (ht : tyGet Θ t = some ⟨z, bts, ag, zt, .map k e⟩)
    (hK : KeyL C.P k rep) (hkf : ∀ (w : World) (M : Nat → Prop) (v : Value) (a : α), RepF w M v (kf a) ↔ v = rep a)
    (hx : evalC tm x = some (.mp i)) (hi : getM mm i = some (.mpo (entG kf m))) (hy : evalV tm y = some s) (hs : ∀ I H Z w M v, RepSV I H Z w M v s → v = rep a0) (hvx : ∀ H Z a w, Mod C H Z n tm mm a w → RepF w (Mof C H mm) (a.eval vx) c)
    (hd : o.dst = none) : OpR C n o tm mm tm (updM mm i (.mpo (entG kf (putG m a0 c)))) := by
  intro a w ⟨H, Z, hm⟩
  obtain ⟨inf, de, hf⟩ := tyF hΘ ht
  have hde : de = .map k e := by
    have := hf.sh
    cases de <;> simp [shChk] at this ⊢
    exact this
  subst hde
  obtain ⟨_, hv⟩ := evalC_rep hm hx
  obtain ⟨r, es, ck, h1, h2, h3, h4⟩ := hm.mem _ (getM_mem hi)
  have hk := hs _ _ _ _ _ _ (evalV_rep hm hy)
  have hval : RepF w (Mof C H mm) (a.eval vx) c := hvx _ _ _ _ hm
  have hkeys := ent_keysG (fun w M v a h => (hkf w M v a).1 h) h3 h4
  have hfind := hK.find a0 es.toList (m.map (·.1)) w (by simpa using hkeys)
  rw [find_entG] at hfind
  have hHb : Hb (H i) r := by rw [h1]; rfl
  have hrl : r < w.heap.size := (Array.getElem?_eq_some_iff.1 h2).1
  have fin : ∀ (es' : Array MapEntry) (ck' : Nat), (execOp a.eval o).run C.P w = .ok .skip { w with heap := w.heap.setIfInBounds r (.map es' ck') } → es'.size = (entG kf (putG m a0 c)).length →
      (∀ (j : Nat) (p : FV × FV), (entG kf (putG m a0 c))[j]? = some p → ∃ en : MapEntry, es'[j]? = some en ∧ RepF w (Mof C H mm) en.key p.1 ∧ RepF w (Mof C H mm) en.val p.2) →
      (∃ v w', (execOp a.eval o).run C.P w = .ok (.value v) w' ∧ Has C n tm (updM mm i (.mpo (entG kf (putG m a0 c)))) (a.put o.dst v) w') ∨
      (∃ w', (execOp a.eval o).run C.P w = .ok .skip w' ∧ Has C n tm (updM mm i (.mpo (entG kf (putG m a0 c)))) (a.put o.dst undef) w') := by
    intro es' ck' hrun hsz hent
    have hext : Ext (fun b => b = r) w { w with heap := w.heap.setIfInBounds r (.map es' ck') } :=
      ⟨rfl, rfl, rfl, by simp, fun k _ hne => by simp [Array.getElem?_setIfInBounds_ne (Ne.symm hne)]⟩
    refine .inr ⟨_, hrun, H, Z, ?_⟩
    rw [hd]
    refine hm.upd (b0 := r) ⟨_, getM_mem hi, rfl⟩ hHb hext hm.defers hm.size ?_ (fun p hp => ⟨hp, rfl⟩)
    intro hMM hfr
    refine ⟨r, es', ck', h1, by simp [hrl], hsz, fun j p hp => ?_⟩
    obtain ⟨en, q1, q2, q3⟩ := hent j p hp
    exact ⟨en, q1, q2.mono hext.size hfr hMM, q3.mono hext.size hfr hMM⟩
  cases hfi : m.findIdx? fun q => decide (a0 = q.1) with
  | none =>
    rw [hfi] at hfind
    simp only [Option.bind_none] at hfind
    have hput : putG m a0 c = m ++ [(a0, c)] := by simp [putG, hfi]
    refine fin (es.push { key := rep a0, val := a.eval vx, born := ck }) (ck + 1) ?_ ?_ ?_
    · rcases ho with ho | ho <;>
        simp [execOp, ho, Instr.mapUpdate, Sem.run_bind, hf.underlying, hv, h1, hk, MapKept.run_getObj_map h2, hK.chk, hfind, MapKept.run_setObj_map _ h2, Result.andThen]
    · rw [hput]; simp [entG] at h3 ⊢; exact h3
    · intro j p hp
      rw [hput] at hp
      simp only [entG, List.map_append, List.map_cons, List.map_nil] at hp
      have hml : es.size = (m.map fun q => (kf q.1, q.2)).length := h3
      rw [List.getElem?_append] at hp
      split at hp
      · rename_i hjl
        obtain ⟨en, q1, q2⟩ := h4 j p hp
        exact ⟨en, by rw [Array.getElem?_push, if_neg (by omega)]; exact q1, q2⟩
      · rename_i hjl
        have hj0 : j = es.size := by
          have := (List.getElem?_eq_some_iff.1 hp).1
          simp at this hjl hml
          omega
        subst hj0
        rw [hml, Nat.sub_self] at hp
        simp at hp
        subst hp
        refine ⟨{ key := rep a0, val := a.eval vx, born := ck }, by rw [Array.getElem?_push, if_pos rfl], (hkf _ _ _ _).2 rfl, ?_⟩
        exact hval
  | some j =>
    have hfi' := hfi
    rw [List.findIdx?_eq_some_iff_getElem] at hfi'
    obtain ⟨hj, hj1, hj2⟩ := hfi'
    obtain ⟨en, g1, g2, g3⟩ := h4 j (kf m[j].1, m[j].2) (by simp [entG, hj])
    have hkey : en.key = rep a0 := by
      rw [(hkf _ _ _ _).1 g2]
      have : a0 = m[j].1 := by simpa using hj1
      rw [← this]
    rw [hfi] at hfind
    have g1' : es.toList[j]? = some en := by simpa using g1
    simp only [Option.bind_some, g1', Option.map_some] at hfind
    have hput : putG m a0 c = m.set j (a0, c) := by simp [putG, hfi]
    refine fin (es.modify j fun e => { e with key := rep a0, val := a.eval vx }) ck ?_ ?_ ?_
    · rcases ho with ho | ho <;>
        simp [execOp, ho, Instr.mapUpdate, Sem.run_bind, hf.underlying, hv, h1, hk, MapKept.run_getObj_map h2, hK.chk, hfind, g1, hkey, Instr.keyThatStays, hK.bits, MapKept.run_setObj_map _ h2, Result.andThen]
    · rw [hput]; simp [entG] at h3 ⊢; exact h3
    · intro j' p hp
      rw [hput] at hp
      simp only [entG, List.getElem?_map, List.getElem?_set] at hp
      by_cases hjj : j = j'
      · subst hjj
        rw [if_pos rfl, if_pos hj] at hp
        simp at hp
        subst hp
        refine ⟨{ en with key := rep a0, val := a.eval vx }, by rw [Array.getElem?_modify, if_pos rfl, g1]; rfl, (hkf _ _ _ _).2 rfl, ?_⟩
        exact hval
      · rw [if_neg hjj] at hp
        obtain ⟨en', q1, q2⟩ := h4 j' p (by simpa [entG] using hp)
        exact ⟨en', by rw [Array.getElem?_modify, if_neg hjj]; exact q1, q2⟩
theorem op_lookupOkG {Θ : Tab} (hΘ : tabOK C.P Θ) {t k e : TypeId} {x y : Operand} {z bts : Nat} {ag : Bool} {zt : Option (List CT)} {ei : TyI} {zc : List CT} {i : Nat} {rep : α → Value} {kf : α → FV} {m : List (α × FV)} {a0 : α} {s : SV}
    (ho : o.op = .lookup t x y true) (ht : tyGet Θ t = some ⟨z, bts, ag, zt, .map k e⟩) (hei : tyGet Θ e = some ei) (hz : ei.zero = some zc) (hna : ei.agg = true)
    (hK : KeyL C.P k rep) (hkf : ∀ (w : World) (M : Nat → Prop) (v : Value) (a : α), RepF w M v (kf a) → v = rep a)
    (hx : evalC tm x = some (.mp i)) (hi : getM mm i = some (.mpo (entG kf m))) (hy : evalV tm y = some s) (hs : ∀ I H Z w M v, RepSV I H Z w M v s → v = rep a0) (hd : o.dst = some d) (hn : Nat.blt d n = true) :
    OpV C n o tm mm d (.tup [svF (lookG m a0 (.agg zc)), .one (.c (.bool (hasG m a0)))]) :=
  OpV.val hd hn _ fun H Z a w hm => by
    have hpair : ∀ (v : Value) (b : Bool) (c : FV), RepF w (Mof C H mm) v c → RepST (Iof mm) H Z w (Mof C H mm) (.tuple #[v, .bool b]) (.tup [svF c, .one (.c (.bool b))]) := by
      intro v b c hv
      refine ⟨_, rfl, rfl, fun j s hs => ?_⟩
      match j, hs with
      | 0, hs => simp at hs; subst hs; exact ⟨v, rfl, repF_sv hv⟩
      | 1, hs => simp at hs; subst hs; exact ⟨.bool b, rfl, RepC.bool b⟩
      | j + 2, hs => simp at hs
    obtain ⟨inf, de, hf⟩ := tyF hΘ ht
    obtain ⟨inf', de', hf'⟩ := tyF hΘ hei
    obtain ⟨zv, hzv, hzc, hzl⟩ := hf'.zero _ hz
    have hde : de = .map k e := by
      have := hf.sh
      cases de <;> simp [shChk] at this ⊢
      exact this
    subst hde
    obtain ⟨_, hv⟩ := evalC_rep hm hx
    obtain ⟨r, es, ck, h1, h2, h3, h4⟩ := hm.mem _ (getM_mem hi)
    have hk := hs _ _ _ _ _ _ (evalV_rep hm hy)
    have hkeys := ent_keysG hkf h3 h4
    have hfind := hK.find a0 es.toList (m.map (·.1)) w (by simpa using hkeys)
    rw [find_entG] at hfind
    have hget : (getObj r).run C.P w = .ok (.map es ck) w := by simp [getObj, Sem.run, h2]
    have hz1 := hf'.zeroValue (w := w) hzv
    have hzrep : RepF w (Mof C H mm) zv (.agg zc) := by
      rw [hna] at hzc
      cases zv with
      | agg vs =>
        obtain ⟨q1, q2⟩ := zchkL_rep (w := w) (M := Mof C H mm) (show zchkL vs.toList zc = true from hzc)
        exact ⟨vs, rfl, by simpa using q1, fun j c hc => let ⟨u, hu, hr⟩ := q2 j c hc; ⟨u, by simpa using hu, hr⟩⟩
      | _ => simp [zchk] at hzc
    cases hfi : m.findIdx? fun q => decide (a0 = q.1) with
    | none =>
      have hnf : m.find? (fun q => decide (a0 = q.1)) = none := by
        rw [List.find?_eq_none]
        intro q hq
        rw [List.findIdx?_eq_none_iff] at hfi
        simp [hfi q hq]
      have hl : lookG m a0 (.agg zc) = .agg zc := by simp [lookG, hnf]
      have hb : hasG m a0 = false := by simp [hasG, hnf]
      rw [hl, hb]
      refine ⟨.tuple #[zv, .bool false], ?_, hpair _ _ _ hzrep⟩
      rw [hfi] at hfind
      simp only [execOp, ho, Instr.lookup, Sem.run_bind, hf.underlying, Result.andThen_ok, hv, h1, hk, hget, hK.chk, Sem.run_pure]
      simp at hfind
      simp [hfind, hz1, Sem.run_bind]
    | some j =>
      have hfi' := hfi
      rw [List.findIdx?_eq_some_iff_getElem] at hfi'
      obtain ⟨hj, hj1, hj2⟩ := hfi'
      have hsf : m.find? (fun q => decide (a0 = q.1)) = some m[j] := by
        rw [List.find?_eq_some_iff_getElem]
        exact ⟨hj1, j, hj, rfl, fun i hi => by simpa using hj2 i hi⟩
      have hl : lookG m a0 (.agg zc) = m[j].2 := by simp [lookG, hsf]
      have hb : hasG m a0 = true := by simp [hasG, hsf]
      rw [hl, hb]
      obtain ⟨en, g1, g2, g3⟩ := h4 j (kf m[j].1, m[j].2) (by simp [entG, hj])
      refine ⟨.tuple #[en.val, .bool true], ?_, hpair _ _ _ g3⟩
      rw [hfi] at hfind
      have g1' : es.toList[j]? = some en := by simpa using g1
      simp only [Option.bind_some, g1', Option.map_some] at hfind
      simp only [execOp, ho, Instr.lookup, Sem.run_bind, hf.underlying, Result.andThen_ok, hv, h1, hk, hget, hK.chk, Sem.run_pure, hfind]
      simp
end
abbrev carF (q : Int × ByteArray) : FV := .agg [.int .i64 q.1, .str q.2]
abbrev CarM := List (ByteArray × (Int × ByteArray))
def entK (m : CarM) : List (FV × FV) := entG strF (m.map fun q => (q.1, carF q.2))
def lookK (m : CarM) (a : ByteArray) : Option (Int × ByteArray) := (m.find? fun q => decide (a = q.1)).map (·.2)
def lookKD (m : CarM) (a : ByteArray) : Int × ByteArray := (lookK m a).getD (0, ⟨#[]⟩)
def putK (m : CarM) (a : ByteArray) (c : Int × ByteArray) : CarM :=
  match m.findIdx? fun q => decide (a = q.1) with
  | some i => m.set i (a, c)
  | none => m ++ [(a, c)]
theorem lookG_K (m : CarM) (a : ByteArray) : lookG (m.map fun q => (q.1, carF q.2)) a (.agg [.int .i64 0, .str ⟨#[]⟩]) = carF (lookKD m a) := by
  unfold lookG lookKD lookK
  rw [List.find?_map]
  cases h : m.find? ((fun q : ByteArray × FV => decide (a = q.1)) ∘ fun q : ByteArray × (Int × ByteArray) => (q.1, carF q.2)) with
  | none =>
    have h' : m.find? (fun q => decide (a = q.1)) = none := h
    rw [h']; rfl
  | some q =>
    have h' : m.find? (fun q => decide (a = q.1)) = some q := h
    rw [h']; rfl
theorem hasG_K (m : CarM) (a : ByteArray) : hasG (m.map fun q => (q.1, carF q.2)) a = (lookK m a).isSome := by
  unfold hasG lookK
  rw [List.find?_map, Option.isSome_map, Option.isSome_map]; rfl
theorem putG_K (m : CarM) (a : ByteArray) (c : Int × ByteArray) : putG (m.map fun q => (q.1, carF q.2)) a (carF c) = (putK m a c).map fun q => (q.1, carF q.2) := by
  unfold putG putK
  rw [List.findIdx?_map]
  cases h : m.findIdx? fun q => decide (a = q.1) with
  | none =>
    have h' : m.findIdx? ((fun q : ByteArray × FV => decide (a = q.1)) ∘ fun q : ByteArray × (Int × ByteArray) => (q.1, carF q.2)) = none := h
    rw [h']; simp
  | some i =>
    have h' : m.findIdx? ((fun q : ByteArray × FV => decide (a = q.1)) ∘ fun q : ByteArray × (Int × ByteArray) => (q.1, carF q.2)) = some i := h
    rw [h']; simp
section
variable {C : Ctx} {n : Nat} {tm : TM} {mm : MM} {L l : List Oper} {T : TM → MM → Prop} {o : Oper} {d : Nat} {x y vx : Operand}
theorem op_lookKOk {Θ : Tab} (hΘ : tabOK C.P Θ) {t k e : TypeId} {z bts zk bk ze be : Nat} {ag agk : Bool} {zt ztk : Option (List CT)} {she : Sh} {i : Nat} {m : CarM} {a0 : ByteArray}
    (ho : o.op = .lookup t x y true) (ht : tyGet Θ t = some ⟨z, bts, ag, zt, .map k e⟩) (hk : tyGet Θ k = some ⟨zk, bk, agk, ztk, .string⟩) (hei : tyGet Θ e = some ⟨ze, be, true, some [.int .i64 0, .str ⟨#[]⟩], she⟩)
    (hx : evalC tm x = some (.mp i)) (hi : getM mm i = some (.mpo (entK m))) (hy : evalV tm y = some (.one (.c (.str a0)))) (hd : o.dst = some d) (hn : Nat.blt d n = true) :
    OpV C n o tm mm d (.tup [.agg [.c (.int .i64 (lookKD m a0).1), .c (.str (lookKD m a0).2)], .one (.c (.bool (lookK m a0).isSome))]) := by
  have h := op_lookupOkG (n := n) hΘ ho ht hei rfl rfl (tyF_str hΘ hk) (fun w M v a h => (strF_iff w M v a).1 h) hx hi hy strS_rep hd hn
  rw [lookG_K, hasG_K] at h
  exact h
theorem op_lookK {Θ : Tab} (hΘ : tabOK C.P Θ) {t k e : TypeId} {z bts zk bk ze be : Nat} {ag agk : Bool} {zt ztk : Option (List CT)} {she : Sh} {i : Nat} {m : CarM} {a0 : ByteArray}
    (ho : o.op = .lookup t x y false) (ht : tyGet Θ t = some ⟨z, bts, ag, zt, .map k e⟩) (hk : tyGet Θ k = some ⟨zk, bk, agk, ztk, .string⟩) (hei : tyGet Θ e = some ⟨ze, be, true, some [.int .i64 0, .str ⟨#[]⟩], she⟩)
    (hx : evalC tm x = some (.mp i)) (hi : getM mm i = some (.mpo (entK m))) (hy : evalV tm y = some (.one (.c (.str a0)))) (hd : o.dst = some d) (hn : Nat.blt d n = true) :
    OpV C n o tm mm d (.v (.agg [.c (.int .i64 (lookKD m a0).1), .c (.str (lookKD m a0).2)])) := by
  have h := op_lookupG (n := n) hΘ ho ht hei rfl rfl (tyF_str hΘ hk) (fun w M v a h => (strF_iff w M v a).1 h) hx hi hy strS_rep hd hn
  rw [lookG_K] at h
  exact h
theorem op_putK {Θ : Tab} (hΘ : tabOK C.P Θ) {t k e : TypeId} {z bts zk bk : Nat} {ag agk : Bool} {zt ztk : Option (List CT)} {i : Nat} {m : CarM} {a0 : ByteArray} {c : Int} {s : ByteArray}
    (ho : o.op = .mapUpdate t x y vx ∨ o.op = .insert t x y vx) (ht : tyGet Θ t = some ⟨z, bts, ag, zt, .map k e⟩) (hk : tyGet Θ k = some ⟨zk, bk, agk, ztk, .string⟩)
    (hx : evalC tm x = some (.mp i)) (hi : getM mm i = some (.mpo (entK m))) (hy : evalV tm y = some (.one (.c (.str a0)))) (hvx : evalV tm vx = some (.agg [.c (.int .i64 c), .c (.str s)])) (hd : o.dst = none) :
    OpR C n o tm mm tm (updM mm i (.mpo (entK (putK m a0 (c, s))))) := by
  have h := op_mapUpdateG (n := n) hΘ ho ht (tyF_str hΘ hk) strF_iff hx hi hy strS_rep (c := carF (c, s)) (fun H Z a w hm => sv_repF (evalV_rep hm hvx)) hd
  rw [putG_K] at h
  exact h
theorem s_lookKOk {Θ : Tab} (hΘ : tabOK C.P Θ) {t k e : TypeId} {z bts zk bk ze be : Nat} {ag agk : Bool} {zt ztk : Option (List CT)} {she : Sh} {i : Nat} {m : CarM} {a0 : ByteArray}
    (ho : o.op = .lookup t x y true) (ht : tyGet Θ t = some ⟨z, bts, ag, zt, .map k e⟩) (hk : tyGet Θ k = some ⟨zk, bk, agk, ztk, .string⟩) (hei : tyGet Θ e = some ⟨ze, be, true, some [.int .i64 0, .str ⟨#[]⟩], she⟩)
    (hx : evalC tm x = some (.mp i)) (hi : getM mm i = some (.mpo (entK m))) (hy : evalV tm y = some (.one (.c (.str a0)))) (hd : o.dst = some d) (hn : Nat.blt d n = true) (hg : guardL L tm o = some true)
    (g : SOps C n L.toArray l ((d, .tup [.agg [.c (.int .i64 (lookKD m a0).1), .c (.str (lookKD m a0).2)], .one (.c (.bool (lookK m a0).isSome))]) :: delL tm d) mm T) : SOps C n L.toArray (o :: l) tm mm T :=
  s_step (op_lookKOk hΘ ho ht hk hei hx hi hy hd hn).wp hg g
theorem s_lookK {Θ : Tab} (hΘ : tabOK C.P Θ) {t k e : TypeId} {z bts zk bk ze be : Nat} {ag agk : Bool} {zt ztk : Option (List CT)} {she : Sh} {i : Nat} {m : CarM} {a0 : ByteArray}
    (ho : o.op = .lookup t x y false) (ht : tyGet Θ t = some ⟨z, bts, ag, zt, .map k e⟩) (hk : tyGet Θ k = some ⟨zk, bk, agk, ztk, .string⟩) (hei : tyGet Θ e = some ⟨ze, be, true, some [.int .i64 0, .str ⟨#[]⟩], she⟩)
    (hx : evalC tm x = some (.mp i)) (hi : getM mm i = some (.mpo (entK m))) (hy : evalV tm y = some (.one (.c (.str a0)))) (hd : o.dst = some d) (hn : Nat.blt d n = true) (hg : guardL L tm o = some true)
    (g : SOps C n L.toArray l ((d, .v (.agg [.c (.int .i64 (lookKD m a0).1), .c (.str (lookKD m a0).2)])) :: delL tm d) mm T) : SOps C n L.toArray (o :: l) tm mm T :=
  s_step (op_lookK hΘ ho ht hk hei hx hi hy hd hn).wp hg g
theorem s_putK {Θ : Tab} (hΘ : tabOK C.P Θ) {t k e : TypeId} {z bts zk bk : Nat} {ag agk : Bool} {zt ztk : Option (List CT)} {i : Nat} {m : CarM} {a0 : ByteArray} {c : Int} {s : ByteArray}
    (ho : o.op = .mapUpdate t x y vx ∨ o.op = .insert t x y vx) (ht : tyGet Θ t = some ⟨z, bts, ag, zt, .map k e⟩) (hk : tyGet Θ k = some ⟨zk, bk, agk, ztk, .string⟩)
    (hx : evalC tm x = some (.mp i)) (hi : getM mm i = some (.mpo (entK m))) (hy : evalV tm y = some (.one (.c (.str a0)))) (hvx : evalV tm vx = some (.agg [.c (.int .i64 c), .c (.str s)])) (hd : o.dst = none) (hg : guardL L tm o = some true)
    (g : SOps C n L.toArray l tm (updM mm i (.mpo (entK (putK m a0 (c, s))))) T) : SOps C n L.toArray (o :: l) tm mm T :=
  s_step (op_putK (n := n) hΘ ho ht hk hx hi hy hvx hd).wp hg g
end
end Go.Sy
