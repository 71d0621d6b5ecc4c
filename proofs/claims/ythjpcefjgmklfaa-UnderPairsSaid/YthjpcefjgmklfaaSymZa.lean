/- Symbolic states: a literal that is frozen as it is made; an index that is known by a property; results that are known by a property. -/
import Derived.Test.YthjpcefjgmklfaaSymZ
namespace Go.Sy
set_option linter.unusedSimpArgs false
set_option linter.unusedVariables false
set_option linter.unusedSectionVars false
open Go.RowKit

section
variable {C : Ctx} {n : Nat} {tmr : TM} {mm : MM} {o : Oper} {d : Nat}

theorem op_lit {Θ : Tab} (hΘ : tabOK C.P Θ) {t : TypeId} {z bts e len : Nat} {ag : Bool} {zt : Option (List CT)} {ei : TyI} {zr : List CT} {parts : Array (Nat × Operand)} {r : List SC} {cts : List CT} {xs : List (List CT)} {ct : CT}
    (ho : o.op = .buildSlice t len parts) (ht : tyGet Θ t = some ⟨z, bts, ag, zt, .slice e⟩) (hei : tyGet Θ e = some ei) (hz : ei.zero = some zr)
    (hb : Nat.ble (len * ei.size) 16777216 = true) (hs0 : Nat.blt 0 ei.size = true)
    (hl : layL (fun i => some (i * ei.size, ei.size)) tmr (anyL (len * ei.size)) parts.toList = some r) (hc : ctsOf r = some cts) (hx : chunkL ei.size len cts = some xs)
    (hle : LeC (.slice true ei.size xs) ct) (hd : o.dst = some d) (hn : Nat.blt d n = true) :
    OpX C n mm o tmr d (.v (.one (.c ct))) := by
  refine ⟨⟨hd, hn⟩, fun tm' hs => OpR.wp ?_⟩
  intro a w ⟨H, Z, hm'⟩
  have hm := hm'.sub hs
  obtain ⟨inf, de, hf⟩ := tyF hΘ ht
  obtain ⟨inf', de', hf'⟩ := tyF hΘ hei
  obtain ⟨zv, hzv, hzc, hzl⟩ := hf'.zero zr hz
  obtain ⟨h1, h2⟩ := zchk_cells (w := w) (M := Mof C H mm) hzc
  have hde : de = .slice e := by
    have := hf.sh
    cases de <;> simp [shChk] at this ⊢
    exact this
  subst hde
  have hbl : len * ei.size ≤ 16777216 := Nat.ble_eq.mp hb
  have hs0' : 0 < ei.size := Nat.blt_eq.mp hs0
  have hzcs : zv.cells.size = ei.size := by rw [h1, hzl]
  let init : Array Value := (Array.range (len * ei.size)).map ((if len * ei.size = 0 then #[] else zv.cells)[· % (if len * ei.size = 0 then #[] else zv.cells).size]!)
  have hp : Pw (fun u c => u.oneCell' = true ∧ RepSC (Iof mm) H Z w (Mof C H mm) u c) init.toList (anyL (len * ei.size)) := by
    rw [anyL_eq]
    refine ⟨by simp [init], fun j c hc => ?_⟩
    have hj : j < len * ei.size := by
      have := (List.getElem?_eq_some_iff.1 hc).1
      simpa using this
    rw [List.getElem?_replicate, if_pos hj] at hc
    injection hc with hc; subst hc
    have hne : len * ei.size ≠ 0 := by omega
    refine ⟨zv.cells[j % zv.cells.size]!, by simp [init, hj, hne], ?_, trivial⟩
    have hlt : j % zv.cells.size < zv.cells.size := Nat.mod_lt _ (by rw [hzcs]; exact hs0')
    have hlt' : j % zv.cells.size < zr.length := by rw [← h1]; exact hlt
    obtain ⟨u, hu, hr⟩ := h2 (j % zv.cells.size) zr[j % zv.cells.size] (List.getElem?_eq_getElem hlt')
    rw [getElem!_def, hu]
    exact hr.one
  obtain ⟨vs', g1, g2⟩ := layL_fill hm _ parts.toList _ _ r hp hl
  have g3 : Pw (fun u c => RepC w (Mof C H mm) u c) vs'.toList cts := ctsOf_pw hc (g2.mono fun _ _ _ h => h.2)
  obtain ⟨c1, c2, c3, c4⟩ := chunkL_spec _ hx
  have hvl : vs'.size = len * ei.size := by have := g3.1; rw [c3] at this; simpa using this
  have hrun : (execOp a.eval o).run C.P w = .ok (.value (.slice (some ⟨w.heap.size, 0, none⟩) len len)) (w.alloc (.cells vs' e)) := by
    have hfill : Instr.fill (fun i => some (i * ei.size, ei.size)) init (parts.map fun (i, x) => (i, a.eval x)).toList = some vs' := by
      rw [← g1, Array.toList_map]
    simp only [execOp, ho, Instr.buildSlice, Sem.run_bind, hf.underlying, Result.andThen_ok, hf'.sizeOf]
    rw [if_neg (by omega)]
    simp only [init] at hfill
    by_cases h0 : len * ei.size = 0
    · rw [if_pos h0] at hfill
      rw [if_pos h0]
      simp only [Sem.run_bind, Sem.run_pure, Result.andThen_ok, hfill]
      simp [newRow, newObj, Sem.run]
    · rw [if_neg h0] at hfill
      rw [if_neg h0]
      simp only [Sem.run_bind, Sem.run_pure, Result.andThen_ok, hf'.zeroValue hzv, hfill]
      simp [newRow, newObj, Sem.run]
  have hlen : len ≤ maxLen := by
    have : len ≤ len * ei.size := Nat.le_mul_of_pos_right _ hs0'
    simp only [maxLen]; omega
  have hMlt : ∀ b, Mof C H mm b → b < w.heap.size := by
    rintro b (hb | ⟨p, hp, hpb⟩)
    · exact Nat.lt_of_lt_of_le (hm.m0 b hb) hm.ext.size
    · exact (hm.fresh p hp b hpb).2
  have hsz' : (w.alloc (.cells vs' e)).heap.size = w.heap.size + 1 := by show (w.heap.push _).size = _; rw [Array.size_push]
  have hrep : RepC (w.alloc (.cells vs' e)) (Mof C H mm) (.slice (some ⟨w.heap.size, 0, none⟩) len len) (.slice true ei.size xs) := by
    refine .slice (fun k j => (vs'.toList[k * ei.size + j]?).getD undef) c1.symm (Nat.le_refl _) hlen (fun _ => rfl) c2 (fun _ => ⟨_, rfl, rfl, by rw [hsz']; exact Nat.lt_succ_self _, fun hM => absurd (hMlt _ hM) (Nat.lt_irrefl _), fun k x hk j c hc => ?_⟩) (fun k x hk j c hc => ?_)
    · obtain ⟨u, hu, _⟩ := g3.2 _ c (c4 k x hk j c hc)
      rw [hu]
      exact World.ownsRow.cells (World.ownsRow_lit (base := 0) (e := e) (size := ei.size) w vs' len (Nat.zero_le _) hlen hvl) rfl _ _ hu
    · obtain ⟨u, hu, hrep⟩ := g3.2 _ c (c4 k x hk j c hc)
      rw [hu]
      exact hrep.mono (alloc_ext w _).size (fun b hb _ => (alloc_ext w (.cells vs' e)).block b hb (fun h => h)) (fun _ _ h => h)
  refine .inl ⟨_, _, hrun, H, Z, ?_⟩
  rw [hd]
  refine hm'.build (fun _ => False) (alloc_ext w _) (fun _ _ h => h.elim) (by simpa [Act.put] using hm.defers) (by simp [Act.put, hm.size]) hm.hg hm.ids
    (fun p hp => .inl ⟨hp, rfl, rfl, fun _ _ h => h, fun _ _ hj => ⟨hj, rfl, rfl⟩⟩) hm.sep (fun p hp => ?_)
  rcases List.mem_cons.1 hp with rfl | hp
  · refine .inr fun _ _ => ?_
    rw [put_self (by rw [hm.size]; exact Nat.blt_eq.mp hn)]
    exact hle.rep hrep
  · obtain ⟨h1, h2'⟩ := delL_mem hp
    exact .inl ⟨p, h1, rfl, put_other h2', fun _ _ hj => ⟨hj, rfl, rfl⟩⟩

/-- An element at a place that is known by a property: all the places hold the same. -/
theorem op_idxP {tm : TM} {t : TypeId} {x i : Operand} {nn : Bool} {sz : Nat} {xs : List (List CT)} {cs : List CT} {k : IntKind} {p : Int → Prop} {e : Nat} {Θ : Tab} (hΘ : tabOK C.P Θ)
    {z bts : Nat} {ag : Bool} {zr : Option (List CT)} {ei : TyI}
    (ho : o.op = .indexAddr t x i) (ht : tyGet Θ t = some ⟨z, bts, ag, zr, .slice e⟩) (hei : tyGet Θ e = some ei) (hsz : Nat.beq ei.size sz = true)
    (hx : evalC tm x = some (.c (.slice nn sz xs))) (hi : evalC tm i = some (.c (.intP k p))) (hj : ∀ m, p m → ∃ j : Nat, m = (j : Int) ∧ xs[j]? = some cs) (hd : o.dst = some d) (hn : Nat.blt d n = true) :
    OpV C n o tm mm d (.v (.one (.eptr cs))) :=
  OpV.val hd hn _ fun H Z A w hmod => by
    obtain ⟨m, hp, h2⟩ : ∃ m, p m ∧ A.eval i = .int k m := RepC.intP_inv (evalC_rep hmod hi)
    obtain ⟨j, hm, hj⟩ := hj m hp
    have h1 : RepC w (Mof C H mm) (A.eval x) (.slice nn sz xs) := evalC_rep hmod hx
    obtain ⟨inf, de, hf⟩ := tyF hΘ ht
    obtain ⟨inf', de', hf'⟩ := tyF hΘ hei
    have hde : de = .slice e := by
      have := hf.sh
      cases de <;> simp [shChk] at this ⊢
      exact this
    subst hde
    subst hm
    have hszz : ei.size = sz := Nat.eq_of_beq_eq_true hsz
    have hlt : j < xs.length := (List.getElem?_eq_some_iff.1 hj).1
    generalize hA : A.eval x = v at h1
    cases h1 with
    | slice u hlen hcap hmax hnn hszs had hrep =>
      obtain ⟨ad, rfl, h3, h4, h5, h6⟩ := had (by omega)
      refine ⟨.pointer (some (ad.add (j * sz))), ?_, ad.add (j * sz), rfl, add_spot h3 _, by rw [add_block]; exact h4, by rw [add_block]; exact h5, fun q c hc => ?_⟩
      · have hjl : ((j : Nat) : Int) < ((xs.length : Nat) : Int) := by omega
        simp [execOp, ho, hA, h2, Instr.indexAt, asIntOf, hf.underlying, hlen, hf'.sizeOf, hszz]
        intro hcon; omega
      · rw [add_add]
        exact ⟨u j q, h6 j cs hj q c hc, hrep j cs hj q c hc⟩

theorem updM_same {mm : MM} (hu : ∀ p ∈ mm, ∀ q ∈ mm, p.1 = q.1 → p = q) {i : Nat} {o : MO} (hi : (i, o) ∈ mm) : updM mm i o = mm := by
  have key : ∀ l : MM, (∀ p ∈ l, p ∈ mm) → updM l i o = l := by
    intro l
    induction l with
    | nil => intro _; rfl
    | cons p l ih =>
      obtain ⟨q, o'⟩ := p
      intro h
      have ih' := ih fun p hp => h p (List.mem_cons_of_mem _ hp)
      unfold updM
      cases hb : Nat.beq q i with
      | true =>
        have := hu _ (h _ List.mem_cons_self) _ hi (Nat.eq_of_beq_eq_true hb)
        injection this with e1 e2
        subst e2
        simp only [ih']
      | false => simp only [ih']
  exact key mm fun _ h => h
end

section
variable {C : Ctx} {n : Nat} {mm0 : MM} {L l : List Oper} {tm0 tm : TM} {R : List Rec} {i : Nat} {o : Oper} {d t : Nat} {T : TM → MM → Prop} {x y : Operand} {ty ty' : TypeId} {mm : MM}

theorem e_lit {Θ : Tab} (hΘ : tabOK C.P Θ) {t : TypeId} {z bts e len : Nat} {ag : Bool} {zt : Option (List CT)} {ei : TyI} {zr : List CT} {parts : Array (Nat × Operand)} {r : List SC} {cts : List CT} {xs : List (List CT)} {ct : CT}
    (ho : o.op = .buildSlice t len parts) (ht : tyGet Θ t = some ⟨z, bts, ag, zt, .slice e⟩) (hei : tyGet Θ e = some ei) (hz : ei.zero = some zr)
    (hb : Nat.ble (len * ei.size) 16777216 = true) (hs0 : Nat.blt 0 ei.size = true)
    (hl : layL (fun i => some (i * ei.size, ei.size)) (onlyE (looksE L o) tm) (anyL (len * ei.size)) parts.toList = some r) (hc : ctsOf r = some cts) (hx : chunkL ei.size len cts = some xs)
    (hd : o.dst = some d) (hn : Nat.blt d n = true) (hg : guardL L (onlyE (looksE L o) tm) o = some true) (hle : LeC (.slice true ei.size xs) ct)
    (k : EOps C n mm0 L tm0 (i + 1) l ((d, .v (.one (.c ct))) :: delL tm d) R T) : EOps C n mm0 L tm0 i (o :: l) tm R T :=
  EOps.step hg (fun _ _ _ => op_lit hΘ ho ht hei hz hb hs0 hl hc hx hle hd hn) hd k
theorem e_idxP {Θ : Tab} (hΘ : tabOK C.P Θ) {nn : Bool} {sz : Nat} {xs : List (List CT)} {kd : IntKind} {p : Int → Prop} {e : Nat} {z bts : Nat} {ag : Bool} {zr : Option (List CT)} {ei : TyI}
    (ho : o.op = .indexAddr ty x y) (ht : tyGet Θ ty = some ⟨z, bts, ag, zr, .slice e⟩) (hei : tyGet Θ e = some ei) (hx : evalC (onlyE (looksE L o) tm) x = some (.c (.slice nn sz xs))) (hsz : Nat.beq ei.size sz = true)
    (hi : evalC (onlyE (looksE L o) tm) y = some (.c (.intP kd p))) (hd : o.dst = some d) (hn : Nat.blt d n = true) (hg : guardL L (onlyE (looksE L o) tm) o = some true)
    (cs : List CT) (hj : ∀ m, p m → ∃ j : Nat, m = (j : Int) ∧ xs[j]? = some cs) (k : EOps C n mm0 L tm0 (i + 1) l ((d, .v (.one (.eptr cs))) :: delL tm d) R T) : EOps C n mm0 L tm0 i (o :: l) tm R T :=
  e_step (fun _ => op_idxP hΘ ho ht hei hsz hx hi hj hd hn) hg hd k
theorem e_add {a b : Int} (ho : o.op = .binOp .add ty x y ty') (hx : evalC (onlyE (looksE L o) tm) x = some (.c (.int .i64 a))) (hy : evalC (onlyE (looksE L o) tm) y = some (.c (.int .i64 b))) (hd : o.dst = some d) (hn : Nat.blt d n = true) (hg : guardL L (onlyE (looksE L o) tm) o = some true)
    (hr : -9223372036854775808 ≤ a + b ∧ a + b ≤ 9223372036854775807) (k : EOps C n mm0 L tm0 (i + 1) l ((d, .v (.one (.c (.int .i64 (a + b))))) :: delL tm d) R T) : EOps C n mm0 L tm0 i (o :: l) tm R T :=
  e_step (fun mm' => op_arith (p := .add) ho hx hy (IntWalk.i64_in _ (by omega)) hd hn) hg hd k
theorem e_rem {kd : IntKind} {a b : Int} (ho : o.op = .binOp .rem ty x y ty') (hx : evalC (onlyE (looksE L o) tm) x = some (.c (.int kd a))) (hy : evalC (onlyE (looksE L o) tm) y = some (.c (.int kd b))) (hd : o.dst = some d) (hn : Nat.blt d n = true) (hg : guardL L (onlyE (looksE L o) tm) o = some true)
    (hr : b ≠ 0) (k : EOps C n mm0 L tm0 (i + 1) l ((d, .v (.one (.c (.int kd (a.tmod b))))) :: delL tm d) R T) : EOps C n mm0 L tm0 i (o :: l) tm R T :=
  e_step (fun mm' => op_arith (p := .rem) ho hx hy ⟨hr, rfl⟩ hd hn) hg hd k
/-- A call that is handed one variable and leaves it as it is (or as it is known). -/
theorem e_call1 {g : FuncId} {ct : List CT} {args args' : List SV} {res : ST} (hc : Con C.P g [ct] args res [ct]) (q : Nat) {xs : Array Operand} {ts : Array TypeId}
    (ho : o.op = .call { callee := .value (.func g), args := xs, argTypes := ts }) (hargs : evalArgs (onlyE (looksE L o) tm) xs.toList = some args') (hren : renVs [q] args = some args')
    (hq : getM mm0 q = some (.box (ct.map SC.c))) (hct : ctsOf (ct.map SC.c) = some ct)
    (hpure : pureS res = true) (hd : o.dst = some d) (hn : Nat.blt d n = true) (hg : guardL L (onlyE (looksE L o) tm) o = some true)
    (k : EOps C n mm0 L tm0 (i + 1) l ((d, res) :: delL tm d) R T) : EOps C n mm0 L tm0 i (o :: l) tm R T :=
  EOps.step hg (fun mm' hb hu => by
    have h := mono_get hb hu _ _ hq
    exact op_callX hc [q] ho hargs hren (by simp [preE, h, hct]) rfl rfl hpure hd hn (by
      show updM mm' q _ = mm'
      exact updM_same hu (getM_mem h))) hd k

theorem s_appendF {Θ : Tab} (hΘ : tabOK C.P Θ) {t : TypeId} {x y : Operand} {z bts e : Nat} {ag : Bool} {zt : Option (List CT)} {ei : TyI} {zr : List CT} {i : Nat} {nn nn' : Bool} {sz : Nat} {xs ys : List (List CT)} {T : TM → MM → Prop}
    (ho : o.op = .call { callee := .builtin .append, args := ⟨[x, y]⟩, argTypes := ⟨[t, t]⟩ }) (ht : tyGet Θ t = some ⟨z, bts, ag, zt, .slice e⟩) (hei : tyGet Θ e = some ei) (hz : ei.zero = some zr)
    (hsz : Nat.beq ei.size sz = true) (hs0 : Nat.blt 0 ei.size = true) (hx : evalC tm x = some (.own i)) (hi : getM mm i = some (.arr nn e sz xs)) (hy : evalC tm y = some (.c (.slice nn' sz ys)))
    (hig : Nat.blt i given = true) (hno : noUse i mm = true) (hd : o.dst = some d) (hn : Nat.blt d n = true) (hg : guardL L tm o = some true)
    (hbig : xs.length + ys.length ≤ 9223372036854775807 ∧ (xs.length + ys.length) * ei.bytes ≤ 140737488355328)
    (g : SOps C n L.toArray l ((d, .v (.one (.own i))) :: delL (dropU i tm) d) (updM mm i (.arr false e sz (xs ++ ys))) T) : SOps C n L.toArray (o :: l) tm mm T :=
  s_step (op_appendF hΘ ho ht hei hz hsz hs0 hx hi hy hig hno hd hn hbig).wp hg g
theorem s_appendN {Θ : Tab} (hΘ : tabOK C.P Θ) {t : TypeId} {x y : Operand} {z bts e : Nat} {ag : Bool} {zt : Option (List CT)} {ei : TyI} {zr : List CT} (i : Nat) {nn' : Bool} {sz : Nat} {ys : List (List CT)} {T : TM → MM → Prop}
    (ho : o.op = .call { callee := .builtin .append, args := ⟨[x, y]⟩, argTypes := ⟨[t, t]⟩ }) (ht : tyGet Θ t = some ⟨z, bts, ag, zt, .slice e⟩) (hei : tyGet Θ e = some ei) (hz : ei.zero = some zr)
    (hsz : Nat.beq ei.size sz = true) (hs0 : Nat.blt 0 ei.size = true) (hx : evalC tm x = some (.c .nils)) (hy : evalC tm y = some (.c (.slice nn' sz ys)))
    (hig : Nat.blt i given = true) (hf : hasI mm i = false) (hno : noUse i ((i, .arr false e sz []) :: mm) = true) (hd : o.dst = some d) (hn : Nat.blt d n = true) (hg : guardL L tm o = some true)
    (hbig : ys.length ≤ 9223372036854775807 ∧ ys.length * ei.bytes ≤ 140737488355328)
    (g : SOps C n L.toArray l ((d, .v (.one (.own i))) :: delL (dropU i tm) d) ((i, .arr false e sz ys) :: mm) T) : SOps C n L.toArray (o :: l) tm mm T :=
  s_step (op_appendN hΘ i ho ht hei hz hsz hs0 hx hy hig hf hno hd hn hbig).wp hg g
/-- A value of which nothing is kept. -/
theorem s_assignAny {T : TM → MM → Prop} (ho : o.op = .assign x) (hd : o.dst = some d) (hn : Nat.blt d n = true) (hg : guardL L tm o = some true)
    (k : SOps C n L.toArray l ((d, .v (.one .any)) :: delL tm d) mm T) : SOps C n L.toArray (o :: l) tm mm T :=
  s_step (OpV.wp (OpV.val hd hn (.v (.one .any)) fun H Z a w hm => ⟨a.eval x, by simp [execOp, ho, Sem.run_pure], trivial⟩)) hg k
theorem s_callN {g : FuncId} {args : List SV} {cs : List CT} {T : TM → MM → Prop} (hc : ConN C.P g args cs) {xs : Array Operand} {ts : Array TypeId}
    (ho : o.op = .call { callee := .value (.func g), args := xs, argTypes := ts }) (hargs : evalArgs tm xs.toList = some args) (hren : renVs [] args = some args)
    (hi : getM mm d = none) (hd : o.dst = some d) (hn : Nat.blt d n = true) (hg : guardL L tm o = some true)
    (k : SOps C n L.toArray l ((d, .v (.one (.ptr d 0))) :: delL tm d) ((d, .box (cs.map SC.c)) :: mm) T) : SOps C n L.toArray (o :: l) tm mm T :=
  s_step (op_callN hc ho hargs hren hi hd hn) hg k
end

/-! Contracts with a result that is known by a property. -/
def EndE (Q : ST → Prop) (H : Nat → Value) (Z : Nat → Nat) (pre post : List (List CT)) (w : World) (M0 : Nat → Prop) (e : Ending) (w' : World) : Prop :=
  ∃ res, Q res ∧ EndR H Z pre post w M0 res e w'
structure ConQ (P : Program) (f : FuncId) (pre : List (List CT)) (args : List SV) (Q : ST → Prop) (post : List (List CT)) : Prop where
  ok : CallOK P f
  calls : ∀ (w : World) (M0 : Nat → Prop) (H : Nat → Value) (Z : Nat → Nat) (vs : List Value), Pre w M0 H Z (preMM given pre) →
    Pw (fun v s => RepSV (Iof (preMM given pre)) H Z w (fun b => M0 b ∨ blksOf H (preMM given pre) b) v s) vs args →
    Calls P f vs.toArray w (EndE Q H Z pre post w M0)
theorem ConQ.of {P : Program} {f : FuncId} {fn : Func} {c : Code} {pre post : List (List CT)} {args : List SV} {Q : ST → Prop}
    (hf : P.funcs[f]? = some fn) (hb : fn.body = some c) (hn : Nat.ble args.length fn.ntmps = true) (hng : Nat.ble fn.ntmps given = true) (hnm : (fn.name == "runtime.NumGoroutine") = false)
    (h : ∀ (w : World) (M0 : Nat → Prop) (H : Nat → Value) (Z : Nat → Nat),
      Goes ⟨P, w, M0, blksOf H (preMM given pre), H⟩ f fn.ntmps (EndE Q H Z pre post w M0) [.code c] (argT 0 args) (preMM given pre)) :
    ConQ P f pre args Q post := by
  refine ⟨callOK hf hb hnm, ?_⟩
  intro w M0 H Z vs hpre hargs cs
  have hlen : vs.length = args.length := hargs.1
  let a : Act := { tmps := vs.toArray ++ Array.replicate (fn.ntmps - vs.toArray.size) undef, defers := [] }
  have hn := Nat.ble_eq.mp hn
  have hmod : Mod ⟨P, w, M0, blksOf H (preMM given pre), H⟩ H Z fn.ntmps (argT 0 args) (preMM given pre) a w := by
    refine ⟨rfl, by simp [a]; omega, Nat.ble_eq.mp hng, fun _ _ _ => rfl, Ext.refl _ _, hpre.m0, fun p hp q hq he => preMM_uniq hp hq he, hpre.mem, ?_, hpre.sep, ?_⟩
    · intro p hp b hb
      have := (preMM_ids hp).1
      exact ⟨.inr ⟨this, .inl ⟨p, hp, hb⟩⟩, hpre.lt p hp b hb⟩
    · intro p hp
      obtain ⟨j, s, rfl, hj⟩ := argT_mem hp
      obtain ⟨u, hu, hr⟩ := hargs.2 j s hj
      have hjl : j < vs.length := (List.getElem?_eq_some_iff.1 hu).1
      have : a.tmps.getD (0 + j) undef = u := by
        have hju : vs[j] = u := by
          have := List.getElem?_eq_getElem hjl
          rw [hu] at this
          injection this with this; exact this.symm
        simp [a, Array.getD_eq_getD_getElem?, Array.getElem?_append, hjl, hju]
      rw [this]
      exact hr
  let b : Frame := { (default : Frame) with fn := f, kind := .normal }
  have henter : Frame.enter P f vs.toArray .normal = b.at a [.code c] := by
    simp [Frame.enter, Frame.at, hf, hb, b, a]
  obtain ⟨e, w', fr, h1, h2, h3, h4⟩ := h w M0 H Z a w ⟨H, Z, hmod⟩ b cs rfl rfl
  rw [henter]
  exact ⟨e, w', fr, h1, h2, h3, h4⟩
/-- The end: the witness. -/
theorem g_wit {C : Ctx} {f : FuncId} {n : Nat} {k : List Item} {tm : TM} {mm : MM} {Q : ST → Prop} {H : Nat → Value} {Z : Nat → Nat} {pre post : List (List CT)} {w : World} {M0 : Nat → Prop} (res : ST) (hq : Q res)
    (g : Goes C f n (EndR H Z pre post w M0 res) k tm mm) : Goes C f n (EndE Q H Z pre post w M0) k tm mm := g.weakR fun _ _ h => ⟨res, hq, h⟩
section
variable {C : Ctx} {n : Nat} {tm : TM} {mm : MM} {L l : List Oper} {T : TM → MM → Prop} {o : Oper} {d : Nat}
theorem call_coreQ {f : FuncId} {pre post : List (List CT)} {args args' : List SV} {Qr : ST → Prop} (hc : ConQ C.P f pre args Qr post) {ids : List Nat} {H : Nat → Value} {Z : Nat → Nat} {a : Act} {w : World}
    (hm : Mod C H Z n tm mm a w) {vs : List Value} (hv : Pw (fun v s => RepSV (Iof mm) H Z w (Mof C H mm) v s) vs args') (hren : renVs ids args = some args') (hpre : preE mm ids = some pre)
    (hnd : noDup ids = true) (hlen : post.length = pre.length) (hpure : ∀ res, Qr res → pureS res = true) (hd : d < n)
    (K : Act → World → Prop) (Q : Exit → Act → World → Prop) (hK : ∀ res, Qr res → ∀ a' w', Has C n ((d, res) :: delL tm d) (updMs mm ids post) a' w' → K a' w') :
    Calls C.P f vs.toArray w fun
      | .returned v, w'' => K (a.put (some d) v) w''
      | .panicked chain, w'' => Q (.panic chain) a w''
      | .outgrown, _ => LetsOut Q := by
  obtain ⟨hpl, hpg⟩ := preE_spec hpre
  have hnd' := noDup_spec hnd
  let Hc : Nat → Value := fun j => H ((ids[j - given]?).getD 0)
  have hHc : ∀ k i, ids[k]? = some i → Hc (given + k) = H i := by
    intro k i hk
    simp [Hc, hk]
  have hIr : ∀ i j, renI ids i = some j → Iof mm j → Iof (preMM given pre) i ∧ Hc i = H j := by
    intro i j hij _
    obtain ⟨h1, h2⟩ := renI_spec hij
    have hk : i - given < pre.length := by rw [hpl]; exact (List.getElem?_eq_some_iff.1 h2).1
    have := preMM_put (i := given) (List.getElem?_eq_getElem hk)
    refine ⟨⟨_, this, by show given + (i - given) = i; omega⟩, ?_⟩
    have := hHc _ _ h2
    rwa [show given + (i - given) = i by omega] at this
  have hblk : ∀ b, blksOf Hc (preMM given pre) b → Mof C H mm b := by
    rintro b ⟨p, hp, hpb⟩
    obtain ⟨k, ct, hk, rfl⟩ := preMM_get hp
    have hkl : k < ids.length := by rw [← hpl]; exact (List.getElem?_eq_some_iff.1 hk).1
    have hi : ids[k]? = some ids[k] := List.getElem?_eq_getElem hkl
    obtain ⟨cs, hcs, _⟩ := hpg k _ ct hi hk
    rw [hHc k _ hi] at hpb
    exact .inr ⟨_, hcs, hpb⟩
  have hM : ∀ b, b < w.heap.size → (Mof C H mm b ∨ blksOf Hc (preMM given pre) b) → Mof C H mm b := fun b _ hb => hb.elim id (hblk b)
  have hPre : Pre w (Mof C H mm) Hc Z (preMM given pre) := by
    refine ⟨?_, ?_, ?_, ?_⟩
    · rintro b (hb | ⟨p, hp, hpb⟩)
      · exact Nat.lt_of_lt_of_le (hm.m0 b hb) hm.ext.size
      · exact (hm.fresh p hp b hpb).2
    · intro p hp
      obtain ⟨k, ct, hk, rfl⟩ := preMM_get hp
      have hkl : k < ids.length := by rw [← hpl]; exact (List.getElem?_eq_some_iff.1 hk).1
      have hi : ids[k]? = some ids[k] := List.getElem?_eq_getElem hkl
      obtain ⟨cs, hcs, hct⟩ := hpg k _ ct hi hk
      obtain ⟨b, ty, vs', g1, g2, g3, g4⟩ := hm.mem _ hcs
      have hpw : Pw (fun u c => RepSC (Iof mm) H Z w (Mof C H mm) u c) vs'.toList cs := ⟨by simpa using g3, fun j c hc => let ⟨u, hu, _, hr⟩ := g4 j c hc; ⟨u, by simpa using hu, hr⟩⟩
      have hcp := ctsOf_pw hct hpw
      refine ⟨b, ty, vs', by rw [hHc k _ hi]; exact g1, g2, by simpa using hcp.1, fun j c hc => ?_⟩
      rw [List.getElem?_map] at hc
      cases hq : ct[j]? with
      | none => rw [hq] at hc; cases hc
      | some x =>
        rw [hq] at hc; injection hc with hc; subst hc
        obtain ⟨u, hu, hr⟩ := hcp.2 j x hq
        exact ⟨u, by simpa using hu, hr.one, RepC.mono hr (Nat.le_refl _) (fun _ _ _ => rfl) hM⟩
    · intro p hp b hb
      rcases hblk b ⟨p, hp, hb⟩ with h0 | ⟨q, hq, hqb⟩
      · exact Nat.lt_of_lt_of_le (hm.m0 b h0) hm.ext.size
      · exact (hm.fresh q hq b hqb).2
    · intro p hp q hq hpq b hpb hqb
      obtain ⟨k, ct, hk, rfl⟩ := preMM_get hp
      obtain ⟨k', ct', hk', rfl⟩ := preMM_get hq
      have hkl : k < ids.length := by rw [← hpl]; exact (List.getElem?_eq_some_iff.1 hk).1
      have hkl' : k' < ids.length := by rw [← hpl]; exact (List.getElem?_eq_some_iff.1 hk').1
      have hi : ids[k]? = some ids[k] := List.getElem?_eq_getElem hkl
      have hi' : ids[k']? = some ids[k'] := List.getElem?_eq_getElem hkl'
      obtain ⟨cs, hcs, _⟩ := hpg k _ ct hi hk
      obtain ⟨cs', hcs', _⟩ := hpg k' _ ct' hi' hk'
      rw [hHc k _ hi] at hpb
      rw [hHc k' _ hi'] at hqb
      have hne : ids[k] ≠ ids[k'] := fun e => by
        have hkk : k = k' := nodup_inj hnd' hkl hkl' e
        subst hkk
        exact hpq rfl
      exact hm.sep _ hcs _ hcs' hne b hpb hqb
  refine (hc.calls w (Mof C H mm) Hc Z vs hPre (renVs_rep hIr hM hren hv)).mono ?_
  rintro e w' ⟨res, hq, v, rfl, hext, hpost, hres⟩
  exact hK res hq _ _ ⟨H, Z, hm.called hnd' hpre (by rw [hlen, hpl]) (hpure res hq) hHc hext hpost hres hd⟩
theorem s_callQ {g : FuncId} {pre post : List (List CT)} {args args' : List SV} {Qr : ST → Prop} (hc : ConQ C.P g pre args Qr post) (ids : List Nat) {xs : Array Operand} {ts : Array TypeId}
    (ho : o.op = .call { callee := .value (.func g), args := xs, argTypes := ts }) (hargs : evalArgs tm xs.toList = some args') (hren : renVs ids args = some args') (hpre : preE mm ids = some pre)
    (hnd : noDup ids = true) (hlen : post.length = pre.length) (hd : o.dst = some d) (hn : Nat.blt d n = true) (hg : guardL L tm o = some true) (hpure : ∀ res, Qr res → pureS res = true)
    (k : ∀ res, Qr res → SOps C n L.toArray l ((d, res) :: delL tm d) (updMs mm ids post) T) : SOps C n L.toArray (o :: l) tm mm T := by
  intro a w hh
  unfold wpList
  rw [if_pos (wanted_of (guardL_eq hg) hh)]
  refine .inl ?_
  obtain ⟨H, Z, hm⟩ := hh
  have hcore := call_coreQ (d := d) hc hm (evalArgs_rep hm hargs) hren hpre hnd hlen hpure (Nat.blt_eq.mp hn)
  unfold Oper.wp
  have hrun : (execOp a.eval o).run C.P w = .ok (.enter g (xs.toList.map a.eval).toArray) w := by
    have hmap : xs.map a.eval = (xs.toList.map a.eval).toArray := by simp [← List.map_toArray]
    simp only [execOp, ho, resolve, hmap, Deferred.ofValue, Act.eval, invoke, Sem.run_bind, Sem.run_pure, Result.andThen_ok, Array.append_empty, Array.empty_append, hc.ok w]
  rw [hrun]
  show Calls _ _ _ _ _
  rw [hd]
  exact hcore _ _ (fun res hq a' w' h' => k res hq a' w' h')
end
end Go.Sy
