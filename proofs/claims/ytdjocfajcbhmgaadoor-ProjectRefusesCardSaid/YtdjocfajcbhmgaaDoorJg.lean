/- Layer: maps from texts to rows of one's own (the headers lie in the map, the rows in a pool). The plain law of what project's turned gathers. -/
import Derived.Test.YtdjocfajcbhmgaaDoorJf
import Derived.Test.YtdjocfajcbhmgaaDoorBn1
import Derived.Laws.StructEq
set_option linter.unusedSimpArgs false
set_option linter.unusedVariables false
set_option linter.unusedSectionVars false
namespace Go.Sy
open Go.Proofs
set_option maxRecDepth 100000
abbrev RowM := List (ByteArray × Value × List Int)
def valV (x : RowM) : List (ByteArray × CT) := x.map fun q => (q.1, CT.val q.2.1)
def poolR (x : RowM) : PQ := x.map fun q => (q.2.1, rowI' q.2.2)
def frzV (x : RowM) : List (ByteArray × CT) := x.map fun q => (q.1, intsT q.2.2)
def nxtX (x : RowM) (s : ByteArray) : List Int := ((x.find? fun q => decide (s = q.1)).map fun q => q.2.2).getD []
def updR (x : RowM) (s : ByteArray) (v : Value) (n : Int) : RowM :=
  match x with
  | [] => [(s, v, [n])]
  | q :: x => if s = q.1 then (s, v, q.2.2 ++ [n]) :: x else q :: updR x s v n
theorem nxt_upd : ∀ (x : RowM) (s : ByteArray) (v : Value) (n : Int) (s' : ByteArray), nxtX (updR x s v n) s' = if s' = s then nxtX x s ++ [n] else nxtX x s'
  | [], s, v, n, s' => by
    unfold updR nxtX
    by_cases h : s' = s <;> simp [h]
  | q :: x, s, v, n, s' => by
    have ih := nxt_upd x s v n s'
    unfold nxtX at ih
    unfold updR nxtX
    by_cases h : s = q.1
    · rw [if_pos h]
      by_cases h' : s' = s
      · subst h'; simp [h]
      · have h2 : ¬ s' = q.1 := fun e => h' (e.trans h.symm)
        simp [h', h2]
    · rw [if_neg h]
      by_cases h' : s' = q.1
      · have h2 : ¬ s' = s := fun e => h (e.symm.trans h')
        rw [if_neg h2]
        simp [h']
      · rw [List.find?_cons_of_neg (by simpa using h'), ih]
        by_cases h2 : s' = s
        · rw [if_pos h2, if_pos h2, List.find?_cons_of_neg (by simpa using h)]
        · rw [if_neg h2, if_neg h2, List.find?_cons_of_neg (by simpa using h')]
theorem putC_cons {α : Type} [DecidableEq α] (q : α × CT) (m : List (α × CT)) (a : α) (c : CT) : putC (q :: m) a c = if a = q.1 then (a, c) :: m else q :: putC m a c := by
  unfold putC
  rw [List.findIdx?_cons]
  by_cases h : a = q.1
  · simp [h]
  · simp only [h, decide_false, if_false, Bool.false_eq_true]
    cases m.findIdx? fun q => decide (a = q.1) <;> simp
theorem val_upd : ∀ (x : RowM) (s : ByteArray) (v : Value) (n : Int), valV (updR x s v n) = putC (valV x) s (.val v)
  | [], s, v, n => rfl
  | q :: x, s, v, n => by
    have ih := val_upd x s v n
    show valV (updR (q :: x) s v n) = putC ((q.1, CT.val q.2.1) :: valV x) s (.val v)
    rw [putC_cons, updR]
    split
    · rfl
    · rw [← ih]; rfl
theorem find_at : ∀ (x : RowM) (s : ByteArray), (∃ (c : Nat) (v : Value), lookC (valV x) s .nils = .val v ∧ (poolR x)[c]? = some (v, rowI' (nxtX x s)) ∧ ∀ v' n, poolR (updR x s v' n) = (poolR x).set c (v', rowI' (nxtX x s) ++ [[.int .i64 n]])) ∨
    (lookC (valV x) s .nils = .nils ∧ nxtX x s = [] ∧ ∀ v' n, poolR (updR x s v' n) = (poolR x ++ [(Value.slice none 0 0, [])]).set x.length (v', [[.int .i64 n]]))
  | [], s => .inr ⟨rfl, rfl, fun v' n => rfl⟩
  | q :: x, s => by
    by_cases h : s = q.1
    · refine .inl ⟨0, q.2.1, ?_, ?_, fun v' n => ?_⟩
      · simp [lookC, valV, h]
      · simp [poolR, nxtX, h]
      · rw [updR, if_pos h]; simp [poolR, nxtX, h]
    · have e1 : lookC (valV (q :: x)) s .nils = lookC (valV x) s .nils := by simp [lookC, valV, h]
      have e2 : nxtX (q :: x) s = nxtX x s := by simp [nxtX, h]
      rcases find_at x s with ⟨c, v, h1, h2, h3⟩ | ⟨h1, h2, h3⟩
      · refine .inl ⟨c + 1, v, by rw [e1, h1], by rw [e2]; exact h2, fun v' n => ?_⟩
        rw [updR, if_neg h, e2]
        show (q.2.1, rowI' q.2.2) :: poolR (updR x s v' n) = _
        rw [h3]; rfl
      · refine .inr ⟨by rw [e1, h1], by rw [e2, h2], fun v' n => ?_⟩
        rw [updR, if_neg h]
        show (q.2.1, rowI' q.2.2) :: poolR (updR x s v' n) = _
        rw [h3]; rfl
theorem frz_look : ∀ (x : RowM) (s : ByteArray), LeC (lookC (frzV x) s .nils) (intsT (nxtX x s))
  | [], s => .nil 1
  | q :: x, s => by
    by_cases h : s = q.1
    · rw [show lookC (frzV (q :: x)) s .nils = intsT (nxtX (q :: x) s) by simp [lookC, frzV, nxtX, h]]; exact .refl _
    · rw [show lookC (frzV (q :: x)) s .nils = lookC (frzV x) s .nils by simp [lookC, frzV, h], show nxtX (q :: x) s = nxtX x s by simp [nxtX, h]]
      exact frz_look x s
theorem poolR_len (x : RowM) : (poolR x).length = x.length := by simp [poolR]
section
variable {C : Ctx} {n : Nat} {tm : TM} {mm : MM} {o : Oper} {d : Nat}
theorem OpV.weaken {st st' : ST} (h : OpV C n o tm mm d st) (hw : ∀ (I : Nat → Prop) (H : Nat → Value) (Z : Nat → Nat) (w : World) (M : Nat → Prop) (v : Value), RepST I H Z w M v st → RepST I H Z w M v st') : OpV C n o tm mm d st' :=
  ⟨h.1, fun H Z a w hm => let ⟨v, h1, h2⟩ := h.2 H Z a w hm; ⟨v, h1, hw _ _ _ _ _ _ h2⟩⟩
theorem nil_val {I : Nat → Prop} {H : Nat → Value} {Z : Nat → Nat} {w : World} {M : Nat → Prop} {v : Value} (h : RepST I H Z w M v (.v (.one (.c .nils)))) : RepST I H Z w M v (.v (.one (.c (.val (.slice none 0 0))))) := by
  have hv : v = .slice none 0 0 := RepC.nils_inv h
  subst hv
  exact RepC.val _ rfl
end
section
variable {C : Ctx} {n : Nat} {tm tm0 : TM} {mmf : Nat → MM} {L l : List Oper} {TF : TM → Prop} {o : Oper} {d i : Nat} {p q : Operand} {E : List Nat}
theorem f_lookV {Θ : Tab} (hΘ : tabOK C.P Θ) {t k e : TypeId} {z bts zk bk ze be : Nat} {ag agk : Bool} {zt ztk : Option (List CT)} {she : Sh} {r : Nat} {m : List (ByteArray × CT)} {a0 : ByteArray}
    (ho : o.op = .lookup t p q false) (ht : tyGet Θ t = some ⟨z, bts, ag, zt, .map k e⟩) (hk : tyGet Θ k = some ⟨zk, bk, agk, ztk, .string⟩) (hei : tyGet Θ e = some ⟨ze, be, false, some [.nils], she⟩)
    (hx : evalC (onlyE (looksE L o) tm) p = some (.mp r)) (hi : getM (mmf i) r = some (.mpo (entF strF m))) (hy : evalV (onlyE (looksE L o) tm) q = some (.one (.c (.str a0)))) (hd : o.dst = some d) (hn : Nat.blt d n = true)
    (hg : guardL L (onlyE (looksE L o) tm) o = some true) (hiE : memN E i = false) (v : Value) (hl : lookC m a0 .nils = .val v ∨ (lookC m a0 .nils = .nils ∧ v = .slice none 0 0))
    (g : FOps C n mmf L tm0 E (i + 1) l ((d, .v (.one (.c (.val v)))) :: delL tm d) TF) : FOps C n mmf L tm0 E i (o :: l) tm TF := by
  refine FOps.step hiE hg (fun mm' hb hu => ?_) hd g
  have h := op_lookup (n := n) hΘ ho ht hei rfl rfl (tyF_str hΘ hk) (fun w M v a h => (strF_iff w M v a).1 h) hx (mono_get hb hu _ _ hi) hy strS_rep hd hn
  refine OpV.toX ?_
  rcases hl with hl | ⟨hl, rfl⟩
  · rw [hl] at h; exact h
  · rw [hl] at h; exact h.weaken fun _ _ _ _ _ _ => nil_val
end
section
variable {C : Ctx} {n : Nat} {L : List Oper} {ι : Type} {tmF : TM} {ET : Nat → ι → TM} {MMx : Nat → ι → MM} {k : Nat} {x : ι} {o : Oper} {p q r : Operand}
theorem ef_putS {Θ : Tab} (hΘ : tabOK C.P Θ) {t kk e : TypeId} {z bts zk bk : Nat} {ag agk : Bool} {zt ztk : Option (List CT)} {c : CT} {i : Nat} {m : List (ByteArray × CT)} {a0 : ByteArray}
    (ho : o.op = .mapUpdate t p q r ∨ o.op = .insert t p q r) (ht : tyGet Θ t = some ⟨z, bts, ag, zt, .map kk e⟩) (hk : tyGet Θ kk = some ⟨zk, bk, agk, ztk, .string⟩)
    (hx : evalC (onlyE (looksE L o) (tmF ++ ET k x)) p = some (.mp i)) (hi : getM (MMx k x) i = some (.mpo (entF strF m))) (hy : evalV (onlyE (looksE L o) (tmF ++ ET k x)) q = some (.one (.c (.str a0))))
    (hvx : evalD (onlyE (looksE L o) (tmF ++ ET k x)) r = some (.one (.c c))) (hd : o.dst = none) (hg : guardL L (onlyE (looksE L o) (tmF ++ ET k x)) o = some true)
    (hET : ET (k + 1) x = []) (hM : MMx (k + 1) x = updM (MMx k x) i (.mpo (entF strF (putC m a0 c)))) : EffOK C n L tmF ET MMx k x o := by
  refine eff_core hg fun tm a w K Q hin hh hK => ?_
  refine (op_mapUpdate (n := n) (tm := onlyE (looksE L o) (tmF ++ ET k x) ++ tm) hΘ ho ht (tyF_str hΘ hk) strF_iff (evalC_app hx) hi (evalV_app hy) strS_rep (evalD_app hvx) hd).wp a w K Q (hh.incl fun p hp => (List.mem_append.1 hp).elim (hin p) id) fun a' w' h' => ?_
  exact hK x _ a' w' (fun p hp hpt => List.mem_append_right _ hpt) (fun p hp => by rw [hET] at hp; cases hp) (by rw [hM]; exact h')
end
section
variable {C : Ctx} {n : Nat} {tm : TM} {mm : MM} {f : FuncId} {R : Ending → World → Prop} {k : List Item}
theorem Has.freezeV {a : Act} {w : World} (i j : Nat) {e : Nat} {x : RowM} (hij : Nat.beq i j = false) (hi : getM mm i = some (.pool e 1 (poolR x))) (hig : Nat.blt i given = true) (hj : getM mm j = some (.mpo (entF strF (valV x))))
    (hno : noUse i mm = true) (hnt : noUseT i tm = true) (h : Has C n tm mm a w) : Has C n tm (updM (outM [i] mm) j (.mpo (entF strF (frzV x)))) a w := by
  refine h.dropPool hij hi hig hj hno hnt fun I I' H Z w M M' hI hM hp hn hmem => ?_
  obtain ⟨r, es, ck, h1, h2, h3, h4⟩ := hmem
  refine ⟨r, es, ck, h1, h2, by simpa [entF, valV, frzV] using h3, fun c y hy => ?_⟩
  simp only [entF, frzV, List.map_map, List.getElem?_map] at hy
  cases hq : x[c]? with
  | none => rw [hq] at hy; cases hy
  | some q =>
    rw [hq] at hy
    simp only [Option.map_some, Function.comp_apply, Option.some.injEq] at hy
    subst hy
    obtain ⟨en, g1, g2, g3⟩ := h4 c (strF q.1, .one (.val q.2.1)) (by simp [entF, valV, hq])
    have hev : en.val = q.2.1 := RepC.val_inv g3
    refine ⟨en, g1, (strF_iff _ _ _ _).2 ((strF_iff _ _ _ _).1 g2), ?_⟩
    have hpq : (poolR x)[c]? = some (q.2.1, rowI' q.2.2) := by simp [poolR, hq]
    show RepC w M' en.val _
    rw [hev]
    exact (hp.row hpq).frozen hM (hn _ (List.mem_of_getElem? hpq))
theorem g_freezeV (i j : Nat) {e : Nat} {x : RowM} (hij : Nat.beq i j = false) (hi : getM mm i = some (.pool e 1 (poolR x))) (hig : Nat.blt i given = true) (hj : getM mm j = some (.mpo (entF strF (valV x))))
    (hno : noUse i mm = true) (hnt : noUseT i tm = true) (g : Goes C f n R k tm (updM (outM [i] mm) j (.mpo (entF strF (frzV x))))) : Goes C f n R k tm mm :=
  g.mono fun _ _ h => h.freezeV i j hij hi hig hj hno hnt
end
section
variable {C : Ctx} {n : Nat} {tm : TM} {mm : MM} {f : FuncId} {R : Ending → World → Prop} {k : List Item}
theorem g_join2Q {x y : Item} {k' : List Item} (P : Prop) (tm' : TM) (mm' : MM) (_ : runC tm' k = some k') (hk : P → Goes C f n R k' tm' mm') (h : (P → Goes C f n R k' tm' mm') → Goes C f n R (x :: y :: k) tm mm) : Goes C f n R (x :: y :: k) tm mm := h hk
end
def carZ (c : Int × ByteArray) : Value := .agg #[.int .i64 c.1, .string c.2]
theorem eqCrr (x y : Int × ByteArray) (w : World) : (Op.equalIn 10000 25 (carZ x) (carZ y)).run Tryd.prog w = .ok (decide (x = y)) w := by
  have u3 := Tryd.underlying3
  have a3 := Tryd.isAgg3
  have z3 := Tryd.sizeOf3
  have u9 := Tryd.underlying9
  have a9 := Tryd.isAgg9
  have z9 := Tryd.sizeOf9
  have hS : Tryd.prog.underlying 25 = some (.struct (Tryd.prog.fieldsOf 25)) := by kernel_rfl
  have hp : Tryd.prog.stoodInHeld 25 = false := by kernel_rfl
  obtain ⟨a, b⟩ := x
  obtain ⟨a', b'⟩ := y
  simp only [carZ]
  rw [show (10000 : Nat) = 9999 + 1 from rfl, run_equalIn_agg w 9999 25 _ _ hS hp]
  simp only [Program.fieldsOf, Tryd.underlying25]
  go_simp
  have key : ∀ c c' : ByteArray, (c.toList = c'.toList) ↔ c = c' := by
    intro c c'
    rw [ByteArray.toList_eq, ByteArray.toList_eq]
    obtain ⟨⟨x⟩⟩ := c
    obtain ⟨⟨y⟩⟩ := c'
    simp
  by_cases h1 : a = a' <;> by_cases h2 : b = b' <;> simp [h1, h2, key]
section
variable {C : Ctx} {n : Nat} {tm : TM} {mm : MM} {o : Oper} {d : Nat}
theorem crr_rep {I : Nat → Prop} {H : Nat → Value} {Z : Nat → Nat} {w : World} {M : Nat → Prop} {v : Value} {a : Int} {b : ByteArray} (h : RepSV I H Z w M v (.agg [.c (.int .i64 a), .c (.str b)])) : v = carZ (a, b) := by
  obtain ⟨vs, rfl, hs, hr⟩ := h
  obtain ⟨u0, g0, r0⟩ := hr 0 _ rfl
  obtain ⟨u1, g1, r1⟩ := hr 1 _ rfl
  have r0 := RepC.int_inv r0
  have r1 := RepC.str_inv r1
  subst r0 r1
  have hs : vs.size = 2 := hs
  show Value.agg vs = Value.agg _
  congr 1
  apply Array.ext
  · simpa using hs
  · intro i hi hi'
    have : i = 0 ∨ i = 1 := by omega
    rcases this with rfl | rfl
    · rw [Array.getElem?_eq_getElem hi] at g0; injection g0 with g0
    · rw [Array.getElem?_eq_getElem hi] at g1; injection g1 with g1
theorem op_neCar {t' : Nat} {x y : Operand} {a a' : Int} {b b' : ByteArray} (hP : C.P = Tryd.prog) (ho : o.op = .binOp .neq 25 x y t')
    (hx : evalV tm x = some (.agg [.c (.int .i64 a), .c (.str b)])) (hy : evalV tm y = some (.agg [.c (.int .i64 a'), .c (.str b')])) (hd : o.dst = some d) (hn : Nat.blt d n = true) :
    OpV C n o tm mm d (.v (.one (.c (.bool (!decide ((a, b) = (a', b'))))))) :=
  OpV.val hd hn _ fun H Z A w hm => by
    have h1 : A.eval x = carZ (a, b) := crr_rep (evalV_rep hm hx)
    have h2 : A.eval y = carZ (a', b') := crr_rep (evalV_rep hm hy)
    have hq : Tryd.prog.eqGuardType Tryd.prog.depth 25 = false := by kernel_rfl
    have heq := eqCrr (a, b) (a', b') w
    simp only [carZ] at h1 h2 heq
    refine ⟨.bool (!decide ((a, b) = (a', b'))), ?_, .bool _⟩
    rw [hP]
    simp only [execOp, ho, h1, h2, Sem.run_bind, run_eqGuard_agg w _ _ _ _ _ _ hq, Result.andThen_ok, run_neq_struct, heq, Sem.run_pure]
end
section
variable {C : Ctx} {n : Nat} {tm : TM} {mm : MM} {L l : List Oper} {T : TM → MM → Prop} {o : Oper} {d : Nat} {x y : Operand}
theorem s_neCar {t' : Nat} {a a' : Int} {b b' : ByteArray} (hP : C.P = Tryd.prog) (ho : o.op = .binOp .neq 25 x y t')
    (hx : evalV tm x = some (.agg [.c (.int .i64 a), .c (.str b)])) (hy : evalV tm y = some (.agg [.c (.int .i64 a'), .c (.str b')])) (hd : o.dst = some d) (hn : Nat.blt d n = true) (hg : guardL L tm o = some true)
    (k : SOps C n L.toArray l ((d, .v (.one (.c (.bool (!decide ((a, b) = (a', b'))))))) :: delL tm d) mm T) : SOps C n L.toArray (o :: l) tm mm T :=
  s_step (op_neCar hP ho hx hy hd hn).wp hg k
end
theorem next_snoc (pre : List Arm) (a : Arm) (s : ByteArray) : nextN (pre ++ [a]) s = if s = a.label then nextN pre s ++ [a.next] else nextN pre s := by
  unfold nextN
  rw [List.filter_append, List.map_append]
  by_cases h : s = a.label
  · rw [if_pos h]; simp [h]
  · rw [if_neg h]
    have : ¬ a.label = s := fun e => h e.symm
    simp [this]
theorem carO_snoc (pre : List Arm) (a : Arm) (s : ByteArray) : carO (pre ++ [a]) s = (carO pre s).or (if a.label = s then some (a.kind, a.name) else none) := by
  unfold carO
  rw [List.find?_append]
  cases pre.find? fun a => decide (a.label = s) with
  | some b => rfl
  | none =>
    by_cases h : a.label = s <;> simp [h]
theorem carO_some {pre : List Arm} {b : Arm} (h : b ∈ pre) : (carO pre b.label).isSome = true := by
  unfold carO
  rw [Option.isSome_map, List.find?_isSome]
  exact ⟨b, h, by simp⟩
theorem clash_snoc {pre : List Arm} (h : clashB pre = false) (a : Arm) : clashB (pre ++ [a]) = decide (carO (pre ++ [a]) a.label ≠ some (a.kind, a.name)) := by
  unfold clashB at h ⊢
  rw [List.any_append]
  have h1 : pre.any (fun b => decide (carO (pre ++ [a]) b.label ≠ some (b.kind, b.name))) = false := by
    rw [List.any_eq_false] at h ⊢
    intro b hb
    have := h b hb
    obtain ⟨c, hc⟩ := Option.isSome_iff_exists.1 (carO_some hb)
    rw [carO_snoc, hc, Option.some_or]
    rw [hc] at this
    exact this
  rw [h1]; simp
theorem clash_app {pre : List Arm} (h : clashB pre = true) : ∀ r : List Arm, clashB (pre ++ r) = true := by
  intro r
  unfold clashB at h ⊢
  rw [List.any_eq_true] at h ⊢
  obtain ⟨b, hb, hn⟩ := h
  refine ⟨b, List.mem_append_left _ hb, ?_⟩
  obtain ⟨c, hc⟩ := Option.isSome_iff_exists.1 (carO_some hb)
  have e : carO (pre ++ r) b.label = some c := by
    unfold carO at hc ⊢
    rw [List.find?_append]
    cases hf : pre.find? fun a => decide (a.label = b.label) with
    | none => rw [hf] at hc; cases hc
    | some d => rw [hf] at hc; exact hc
  rw [e, ← hc]; exact hn
theorem putK_cons (q : ByteArray × (Int × ByteArray)) (m : CarM) (a : ByteArray) (c : Int × ByteArray) : putK (q :: m) a c = if a = q.1 then (a, c) :: m else q :: putK m a c := by
  unfold putK
  rw [List.findIdx?_cons]
  by_cases h : a = q.1
  · simp [h]
  · simp only [h, decide_false, if_false, Bool.false_eq_true]
    cases m.findIdx? fun q => decide (a = q.1) <;> simp
theorem lookK_put : ∀ (m : CarM) (a : ByteArray) (c : Int × ByteArray) (s : ByteArray), lookK (putK m a c) s = if s = a then some c else lookK m s
  | [], a, c, s => by by_cases h : s = a <;> simp [putK, lookK, h]
  | q :: m, a, c, s => by
    have ih := lookK_put m a c s
    rw [putK_cons]
    unfold lookK at ih ⊢
    by_cases h : a = q.1
    · rw [if_pos h]
      by_cases h' : s = a
      · simp [h']
      · have h2 : ¬ s = q.1 := fun e => h' (e.trans h.symm)
        simp [h', h2]
    · rw [if_neg h]
      by_cases h' : s = q.1
      · have h2 : ¬ s = a := fun e => h (e.symm.trans h')
        rw [if_neg h2]; simp [h']
      · rw [List.find?_cons_of_neg (by simpa using h'), ih]
        by_cases h2 : s = a
        · rw [if_pos h2, if_pos h2]
        · rw [if_neg h2, if_neg h2, List.find?_cons_of_neg (by simpa using h')]
structure Gath (pre : List Arm) (cm : CarM) (x : RowM) : Prop where
  ok : clashB pre = false
  car : ∀ s, lookK cm s = carO pre s
  nxt : ∀ s, nxtX x s = nextN pre s
theorem Gath.nil : Gath [] [] [] := ⟨rfl, fun _ => rfl, fun _ => rfl⟩
theorem Gath.step {pre : List Arm} {cm : CarM} {x : RowM} (h : Gath pre cm x) (a : Arm) (hok : lookK cm a.label = none ∨ lookK cm a.label = some (a.kind, a.name)) (v : Value) : Gath (pre ++ [a]) (putK cm a.label (a.kind, a.name)) (updR x a.label v a.next) := by
  have hc : carO (pre ++ [a]) a.label = some (a.kind, a.name) := by
    rw [carO_snoc, ← h.car]
    rcases hok with h1 | h1 <;> rw [h1] <;> simp
  refine ⟨by rw [clash_snoc h.ok, hc]; simp, fun s => ?_, fun s => ?_⟩
  · rw [lookK_put]
    by_cases hs : s = a.label
    · rw [if_pos hs, hs, hc]
    · rw [if_neg hs, h.car, carO_snoc, if_neg (fun e => hs e.symm), Option.or_none]
  · rw [nxt_upd, next_snoc, h.nxt, h.nxt]
    by_cases hs : s = a.label
    · rw [if_pos hs, if_pos hs, hs]
    · rw [if_neg hs, if_neg hs]
theorem Gath.clash {pre : List Arm} {cm : CarM} {x : RowM} (h : Gath pre cm x) (a : Arm) {c : Int × ByteArray} (hc : lookK cm a.label = some c) (hne : c ≠ (a.kind, a.name)) (r : List Arm) : clashB (pre ++ a :: r) = true := by
  have : clashB (pre ++ [a]) = true := by
    rw [clash_snoc h.ok, carO_snoc, ← h.car, hc, Option.some_or]
    simpa using hne
  have h2 := clash_app this r
  rwa [List.append_assoc] at h2
end Go.Sy
