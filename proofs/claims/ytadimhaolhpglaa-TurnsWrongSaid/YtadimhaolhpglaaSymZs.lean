/- Layer: fields of elements of a pool's rows; a literal becomes a pool within a region; what lies in pools is told by a row of one's own. -/
import Derived.Test.YtadimhaolhpglaaSymZr
import Derived.Test.YtadimhaolhpglaaSymZq
import Derived.Test.YtadimhaolhpglaaBu1
set_option linter.unusedSimpArgs false
set_option linter.unusedVariables false
set_option linter.unusedSectionVars false
namespace Go.Sy
open Go.RowKit

section
variable {C : Ctx} {n : Nat} {tm : TM} {mm : MM} {o : Oper} {d : Nat}
end
section
variable {C : Ctx} {n : Nat} {tm : TM} {mm : MM} {L l : List Oper} {T : TM → MM → Prop} {o : Oper} {d : Nat} {x y : Operand}
end

/-! ### A row that tells what lay in a pool -/
inductive FzC (sz : Nat) (qs : PQ) : CT → CT → Prop
  | refl (c : CT) : FzC sz qs c c
  | row {v : Value} {xs : List (List CT)} (h : (v, xs) ∈ qs) : FzC sz qs (.val v) (.slice false sz xs)
inductive FzCs (sz : Nat) (qs : PQ) : List CT → List CT → Prop
  | refl (l : List CT) : FzCs sz qs l l
  | cons {a b : CT} {x y : List CT} (h : FzC sz qs a b) (hr : FzCs sz qs x y) : FzCs sz qs (a :: x) (b :: y)
inductive FzX (sz : Nat) (qs : PQ) : List (List CT) → List (List CT) → Prop
  | refl (l : List (List CT)) : FzX sz qs l l
  | cons {a b : List CT} {x y : List (List CT)} (h : FzCs sz qs a b) (hr : FzX sz qs x y) : FzX sz qs (a :: x) (b :: y)
theorem FzCs.get {sz : Nat} {qs : PQ} : ∀ {x y : List CT}, FzCs sz qs x y → x.length = y.length ∧ ∀ (j : Nat) (c : CT), y[j]? = some c → ∃ b, x[j]? = some b ∧ FzC sz qs b c
  | _, _, .refl l => ⟨rfl, fun j c h => ⟨c, h, .refl c⟩⟩
  | _, _, .cons h hr => by
    obtain ⟨h1, h2⟩ := hr.get
    refine ⟨by simp [h1], fun j c hc => ?_⟩
    cases j with
    | zero => simp at hc; subst hc; exact ⟨_, by simp, h⟩
    | succ j => simpa using h2 j c (by simpa using hc)
theorem FzX.get {sz : Nat} {qs : PQ} : ∀ {xs ys : List (List CT)}, FzX sz qs xs ys → xs.length = ys.length ∧ ∀ (i : Nat) (y : List CT), ys[i]? = some y → ∃ x, xs[i]? = some x ∧ FzCs sz qs x y
  | _, _, .refl l => ⟨rfl, fun j c h => ⟨c, h, .refl c⟩⟩
  | _, _, .cons h hr => by
    obtain ⟨h1, h2⟩ := hr.get
    refine ⟨by simp [h1], fun j c hc => ?_⟩
    cases j with
    | zero => simp at hc; subst hc; exact ⟨_, by simp, h⟩
    | succ j => simpa using h2 j c (by simpa using hc)
section
variable {C : Ctx} {n : Nat} {tm : TM} {mm : MM}
theorem Has.freezeA {a : Act} {w : World} (i j : Nat) {e sz e' sz' : Nat} {nn : Bool} {qs : PQ} {rows : List (List CT)} (rows' : List (List CT)) (hij : Nat.beq i j = false) (hi : getM mm i = some (.pool e sz qs)) (hig : Nat.blt i given = true) (hj : getM mm j = some (.arr nn e' sz' rows))
    (hno : noUse i mm = true) (hnt : noUseT i tm = true) (hrows : FzX sz qs rows rows') (h : Has C n tm mm a w) :
    Has C n tm (updM (outM [i] mm) j (.arr nn e' sz' rows')) a w := by
  refine h.dropPool hij hi hig hj hno hnt fun I I' H Z w M M' hI hM hp hn hmem => ?_
  obtain ⟨hz, us, h1, h2, h3, h4⟩ := hmem
  obtain ⟨k1, k2⟩ := hrows.get
  refine ⟨hz, us, by rw [← k1]; exact h1, h2, fun x hx => ?_, fun k y hy m c hc => ?_⟩
  · obtain ⟨k, hk, rfl⟩ := List.mem_iff_getElem.1 hx
    obtain ⟨x0, hx0, hx1⟩ := k2 k _ (List.getElem?_eq_getElem hk)
    rw [← hx1.get.1]; exact h3 x0 (List.mem_of_getElem? hx0)
  · obtain ⟨x0, hx0, hx1⟩ := k2 k y hy
    obtain ⟨b, hb, hbc⟩ := hx1.get.2 m c hc
    obtain ⟨u, hu, hr⟩ := h4 k x0 hx0 m b hb
    cases hbc with
    | refl => exact ⟨u, hu, hr.mono (Nat.le_refl _) (fun _ _ _ => rfl) hM⟩
    | row hq =>
      have : u = _ := RepC.val_inv hr
      subst this
      obtain ⟨q, hq1⟩ := List.mem_iff_getElem?.1 hq
      exact ⟨_, hu, (hp.row (k := q) hq1).frozen hM (hn _ hq)⟩
variable {f : FuncId} {R : Ending → World → Prop} {k : List Item}
theorem g_freezeA (i j : Nat) {e sz e' sz' : Nat} {nn : Bool} {qs : PQ} {rows : List (List CT)} (rows' : List (List CT)) (hij : Nat.beq i j = false) (hi : getM mm i = some (.pool e sz qs)) (hig : Nat.blt i given = true) (hj : getM mm j = some (.arr nn e' sz' rows))
    (hno : noUse i mm = true) (hnt : noUseT i tm = true) (hrows : FzX sz qs rows rows') (g : Goes C f n R k tm (updM (outM [i] mm) j (.arr nn e' sz' rows'))) : Goes C f n R k tm mm :=
  g.mono fun _ _ h => h.freezeA i j rows' hij hi hig hj hno hnt hrows
end
section
variable {C : Ctx} {n : Nat} {L l : List Oper} {o : Oper} {d : Nat}
variable {ι : Type} {tmF : TM} {ET : Nat → ι → TM} {MMx : Nat → ι → MM} {k : Nat} {x : ι}
/-- A store to a field of an element of a row of one's own, in a chain. -/
theorem ef_storef {Θ : Tab} (hΘ : tabOK C.P Θ) {t : TypeId} {ti : TyI} {p q : Operand} {i j off e sz : Nat} {nn : Bool} {xs : List (List CT)} {s : SV} {cs x1 : List CT} (x0 : List CT)
    (ho : o.op = .store t p q) (ht : tyGet Θ t = some ti) (hx : evalC (onlyE (looksE L o) (tmF ++ ET k x)) p = some (.aptr i j off)) (hi : getM (MMx k x) i = some (.arr nn e sz xs)) (hj : xs[j]? = some x0)
    (hy : evalV (onlyE (looksE L o) (tmF ++ ET k x)) q = some s) (hc : ctsOf s.cells = some cs) (hsz : Nat.beq cs.length ti.size = true) (hsp : spliceL x0 off cs = some x1) (hkn : s.cells.all SC.known = true) (hd : o.dst = none)
    (hg : guardL L (onlyE (looksE L o) (tmF ++ ET k x)) o = some true) (hET : ET (k + 1) x = []) (hM : MMx (k + 1) x = updM (MMx k x) i (.arr nn e sz (xs.set j x1))) : EffOK C n L tmF ET MMx k x o := by
  refine eff_core hg fun tm a w K Q hin hh hK => ?_
  refine (op_storef (tm := onlyE (looksE L o) (tmF ++ ET k x) ++ tm) hΘ ho ht (evalC_app hx) hi hj (evalV_app hy) hc hsz hsp hkn hd).wp a w K Q (hh.incl fun p hp => (List.mem_append.1 hp).elim (hin p) id) fun a' w' h' => ?_
  exact hK x _ a' w' (fun p hp hpt => List.mem_append_right _ hpt) (fun p hp => by rw [hET] at hp; cases hp) (by rw [hM]; exact h')
/-- A call that changes variables; its outcome is the same however it comes about, all may read it. -/
theorem ef_callS {f : FuncId} {pre post : List (List CT)} {args args' : List SV} {res : ST} (hc : Con C.P f pre args res post) (ids : List Nat) {xs : Array Operand} {ts : Array TypeId}
    (ho : o.op = .call { callee := .value (.func f), args := xs, argTypes := ts }) (hargs : evalArgs (onlyE (looksE L o) (tmF ++ ET k x)) xs.toList = some args') (hren : renVs ids args = some args') (hpre : preE (MMx k x) ids = some pre)
    (hnd : noDup ids = true) (hlen : post.length = pre.length) (hpure : pureS res = true) (hd : o.dst = some d) (hn : Nat.blt d n = true) (hg : guardL L (onlyE (looksE L o) (tmF ++ ET k x)) o = some true) (hku : ∀ p ∈ tmF, ∀ q ∈ tmF, p.1 = q.1 → p = q) (hgt : getT tmF d = some res)
    (hET : ET (k + 1) x = [(d, res)]) (hM : MMx (k + 1) x = updMs (MMx k x) ids post) : EffOK C n L tmF ET MMx k x o := by
  refine eff_core hg fun tm a w K Q hin hh hK => ?_
  refine op_call (tm := onlyE (looksE L o) (tmF ++ ET k x) ++ tm) hc ids ho (evalArgs_app hargs) hren hpre hnd hlen hpure hd hn a w K Q (hh.incl fun p hp => (List.mem_append.1 hp).elim (hin p) id) fun a' w' h' => ?_
  refine hK x _ a' w' (fun p hp hpt => ?_) (fun p hp => ?_) (by rw [hM]; exact h')
  · by_cases hpd : p.1 = d
    · rw [hku p hp (d, res) (getT_mem hgt) hpd]; exact List.mem_cons_self
    · exact List.mem_cons_of_mem _ (mem_delL (List.mem_append_right _ hpt) hpd)
  · rw [hET] at hp
    rw [List.mem_singleton.1 hp]; exact List.mem_cons_self
/-- An operation whose value is computed. -/
theorem ef_eval {Θ : Tab} (hΘ : tabOK C.P Θ) {s : ST} (hv : valE Θ (onlyE (looksE L o) (tmF ++ ET k x)) (MMx k x) o.op = some s) (hd : o.dst = some d) (hn : Nat.blt d n = true) (hg : guardL L (onlyE (looksE L o) (tmF ++ ET k x)) o = some true) (hnk : keyT d tmF = true)
    (hET : ET (k + 1) x = [(d, s)]) (hM : MMx (k + 1) x = MMx k x) : EffOK C n L tmF ET MMx k x o := ef_val (valE_sound hΘ hv hd hn).toX hg hnk hET hM
/-- A frozen literal. -/
theorem ef_lit {Θ : Tab} (hΘ : tabOK C.P Θ) {t : TypeId} {z bts e len : Nat} {ag : Bool} {zt : Option (List CT)} {ei : TyI} {zr : List CT} {parts : Array (Nat × Operand)} {r : List SC} {cts : List CT} {xs : List (List CT)} {ct : CT}
    (ho : o.op = .buildSlice t len parts) (ht : tyGet Θ t = some ⟨z, bts, ag, zt, .slice e⟩) (hei : tyGet Θ e = some ei) (hz : ei.zero = some zr)
    (hb : Nat.ble (len * ei.size) 16777216 = true) (hs0 : Nat.blt 0 ei.size = true)
    (hl : layL (fun i => some (i * ei.size, ei.size)) (onlyE (looksE L o) (tmF ++ ET k x)) (anyL (len * ei.size)) parts.toList = some r) (hc : ctsOf r = some cts) (hx : chunkL ei.size len cts = some xs)
    (hd : o.dst = some d) (hn : Nat.blt d n = true) (hg : guardL L (onlyE (looksE L o) (tmF ++ ET k x)) o = some true) (hnk : keyT d tmF = true)
    (hle : LeC (.slice true ei.size xs) ct) (hET : ET (k + 1) x = [(d, .v (.one (.c ct)))]) (hM : MMx (k + 1) x = MMx k x) : EffOK C n L tmF ET MMx k x o :=
  ef_val (op_lit hΘ ho ht hei hz hb hs0 hl hc hx hle hd hn) hg hnk hET hM
end
section
variable {C : Ctx} {n : Nat} {L l : List Oper} {tm tm0 : TM} {E : List Nat} {i : Nat} {mmf : Nat → MM} {TF : TM → Prop} {o : Oper} {d : Nat} {x : Operand}
theorem f_add {p q : Operand} {ty ty' : TypeId} {a b : Int} (ho : o.op = .binOp .add ty p q ty') (hx : evalC (onlyE (looksE L o) tm) p = some (.c (.int .i64 a))) (hy : evalC (onlyE (looksE L o) tm) q = some (.c (.int .i64 b))) (hd : o.dst = some d) (hn : Nat.blt d n = true) (hg : guardL L (onlyE (looksE L o) tm) o = some true) (hiE : memN E i = false)
    (m : Int) (hm : a + b = m) (hr : -9223372036854775808 ≤ m ∧ m ≤ 9223372036854775807) (k : FOps C n mmf L tm0 E (i + 1) l ((d, .v (.one (.c (.int .i64 m)))) :: delL tm d) TF) : FOps C n mmf L tm0 E i (o :: l) tm TF := by
  subst hm
  exact f_step (fun mm' => op_arith (p := .add) ho hx hy (IntWalk.i64_in _ hr) hd hn) hiE hg hd k
def depN (m : Nat) (L : List Oper) (e0 i : Nat) : Bool := memN (expE L m [e0]) i
/-- As g_drawF2, where what the step q waits for is closed m times. -/
theorem g_drawF3 {ι : Type} (m q e0 : Nat) (E : List Nat) (ids ids0 : List Nat) (ET : Nat → ι → TM) (MMx : Nat → ι → MM) (x0 : ι) {mm : MM} {f : FuncId} {Rr : Ending → World → Prop} {k : List Item} {id : Nat} (hmix : C.P.follows .mixedOrders = true)
    (hm0 : MMx 0 x0 = mm) (hbase : ∀ k x, ∀ q ∈ outM ids mm, q ∈ MMx k x) (hbase0 : ∀ k x, k < q + 1 → ∀ q ∈ outM ids0 mm, q ∈ MMx k x) (hE0 : ET 0 x0 = []) (hET : ∀ k x, subE E L (ET k x) = true)
    (hok : okR2 L [] L 0 = true) (hu : uniT (dstsE L) (cutT (dstsE L) tm) = true) (hEl : E ≠ []) (hq : E[q]? = some e0) (hch : chainL L E = true)
    (h : FOps C n (fun i => match depN m L e0 i with | true => outM ids0 mm | false => outM ids mm) L (cutT (dstsE L) tm) E 0 L (cutT (dstsE L) tm) fun tmF => Effs C n L tmF ET MMx 0 E ∧ ∀ x, Goes C f n Rr k (tmF ++ ET E.length x) (MMx E.length x)) :
    Goes C f n Rr (.code (.region id L.toArray true) :: k) tm mm := by
  refine g_drawFm _ E ET MMx x0 hmix hm0 hE0 hET hok hu hEl hch (fun listed k hdn hst i hi hiE hf x => ?_) h
  cases hd : depN m L e0 i with
  | false => exact hbase k x
  | true =>
    refine hbase0 k x ?_
    rcases Nat.lt_or_ge k (q + 1) with hk | hk
    · exact hk
    · exfalso
      have := expE_down hdn m (S := [e0]) (fun e he => by rw [List.mem_singleton.1 he]; exact (hst _ _ hq).2 (by omega)) i (memN_iff.1 hd)
      rw [hf] at this; cases this
end
section
variable {C : Ctx} {n : Nat} {L : List Oper} {tm : TM}
/-- As g_drawF, where the outcomes S0 of some steps of the chain may be read by all. -/
theorem g_drawFS {ι : Type} (S0 : TM) (E : List Nat) (ids : List Nat) (ET : Nat → ι → TM) (MMx : Nat → ι → MM) (x0 : ι) {mm : MM} {f : FuncId} {Rr : Ending → World → Prop} {k : List Item} {id : Nat} (hmix : C.P.follows .mixedOrders = true)
    (hm0 : MMx 0 x0 = mm) (hbase : ∀ k x, k < E.length → ∀ q ∈ outM ids mm, q ∈ MMx k x) (hE0 : ET 0 x0 = []) (hET : ∀ k x, subE E L (ET k x) = true)
    (hok : okR2 L [] L 0 = true) (hu : uniT (dstsE L) (cutT (dstsE L) tm) = true) (hu2 : uniT [] (S0 ++ cutT (dstsE L) tm) = true) (hS0 : S0.all (fun p => memN (dstsE L) p.1) = true) (hEl : E ≠ []) (hcl : closedL L (L.length - 1) = true) (hch : chainL L E = true)
    (h : FOps C n (fun _ => outM ids mm) L (S0 ++ cutT (dstsE L) tm) E 0 L (S0 ++ cutT (dstsE L) tm) fun tmF => (∀ p ∈ tmF, ∀ q ∈ tmF, p.1 = q.1 → p = q) → Effs C n L tmF ET MMx 0 E ∧ StatE L tmF ET 0 E ∧ ∀ x, Goes C f n Rr k (tmF ++ ET E.length x) (MMx E.length x)) :
    Goes C f n Rr (.code (.region id L.toArray true) :: k) tm mm := by
  have hE := List.length_pos_iff.2 hEl
  refine g_drawFmS S0 (fun _ => outM ids mm) E ET MMx x0 hmix hm0 hE0 hET hok hu hu2 hS0 hEl hch (fun listed k hdn hst i hi hiE hf x => hbase k x ?_) h
  rcases Nat.lt_or_ge k E.length with hk | hk
  · exact hk
  · exfalso
    have he : E[E.length - 1]? = some E[E.length - 1] := List.getElem?_eq_getElem (by omega)
    have := down_closed hok hcl hch hEl listed hdn _ he ((hst _ _ he).2 (by omega)) i hi hiE
    rw [hf] at this; cases this
theorem StatE.nil {ι : Type} {tmF : TM} {ET : Nat → ι → TM} {m : Nat} : StatE L tmF ET m [] := trivial
theorem StatE.dyn {ι : Type} {tmF : TM} {ET : Nat → ι → TM} {m e : Nat} {r : List Nat} {o : Oper} (he : nthO L e = some o) (h : ∀ d, o.dst = some d → keyT' d tmF = true) (k : StatE L tmF ET (m + 1) r) : StatE L tmF ET m (e :: r) :=
  ⟨fun o' d ho hd => .inl (by rw [he] at ho; injection ho with ho; subst ho; exact h d hd), k⟩
theorem StatE.stat {ι : Type} {tmF : TM} {ET : Nat → ι → TM} {m e d : Nat} {r : List Nat} {o : Oper} {s : ST} (he : nthO L e = some o) (hd : o.dst = some d) (hg : getT tmF d = some s) (h : ∀ x, ET (m + 1) x = [(d, s)]) (k : StatE L tmF ET (m + 1) r) : StatE L tmF ET m (e :: r) :=
  ⟨fun o' d' ho hd' => .inr (by
    rw [he] at ho; injection ho with ho; subst ho
    rw [hd] at hd'; injection hd' with hd'; subst hd'
    exact ⟨s, hg, fun x => by rw [h x]; exact List.mem_cons_self⟩), k⟩
end
section
variable {C : Ctx} {f : FuncId} {n : Nat} {R : Ending → World → Prop} {k : List Item} {tm : TM} {mm : MM}
end
end Go.Sy
