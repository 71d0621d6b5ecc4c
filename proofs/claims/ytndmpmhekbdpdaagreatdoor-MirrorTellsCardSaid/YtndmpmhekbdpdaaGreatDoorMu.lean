/- Layer: slices of texts. -/
import Derived.Test.YtndmpmhekbdpdaaGreatDoorMj4
import Derived.Laws.Slices
import Derived.Laws.Strings2
set_option linter.unusedSimpArgs false
set_option linter.unusedVariables false
set_option linter.unusedSectionVars false
namespace Go.Sy
section
variable {C : Ctx} {n : Nat} {tm : TM} {mm : MM} {o : Oper} {d : Nat}
theorem op_strTo {Θ : Tab} (hΘ : tabOK C.P Θ) {t : TypeId} {x y : Operand} {s : ByteArray} {k : IntKind} {m : Int} {j : Nat} {z bts : Nat} {ag : Bool} {zr : Option (List CT)}
    (ho : o.op = .slice t x none (some y) none) (ht : tyGet Θ t = some ⟨z, bts, ag, zr, .string⟩)
    (hx : evalC tm x = some (.c (.str s))) (hi : evalC tm y = some (.c (.int k m))) (hm : m = (j : Int)) (hj : j ≤ s.size) (hd : o.dst = some d) (hn : Nat.blt d n = true) :
    OpV C n o tm mm d (.v (.one (.c (.str (s.extract 0 j))))) :=
  OpV.val hd hn _ fun H Z A w hmod => by
    have h1 : A.eval x = .string s := RepC.str_inv (evalC_rep hmod hx)
    have h2 : A.eval y = .int k m := RepC.int_inv (evalC_rep hmod hi)
    obtain ⟨inf, de, hf⟩ := tyF hΘ ht
    have hde : de = .string := by
      have := hf.sh
      cases de <;> simp [shChk] at this ⊢
    subst hde
    subst hm
    refine ⟨.string (s.extract 0 j), ?_, .str _⟩
    have := run_slice_string_h (P := C.P) w t s hf.und k (j : Int) (by omega) (by omega)
    rw [Int.toNat_natCast] at this
    simp [execOp, ho, h1, h2, Instr.sliceAt, hf.underlying, this]
theorem op_strFrom {Θ : Tab} (hΘ : tabOK C.P Θ) {t : TypeId} {x y : Operand} {s : ByteArray} {k : IntKind} {m : Int} {j : Nat} {z bts : Nat} {ag : Bool} {zr : Option (List CT)}
    (ho : o.op = .slice t x (some y) none none) (ht : tyGet Θ t = some ⟨z, bts, ag, zr, .string⟩)
    (hx : evalC tm x = some (.c (.str s))) (hi : evalC tm y = some (.c (.int k m))) (hm : m = (j : Int)) (hj : j ≤ s.size) (hd : o.dst = some d) (hn : Nat.blt d n = true) :
    OpV C n o tm mm d (.v (.one (.c (.str (s.extract j s.size))))) :=
  OpV.val hd hn _ fun H Z A w hmod => by
    have h1 : A.eval x = .string s := RepC.str_inv (evalC_rep hmod hx)
    have h2 : A.eval y = .int k m := RepC.int_inv (evalC_rep hmod hi)
    obtain ⟨inf, de, hf⟩ := tyF hΘ ht
    have hde : de = .string := by
      have := hf.sh
      cases de <;> simp [shChk] at this ⊢
    subst hde
    subst hm
    refine ⟨.string (s.extract j s.size), ?_, .str _⟩
    have := run_slice_string_l (P := C.P) w t s hf.und k (j : Int) (by omega) (by omega)
    rw [Int.toNat_natCast] at this
    simp [execOp, ho, h1, h2, Instr.sliceAt, hf.underlying, this]
end
section
variable {C : Ctx} {n : Nat} {tm : TM} {mm : MM} {L l : List Oper} {T : TM → MM → Prop} {o : Oper} {d : Nat} {x y : Operand}
theorem s_sliceTo {Θ : Tab} (hΘ : tabOK C.P Θ) {t : TypeId} {nn : Bool} {sz : Nat} {xs : List (List CT)} {k : IntKind} {m : Int} {e : Nat} {z bts : Nat} {ag : Bool} {zr : Option (List CT)} {ei : TyI}
    (ho : o.op = .slice t x none (some y) none) (ht : tyGet Θ t = some ⟨z, bts, ag, zr, .slice e⟩) (hei : tyGet Θ e = some ei)
    (hx : evalC tm x = some (.c (.slice nn sz xs))) (hi : evalC tm y = some (.c (.int k m))) (hd : o.dst = some d) (hn : Nat.blt d n = true) (hg : guardL L tm o = some true)
    (j : Nat) (hm : m = (j : Int)) (hj : j ≤ xs.length) (g : SOps C n L.toArray l ((d, .v (.one (.c (.slice nn sz (xs.take j))))) :: delL tm d) mm T) : SOps C n L.toArray (o :: l) tm mm T :=
  s_step (op_sliceTo hΘ ho ht hei hx hi hm hj hd hn).wp hg g
theorem s_sliceFrom {Θ : Tab} (hΘ : tabOK C.P Θ) {t : TypeId} {nn : Bool} {sz : Nat} {xs : List (List CT)} {k : IntKind} {m : Int} {e : Nat} {z bts : Nat} {ag : Bool} {zr : Option (List CT)} {ei : TyI}
    (ho : o.op = .slice t x (some y) none none) (ht : tyGet Θ t = some ⟨z, bts, ag, zr, .slice e⟩) (hei : tyGet Θ e = some ei) (hsz : Nat.beq ei.size sz = true)
    (hx : evalC tm x = some (.c (.slice nn sz xs))) (hi : evalC tm y = some (.c (.int k m))) (hd : o.dst = some d) (hn : Nat.blt d n = true) (hg : guardL L tm o = some true)
    (j : Nat) (hm : m = (j : Int)) (hj : j ≤ xs.length) (g : SOps C n L.toArray l ((d, .v (.one (.c (.slice nn sz (xs.drop j))))) :: delL tm d) mm T) : SOps C n L.toArray (o :: l) tm mm T :=
  s_step (op_sliceFrom hΘ ho ht hei hsz hx hi hm hj hd hn).wp hg g
theorem s_strTo {Θ : Tab} (hΘ : tabOK C.P Θ) {t : TypeId} {s : ByteArray} {k : IntKind} {m : Int} {z bts : Nat} {ag : Bool} {zr : Option (List CT)}
    (ho : o.op = .slice t x none (some y) none) (ht : tyGet Θ t = some ⟨z, bts, ag, zr, .string⟩)
    (hx : evalC tm x = some (.c (.str s))) (hi : evalC tm y = some (.c (.int k m))) (hd : o.dst = some d) (hn : Nat.blt d n = true) (hg : guardL L tm o = some true)
    (j : Nat) (hm : m = (j : Int)) (hj : j ≤ s.size) (g : SOps C n L.toArray l ((d, .v (.one (.c (.str (s.extract 0 j))))) :: delL tm d) mm T) : SOps C n L.toArray (o :: l) tm mm T :=
  s_step (op_strTo hΘ ho ht hx hi hm hj hd hn).wp hg g
theorem s_strFrom {Θ : Tab} (hΘ : tabOK C.P Θ) {t : TypeId} {s : ByteArray} {k : IntKind} {m : Int} {z bts : Nat} {ag : Bool} {zr : Option (List CT)}
    (ho : o.op = .slice t x (some y) none none) (ht : tyGet Θ t = some ⟨z, bts, ag, zr, .string⟩)
    (hx : evalC tm x = some (.c (.str s))) (hi : evalC tm y = some (.c (.int k m))) (hd : o.dst = some d) (hn : Nat.blt d n = true) (hg : guardL L tm o = some true)
    (j : Nat) (hm : m = (j : Int)) (hj : j ≤ s.size) (g : SOps C n L.toArray l ((d, .v (.one (.c (.str (s.extract j s.size))))) :: delL tm d) mm T) : SOps C n L.toArray (o :: l) tm mm T :=
  s_step (op_strFrom hΘ ho ht hx hi hm hj hd hn).wp hg g
end
section
variable {C : Ctx} {n : Nat} {tm tm0 : TM} {mm0 : MM} {L l : List Oper} {R : List Rec} {T : TM → MM → Prop} {o : Oper} {d i : Nat} {p q : Operand} {ty : TypeId}
end
section
variable {C : Ctx} {n : Nat} {L : List Oper} {tmF : TM} {ι : Type} {ET : Nat → ι → TM} {MMx : Nat → ι → MM} {k : Nat} {x : ι} {o : Oper}
theorem ef_pstoref {Θ : Tab} (hΘ : tabOK C.P Θ) {t : TypeId} {ti : TyI} {p q : Operand} {i j off e sz : Nat} {qs : PQ} {v : Value} {xs : List (List CT)} {s : SV} {cs x1 : List CT} (x0 : List CT)
    (ho : o.op = .store t p q) (ht : tyGet Θ t = some ti) (hx : evalC (onlyE (looksE L o) (tmF ++ ET k x)) p = some (.c (.val (ptrV v (j * sz + off))))) (hi : getM (MMx k x) i = some (.pool e sz qs))
    (hy : evalV (onlyE (looksE L o) (tmF ++ ET k x)) q = some s) (hc : ctsOf s.cells = some cs) (hsz : Nat.beq cs.length ti.size = true) (hsp : spliceL x0 off cs = some x1) (hkn : s.cells.all SC.known = true) (hig : Nat.blt i given = true) (hno : noUse i (MMx k x) = true) (hd : o.dst = none)
    (hg : guardL L (onlyE (looksE L o) (tmF ++ ET k x)) o = some true) (hnt : noUseT i tmF = true) (m : Nat) (hk : qs[m]? = some (v, xs)) (hj : xs[j]? = some x0) (hET : ET (k + 1) x = []) (hM : MMx (k + 1) x = updM (MMx k x) i (.pool e sz (qs.set m (v, xs.set j x1)))) : EffOK C n L tmF ET MMx k x o := by
  refine eff_core hg fun tm a w K Q hin hh hK => ?_
  refine (op_pstoref (tm := onlyE (looksE L o) (tmF ++ ET k x) ++ tm) hΘ ho ht (evalC_app hx) hi hk hj (evalV_app hy) hc hsz hsp hkn hig hno hd).wp a w K Q (hh.incl fun p hp => (List.mem_append.1 hp).elim (hin p) id) fun a' w' h' => ?_
  exact hK x _ a' w' (fun p hp hpt => dropU_in (noUseT_spec hnt p hp) (List.mem_append_right _ hpt)) (fun p hp => by rw [hET] at hp; cases hp) (by rw [hM]; exact h')
end
section
variable {C : Ctx} {n : Nat} {L l : List Oper} {tm tm0 : TM} {E : List Nat} {i : Nat} {mmf : Nat → MM} {TF : TM → Prop} {o : Oper} {d : Nat} {x : Operand}
theorem f_pfield {Θ : Tab} (hΘ : tabOK C.P Θ) {t : TypeId} {z bts : Nat} {ag : Bool} {zr : Option (List CT)} {fs : List (Nat × Nat)} {k off : Nat} {v : Value} {r c q e sz : Nat} {qs : PQ} {xs : List (List CT)}
    (ho : o.op = .fieldAddr t x k) (ht : tyGet Θ t = some ⟨z, bts, ag, zr, .struct fs⟩) (hx : evalC (onlyE (looksE L o) tm) x = some (.c (.val (ptrV v q)))) (hi : getM (mmf i) r = some (.pool e sz qs)) (hk : fieldOff fs k = some off) (hd : o.dst = some d) (hn : Nat.blt d n = true) (hg : guardL L (onlyE (looksE L o) tm) o = some true) (hiE : memN E i = false)
    (hc : qs[c]? = some (v, xs)) (hpos : 0 < xs.length) (g : FOps C n mmf L tm0 E (i + 1) l ((d, .v (.one (.c (.val (ptrV v (q + off)))))) :: delL tm d) TF) : FOps C n mmf L tm0 E i (o :: l) tm TF :=
  FOps.step hiE hg (fun mm' hb hu => (op_pfield hΘ ho ht hx (mono_get hb hu _ _ hi) hc hpos hk hd hn).toX) hd g
end
theorem le_arr13 {nn : Bool} {e sz : Nat} {xs ys : List (List CT)} (h : xs = ys) : LeM (.arr nn e sz xs) (.arr nn e sz ys) := h ▸ .refl _
end Go.Sy
