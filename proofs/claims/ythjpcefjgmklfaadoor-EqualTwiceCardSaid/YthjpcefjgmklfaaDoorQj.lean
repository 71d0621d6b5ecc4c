/- Contracts: the closure of equal.Shrink; what Shrink computes. -/
import Derived.Test.YthjpcefjgmklfaaDoorQi
set_option linter.unusedSimpArgs false
set_option linter.unusedVariables false
set_option linter.unusedSectionVars false
namespace Go.Sy
open Go.Proofs Go.RowKit
set_option maxRecDepth 100000
attribute [local irreducible] SOps Goes DOps EOps FOps

/-! ### What Shrink computes -/
/-- Of the first i nodes those that stand for their class. -/
def keepN (c : List Nat) (i : Nat) : List Nat := (List.range i).filter fun k => decide (c[k]? = some k)
theorem keepN_yes {c : List Nat} {i : Nat} (h : c[i]? = some i) : keepN c (i + 1) = keepN c i ++ [i] := by simp [keepN, List.range_succ, List.filter_append, h]
theorem keepN_no {c : List Nat} {i : Nat} (h : c[i]? ≠ some i) : keepN c (i + 1) = keepN c i := by simp [keepN, List.range_succ, List.filter_append, h]
theorem keepN_lt {c : List Nat} {i k : Nat} (h : k ∈ keepN c i) : k < i := by
  have := (List.mem_filter.1 h).1
  simpa using this
theorem keepN_len (c : List Nat) (i : Nat) : (keepN c i).length ≤ i := by
  have := List.length_filter_le (fun k => decide (c[k]? = some k)) (List.range i)
  rw [List.length_range] at this
  exact this
abbrev intL (l : List Nat) : List Int := l.map fun k : Nat => (k : Int)
def keepS (b : Bk) : List Nat := keepN (classesS b) (classesS b).length
/-- The place of a class among those that are kept. -/
def plI (ks : List Int) (c : List Nat) (x : Int) : Int := ((numI ks ((cl c x : Nat) : Int) : Nat) : Int)
def plS (b : Bk) (x : Int) : Int := plI (intL (keepS b)) (classesS b) x
def shrE (f : Int → Int) (a : Edge) : Edge := ⟨a.label, a.kind, if a.kind = 5 then f a.at_ else a.at_, f a.next⟩
def shrN (f : Int → Int) (x : Nd) : Nd := ⟨x.kind, x.peer, x.arms.map (shrE f)⟩
/-- The book with one node for each class (P10.2). -/
def shrinkS (b : Bk) : Bk := if bookB b then ⟨(keepS b).map fun i : Nat => shrN (plS b) (ndE b (i : Int)), b.names, b.roots.map (plS b)⟩ else ⟨[], [], []⟩

/-! ### The closure -/
section
variable {C : Ctx} {n : Nat} {tm : TM} {mm : MM} {L l : List Oper} {T : TM → MM → Prop} {o : Oper} {d : Nat} {x y vx : Operand}
theorem op_lookNI {Θ : Tab} (hΘ : tabOK C.P Θ) {t k e : TypeId} {z bts zk bk ze be : Nat} {ag agk : Bool} {zt ztk : Option (List CT)} {she : Sh} {i : Nat} {m : List Int} {a0 : Int}
    (ho : o.op = .lookup t x y false) (ht : tyGet Θ t = some ⟨z, bts, ag, zt, .map k e⟩) (hk : tyGet Θ k = some ⟨zk, bk, agk, ztk, .int .i64⟩) (hei : tyGet Θ e = some ⟨ze, be, false, some [.int .i64 0], she⟩)
    (hx : evalC tm x = some (.mp i)) (hi : getM mm i = some (.mpo (entF intF (numM m)))) (hy : evalV tm y = some (.one (.c (.int .i64 a0)))) (hd : o.dst = some d) (hn : Nat.blt d n = true) :
    OpV C n o tm mm d (.v (.one (.c (.int .i64 ((numI m a0 : Nat) : Int))))) := by
  have h := op_lookI (n := n) (zc := .int .i64 0) hΘ ho ht hk hei rfl rfl hx hi hy hd hn
  rw [num_look] at h
  exact h
theorem s_putNI {Θ : Tab} (hΘ : tabOK C.P Θ) {t k e : TypeId} {z bts zk bk : Nat} {ag agk : Bool} {zt ztk : Option (List CT)} {i : Nat} {m : List Int} {a0 : Int} {c : Int}
    (ho : o.op = .mapUpdate t x y vx ∨ o.op = .insert t x y vx) (ht : tyGet Θ t = some ⟨z, bts, ag, zt, .map k e⟩) (hk : tyGet Θ k = some ⟨zk, bk, agk, ztk, .int .i64⟩)
    (hx : evalC tm x = some (.mp i)) (hi : getM mm i = some (.mpo (entF intF (numM m)))) (hy : evalV tm y = some (.one (.c (.int .i64 a0)))) (hvx : evalD tm vx = some (.one (.c (.int .i64 c)))) (hd : o.dst = none) (hg : guardL L tm o = some true)
    (hc : c = (m.length : Int)) (hm : a0 ∉ m)
    (g : SOps C n L.toArray l tm (updM mm i (.mpo (entF intF (numM (m ++ [a0]))))) T) : SOps C n L.toArray (o :: l) tm mm T := by
  subst hc
  rw [← num_put hm] at g
  exact s_putI hΘ ho ht hk hx hi hy hvx hd hg g
theorem s_clos {f : FuncId} {es : List (FV × FV)} {ct : CT} {c : CT} {res : ST} (hc : ConS C.P f es ct [.one (.c c), .one (.ptr given 0), .one (.ptr (given + 1) 0)] res) {i1 i2 i3 : Nat} {ts : Array TypeId}
    (ho : o.op = .call { callee := .value x, args := #[y], argTypes := ts }) (hx : evalC tm x = some (.clo f [i1, i2])) (hy : evalD tm y = some (.one (.c c)))
    (h12 : Nat.beq i1 i2 = false) (g1 : getM mm i1 = some (.box [.mp i3])) (g2 : getM mm i2 = some (.box [.c ct])) (g3 : getM mm i3 = some (.mpo es)) (h13 : Nat.beq i1 i3 = false) (h23 : Nat.beq i2 i3 = false)
    (hpure : pureS res = true) (hd : o.dst = some d) (hn : Nat.blt d n = true) (hg : guardL L tm o = some true) (k : SOps C n L.toArray l ((d, res) :: delL tm d) mm T) : SOps C n L.toArray (o :: l) tm mm T :=
  s_step ((op_clos hc ho hx hy h12 h13 h23 g1 g2 g3 hpure hd hn).2 tm fun _ h => h) hg k
end
section
variable {C : Ctx} {n : Nat} {mmf : Nat → MM} {L l : List Oper} {tm0 tm : TM} {E : List Nat} {i : Nat} {o : Oper} {d : Nat} {TF : TM → Prop} {x y : Operand}
theorem f_clos {f : FuncId} {es : List (FV × FV)} {ct : CT} {c : CT} {res : ST} (hc : ConS C.P f es ct [.one (.c c), .one (.ptr given 0), .one (.ptr (given + 1) 0)] res) {i1 i2 i3 : Nat} {ts : Array TypeId}
    (ho : o.op = .call { callee := .value x, args := #[y], argTypes := ts }) (hx : evalC (onlyE (looksE L o) tm) x = some (.clo f [i1, i2])) (hy : evalD (onlyE (looksE L o) tm) y = some (.one (.c c)))
    (h12 : Nat.beq i1 i2 = false) (g1 : getM (mmf i) i1 = some (.box [.mp i3])) (g2 : getM (mmf i) i2 = some (.box [.c ct])) (g3 : getM (mmf i) i3 = some (.mpo es)) (h13 : Nat.beq i1 i3 = false) (h23 : Nat.beq i2 i3 = false)
    (hpure : pureS res = true) (hd : o.dst = some d) (hn : Nat.blt d n = true) (hg : guardL L (onlyE (looksE L o) tm) o = some true) (hiE : memN E i = false)
    (k : FOps C n mmf L tm0 E (i + 1) l ((d, res) :: delL tm d) TF) : FOps C n mmf L tm0 E i (o :: l) tm TF :=
  FOps.step hiE hg (fun mm' hb hu => op_clos hc ho hx hy h12 h13 h23 (mono_get hb hu _ _ g1) (mono_get hb hu _ _ g2) (mono_get hb hu _ _ g3) hpure hd hn) hd k
end

/-- A new variable of a type of one cell, of which nothing is known. -/
theorem s_allocZ {C : Ctx} {n : Nat} {tm : TM} {mm : MM} {L l : List Oper} {T : TM → MM → Prop} {o : Oper} {d : Nat} {e : TypeId} {zv : Value} (hz : ∀ w, (zeroValue e).run C.P w = .ok zv w) (h1 : zv.oneCell' = true) (hc : zv.cells = #[zv])
    (ho : o.op = .alloc e) (hi : getM mm d = none) (hd : o.dst = some d) (hn : Nat.blt d n = true) (hg : guardL L tm o = some true)
    (k : SOps C n L.toArray l ((d, .v (.one (.ptr d 0))) :: delL tm d) ((d, .box [.any]) :: mm) T) : SOps C n L.toArray (o :: l) tm mm T := by
  have h : OpR C n o tm mm ((d, .v (.one (.ptr d 0))) :: delL tm d) ((d, .box [.any]) :: mm) := by
    intro a w ⟨H, Z, hm⟩
    obtain ⟨H', Z', h3⟩ := hm.newBox hi (Nat.blt_eq.mp hn) e zv.cells [.any] (by rw [hc]; rfl) (fun j c hcj => by
      match j, hcj with
      | 0, hcj => simp at hcj; subst hcj; exact ⟨zv, by rw [hc]; rfl, h1, trivial⟩
      | j + 1, hcj => simp at hcj)
    refine .inl ⟨_, _, ?_, H', Z', by rw [hd]; exact h3⟩
    simp [execOp, ho, Instr.alloc, hz, newVar, newRow, newObj, Sem.run]
  exact s_step h.wp hg k

set_option maxHeartbeats 4000000 in
theorem shrink1_c (ks : List Int) (c : List Nat) (x : Int) (h0 : 0 ≤ x) (h1 : x < (c.length : Int)) :
    ConS Tryd.prog 35 (entF intF (numM ks)) (natF c) [.one (.c (.int .i64 x)), .one (.ptr given 0), .one (.ptr (given + 1) 0)] (Rv (.int .i64 (plI ks c x))) := by
  have hx := cl_at (l := c) h0 h1
  refine conS_of (c := _) Tryd.func35 rfl rfl rfl (by decide) fun w M0 H Z => ?_
  repeat' (first
    | (refine g_drawA mix rfl rfl rfl rfl rfl rfl ?_; refine drun_ th rfl ?_)
    | (refine DOps.nil ?_; refine run_ th rfl ?_)
    | refine g_seq ?_
    | (refine g_region ?_; refine run_ th rfl ?_)
    | (refine g_drawC mix rfl rfl ?_; refine drun_ th rfl ?_)
    | (refine g_drawEC mix rfl rfl ?_; refine erun_ th rfl ?_)
    | refine SOps.nil ?_
    | refine DOps.nil ?_
    | refine EOps.nil ?_ rfl rfl
    | refine g_block ?_
    | refine g_inBlock ?_
    | refine g_skip ?_
    | refine g_exit rfl ?_
    | refine g_if_true rfl ?_
    | refine g_if_false rfl ?_
    | (refine s_split rfl rfl (fun hb => ?_) (fun hb => ?_) <;> (try simp only [decide_eq_true_eq, decide_eq_false_iff_not, Bool.not_eq_true', Bool.not_eq_false', Bool.not_eq_true, Bool.not_eq_false, Bool.not_true, Bool.not_false, Bool.false_eq_true, Bool.true_eq_false, reduceCtorEq, not_true_eq_false, not_false_eq_true, List.length_map] at hb) <;> first | (exfalso; omega) | refine run_ th rfl ?_)
    | (refine d_split rfl rfl rfl (fun hb => ?_) (fun hb => ?_) <;> (try simp only [decide_eq_true_eq, decide_eq_false_iff_not, Bool.not_eq_true', Bool.not_eq_false', Bool.not_eq_true, Bool.not_eq_false, Bool.not_true, Bool.not_false, Bool.false_eq_true, Bool.true_eq_false, reduceCtorEq, not_true_eq_false, not_false_eq_true, List.length_map] at hb) <;> first | (exfalso; omega) | refine drun_ th rfl ?_)
    | (refine g_if rfl (fun hb => ?_) (fun hb => ?_) <;> (try simp only [decide_eq_true_eq, decide_eq_false_iff_not, Bool.not_eq_true', Bool.not_eq_false', Bool.not_eq_true, Bool.not_eq_false, Bool.not_true, Bool.not_false, Bool.false_eq_true, Bool.true_eq_false, reduceCtorEq, not_true_eq_false, not_false_eq_true, List.length_map] at hb) <;> (try (exfalso; omega)))
    | (refine d_idx th rfl rfl rfl rfl rfl rfl rfl rfl rfl (x.toNat) _ (by omega) hx ?_; refine drun_ th rfl ?_)
    | (refine d_step (op_lookNI th rfl rfl rfl rfl rfl rfl rfl rfl rfl) rfl ?_; refine drun_ th rfl ?_)
    | refine g_endS th Tryd.func35 (.inr ⟨_, rfl⟩) rfl rfl rfl)
end Go.Sy
