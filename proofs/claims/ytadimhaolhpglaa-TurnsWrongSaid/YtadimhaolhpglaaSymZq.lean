/- Layer: a drawn region whose chain stores into rows of one's own; make of rows of several cells. -/
import Derived.Test.YtadimhaolhpglaaSy8
import Derived.Test.YtadimhaolhpglaaBu1
set_option linter.unusedSimpArgs false
set_option linter.unusedVariables false
set_option linter.unusedSectionVars false
namespace Go.Sy
open Go.RowKit

/-! ### What a step waits for, through others -/
def depsL (L : List Oper) : List Nat → List Nat
  | [] => []
  | e :: r => (match nthO L e with | some o => ons o.after.toList | none => []) ++ depsL L r
def expE (L : List Oper) : Nat → List Nat → List Nat
  | 0, S => S
  | k + 1, S => expE L k (S ++ depsL L S)
theorem depsL_down {L : List Oper} {listed : Array Bool} (hdn : DownL L listed) : ∀ {S : List Nat}, (∀ e ∈ S, listed.getD e false = true) → ∀ i ∈ depsL L S, listed.getD i false = true
  | [], _, i, hi => by cases hi
  | e :: r, h, i, hi => by
    unfold depsL at hi
    rcases List.mem_append.1 hi with hi | hi
    · cases ho : nthO L e with
      | none => rw [ho] at hi; cases hi
      | some o =>
        rw [ho] at hi
        exact hdn e o (by rw [← nthO_get]; exact ho) (h e List.mem_cons_self) i hi
    · exact depsL_down hdn (fun e' he => h e' (List.mem_cons_of_mem _ he)) i hi
theorem expE_down {L : List Oper} {listed : Array Bool} (hdn : DownL L listed) : ∀ (k : Nat) {S : List Nat}, (∀ e ∈ S, listed.getD e false = true) → ∀ i ∈ expE L k S, listed.getD i false = true
  | 0, _, h, i, hi => h i hi
  | k + 1, S, h, i, hi => by
    unfold expE at hi
    refine expE_down hdn k (fun e he => ?_) i hi
    rcases List.mem_append.1 he with he | he
    · exact h e he
    · exact depsL_down hdn h e he

section
variable {C : Ctx} {n : Nat} {L : List Oper} {tm : TM}
end
section
variable {C : Ctx} {n : Nat} {L l : List Oper} {o : Oper} {d : Nat}
variable {ι : Type} {tmF : TM} {ET : Nat → ι → TM} {MMx : Nat → ι → MM} {k : Nat} {x : ι}
variable {tm tm0 : TM} {E : List Nat} {i : Nat} {mmf : Nat → MM} {TF : TM → Prop} {p q : Operand} {ty ty' : TypeId}
theorem f_loada {Θ : Tab} (hΘ : tabOK C.P Θ) {ti : TyI} {r j off e sz : Nat} {nn : Bool} {xs : List (List CT)} {ys : List CT} {s : SV} (cs : List CT)
    (ho : o.op = .load ty p) (ht : tyGet Θ ty = some ti) (hx : evalC (onlyE (looksE L o) tm) p = some (.aptr r j off)) (hi : getM (mmf i) r = some (.arr nn e sz xs)) (hj : xs[j]? = some cs)
    (hs : subL cs off ti.size = some ys) (hv : mkV SC.c ti.agg ys = some s) (hd : o.dst = some d) (hn : Nat.blt d n = true) (hg : guardL L (onlyE (looksE L o) tm) o = some true) (hiE : memN E i = false)
    (k : FOps C n mmf L tm0 E (i + 1) l ((d, .v s) :: delL tm d) TF) : FOps C n mmf L tm0 E i (o :: l) tm TF :=
  FOps.step hiE hg (fun mm' hb hu => (op_load_aptr hΘ ho ht hx (mono_get hb hu _ _ hi) hj hs hv hd hn).toX) hd k
end

section
variable {C : Ctx} {n : Nat} {tm : TM} {mm : MM} {o : Oper} {d : Nat} {x y : Operand}
/-- make, as a row of one's own, of elements of several cells. -/
theorem op_makeW {Θ : Tab} (hΘ : tabOK C.P Θ) {t : TypeId} {z bts e : Nat} {ag : Bool} {zt : Option (List CT)} {ei : TyI} {cs : List CT} {kx ky : IntKind} {v v' : Int}
    (ho : o.op = .makeSlice t x y) (ht : tyGet Θ t = some ⟨z, bts, ag, zt, .slice e⟩) (hei : tyGet Θ e = some ei) (hz : ei.zero = some cs) (hs0 : Nat.blt 0 ei.size = true) (hs1 : Nat.beq ei.size cs.length = true)
    (hx : evalC tm x = some (.c (.int kx v))) (hy : evalC tm y = some (.c (.int ky v'))) (hi : getM mm d = none) (hd : o.dst = some d) (hn : Nat.blt d n = true)
    (m : Nat) (hv : v = (m : Int)) (hv' : v' = (m : Int)) (hbig : m ≤ 9223372036854775807 ∧ ei.bytes * m ≤ 281474976710656) :
    OpR C n o tm mm ((d, .v (.one (.own d))) :: delL tm d) ((d, .arr true e ei.size (List.replicate m cs)) :: mm) := by
  intro a w ⟨H, Z, hm⟩
  subst hv hv'
  have h1 : a.eval x = .int kx m := RepC.int_inv (evalC_rep hm hx)
  have h2 : a.eval y = .int ky m := RepC.int_inv (evalC_rep hm hy)
  obtain ⟨inf, de, hf⟩ := tyF hΘ ht
  obtain ⟨inf', de', hf'⟩ := tyF hΘ hei
  obtain ⟨zv, hzv, hzc, hzl⟩ := hf'.zero cs hz
  obtain ⟨q1, q2⟩ := zchk_cells (w := w) (M := Mof C H mm) hzc
  have hde : de = .slice e := by
    have := hf.sh
    cases de <;> simp [shChk] at this ⊢
    exact this
  subst hde
  have hs1 : ei.size = cs.length := Nat.eq_of_beq_eq_true hs1
  have hs0 : 0 < ei.size := Nat.blt_eq.mp hs0
  have hrun0 := run_make (P := C.P) w t e inf' zv hf.und hf'.info hzv kx ky m m (by omega) (by omega) (by rw [hf'.bytes]; omega) (by omega)
  rw [hf'.size] at hrun0
  have hcs : zv.cells.size = ei.size := by rw [q1, hs1]
  have hcells : ∀ i, i < m → ∀ j, j < ei.size → (madeCells zv.cells (m * ei.size))[i * ei.size + j]? = some (zv.cells[j]!) := by
    intro i hi j hj
    have hlt : i * ei.size + j < m * ei.size := by
      have := Nat.mul_le_mul_right ei.size (show i + 1 ≤ m from hi)
      rw [Nat.add_mul, Nat.one_mul] at this
      omega
    simp only [madeCells]
    rw [Array.getElem?_map, Array.getElem?_range]
    rw [if_pos hlt]
    simp only [Option.map_some, hcs]
    rw [show (i * ei.size + j) % ei.size = j by rw [Nat.mul_comm, Nat.mul_add_mod, Nat.mod_eq_of_lt hj]]
  have hrun : (execOp a.eval o).run C.P w = .ok (.value (.slice (some ⟨w.heap.size, 0, none⟩) m m)) (w.alloc (.cells (madeCells zv.cells (m * ei.size)) e)) := by
    simp only [execOp, ho, h1, h2, Sem.run_bind]
    simp [hrun0, Sem.run_pure]
  have hget : ∀ (k : Nat) (q : List CT), (List.replicate m cs)[k]? = some q → k < m ∧ q = cs := fun k q hk => by
    rw [List.getElem?_replicate] at hk
    split at hk
    · rename_i h; injection hk with hk; exact ⟨h, hk.symm⟩
    · cases hk
  refine .inl ⟨_, _, hrun, upd H d (.slice (some ⟨w.heap.size, 0, none⟩) m m), upd Z d ei.size, ?_⟩
  rw [hd]
  refine hm.add (i := d) (hv := .slice (some ⟨w.heap.size, 0, none⟩) m m) (z := ei.size) (o := .arr true e ei.size (List.replicate m cs)) (getM_none hi) (Nat.blt_eq.mp hn) rfl (alloc_ext w _) ?_ ?_ ?_
  · intro b hb
    simp [Hb, hblk] at hb
    subst hb
    exact ⟨Nat.le_refl _, by show _ < (w.heap.push _).size; rw [Array.size_push]; omega⟩
  · intro hMM hfr
    refine ⟨upd_self _ _ _, (madeCells zv.cells (m * ei.size)).toList, ?_, by rw [upd_self]; simp, fun q hq => by rw [List.mem_replicate] at hq; rw [hq.2, hs1], fun k x hk j c hc => ?_⟩
    · rw [upd_self, List.length_replicate]
      exact World.ownsRow_lit w _ m (Nat.zero_le _) (by simp only [maxLen]; omega) (by simp [madeCells])
    · obtain ⟨g1, rfl⟩ := hget k x hk
      obtain ⟨u, hu, hr⟩ := q2 j c hc
      have hjl : j < ei.size := by rw [hs1]; exact (List.getElem?_eq_some_iff.1 hc).1
      refine ⟨u, ?_, hr.mono (alloc_ext w _).size hfr hMM⟩
      rw [Array.getElem?_toList, hcells k g1 j hjl, getElem!_def, hu]
  · exact ⟨⟨_, List.mem_cons_self, rfl⟩, (upd_self _ _ _).symm⟩
end
section
variable {C : Ctx} {n : Nat} {tm : TM} {mm : MM} {L l : List Oper} {T : TM → MM → Prop} {o : Oper} {d : Nat} {x y : Operand}
theorem s_makeW {Θ : Tab} (hΘ : tabOK C.P Θ) {t : TypeId} {z bts e : Nat} {ag : Bool} {zt : Option (List CT)} {ei : TyI} {cs : List CT} {kx ky : IntKind} {v v' : Int}
    (ho : o.op = .makeSlice t x y) (ht : tyGet Θ t = some ⟨z, bts, ag, zt, .slice e⟩) (hei : tyGet Θ e = some ei) (hz : ei.zero = some cs) (hs0 : Nat.blt 0 ei.size = true) (hs1 : Nat.beq ei.size cs.length = true)
    (hx : evalC tm x = some (.c (.int kx v))) (hy : evalC tm y = some (.c (.int ky v'))) (hi : getM mm d = none) (hd : o.dst = some d) (hn : Nat.blt d n = true) (hg : guardL L tm o = some true)
    (m : Nat) (hv : v = (m : Int)) (hv' : v' = (m : Int)) (hbig : m ≤ 9223372036854775807 ∧ ei.bytes * m ≤ 281474976710656)
    (k : SOps C n L.toArray l ((d, .v (.one (.own d))) :: delL tm d) ((d, .arr true e ei.size (List.replicate m cs)) :: mm) T) : SOps C n L.toArray (o :: l) tm mm T :=
  s_step (op_makeW hΘ ho ht hei hz hs0 hs1 hx hy hi hd hn m hv hv' hbig).wp hg k
end
section
variable {C : Ctx} {n : Nat} {tm tm0 : TM} {mm : MM} {L l : List Oper} {T : TM → Prop} {o : Oper} {d : Nat} {x y : Operand} {ty ty' : TypeId}
end
section
variable {C : Ctx} {n : Nat} {tm : TM} {mm : MM} {L l : List Oper} {T : TM → MM → Prop} {o : Oper} {d : Nat} {x : Operand}
end
end Go.Sy
