/- Layer: a drawn region whose chain stores into rows of one's own; make of rows of several cells. -/
import Derived.Test.YtademmkjmpgplaaGreatDoorSy8
import Derived.Test.YtademmkjmpgplaaGreatDoorBu1
set_option linter.unusedSimpArgs false
set_option linter.unusedVariables false
set_option linter.unusedSectionVars false
namespace Go.Sy
open Go.RowKit

/-! ### What a step waits for, through others -/
def depsL (L : List Oper) : List Nat → List Nat
  | [] => []
  | e :: r => (match nthO L e with | some o => ons o.after.toList | none => []) ++ depsL L r
def expE (L : List Oper) : Nat → List Nat → List Nat
  | 0, S => S
  | k + 1, S => expE L k (S ++ depsL L S)
theorem depsL_down {L : List Oper} {listed : Array Bool} (hdn : DownL L listed) : ∀ {S : List Nat}, (∀ e ∈ S, listed.getD e false = true) → ∀ i ∈ depsL L S, listed.getD i false = true
  | [], _, i, hi => by cases hi
  | e :: r, h, i, hi => by
    unfold depsL at hi
    rcases List.mem_append.1 hi with hi | hi
    · cases ho : nthO L e with
      | none => rw [ho] at hi; cases hi
      | some o =>
        rw [ho] at hi
        exact hdn e o (by rw [← nthO_get]; exact ho) (h e List.mem_cons_self) i hi
    · exact depsL_down hdn (fun e' he => h e' (List.mem_cons_of_mem _ he)) i hi
theorem expE_down {L : List Oper} {listed : Array Bool} (hdn : DownL L listed) : ∀ (k : Nat) {S : List Nat}, (∀ e ∈ S, listed.getD e false = true) → ∀ i ∈ expE L k S, listed.getD i false = true
  | 0, _, h, i, hi => h i hi
  | k + 1, S, h, i, hi => by
    unfold expE at hi
    refine expE_down hdn k (fun e he => ?_) i hi
    rcases List.mem_append.1 he with he | he
    · exact h e he
    · exact depsL_down hdn h e he

section
variable {C : Ctx} {n : Nat} {L : List Oper} {tm : TM}
end
section
variable {C : Ctx} {n : Nat} {L l : List Oper} {o : Oper} {d : Nat}
variable {ι : Type} {tmF : TM} {ET : Nat → ι → TM} {MMx : Nat → ι → MM} {k : Nat} {x : ι}
variable {tm tm0 : TM} {E : List Nat} {i : Nat} {mmf : Nat → MM} {TF : TM → Prop} {p q : Operand} {ty ty' : TypeId}
end

section
variable {C : Ctx} {n : Nat} {tm : TM} {mm : MM} {o : Oper} {d : Nat} {x y : Operand}
end
section
variable {C : Ctx} {n : Nat} {tm : TM} {mm : MM} {L l : List Oper} {T : TM → MM → Prop} {o : Oper} {d : Nat} {x y : Operand}
end
section
variable {C : Ctx} {n : Nat} {tm tm0 : TM} {mm : MM} {L l : List Oper} {T : TM → Prop} {o : Oper} {d : Nat} {x y : Operand} {ty ty' : TypeId}
end
/-- A new variable of a type of one cell, of which nothing is known. -/
theorem s_allocZ {C : Ctx} {n : Nat} {tm : TM} {mm : MM} {L l : List Oper} {T : TM → MM → Prop} {o : Oper} {d : Nat} {e : TypeId} {zv : Value} (hz : ∀ w, (zeroValue e).run C.P w = .ok zv w) (h1 : zv.oneCell' = true) (hc : zv.cells = #[zv])
    (ho : o.op = .alloc e) (hi : getM mm d = none) (hd : o.dst = some d) (hn : Nat.blt d n = true) (hg : guardL L tm o = some true)
    (k : SOps C n L.toArray l ((d, .v (.one (.ptr d 0))) :: delL tm d) ((d, .box [.any]) :: mm) T) : SOps C n L.toArray (o :: l) tm mm T := by
  have h : OpR C n o tm mm ((d, .v (.one (.ptr d 0))) :: delL tm d) ((d, .box [.any]) :: mm) := by
    intro a w ⟨H, Z, hm⟩
    obtain ⟨H', Z', h3⟩ := hm.newBox hi (Nat.blt_eq.mp hn) e zv.cells [.any] (by rw [hc]; rfl) (fun j c hcj => by
      match j, hcj with
      | 0, hcj => simp at hcj; subst hcj; exact ⟨zv, by rw [hc]; rfl, h1, trivial⟩
      | j + 1, hcj => simp at hcj)
    refine .inl ⟨_, _, ?_, H', Z', by rw [hd]; exact h3⟩
    simp [execOp, ho, Instr.alloc, hz, newVar, newRow, newObj, Sem.run]
  exact s_step h.wp hg k
section
variable {C : Ctx} {n : Nat} {tm : TM} {mm : MM} {L l : List Oper} {T : TM → MM → Prop} {o : Oper} {d : Nat} {x : Operand}
/-- How long a row of a pool is. -/
theorem op_plen {Θ : Tab} (hΘ : tabOK C.P Θ) {t : TypeId} {z bts e : Nat} {ag : Bool} {zr : Option (List CT)} {i c e' sz : Nat} {qs : PQ} {v : Value} {xs : List (List CT)}
    (ho : o.op = .call { callee := .builtin .len, args := #[x], argTypes := #[t] }) (ht : tyGet Θ t = some ⟨z, bts, ag, zr, .slice e⟩)
    (hx : evalC tm x = some (.c (.val v))) (hi : getM mm i = some (.pool e' sz qs)) (hk : qs[c]? = some (v, xs)) (hd : o.dst = some d) (hn : Nat.blt d n = true) :
    OpV C n o tm mm d (.v (.one (.c (.int .i64 (xs.length : Int))))) :=
  OpV.val hd hn _ fun H Z a w hmod => by
    obtain ⟨inf, de, hf⟩ := tyF hΘ ht
    have hde : de = .slice e := by
      have := hf.sh
      cases de <;> simp [shChk] at this ⊢
      exact this
    subst hde
    obtain ⟨_, hpool⟩ := hmod.mem _ (getM_mem hi)
    have hpool : PoolOK w (Mof C H mm) e' sz qs := hpool
    obtain ⟨us, g1, _, _⟩ := hpool.row hk
    have hv := RepC.val_inv (evalC_rep hmod hx)
    have hshape : ∃ (ad : Option Addr) (c : Nat), a.eval x = .slice ad xs.length c := by
      rcases g1.2 with ⟨hh, hz⟩ | ⟨g, cap, cur, hh, _⟩
      · rw [hv, hh, hz]; exact ⟨_, _, rfl⟩
      · rw [hv, hh]; exact ⟨_, _, rfl⟩
    obtain ⟨ad, c, hv⟩ := hshape
    refine ⟨.int .i64 (xs.length : Int), ?_, .int _ _⟩
    simp [execOp, ho, resolve, invoke, builtin, Builtin.len_, hf.underlying, hv, goInt]
theorem s_plen {Θ : Tab} (hΘ : tabOK C.P Θ) {t : TypeId} {z bts e : Nat} {ag : Bool} {zr : Option (List CT)} {e' sz : Nat} {qs : PQ} {v : Value} {xs : List (List CT)} (i c : Nat)
    (ho : o.op = .call { callee := .builtin .len, args := #[x], argTypes := #[t] }) (ht : tyGet Θ t = some ⟨z, bts, ag, zr, .slice e⟩)
    (hx : evalC tm x = some (.c (.val v))) (hi : getM mm i = some (.pool e' sz qs)) (hk : qs[c]? = some (v, xs)) (hd : o.dst = some d) (hn : Nat.blt d n = true) (hg : guardL L tm o = some true) (m : Int) (hm : (xs.length : Int) = m)
    (k : SOps C n L.toArray l ((d, .v (.one (.c (.int .i64 m)))) :: delL tm d) mm T) : SOps C n L.toArray (o :: l) tm mm T := by
  subst hm
  exact s_step (op_plen hΘ ho ht hx hi hk hd hn).wp hg k
end
end Go.Sy
