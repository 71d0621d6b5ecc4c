/- Layer: a drawn region whose chain stores into rows of one's own; make of rows of several cells. -/
import Derived.Test.YtdjocfajcbhmgaaDoorSy8
import Derived.Test.YtdjocfajcbhmgaaDoorBu1
set_option linter.unusedSimpArgs false
set_option linter.unusedVariables false
set_option linter.unusedSectionVars false
namespace Go.Sy
open Go.RowKit
section
variable {C : Ctx} {n : Nat} {L : List Oper} {tm : TM}
end
section
variable {C : Ctx} {n : Nat} {L l : List Oper} {o : Oper} {d : Nat}
variable {ι : Type} {tmF : TM} {ET : Nat → ι → TM} {MMx : Nat → ι → MM} {k : Nat} {x : ι}
variable {tm tm0 : TM} {E : List Nat} {i : Nat} {mmf : Nat → MM} {TF : TM → Prop} {p q : Operand} {ty ty' : TypeId}
end
section
variable {C : Ctx} {n : Nat} {tm : TM} {mm : MM} {o : Oper} {d : Nat} {x y : Operand}
end
section
variable {C : Ctx} {n : Nat} {tm : TM} {mm : MM} {L l : List Oper} {T : TM → MM → Prop} {o : Oper} {d : Nat} {x y : Operand}
end
section
variable {C : Ctx} {n : Nat} {tm tm0 : TM} {mm : MM} {L l : List Oper} {T : TM → Prop} {o : Oper} {d : Nat} {x y : Operand} {ty ty' : TypeId}
end
theorem s_allocZ {C : Ctx} {n : Nat} {tm : TM} {mm : MM} {L l : List Oper} {T : TM → MM → Prop} {o : Oper} {d : Nat} {e : TypeId} {zv : Value} (hz : ∀ w, (zeroValue e).run C.P w = .ok zv w) (h1 : zv.oneCell' = true) (hc : zv.cells = #[zv])
    (ho : o.op = .alloc e) (hi : getM mm d = none) (hd : o.dst = some d) (hn : Nat.blt d n = true) (hg : guardL L tm o = some true)
    (k : SOps C n L.toArray l ((d, .v (.one (.ptr d 0))) :: delL tm d) ((d, .box [.any]) :: mm) T) : SOps C n L.toArray (o :: l) tm mm T := by
  have h : OpR C n o tm mm ((d, .v (.one (.ptr d 0))) :: delL tm d) ((d, .box [.any]) :: mm) := by
    intro a w ⟨H, Z, hm⟩
    obtain ⟨H', Z', h3⟩ := hm.newBox hi (Nat.blt_eq.mp hn) e zv.cells [.any] (by rw [hc]; rfl) (fun j c hcj => by
      match j, hcj with
      | 0, hcj => simp at hcj; subst hcj; exact ⟨zv, by rw [hc]; rfl, h1, trivial⟩
      | j + 1, hcj => simp at hcj)
    refine .inl ⟨_, _, ?_, H', Z', by rw [hd]; exact h3⟩
    simp [execOp, ho, Instr.alloc, hz, newVar, newRow, newObj, Sem.run]
  exact s_step h.wp hg k
section
variable {C : Ctx} {n : Nat} {tm : TM} {mm : MM} {L l : List Oper} {T : TM → MM → Prop} {o : Oper} {d : Nat} {x : Operand}
theorem op_plen {Θ : Tab} (hΘ : tabOK C.P Θ) {t : TypeId} {z bts e : Nat} {ag : Bool} {zr : Option (List CT)} {i c e' sz : Nat} {qs : PQ} {v : Value} {xs : List (List CT)}
    (ho : o.op = .call { callee := .builtin .len, args := #[x], argTypes := #[t] }) (ht : tyGet Θ t = some ⟨z, bts, ag, zr, .slice e⟩)
    (hx : evalC tm x = some (.c (.val v))) (hi : getM mm i = some (.pool e' sz qs)) (hk : qs[c]? = some (v, xs)) (hd : o.dst = some d) (hn : Nat.blt d n = true) :
    OpV C n o tm mm d (.v (.one (.c (.int .i64 (xs.length : Int))))) :=
  OpV.val hd hn _ fun H Z a w hmod => by
    obtain ⟨inf, de, hf⟩ := tyF hΘ ht
    have hde : de = .slice e := by
      have := hf.sh
      cases de <;> simp [shChk] at this ⊢
      exact this
    subst hde
    obtain ⟨_, hpool⟩ := hmod.mem _ (getM_mem hi)
    have hpool : PoolOK w (Mof C H mm) e' sz qs := hpool
    obtain ⟨us, g1, _, _⟩ := hpool.row hk
    have hv := RepC.val_inv (evalC_rep hmod hx)
    have hshape : ∃ (ad : Option Addr) (c : Nat), a.eval x = .slice ad xs.length c := by
      rcases g1.2 with ⟨hh, hz⟩ | ⟨g, cap, cur, hh, _⟩
      · rw [hv, hh, hz]; exact ⟨_, _, rfl⟩
      · rw [hv, hh]; exact ⟨_, _, rfl⟩
    obtain ⟨ad, c, hv⟩ := hshape
    refine ⟨.int .i64 (xs.length : Int), ?_, .int _ _⟩
    simp [execOp, ho, resolve, invoke, builtin, Builtin.len_, hf.underlying, hv, goInt]
theorem s_plen {Θ : Tab} (hΘ : tabOK C.P Θ) {t : TypeId} {z bts e : Nat} {ag : Bool} {zr : Option (List CT)} {e' sz : Nat} {qs : PQ} {v : Value} {xs : List (List CT)} (i c : Nat)
    (ho : o.op = .call { callee := .builtin .len, args := #[x], argTypes := #[t] }) (ht : tyGet Θ t = some ⟨z, bts, ag, zr, .slice e⟩)
    (hx : evalC tm x = some (.c (.val v))) (hi : getM mm i = some (.pool e' sz qs)) (hk : qs[c]? = some (v, xs)) (hd : o.dst = some d) (hn : Nat.blt d n = true) (hg : guardL L tm o = some true) (m : Int) (hm : (xs.length : Int) = m)
    (k : SOps C n L.toArray l ((d, .v (.one (.c (.int .i64 m)))) :: delL tm d) mm T) : SOps C n L.toArray (o :: l) tm mm T := by
  subst hm
  exact s_step (op_plen hΘ ho ht hx hi hk hd hn).wp hg k
end
section
variable {C : Ctx} {n : Nat} {tm : TM} {mm : MM} {f : FuncId} {R : Ending → World → Prop} {k : List Item}
end
section
variable {C : Ctx} {n : Nat} {tm : TM} {mm : MM} {f : FuncId} {R : Ending → World → Prop} {k : List Item}
def headI : List Item → Option Nat
  | .code (.region i _ _) :: _ => some i
  | .code (.seq (.region i _ _) _) :: _ => some i
  | _ => none
theorem g_atR (i : Nat) (_ : headI k = some i) (h : Goes C f n R k tm mm) : Goes C f n R k tm mm := h
end
section
variable {C : Ctx} {n : Nat} {tm : TM} {mm : MM} {f : FuncId} {R : Ending → World → Prop} {k : List Item}
end
theorem le_lit {a b : Bool} (h : a = b) : LeT (.v (.one (.lit a))) (.v (.one (.c (.bool b)))) := by subst h; exact .v (.one (.lit _))
end Go.Sy
