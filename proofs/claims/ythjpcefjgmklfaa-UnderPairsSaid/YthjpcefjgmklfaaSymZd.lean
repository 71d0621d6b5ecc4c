/- Symbolic states: pairs of numbers compared. -/
import Derived.Test.YthjpcefjgmklfaaSymZc
namespace Go.Sy
set_option linter.unusedSimpArgs false
set_option linter.unusedVariables false
set_option linter.unusedSectionVars false
open Go.RowKit
section
variable {C : Ctx} {n : Nat} {tm : TM} {mm : MM} {L l : List Oper} {T : TM → MM → Prop} {o : Oper} {d : Nat}
theorem op_cmpP {p : BinOp} {t t' e' : Nat} {x y : Operand} {a b a' b' : Int} {Θ : Tab} (hΘ : tabOK C.P Θ) {zk bk be : Nat} {agk : Bool} {ztk zte : Option (List CT)}
    (ho : o.op = .binOp p t x y t') (hk : tyGet Θ t = some ⟨zk, bk, agk, ztk, .arr 2 e'⟩) (he : tyGet Θ e' = some ⟨1, be, false, zte, .int .i64⟩) (hq : C.P.eqGuardType C.P.depth t = false)
    (hp : p = .eql ∨ p = .neq) (hx : evalV tm x = some (.agg [.c (.int .i64 a), .c (.int .i64 b)])) (hy : evalV tm y = some (.agg [.c (.int .i64 a'), .c (.int .i64 b')])) (hd : o.dst = some d) (hn : Nat.blt d n = true) :
    OpV C n o tm mm d (.v (.one (.c (.bool (match p with | .eql => decide ((a, b) = (a', b')) | _ => !decide ((a, b) = (a', b'))))))) :=
  OpV.val hd hn _ fun H Z A w hm => by
    have h1 : A.eval x = pairV (a, b) := pairS_rep _ _ _ _ _ _ (evalV_rep hm hx)
    have h2 : A.eval y = pairV (a', b') := pairS_rep _ _ _ _ _ _ (evalV_rep hm hy)
    obtain ⟨inf, de, hf⟩ := tyF hΘ hk
    obtain ⟨inf', de', hf'⟩ := tyF hΘ he
    have e1 : de = .array 2 e' := by
      have := hf.sh
      cases de <;> simp [shChk] at this ⊢
      exact this
    have e2 : de' = .int .i64 := by
      have := hf'.sh
      cases de' <;> simp [shChk] at this ⊢
      exact this
    subst e1 e2
    have heq := run_equal_pair (w := w) hf hf' rfl rfl a b a' b'
    refine ⟨.bool (match p with | .eql => decide ((a, b) = (a', b')) | _ => !decide ((a, b) = (a', b'))), ?_, .bool _⟩
    rcases hp with rfl | rfl
    · simp only [execOp, ho, h1, h2, Sem.run_bind, pairV, run_eqGuard_agg w _ _ _ _ _ _ hq, Result.andThen_ok]
      simp only [binOp, Sem.run_bind, heq, Result.andThen_ok, Sem.run_pure]
    · simp only [execOp, ho, h1, h2, Sem.run_bind, pairV, run_eqGuard_agg w _ _ _ _ _ _ hq, Result.andThen_ok]
      simp only [binOp, Sem.run_bind, heq, Result.andThen_ok, Sem.run_pure]
theorem s_cmpP {p : BinOp} {t t' e' : Nat} {x y : Operand} {a b a' b' : Int} {Θ : Tab} (hΘ : tabOK C.P Θ) {zk bk be : Nat} {agk : Bool} {ztk zte : Option (List CT)}
    (ho : o.op = .binOp p t x y t') (hk : tyGet Θ t = some ⟨zk, bk, agk, ztk, .arr 2 e'⟩) (he : tyGet Θ e' = some ⟨1, be, false, zte, .int .i64⟩) (hq : C.P.eqGuardType C.P.depth t = false)
    (hp : p = .eql ∨ p = .neq) (hx : evalV tm x = some (.agg [.c (.int .i64 a), .c (.int .i64 b)])) (hy : evalV tm y = some (.agg [.c (.int .i64 a'), .c (.int .i64 b')])) (hd : o.dst = some d) (hn : Nat.blt d n = true)
    (hg : guardL L tm o = some true) (k : SOps C n L.toArray l ((d, .v (.one (.c (.bool (match p with | .eql => decide ((a, b) = (a', b')) | _ => !decide ((a, b) = (a', b'))))))) :: delL tm d) mm T) : SOps C n L.toArray (o :: l) tm mm T :=
  s_step (op_cmpP hΘ ho hk he hq hp hx hy hd hn).wp hg k
end
end Go.Sy
