/- Symbolic states: regions that draw their order and make variables: the engine; existential contracts; opening what is known by a property. -/
import Derived.Test.YthjpcefjgmklfaaSymQ
namespace Go.Sy
set_option linter.unusedSimpArgs false
set_option linter.unusedVariables false
set_option linter.unusedSectionVars false
open Go.RowKit

inductive OutE where
  | stop (i : Nat) (l : List Oper) (tm : TM) (R : List Rec)
  | bad

def goX (Θ : Tab) (n : Nat) (mm0 : MM) (L : List Oper) : Nat → List Oper → TM → List Rec → OutE
  | i, [], tm, R => .stop i [] tm R
  | i, o :: r, tm, R => match guardL L (onlyE (looksE L o) tm) o with
    | some true => match o.dst with
      | some d => match valE Θ (onlyE (looksE L o) tm) mm0 o.op with
        | some st => match setE n d st tm with
          | some tm' => goX Θ n mm0 L (i + 1) r tm' R
          | none => .stop i (o :: r) tm R
        | none => match o.op with
          | .alloc e => match tyGet Θ e with
            | some ⟨_, _, _, some zr, _⟩ => match hasI mm0 d with
              | false => match setE n d (.v (.one (.ptr d 0))) tm with
                | some tm' => goX Θ n mm0 L (i + 1) r tm' (⟨i, d, mkV.mapS SC.c zr, none⟩ :: R)
                | none => .stop i (o :: r) tm R
              | true => .stop i (o :: r) tm R
            | _ => .stop i (o :: r) tm R
          | _ => .stop i (o :: r) tm R
      | none => match o.op with
        | .store t x y => match tyGet Θ t with
          | some ⟨sz, _, _, _, _⟩ => match evalC (onlyE (looksE L o) tm) x with
            | some (.ptr d 0) => match findR d R with
              | some ⟨ra, rd, zr, none⟩ => match memN (ons o.after.toList) ra with
                | true => match evalV (onlyE (looksE L o) tm) y with
                  | some v => match v.cells.all SC.known with
                    | true => match Nat.beq v.cells.length sz with
                      | true => match spliceL zr 0 v.cells with
                        | some cs => goX Θ n mm0 L (i + 1) r tm (setRs d i cs R)
                        | none => .stop i (o :: r) tm R
                      | false => .stop i (o :: r) tm R
                    | false => .stop i (o :: r) tm R
                  | none => .stop i (o :: r) tm R
                | false => .stop i (o :: r) tm R
              | _ => .stop i (o :: r) tm R
            | _ => .stop i (o :: r) tm R
          | none => .stop i (o :: r) tm R
        | _ => .stop i (o :: r) tm R
    | some false => match o.dst with
      | some d => match setE n d (.tup []) tm with
        | some tm' => goX Θ n mm0 L (i + 1) r tm' R
        | none => .stop i (o :: r) tm R
      | none => .stop i (o :: r) tm R
    | none => .stop i (o :: r) tm R

section
variable {C : Ctx} {n : Nat} {mm0 : MM} {L : List Oper} {tm0 : TM} {T : TM → MM → Prop}

theorem mono_get {mm mm' : MM} (hb : ∀ q ∈ mm, q ∈ mm') (hu : ∀ p ∈ mm', ∀ q ∈ mm', p.1 = q.1 → p = q) : ∀ i o, getM mm i = some o → getM mm' i = some o :=
  fun i o h => getM_of_mem hu (hb _ (getM_mem h))

theorem goX_sound {Θ : Tab} (hΘ : tabOK C.P Θ) : ∀ {l : List Oper} {i : Nat} {tm : TM} {R : List Rec} {i' : Nat} {l' : List Oper} {tm' : TM} {R' : List Rec},
    goX Θ n mm0 L i l tm R = .stop i' l' tm' R' → EOps C n mm0 L tm0 i' l' tm' R' T → EOps C n mm0 L tm0 i l tm R T
  | [], i, tm, R, i', l', tm', R', h, k => by
    simp only [goX, OutE.stop.injEq] at h
    obtain ⟨rfl, rfl, rfl, rfl⟩ := h
    exact k
  | o :: r, i, tm, R, i', l', tm', R', h, k => by
    have same : OutE.stop i (o :: r) tm R = .stop i' l' tm' R' → EOps C n mm0 L tm0 i (o :: r) tm R T := by
      intro e
      injection e with e1 e2 e3 e4
      subst e1 e2 e3 e4
      exact k
    unfold goX at h
    split at h
    · rename_i hg
      split at h
      · rename_i d hd
        split at h
        · rename_i st hv
          split at h
          · rename_i tm1 hs
            obtain ⟨hn, rfl⟩ := setE_eq hs
            exact EOps.step hg (fun mm' hb hu => (valE_sound hΘ (valE_monoM (mono_get hb hu) hv) hd hn).toX) hd (goX_sound hΘ h k)
          · exact same h
        · split at h
          · rename_i e ho
            split at h
            · rename_i ht
              split at h
              · rename_i hfr
                split at h
                · rename_i tm1 hs
                  obtain ⟨hn, rfl⟩ := setE_eq hs
                  refine EOps.alloc hΘ hg ho ht hd hn hfr ?_
                  rw [← mapS_eq]
                  exact goX_sound hΘ h k
                · exact same h
              · exact same h
            · exact same h
          · exact same h
      · rename_i hd
        split at h
        · rename_i t x y ho
          split at h
          · rename_i ht
            split at h
            · rename_i d hx
              split at h
              · rename_i ra rd zr hf
                split at h
                · rename_i haf
                  split at h
                  · rename_i v hy
                    split at h
                    · rename_i hk
                      split at h
                      · rename_i hsz
                        split at h
                        · rename_i cs hsp
                          exact EOps.store hΘ hg ho ht hx hf rfl haf hy hk hsz hsp hd (goX_sound hΘ h k)
                        · exact same h
                      · exact same h
                    · exact same h
                  · exact same h
                · exact same h
              · exact same h
            · exact same h
          · exact same h
        · exact same h
    · rename_i hg
      split at h
      · rename_i d hd
        split at h
        · rename_i tm1 hs
          obtain ⟨hn, rfl⟩ := setE_eq hs
          exact EOps.skip hg hd hn (goX_sound hΘ h k)
        · exact same h
      · exact same h
    · exact same h

def runX (Θ : Tab) (n : Nat) (mm0 : MM) (L : List Oper) (i : Nat) (l : List Oper) (tm : TM) (R : List Rec) : Option OutE :=
  match nrmT tm with
  | some tm' => match goX Θ n mm0 L i l tm' R with
    | .stop a b c d => some (.stop a b c d)
    | .bad => none
  | none => none
variable {tm tm' : TM} {l l' : List Oper} {R R' : List Rec} {i i' : Nat} {o : Oper} {d t : Nat} {s : ST}
theorem erun_ {Θ : Tab} (hΘ : tabOK C.P Θ) (h : runX Θ n mm0 L i l tm R = some (.stop i' l' tm' R')) (k : EOps C n mm0 L tm0 i' l' tm' R' T) : EOps C n mm0 L tm0 i l tm R T := by
  unfold runX at h
  split at h
  · rename_i tm1 h1
    rw [← nrmT_eq h1]
    split at h
    · rename_i a b c d h3
      injection h with h
      injection h with e1 e2 e3 e4
      subst e1 e2 e3 e4
      exact goX_sound hΘ h3 k
    · cases h
  · cases h

variable {x y : Operand} {ty ty' : TypeId}
theorem e_step {st : ST} (h : ∀ mm', OpV C n o (onlyE (looksE L o) tm) mm' d st) (hg : guardL L (onlyE (looksE L o) tm) o = some true) (hd : o.dst = some d) (k : EOps C n mm0 L tm0 (i + 1) l ((d, st) :: delL tm d) R T) :
    EOps C n mm0 L tm0 i (o :: l) tm R T := EOps.step hg (fun mm' _ _ => (h mm').toX) hd k
theorem e_idx {Θ : Tab} (hΘ : tabOK C.P Θ) {nn : Bool} {sz : Nat} {xs : List (List CT)} {kd : IntKind} {m : Int} {e : Nat} {z bts : Nat} {ag : Bool} {zr : Option (List CT)} {ei : TyI}
    (ho : o.op = .indexAddr ty x y) (ht : tyGet Θ ty = some ⟨z, bts, ag, zr, .slice e⟩) (hei : tyGet Θ e = some ei) (hx : evalC (onlyE (looksE L o) tm) x = some (.c (.slice nn sz xs))) (hsz : Nat.beq ei.size sz = true)
    (hi : evalC (onlyE (looksE L o) tm) y = some (.c (.int kd m))) (hd : o.dst = some d) (hn : Nat.blt d n = true) (hg : guardL L (onlyE (looksE L o) tm) o = some true)
    (j : Nat) (cs : List CT) (hm : m = (j : Int)) (hj : xs[j]? = some cs) (k : EOps C n mm0 L tm0 (i + 1) l ((d, .v (.one (.eptr cs))) :: delL tm d) R T) : EOps C n mm0 L tm0 i (o :: l) tm R T :=
  e_step (fun mm' => op_idx hΘ ho ht hei hsz hx hi hm hj hd hn) hg hd k
theorem e_subI {a b : Int} (ho : o.op = .binOp .sub ty x y ty') (hx : evalC (onlyE (looksE L o) tm) x = some (.c (.int .i64 a))) (hy : evalC (onlyE (looksE L o) tm) y = some (.c (.int .i64 b))) (hd : o.dst = some d) (hn : Nat.blt d n = true) (hg : guardL L (onlyE (looksE L o) tm) o = some true)
    (hr : -9223372036854775808 ≤ a - b ∧ a - b ≤ 9223372036854775807) (k : EOps C n mm0 L tm0 (i + 1) l ((d, .v (.one (.c (.int .i64 (a - b))))) :: delL tm d) R T) : EOps C n mm0 L tm0 i (o :: l) tm R T :=
  e_step (fun mm' => op_arith (p := .sub) ho hx hy (IntWalk.i64_in _ (by omega)) hd hn) hg hd k
theorem e_call {g : FuncId} {args args' : List SV} {res : ST} (hc : Con C.P g [] args res []) {xs : Array Operand} {ts : Array TypeId}
    (ho : o.op = .call { callee := .value (.func g), args := xs, argTypes := ts }) (hargs : evalArgs (onlyE (looksE L o) tm) xs.toList = some args') (hren : renVs [] args = some args')
    (hpure : pureS res = true) (hd : o.dst = some d) (hn : Nat.blt d n = true) (hg : guardL L (onlyE (looksE L o) tm) o = some true)
    (k : EOps C n mm0 L tm0 (i + 1) l ((d, res) :: delL tm d) R T) : EOps C n mm0 L tm0 i (o :: l) tm R T :=
  EOps.step hg (fun mm' _ _ => op_callX hc [] ho hargs hren rfl rfl rfl hpure hd hn rfl) hd k
end

/-! Contracts of which the result is known by a property. -/
structure ConE (P : Program) (f : FuncId) (pre : List (List CT)) (args : List SV) (ι : Type) (Q : ι → Prop) (res : ι → ST) (post : ι → List (List CT)) : Prop where
  ok : CallOK P f
  calls : ∀ (w : World) (M0 : Nat → Prop) (H : Nat → Value) (Z : Nat → Nat) (vs : List Value), Pre w M0 H Z (preMM given pre) →
    Pw (fun v s => RepSV (Iof (preMM given pre)) H Z w (fun b => M0 b ∨ blksOf H (preMM given pre) b) v s) vs args →
    Calls P f vs.toArray w fun e w' => ∃ x, Q x ∧ ∃ v, e = .returned v ∧ Ext (blksOf H (preMM given pre)) w w' ∧
      (∀ p ∈ preMM given (post x), MemOK (Iof (preMM given pre)) H Z w' (fun b => M0 b ∨ blksOf H (preMM given pre) b) p.1 p.2) ∧
      RepST (Iof (preMM given pre)) H Z w' (fun b => M0 b ∨ blksOf H (preMM given pre) b) v (res x)

theorem Goes.weakR {C : Ctx} {f : FuncId} {n : Nat} {R R' : Ending → World → Prop} {t : List Item} {tm : TM} {mm : MM} (h : Goes C f n R t tm mm) (hR : ∀ e w, R e w → R' e w) : Goes C f n R' t tm mm := by
  intro a w hh b cs hb hk
  obtain ⟨e, w', fr, h1, h2⟩ := h a w hh b cs hb hk
  exact ⟨e, w', fr, hR e w' h1, h2⟩
end Go.Sy
