/- Symbolic states: contracts of functions that return a pointer to a variable of their making. -/
import Derived.Test.YthjpcefjgmklfaaSymX
namespace Go.Sy
set_option linter.unusedSimpArgs false
set_option linter.unusedVariables false
set_option linter.unusedSectionVars false
open Go.RowKit

def NewAt (w : World) (M0 : Nat → Prop) (cs : List CT) (e : Ending) (w' : World) : Prop :=
  ∃ b ty us, e = .returned (.pointer (some ⟨b, 0, none⟩)) ∧ Ext (fun _ => False) w w' ∧ w.heap.size ≤ b ∧ w'.heap[b]? = some (.cells us ty (0, 0)) ∧ us.size = cs.length ∧
    ∀ (j : Nat) (c : CT), cs[j]? = some c → ∃ u : Value, us[j]? = some u ∧ RepC w' (fun q => M0 q ∨ q = b) u c
structure ConN (P : Program) (f : FuncId) (args : List SV) (cs : List CT) : Prop where
  ok : CallOK P f
  calls : ∀ (w : World) (M0 : Nat → Prop) (H : Nat → Value) (Z : Nat → Nat) (vs : List Value), (∀ b, M0 b → b < w.heap.size) →
    Pw (fun v s => RepSV (Iof []) H Z w M0 v s) vs args → Calls P f vs.toArray w (NewAt w M0 cs)

section
variable {C : Ctx} {n : Nat} {tm : TM} {mm : MM} {o : Oper} {d : Nat} {L l : List Oper} {T : TM → MM → Prop}
theorem op_callN {f : FuncId} {args : List SV} {cs : List CT} (hc : ConN C.P f args cs) {xs : Array Operand} {ts : Array TypeId}
    (ho : o.op = .call { callee := .value (.func f), args := xs, argTypes := ts }) (hargs : evalArgs tm xs.toList = some args) (hren : renVs [] args = some args)
    (hi : getM mm d = none) (hd : o.dst = some d) (hn : Nat.blt d n = true) :
    OpW C n o tm mm ((d, .v (.one (.ptr d 0))) :: delL tm d) ((d, .box (cs.map SC.c)) :: mm) := by
  intro a w K Q ⟨H, Z, hm⟩ hK
  have hargs' := evalArgs_rep hm hargs
  have hI : ∀ i j, renI [] i = some j → Iof mm j → Iof [] i ∧ H i = H j := fun i j h _ => by
    have := (renI_spec h).2; simp at this
  have hM0 : ∀ b, Mof C H mm b → b < w.heap.size := by
    rintro b (hb | ⟨p, hp, hpb⟩)
    · exact Nat.lt_of_lt_of_le (hm.m0 b hb) hm.ext.size
    · exact (hm.fresh p hp b hpb).2
  have hcalls := hc.calls w (Mof C H mm) H Z _ hM0 (renVs_rep hI (fun b _ h => h) hren hargs')
  unfold Oper.wp
  have hrun : (execOp a.eval o).run C.P w = .ok (.enter f (xs.toList.map a.eval).toArray) w := by
    have hmap : xs.map a.eval = (xs.toList.map a.eval).toArray := by simp [← List.map_toArray]
    simp only [execOp, ho, resolve, hmap, Deferred.ofValue, Act.eval, invoke, Sem.run_bind, Sem.run_pure, Result.andThen_ok, Array.append_empty, Array.empty_append, hc.ok w]
  rw [hrun]
  show Calls _ _ _ _ _
  refine Calls.mono hcalls ?_
  rintro e w' ⟨b, ty, us, rfl, hext, hb, hh, hl, hr⟩
  refine hK _ _ ⟨Sy.upd H d (.pointer (some ⟨b, 0, none⟩)), Sy.upd Z d 0, ?_⟩
  rw [hd]
  have hbl : b < w'.heap.size := (Array.getElem?_eq_some_iff.1 hh).1
  refine hm.add (i := d) (hv := .pointer (some ⟨b, 0, none⟩)) (z := 0) (o := .box (cs.map SC.c)) (getM_none hi) (Nat.blt_eq.mp hn) rfl hext ?_ ?_ ?_
  · intro b' hb'
    simp [hblk] at hb'
    subst hb'
    exact ⟨hb, hbl⟩
  · intro hMM hfr
    refine ⟨b, ty, us, upd_self _ _ _, hh, by simpa using hl, fun j c hc => ?_⟩
    rw [List.getElem?_map] at hc
    cases hq : cs[j]? with
    | none => rw [hq] at hc; cases hc
    | some ct =>
      rw [hq] at hc; injection hc with hc; subst hc
      obtain ⟨u, hu, hrep⟩ := hr j ct hq
      refine ⟨u, hu, hrep.one, RepC.mono hrep (Nat.le_refl _) (fun _ _ _ => rfl) (fun q hq hMq => ?_)⟩
      rcases hMq with hMq | ⟨p, hp, hpb⟩
      · exact .inl (.inl hMq)
      · rcases List.mem_cons.1 hp with rfl | hp
        · rw [upd_self] at hpb; simp [hblk] at hpb; exact .inr hpb.symm
        · have hne : p.1 ≠ d := fun e => getM_none hi ⟨p, hp, e⟩
          rw [upd_ne _ _ hne] at hpb
          exact .inl (.inr ⟨p, hp, hpb⟩)
  · exact ⟨⟨_, List.mem_cons_self, rfl⟩, b, by rw [upd_self]; rfl, rfl⟩
end

theorem conN_of {P : Program} {f : FuncId} {fn : Func} {c : Code} {args : List SV} {cs : List CT}
    (hf : P.funcs[f]? = some fn) (hb : fn.body = some c) (hn : Nat.ble args.length fn.ntmps = true) (hng : Nat.ble fn.ntmps given = true) (hnm : (fn.name == "runtime.NumGoroutine") = false)
    (h : ∀ (w : World) (M0 : Nat → Prop) (H : Nat → Value), Goes ⟨P, w, M0, fun _ => False, H⟩ f fn.ntmps (NewAt w M0 cs) [.code c] (argT 0 args) []) : ConN P f args cs := by
  refine ⟨callOK hf hb hnm, ?_⟩
  intro w M0 H Z vs hM0 hargs fs
  have hlen : vs.length = args.length := hargs.1
  let a : Act := { tmps := vs.toArray ++ Array.replicate (fn.ntmps - vs.toArray.size) undef, defers := [] }
  have hn := Nat.ble_eq.mp hn
  have hmod : Mod ⟨P, w, M0, fun _ => False, H⟩ H Z fn.ntmps (argT 0 args) [] a w := by
    refine ⟨rfl, by simp [a]; omega, Nat.ble_eq.mp hng, (fun p hp => by cases hp), Ext.refl _ _, hM0, (fun p hp => by cases hp), (fun p hp => by cases hp), (fun p hp => by cases hp), (fun p hp => by cases hp), ?_⟩
    intro p hp
    obtain ⟨j, s, rfl, hj⟩ := argT_mem hp
    obtain ⟨u, hu, hr⟩ := hargs.2 j s hj
    have hjl : j < vs.length := (List.getElem?_eq_some_iff.1 hu).1
    have : a.tmps.getD (0 + j) undef = u := by
      have hju : vs[j] = u := by
        have := List.getElem?_eq_getElem hjl
        rw [hu] at this
        injection this with this; exact this.symm
      simp [a, Array.getD_eq_getD_getElem?, Array.getElem?_append, hjl, hju]
    rw [this]
    exact RepSV.mono hr (fun i _ hi => ⟨hi, rfl, rfl⟩) (Nat.le_refl _) (fun _ _ _ => rfl) (fun b _ hb => by
      rcases hb with hb | ⟨p, hp, _⟩
      · exact hb
      · cases hp)
  let b : Frame := { (default : Frame) with fn := f, kind := .normal }
  have henter : Frame.enter P f vs.toArray .normal = b.at a [.code c] := by
    simp [Frame.enter, Frame.at, hf, hb, b, a]
  obtain ⟨e, w', fr, h1, h2, h3, h4⟩ := h w M0 H a w ⟨H, Z, hmod⟩ b fs rfl rfl
  rw [henter]
  exact ⟨e, w', fr, h1, h2, h3, h4⟩

theorem g_endN {P : Program} {w0 : World} {M0 : Nat → Prop} {f : FuncId} {n : Nat} {tm : TM} {mm : MM} {H : Nat → Value} {Θ : Tab} (hΘ : tabOK P Θ)
    {fn : Func} (hf : P.funcs[f]? = some fn) {i : Nat} {cs : List SC} {ct res : List CT} {t : List Item} (ht : t = [] ∨ ∃ k, t = .code .ret :: k)
    (hr : resE Θ tm mm fn.results.toList = some [.one (.ptr i 0)]) (hi : getM mm i = some (.box cs)) (hg : Nat.blt i given = true) (hc : ctsOf cs = some ct) (he : ct = res) :
    Goes ⟨P, w0, M0, fun _ => False, H⟩ f n (NewAt w0 M0 res) t tm mm := by
  subst he
  intro a w ⟨H', Z', hm⟩ b fs hb hk
  obtain ⟨v, h1, h2⟩ := results_run hΘ hm hr
  obtain ⟨_, b0, hb0, hv⟩ : RepSC (Iof mm) H' Z' w (Mof ⟨P, w0, M0, fun _ => False, H⟩ H' mm) v (.ptr i 0) := h2
  obtain ⟨b1, ty, vs, g1, g2, g3, g4⟩ := hm.mem _ (getM_mem hi)
  have hbb : b0 = b1 := by
    rw [show H' i = _ from g1] at hb0
    simp [hblk] at hb0
    exact hb0.symm
  subst hbb
  have hfr := (hm.fresh _ (getM_mem hi) b0 hb0).1
  have hge : w0.heap.size ≤ b0 := by
    rcases hfr with ⟨_, h⟩ | ⟨h, _⟩
    · exact h
    · have := Nat.blt_eq.mp hg
      simp only at h
      omega
  have hpw : Pw (fun u c => RepSC (Iof mm) H' Z' w (Mof ⟨P, w0, M0, fun _ => False, H⟩ H' mm) u c) vs.toList cs :=
    ⟨by simpa using g3, fun j c hc => let ⟨u, hu, _, hr⟩ := g4 j c hc; ⟨u, by simpa using hu, hr⟩⟩
  have hcp := ctsOf_pw hc hpw
  have hfin : NewAt w0 M0 ct (.returned v) w := by
    refine ⟨b0, ty, vs, by rw [hv], hm.ext, hge, g2, by simpa using hcp.1, fun j c hc => ?_⟩
    obtain ⟨u, hu, hrep⟩ := hcp.2 j c hc
    refine ⟨u, by simpa using hu, RepC.mono hrep (Nat.le_refl _) (fun _ _ _ => rfl) (fun q _ hq => ?_)⟩
    rcases hq with hq | rfl
    · exact .inl hq
    · exact .inr ⟨_, getM_mem hi, hb0⟩
  rcases ht with rfl | ⟨k, rfl⟩
  · exact ⟨.returned v, w, _, hfin, Steps.one step_end, hb, rfl, hm.defers, hk, fn, hb ▸ hf, h1⟩
  · exact ⟨.returned v, w, _, hfin, Steps.one step_ret, hb, rfl, hm.defers, hk, fn, hb ▸ hf, h1⟩
end Go.Sy
