/- Layer: a closure over a map and a row that it only reads. -/
import Derived.Test.YtadimhaolhpglaaQd
set_option linter.unusedSimpArgs false
set_option linter.unusedVariables false
set_option linter.unusedSectionVars false
namespace Go.Sy
open Go.RowKit

/-- What such a closure has in hand: a variable that holds a map, a variable that holds a frozen value, the map. -/
def mmS (es : List (FV × FV)) (ct : CT) : MM := [(given, .box [.mp (given + 2)]), (given + 1, .box [.c ct]), (given + 2, .mpo es)]
structure ConS (P : Program) (f : FuncId) (es : List (FV × FV)) (ct : CT) (args : List SV) (res : ST) : Prop where
  ok : CallOK P f
  calls : ∀ (w : World) (M0 : Nat → Prop) (H : Nat → Value) (Z : Nat → Nat) (vs : List Value), Pre w M0 H Z (mmS es ct) →
    Pw (fun v s => RepSV (Iof (mmS es ct)) H Z w (fun b => M0 b ∨ blksOf H (mmS es ct) b) v s) vs args →
    Calls P f vs.toArray w fun e w' => ∃ v, e = .returned v ∧ Ext (blksOf H (mmS es ct)) w w' ∧
      (∃ H' Z', H' given = H given ∧ H' (given + 1) = H (given + 1) ∧ H' (given + 2) = H (given + 2) ∧ ∀ p ∈ mmS es ct, MemOK (Iof (mmS es ct)) H' Z' w' (fun b => M0 b ∨ blksOf H (mmS es ct) b) p.1 p.2) ∧
      RepST (Iof (mmS es ct)) H Z w' (fun b => M0 b ∨ blksOf H (mmS es ct) b) v res
def EndS (H : Nat → Value) (Z : Nat → Nat) (es : List (FV × FV)) (ct : CT) (w : World) (M0 : Nat → Prop) (res : ST) (e : Ending) (w' : World) : Prop :=
  ∃ v, e = .returned v ∧ Ext (blksOf H (mmS es ct)) w w' ∧
      (∃ H' Z', H' given = H given ∧ H' (given + 1) = H (given + 1) ∧ H' (given + 2) = H (given + 2) ∧ ∀ p ∈ mmS es ct, MemOK (Iof (mmS es ct)) H' Z' w' (fun b => M0 b ∨ blksOf H (mmS es ct) b) p.1 p.2) ∧
      RepST (Iof (mmS es ct)) H Z w' (fun b => M0 b ∨ blksOf H (mmS es ct) b) v res

theorem mmS_mem {es : List (FV × FV)} {ct : CT} {p : Nat × MO} (h : p ∈ mmS es ct) : p = (given, .box [.mp (given + 2)]) ∨ p = (given + 1, .box [.c ct]) ∨ p = (given + 2, .mpo es) := by
  simpa [mmS] using h
theorem mmS_ge {es : List (FV × FV)} {ct : CT} {p : Nat × MO} (h : p ∈ mmS es ct) : given ≤ p.1 := by
  rcases mmS_mem h with rfl | rfl | rfl <;> simp
theorem mmS_uniq {es : List (FV × FV)} {ct : CT} {p q : Nat × MO} (hp : p ∈ mmS es ct) (hq : q ∈ mmS es ct) (h : p.1 = q.1) : p = q := by
  rcases mmS_mem hp with rfl | rfl | rfl <;> rcases mmS_mem hq with rfl | rfl | rfl <;> first | rfl | (simp [given] at h)

theorem conS_of {P : Program} {f : FuncId} {fn : Func} {c : Code} {es : List (FV × FV)} {ct : CT} {args : List SV} {res : ST}
    (hf : P.funcs[f]? = some fn) (hb : fn.body = some c) (hn : Nat.ble args.length fn.ntmps = true) (hng : Nat.ble fn.ntmps given = true) (hnm : (fn.name == "runtime.NumGoroutine") = false)
    (h : ∀ (w : World) (M0 : Nat → Prop) (H : Nat → Value) (Z : Nat → Nat),
      Goes ⟨P, w, M0, blksOf H (mmS es ct), H, fun _ => False, fun _ h => h.elim⟩ f fn.ntmps (EndS H Z es ct w M0 res) [.code c] (argT 0 args) (mmS es ct)) :
    ConS P f es ct args res := by
  refine ⟨callOK hf hb hnm, ?_⟩
  intro w M0 H Z vs hpre hargs cs
  have hlen : vs.length = args.length := hargs.1
  let a : Act := { tmps := vs.toArray ++ Array.replicate (fn.ntmps - vs.toArray.size) undef, defers := [] }
  have hn := Nat.ble_eq.mp hn
  have hmod : Mod ⟨P, w, M0, blksOf H (mmS es ct), H, fun _ => False, fun _ h => h.elim⟩ H Z fn.ntmps (argT 0 args) (mmS es ct) a w := by
    refine ⟨rfl, by simp [a]; omega, Nat.ble_eq.mp hng, fun _ _ _ => rfl, Ext.refl _ _, hpre.m0, fun p hp q hq he => mmS_uniq hp hq he, hpre.mem, ?_, hpre.sep, ?_⟩
    · intro p hp b hb
      have := mmS_ge hp
      exact ⟨.inr ⟨this, .inl ⟨p, hp, hb⟩⟩, hpre.lt p hp b hb⟩
    · intro p hp
      obtain ⟨j, s, rfl, hj⟩ := argT_mem hp
      obtain ⟨u, hu, hr⟩ := hargs.2 j s hj
      have hjl : j < vs.length := (List.getElem?_eq_some_iff.1 hu).1
      have : a.tmps.getD (0 + j) undef = u := by
        have hju : vs[j] = u := by
          have := List.getElem?_eq_getElem hjl
          rw [hu] at this
          injection this with this; exact this.symm
        simp [a, Array.getD_eq_getD_getElem?, Array.getElem?_append, hjl, hju]
      rw [this]
      exact hr
  let b : Frame := { (default : Frame) with fn := f, kind := .normal }
  have henter : Frame.enter P f vs.toArray .normal = b.at a [.code c] := by
    simp [Frame.enter, Frame.at, hf, hb, b, a]
  obtain ⟨e, w', fr, h1, h2, h3, h4⟩ := h w M0 H Z a w ⟨H, Z, hmod⟩ b cs rfl rfl
  rw [henter]
  exact ⟨e, w', fr, h1, h2, h3, h4⟩

theorem g_endS {P : Program} {w0 : World} {M0 : Nat → Prop} {f : FuncId} {n : Nat} {tm : TM} {es : List (FV × FV)} {ct : CT} {H : Nat → Value} {Z : Nat → Nat} {Θ : Tab} (hΘ : tabOK P Θ)
    {fn : Func} (hf : P.funcs[f]? = some fn) {rs : List SV} {res : ST} {t : List Item} (ht : t = [] ∨ ∃ k, t = .code .ret :: k)
    (hr : resE Θ tm (mmS es ct) fn.results.toList = some rs) (hp : pureS (packS rs) = true) (he : packS rs = res) :
    Goes ⟨P, w0, M0, blksOf H (mmS es ct), H, fun _ => False, fun _ h => h.elim⟩ f n (EndS H Z es ct w0 M0 res) t tm (mmS es ct) := by
  subst he
  intro a w ⟨H', Z', hm⟩ b cs hb hk
  obtain ⟨v, h1, h2⟩ := results_run hΘ hm hr
  have hH : ∀ p ∈ mmS es ct, H' p.1 = H p.1 := fun p hp => hm.hg p hp (mmS_ge hp)
  have hsub : ∀ q, (M0 q ∨ blksOf H (mmS es ct) q) → Mof ⟨P, w0, M0, blksOf H (mmS es ct), H, fun _ => False, fun _ h => h.elim⟩ H' (mmS es ct) q := by
    rintro q (hq | ⟨p, hp, hpb⟩)
    · exact .inl hq
    · exact .inr ⟨p, hp, by rw [hH p hp]; exact hpb⟩
  have hfin : EndS H Z es ct w0 M0 (packS rs) (.returned v) w := by
    refine ⟨v, rfl, hm.ext, ⟨H', Z', hH (given, .box [.mp (given + 2)]) (by simp [mmS]), hH (given + 1, .box [.c ct]) (by simp [mmS]), hH (given + 2, .mpo es) (by simp [mmS]), fun p hp => ?_⟩,
      h2.mono (fun i hi => by rw [pureS_uses hp] at hi; cases hi) (Nat.le_refl _) (fun _ _ _ => rfl) (fun q _ hq => hsub q hq)⟩
    exact (hm.mem p hp).mono ⟨rfl, rfl⟩ (fun _ _ => rfl) (fun q _ hIq => ⟨hIq, rfl, rfl⟩) (Nat.le_refl _) (fun _ _ _ => rfl) (fun q _ hq => hsub q hq)
  rcases ht with rfl | ⟨k, rfl⟩
  · exact ⟨.returned v, w, _, hfin, Steps.one step_end, hb, rfl, hm.defers, hk, fn, hb ▸ hf, h1⟩
  · exact ⟨.returned v, w, _, hfin, Steps.one step_ret, hb, rfl, hm.defers, hk, fn, hb ▸ hf, h1⟩

/-! ### The call -/
section
variable {C : Ctx} {n : Nat} {tm : TM} {mm : MM} {o : Oper} {d : Nat}
theorem clos_core {f : FuncId} {es : List (FV × FV)} {ct : CT} {args : List SV} {res : ST} (hc : ConS C.P f es ct args res) {i1 i2 i3 : Nat} {H : Nat → Value} {Z : Nat → Nat} {a : Act} {w : World}
    (hm : Mod C H Z n tm mm a w) (h12 : i1 ≠ i2) (h13 : i1 ≠ i3) (h23 : i2 ≠ i3) (g1 : getM mm i1 = some (.box [.mp i3])) (g2 : getM mm i2 = some (.box [.c ct])) (g3 : getM mm i3 = some (.mpo es)) {vs : List Value}
    (hv : ∀ (H' : Nat → Value) (Z' : Nat → Nat) (M' : Nat → Prop), H' given = H i1 → H' (given + 1) = H i2 → (∀ b, M' b → Mof C H mm b) → Pw (fun v s => RepSV (Iof (mmS es ct)) H' Z' w M' v s) vs args) (hpure : pureS res = true) (hd : d < n)
    (K : Act → World → Prop) (Q : Exit → Act → World → Prop) (hK : ∀ a' w', Has C n ((d, res) :: delL tm d) mm a' w' → K a' w') :
    Calls C.P f vs.toArray w fun
      | .returned v, w'' => K (a.put (some d) v) w''
      | .panicked chain, w'' => Q (.panic chain) a w''
      | .outgrown, _ => LetsOut Q := by
  have m1 := getM_mem g1
  have m2 := getM_mem g2
  have m3 := getM_mem g3
  let Hc : Nat → Value := fun j => if j = given then H i1 else if j = given + 1 then H i2 else H i3
  have c1 : Hc given = H i1 := by simp [Hc]
  have c2 : Hc (given + 1) = H i2 := by simp [Hc]
  have c3 : Hc (given + 2) = H i3 := by simp [Hc]
  have hblk : ∀ b, blksOf Hc (mmS es ct) b → Hb (H i1) b ∨ Hb (H i2) b ∨ Hb (H i3) b := by
    rintro b ⟨p, hp, hpb⟩
    rcases mmS_mem hp with rfl | rfl | rfl
    · exact .inl (by rw [← c1]; exact hpb)
    · exact .inr (.inl (by rw [← c2]; exact hpb))
    · exact .inr (.inr (by rw [← c3]; exact hpb))
  have hblkM : ∀ b, blksOf Hc (mmS es ct) b → Mof C H mm b := by
    intro b hb
    rcases hblk b hb with h | h | h
    · exact .inr ⟨_, m1, h⟩
    · exact .inr ⟨_, m2, h⟩
    · exact .inr ⟨_, m3, h⟩
  have hM : ∀ b, b < w.heap.size → (Mof C H mm b ∨ blksOf Hc (mmS es ct) b) → Mof C H mm b := fun b _ hb => hb.elim id (hblkM b)
  have hI3 : Iof (mmS es ct) (given + 2) := ⟨(given + 2, .mpo es), by simp [mmS], rfl⟩
  have hPre : Pre w (Mof C H mm) Hc Z (mmS es ct) := by
    refine ⟨?_, ?_, ?_, ?_⟩
    · rintro b (hb | ⟨p, hp, hpb⟩)
      · exact Nat.lt_of_lt_of_le (hm.m0 b hb) hm.ext.size
      · exact (hm.fresh p hp b hpb).2
    · intro p hp
      rcases mmS_mem hp with rfl | rfl | rfl
      · obtain ⟨b, ty, vs', q1, q2, q3, q4⟩ := hm.mem _ m1
        refine ⟨b, ty, vs', by rw [c1]; exact q1, q2, q3, fun j c hc => ?_⟩
        match j, hc with
        | 0, hc =>
          simp at hc; subst hc
          obtain ⟨u, hu, ho, hr⟩ := q4 0 _ rfl
          exact ⟨u, hu, ho, hI3, by rw [c3]; exact hr.2⟩
        | j + 1, hc => simp at hc
      · obtain ⟨b, ty, vs', q1, q2, q3, q4⟩ := hm.mem _ m2
        refine ⟨b, ty, vs', by rw [c2]; exact q1, q2, q3, fun j c hc => ?_⟩
        match j, hc with
        | 0, hc =>
          simp at hc; subst hc
          obtain ⟨u, hu, ho, hr⟩ := q4 0 _ rfl
          exact ⟨u, hu, ho, RepC.mono hr (Nat.le_refl _) (fun _ _ _ => rfl) hM⟩
        | j + 1, hc => simp at hc
      · obtain ⟨r, es', ck, q1, q2, q3, q4⟩ := hm.mem _ m3
        refine ⟨r, es', ck, by rw [c3]; exact q1, q2, q3, fun j p hp => ?_⟩
        obtain ⟨en, e1, e2, e3⟩ := q4 j p hp
        exact ⟨en, e1, e2.mono (Nat.le_refl _) (fun _ _ _ => rfl) hM, e3.mono (Nat.le_refl _) (fun _ _ _ => rfl) hM⟩
    · intro p hp b hb
      have := hblkM b ⟨p, hp, hb⟩
      rcases this with h0 | ⟨q, hq, hqb⟩
      · exact Nat.lt_of_lt_of_le (hm.m0 b h0) hm.ext.size
      · exact (hm.fresh q hq b hqb).2
    · intro p hp q hq hpq b hpb hqb
      rcases mmS_mem hp with rfl | rfl | rfl <;> rcases mmS_mem hq with rfl | rfl | rfl <;> first
        | exact absurd rfl hpq
        | (simp only [c1, c2, c3] at hpb hqb
           first
           | exact hm.sep _ m1 _ m2 h12 b hpb hqb
           | exact hm.sep _ m1 _ m3 h13 b hpb hqb
           | exact hm.sep _ m2 _ m1 (Ne.symm h12) b hpb hqb
           | exact hm.sep _ m2 _ m3 h23 b hpb hqb
           | exact hm.sep _ m3 _ m1 (Ne.symm h13) b hpb hqb
           | exact hm.sep _ m3 _ m2 (Ne.symm h23) b hpb hqb)
  refine (hc.calls w (Mof C H mm) Hc Z vs hPre (hv Hc Z _ c1 c2 (fun b hb => hb.elim id (hblkM b)))).mono ?_
  rintro e w' ⟨v, rfl, hext, ⟨H', Z', k1, k2, k3, hpost⟩, hres⟩
  refine hK _ _ ⟨H, Z, ?_⟩
  refine hm.build (blksOf Hc (mmS es ct)) hext (fun b _ hb => ?_) (by simpa [Act.put] using hm.defers) (by simp [Act.put, hm.size]) hm.hg hm.ids ?_ hm.sep ?_
  · rcases hblk b hb with h | h | h
    · exact ⟨_, m1, h⟩
    · exact ⟨_, m2, h⟩
    · exact ⟨_, m3, h⟩
  · intro p hp
    by_cases p1 : p.1 = i1
    · have : p = (i1, .box [.mp i3]) := hm.ids _ hp _ m1 p1
      subst this
      refine .inr ⟨fun b hb => .inr ⟨_, m1, hb, .inl rfl⟩, fun hMM hfr => ?_⟩
      obtain ⟨b, ty, vs', q1, q2, q3, q4⟩ := hpost (given, .box [.mp (given + 2)]) (by simp [mmS])
      refine ⟨b, ty, vs', by rw [← c1, ← k1]; exact q1, q2, q3, fun j c hc => ?_⟩
      match j, hc with
      | 0, hc =>
        simp at hc; subst hc
        obtain ⟨u, hu, ho, hr⟩ := q4 0 _ rfl
        exact ⟨u, hu, ho, ⟨_, m3, rfl⟩, by rw [← c3, ← k3]; exact hr.2⟩
      | j + 1, hc => simp at hc
    by_cases p2 : p.1 = i2
    · have : p = (i2, .box [.c ct]) := hm.ids _ hp _ m2 p2
      subst this
      refine .inr ⟨fun b hb => .inr ⟨_, m2, hb, .inl rfl⟩, fun hMM hfr => ?_⟩
      obtain ⟨b, ty, vs', q1, q2, q3, q4⟩ := hpost (given + 1, .box [.c ct]) (by simp [mmS])
      refine ⟨b, ty, vs', by rw [← c2, ← k2]; exact q1, q2, q3, fun j c hc => ?_⟩
      match j, hc with
      | 0, hc =>
        simp at hc; subst hc
        obtain ⟨u, hu, ho, hr⟩ := q4 0 _ rfl
        exact ⟨u, hu, ho, RepC.mono hr (Nat.le_refl _) (fun _ _ _ => rfl) (fun q _ hq => .inl hq)⟩
      | j + 1, hc => simp at hc
    by_cases p3 : p.1 = i3
    · have : p = (i3, .mpo es) := hm.ids _ hp _ m3 p3
      subst this
      refine .inr ⟨fun b hb => .inr ⟨_, m3, hb, .inl rfl⟩, fun hMM hfr => ?_⟩
      obtain ⟨r, es', ck, q1, q2, q3, q4⟩ := hpost (given + 2, .mpo es) (by simp [mmS])
      refine ⟨r, es', ck, by rw [← c3, ← k3]; exact q1, q2, q3, fun j p hp => ?_⟩
      obtain ⟨en, e1, e2, e3⟩ := q4 j p hp
      exact ⟨en, e1, e2.mono (Nat.le_refl _) (fun _ _ _ => rfl) (fun q _ hq => .inl hq), e3.mono (Nat.le_refl _) (fun _ _ _ => rfl) (fun q _ hq => .inl hq)⟩
    · refine .inl ⟨hp, rfl, rfl, fun b hb hx => ?_, fun j _ hj => ⟨hj, rfl, rfl⟩⟩
      rcases hblk b hx with h | h | h
      · exact hm.sep p hp _ m1 p1 b hb h
      · exact hm.sep p hp _ m2 p2 b hb h
      · exact hm.sep p hp _ m3 p3 b hb h
  · intro p hp
    rcases List.mem_cons.1 hp with rfl | hp
    · refine .inr fun _ _ => ?_
      rw [put_self (by rw [hm.size]; exact hd)]
      exact hres.mono (fun i hi => by rw [pureS_uses hpure] at hi; cases hi) (Nat.le_refl _) (fun _ _ _ => rfl) (fun q _ hq => .inl hq)
    · obtain ⟨h1, h2⟩ := delL_mem hp
      exact .inl ⟨p, h1, rfl, put_other h2, fun j _ hj => ⟨hj, rfl, rfl⟩⟩

/-- A call of such a closure with one frozen argument. -/
theorem op_clos {f : FuncId} {es : List (FV × FV)} {ct : CT} {c : CT} {res : ST} (hc : ConS C.P f es ct [.one (.c c), .one (.ptr given 0), .one (.ptr (given + 1) 0)] res) {x y : Operand} {i1 i2 i3 : Nat} {ts : Array TypeId}
    (ho : o.op = .call { callee := .value x, args := #[y], argTypes := ts }) (hx : evalC tm x = some (.clo f [i1, i2])) (hy : evalD tm y = some (.one (.c c)))
    (h12 : Nat.beq i1 i2 = false) (h13 : Nat.beq i1 i3 = false) (h23 : Nat.beq i2 i3 = false) (g1 : getM mm i1 = some (.box [.mp i3])) (g2 : getM mm i2 = some (.box [.c ct])) (g3 : getM mm i3 = some (.mpo es))
    (hpure : pureS res = true) (hd : o.dst = some d) (hn : Nat.blt d n = true) : OpX C n mm o tm d res := by
  refine ⟨⟨hd, hn⟩, fun tm' hs => ?_⟩
  intro a w K Q ⟨H, Z, hm'⟩ hK
  have hm := hm'.sub hs
  obtain ⟨hcI, cvs, hcv, hcl, hcg⟩ := evalC_rep hm hx
  have hcvs : cvs = [H i1, H i2] := by
    match cvs, hcl with
    | [u, v], _ =>
      have q1 := hcg 0 i1 rfl
      have q2 := hcg 1 i2 rfl
      simp at q1 q2
      rw [q1, q2]
  have hya : RepC w (Mof C H mm) (a.eval y) c := evalD_rep hm hy
  obtain ⟨b1, _, _, e1, _⟩ := hm.box g1
  obtain ⟨b2, _, _, e2, _⟩ := hm.box g2
  have hcore := clos_core (d := d) (vs := [a.eval y, H i1, H i2]) hc hm' (fun e => by subst e; rw [Nat.beq_refl] at h12; cases h12) (fun e => by subst e; rw [Nat.beq_refl] at h13; cases h13) (fun e => by subst e; rw [Nat.beq_refl] at h23; cases h23) g1 g2 g3 (fun H' Z' M' k1 k2 hM' => ?_) hpure (Nat.blt_eq.mp hn) K Q hK
  · unfold Oper.wp
    have hrun : (execOp a.eval o).run C.P w = .ok (.enter f [a.eval y, H i1, H i2].toArray) w := by
      simp only [execOp, ho, resolve, hcv, hcvs, Deferred.ofValue, invoke, Sem.run_bind, Sem.run_pure, Result.andThen_ok, Array.empty_append, hc.ok w, List.append_toArray, List.nil_append]
      simp
    rw [hrun]
    show Calls _ _ _ _ _
    rw [hd]
    exact hcore
  · refine Pw.cons ?_ (Pw.cons ?_ (Pw.cons ?_ Pw.nil))
    · exact RepC.mono hya (Nat.le_refl _) (fun _ _ _ => rfl) (fun b _ hb => hM' b hb)
    · exact ⟨⟨(given, .box [.mp (given + 2)]), by simp [mmS], rfl⟩, b1, by rw [k1, e1]; rfl, e1⟩
    · exact ⟨⟨(given + 1, .box [.c ct]), by simp [mmS], rfl⟩, b2, by rw [k2, e2]; rfl, e2⟩
end
end Go.Sy
