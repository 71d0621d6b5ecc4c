/- The symbolic layer, bundle Sy8. -/
import Derived.Test.YtohalikeabmimaaDoorSy7
/- Symbolic states: contracts of functions that return rows of their making (pools); the steps of a chain; steps on pools. -/
set_option linter.unusedSimpArgs false
set_option linter.unusedVariables false
set_option linter.unusedSectionVars false
namespace Go.Sy
open Go.RowKit

abbrev PL := List (TypeId × Nat × PQ)
def plHb (ps : PL) (b : Nat) : Prop := ∃ p ∈ ps, ∃ q ∈ p.2.2, hblk q.1 = some b
structure NewPools (w w' : World) (M0 : Nat → Prop) (ps : PL) : Prop where
  ok : ∀ p ∈ ps, PoolOK w' (fun b => M0 b ∨ plHb ps b) p.1 p.2.1 p.2.2
  fresh : ∀ b, plHb ps b → w.heap.size ≤ b
  sep : ∀ (j k : Nat) (p q : TypeId × Nat × PQ), ps[j]? = some p → ps[k]? = some q → j ≠ k → ∀ b, (∃ r ∈ p.2.2, hblk r.1 = some b) → ¬ ∃ r ∈ q.2.2, hblk r.1 = some b
def EndO {ι : Type} (Q : ι → Prop) (res : ι → ST) (ps : ι → PL) (w : World) (M0 : Nat → Prop) (e : Ending) (w' : World) : Prop :=
  ∃ x v, Q x ∧ e = .returned v ∧ Ext (fun _ => False) w w' ∧ NewPools w w' M0 (ps x) ∧ RepST (fun _ => False) (fun _ => undef) (fun _ => 0) w' (fun b => M0 b ∨ plHb (ps x) b) v (res x)
structure ConO (P : Program) (f : FuncId) (args : List SV) {ι : Type} (Q : ι → Prop) (res : ι → ST) (ps : ι → PL) : Prop where
  ok : CallOK P f
  calls : ∀ (w : World) (M0 : Nat → Prop) (H : Nat → Value) (Z : Nat → Nat) (vs : List Value), (∀ b, M0 b → b < w.heap.size) →
    Pw (fun v s => RepSV (Iof []) H Z w M0 v s) vs args → Calls P f vs.toArray w (EndO Q res ps w M0)

theorem conO_of {P : Program} {f : FuncId} {fn : Func} {c : Code} {args : List SV} {ι : Type} {Q : ι → Prop} {res : ι → ST} {ps : ι → PL}
    (hf : P.funcs[f]? = some fn) (hb : fn.body = some c) (hn : Nat.ble args.length fn.ntmps = true) (hng : Nat.ble fn.ntmps given = true) (hnm : (fn.name == "runtime.NumGoroutine") = false)
    (h : ∀ (w : World) (M0 : Nat → Prop) (H : Nat → Value), Goes ⟨P, w, M0, fun _ => False, H⟩ f fn.ntmps (EndO Q res ps w M0) [.code c] (argT 0 args) []) : ConO P f args Q res ps := by
  refine ⟨callOK hf hb hnm, ?_⟩
  intro w M0 H Z vs hM0 hargs fs
  have hlen : vs.length = args.length := hargs.1
  let a : Act := { tmps := vs.toArray ++ Array.replicate (fn.ntmps - vs.toArray.size) undef, defers := [] }
  have hn := Nat.ble_eq.mp hn
  have hmod : Mod ⟨P, w, M0, fun _ => False, H⟩ H Z fn.ntmps (argT 0 args) [] a w := by
    refine ⟨rfl, by simp [a]; omega, Nat.ble_eq.mp hng, (fun p hp => by cases hp), Ext.refl _ _, hM0, (fun p hp => by cases hp), (fun p hp => by cases hp), (fun p hp => by cases hp), (fun p hp => by cases hp), ?_⟩
    intro p hp
    obtain ⟨j, s, rfl, hj⟩ := argT_mem hp
    obtain ⟨u, hu, hr⟩ := hargs.2 j s hj
    have hjl : j < vs.length := (List.getElem?_eq_some_iff.1 hu).1
    have : a.tmps.getD (0 + j) undef = u := by
      have hju : vs[j] = u := by
        have := List.getElem?_eq_getElem hjl
        rw [hu] at this
        injection this with this; exact this.symm
      simp [a, Array.getD_eq_getD_getElem?, Array.getElem?_append, hjl, hju]
    rw [this]
    exact RepSV.mono hr (fun i _ hi => ⟨hi, rfl, rfl⟩) (Nat.le_refl _) (fun _ _ _ => rfl) (fun b _ hb => by
      rcases hb with hb | ⟨p, hp, _⟩
      · exact hb
      · cases hp)
  let b : Frame := { (default : Frame) with fn := f, kind := .normal }
  have henter : Frame.enter P f vs.toArray .normal = b.at a [.code c] := by
    simp [Frame.enter, Frame.at, hf, hb, b, a]
  obtain ⟨e, w', fr, h1, h2, h3, h4⟩ := h w M0 H a w ⟨H, Z, hmod⟩ b fs rfl rfl
  rw [henter]
  exact ⟨e, w', fr, h1, h2, h3, h4⟩

def poolsE (mm : MM) : List Nat → Option PL
  | [] => some []
  | i :: r => match getM mm i with
    | some (.pool e sz qs) => match poolsE mm r with
      | some l => some ((e, sz, qs) :: l)
      | none => none
    | _ => none
theorem poolsE_spec {mm : MM} : ∀ {ids : List Nat} {ps : PL}, poolsE mm ids = some ps → ids.length = ps.length ∧ ∀ (k : Nat) (p : TypeId × Nat × PQ), ps[k]? = some p → ∃ i, ids[k]? = some i ∧ (i, MO.pool p.1 p.2.1 p.2.2) ∈ mm
  | [], ps, h => by simp [poolsE] at h; subst h; exact ⟨rfl, fun k p hp => by simp at hp⟩
  | i :: r, ps, h => by
    unfold poolsE at h
    split at h
    · rename_i hg
      split at h
      · rename_i l hl
        injection h with h; subst h
        obtain ⟨h1, h2⟩ := poolsE_spec hl
        refine ⟨by simp [h1], fun k p hp => ?_⟩
        cases k with
        | zero => simp at hp; subst hp; exact ⟨i, rfl, getM_mem hg⟩
        | succ k => simpa using h2 k p (by simpa using hp)
      · cases h
    · cases h
def allLtG : List Nat → Bool
  | [] => true
  | i :: r => match Nat.blt i given with
    | true => allLtG r
    | false => false
theorem allLtG_spec : ∀ {l : List Nat}, allLtG l = true → ∀ i ∈ l, i < given
  | [], _, i, hi => by cases hi
  | j :: r, h, i, hi => by
    unfold allLtG at h
    split at h
    · rename_i hb
      rcases List.mem_cons.1 hi with rfl | hi
      · exact Nat.blt_eq.mp hb
      · exact allLtG_spec h i hi
    · cases h

theorem g_endO {P : Program} {w0 : World} {M0 : Nat → Prop} {f : FuncId} {n : Nat} {tm : TM} {mm : MM} {H : Nat → Value} {Θ : Tab} (hΘ : tabOK P Θ) {ι : Type} {Q : ι → Prop} {res : ι → ST} {ps : ι → PL}
    {fn : Func} (hf : P.funcs[f]? = some fn) (ids : List Nat) (x : ι) {rs : List SV} {t : List Item} (ht : t = [] ∨ ∃ k, t = .code .ret :: k)
    (hr : resE Θ tm mm fn.results.toList = some rs) (he : packS rs = res x) (hpure : pureS (res x) = true) (hps : poolsE mm ids = some (ps x)) (hnd : noDup ids = true) (hg : allLtG ids = true) (hQ : Q x) :
    Goes ⟨P, w0, M0, fun _ => False, H⟩ f n (EndO Q res ps w0 M0) t tm mm := by
  intro a w ⟨H', Z', hm⟩ b fs hb hk
  obtain ⟨v, h1, h2⟩ := results_run hΘ hm hr
  obtain ⟨p1, p2⟩ := poolsE_spec hps
  have hH : ∀ i e sz qs, (i, MO.pool e sz qs) ∈ mm → H' i = poolV qs ∧ PoolOK w (Mof ⟨P, w0, M0, fun _ => False, H⟩ H' mm) e sz qs := fun i e sz qs hi => hm.mem _ hi
  have hM : ∀ b, (M0 b ∨ plHb (ps x) b) → Mof ⟨P, w0, M0, fun _ => False, H⟩ H' mm b := by
    rintro b (hb | ⟨p, hp, hpb⟩)
    · exact .inl hb
    · obtain ⟨k, hk, hkp⟩ := List.mem_iff_getElem.1 hp
      obtain ⟨i, _, hi⟩ := p2 k p (by rw [List.getElem?_eq_getElem hk, hkp])
      exact .inr ⟨_, hi, by rw [show H' (i, _).1 = _ from (hH _ _ _ _ hi).1]; exact poolV_Hb.2 hpb⟩
  have hfin : EndO Q res ps w0 M0 (.returned v) w := by
    refine ⟨x, v, hQ, rfl, hm.ext, ⟨fun p hp => ?_, fun b hb => ?_, fun j k p q hj hk hjk b hpb hqb => ?_⟩, ?_⟩
    · obtain ⟨k, hk, hkp⟩ := List.mem_iff_getElem.1 hp
      obtain ⟨i, _, hi⟩ := p2 k p (by rw [List.getElem?_eq_getElem hk, hkp])
      obtain ⟨_, g1, g2⟩ := hH _ _ _ _ hi
      exact ⟨fun k q hq => RowOK.mono (v := q.1) (xs := q.2) (g1 k q hq) (fun _ _ => rfl) (Nat.le_refl _) (fun _ _ _ => rfl) (fun b _ hb => hM b hb), g2⟩
    · obtain ⟨p, hp, hpb⟩ := hb
      obtain ⟨k, hk, hkp⟩ := List.mem_iff_getElem.1 hp
      obtain ⟨i, hik, hi⟩ := p2 k p (by rw [List.getElem?_eq_getElem hk, hkp])
      have hfr := (hm.fresh _ hi b (by rw [show H' (i, _).1 = _ from (hH _ _ _ _ hi).1]; exact poolV_Hb.2 hpb)).1
      have := allLtG_spec hg i (List.mem_of_getElem? hik)
      rcases hfr with ⟨_, h⟩ | ⟨h, _⟩
      · exact h
      · simp only at h; omega
    · obtain ⟨i, hik, hi⟩ := p2 j p hj
      obtain ⟨i', hik', hi'⟩ := p2 k q hk
      have hne : i ≠ i' := fun e => by
        subst e
        have hl1 := (List.getElem?_eq_some_iff.1 hik)
        have hl2 := (List.getElem?_eq_some_iff.1 hik')
        obtain ⟨l1, g1⟩ := hl1
        obtain ⟨l2, g2⟩ := hl2
        exact hjk (nodup_inj (noDup_spec hnd) l1 l2 (by rw [g1, g2]))
      exact hm.sep _ hi _ hi' hne b (by rw [show H' (i, _).1 = _ from (hH _ _ _ _ hi).1]; exact poolV_Hb.2 hpb) (by rw [show H' (i', _).1 = _ from (hH _ _ _ _ hi').1]; exact poolV_Hb.2 hqb)
    · rw [← he]
      exact h2.mono (fun i hi => by rw [he, pureS_uses hpure] at hi; cases hi) (Nat.le_refl _) (fun _ _ _ => rfl) (fun b _ hb => hM b hb)
  rcases ht with rfl | ⟨k, rfl⟩
  · exact ⟨.returned v, w, _, hfin, Steps.one step_end, hb, rfl, hm.defers, hk, fn, hb ▸ hf, h1⟩
  · exact ⟨.returned v, w, _, hfin, Steps.one step_ret, hb, rfl, hm.defers, hk, fn, hb ▸ hf, h1⟩

/-- The pools that a call brought, under the ids that the caller gives them. -/
def poolsM : List Nat → PL → MM
  | j :: js, p :: ps => (j, .pool p.1 p.2.1 p.2.2) :: poolsM js ps
  | _, _ => []
theorem poolsM_get : ∀ {js : List Nat} {ps : PL} {q : Nat × MO}, q ∈ poolsM js ps → ∃ (k j : Nat) (p : TypeId × Nat × PQ), js[k]? = some j ∧ ps[k]? = some p ∧ q = (j, .pool p.1 p.2.1 p.2.2)
  | [], _, q, h => by simp [poolsM] at h
  | _ :: _, [], q, h => by simp [poolsM] at h
  | j :: js, p :: ps, q, h => by
    unfold poolsM at h
    rcases List.mem_cons.1 h with rfl | h
    · exact ⟨0, j, p, rfl, rfl, rfl⟩
    · obtain ⟨k, j', p', h1, h2, h3⟩ := poolsM_get h
      exact ⟨k + 1, j', p', by simpa using h1, by simpa using h2, h3⟩
def lookP : List Nat → PL → Nat → Option Value
  | j :: js, p :: ps, i => if j = i then some (poolV p.2.2) else lookP js ps i
  | _, _, _ => none
theorem lookP_get : ∀ {js : List Nat} {ps : PL}, js.Nodup → ∀ {k j : Nat} {p : TypeId × Nat × PQ}, js[k]? = some j → ps[k]? = some p → lookP js ps j = some (poolV p.2.2)
  | [], _, _, k, j, p, h, _ => by simp at h
  | _ :: _, [], _, k, j, p, _, h => by simp at h
  | j0 :: js, p0 :: ps, hnd, k, j, p, h1, h2 => by
    unfold lookP
    cases k with
    | zero => simp at h1 h2; subst h1 h2; simp
    | succ k =>
      have hne : j0 ≠ j := fun e => (List.nodup_cons.1 hnd).1 (by rw [e]; exact List.mem_of_getElem? (by simpa using h1))
      rw [if_neg hne]
      exact lookP_get (List.nodup_cons.1 hnd).2 (by simpa using h1) (by simpa using h2)
theorem lookP_none : ∀ {js : List Nat} {ps : PL} {i : Nat}, i ∉ js → lookP js ps i = none
  | [], _, i, _ => by simp [lookP]
  | _ :: _, [], i, _ => by simp [lookP]
  | j :: js, p :: ps, i, h => by
    unfold lookP
    rw [if_neg (fun e => h (by simp [e]))]
    exact lookP_none fun hi => h (List.mem_cons_of_mem _ hi)
def freeM (mm : MM) : List Nat → Bool
  | [] => true
  | j :: r => match hasI mm j with
    | true => false
    | false => freeM mm r
theorem freeM_spec {mm : MM} : ∀ {l : List Nat}, freeM mm l = true → ∀ j ∈ l, ¬ Iof mm j
  | [], _, j, hj => by cases hj
  | i :: r, h, j, hj => by
    unfold freeM at h
    split at h
    · cases h
    · rename_i hf
      rcases List.mem_cons.1 hj with rfl | hj
      · exact hasI_false hf
      · exact freeM_spec h j hj

section
variable {C : Ctx} {n : Nat} {tm : TM} {mm mm0 : MM} {o : Oper} {d : Nat} {L l : List Oper} {T : TM → MM → Prop}

theorem op_callO_core {f : FuncId} {ι : Type} {Q : ι → Prop} {res : ι → ST} {ps : ι → PL} (hcok : CallOK C.P f) (js : List Nat) {xs : Array Operand} {ts : Array TypeId}
    (ho : o.op = .call { callee := .value (.func f), args := xs, argTypes := ts })
    (hnd : noDup js = true) (hjg : allLtG js = true) (hjf : freeM mm js = true) (hd : o.dst = some d) (hn : Nat.blt d n = true) (hpure : ∀ x, pureS (res x) = true) {H : Nat → Value} {Z : Nat → Nat} {a : Act} {w : World} {K : Act → World → Prop} {Qx : Exit → Act → World → Prop} (hm : Mod C H Z n tm mm a w)
    (hcalls : Calls C.P f (xs.toList.map a.eval).toArray w (EndO Q res ps w (Mof C H mm)))
    (hK : ∀ x a' w', Q x → Has C n ((d, res x) :: delL tm d) (poolsM js (ps x) ++ mm) a' w' → K a' w') : o.wp C.P a w K Qx := by
  unfold Oper.wp
  have hrun : (execOp a.eval o).run C.P w = .ok (.enter f (xs.toList.map a.eval).toArray) w := by
    have hmap : xs.map a.eval = (xs.toList.map a.eval).toArray := by simp [← List.map_toArray]
    simp only [execOp, ho, resolve, hmap, Deferred.ofValue, Act.eval, invoke, Sem.run_bind, Sem.run_pure, Result.andThen_ok, Array.append_empty, Array.empty_append, hcok w]
  rw [hrun]
  show Calls _ _ _ _ _
  refine Calls.mono hcalls ?_
  rintro e w' ⟨x, v, hq, rfl, hext, hnew, hrep⟩
  have hnd' := noDup_spec hnd
  have hfree := freeM_spec hjf
  let H' : Nat → Value := fun i => (lookP js (ps x) i).getD (H i)
  have hH'o : ∀ i, Iof mm i → H' i = H i := fun i hi => by
    have : i ∉ js := fun h => hfree i h hi
    simp [H', lookP_none this]
  have hH'n : ∀ (k j : Nat) (p : TypeId × Nat × PQ), js[k]? = some j → (ps x)[k]? = some p → H' j = poolV p.2.2 := fun k j p h1 h2 => by
    simp [H', lookP_get hnd' h1 h2]
  have hIn : ∀ i, Iof mm i → Iof (poolsM js (ps x) ++ mm) i := fun i ⟨p, hp, e⟩ => ⟨p, List.mem_append_right _ hp, e⟩
  have hpb : ∀ (k j : Nat) (p : TypeId × Nat × PQ), js[k]? = some j → (ps x)[k]? = some p → ∀ b, Hb (H' j) b → w.heap.size ≤ b ∧ b < w'.heap.size := by
    intro k j p h1 h2 b hb
    rw [hH'n k j p h1 h2] at hb
    obtain ⟨q, hq', hqb⟩ := poolV_Hb.1 hb
    have hp : p ∈ ps x := List.mem_of_getElem? h2
    refine ⟨hnew.fresh b ⟨p, hp, q, hq', hqb⟩, ?_⟩
    obtain ⟨m, hm1, hm2⟩ := List.mem_iff_getElem.1 hq'
    exact RowOK.lt (v := q.1) (xs := q.2) ((hnew.ok p hp).1 m q (by rw [List.getElem?_eq_getElem hm1, hm2])) hqb
  have hMM : ∀ b, Mof C H' (poolsM js (ps x) ++ mm) b → Mof C H mm b ∨ plHb (ps x) b := by
    rintro b (hb | ⟨q, hq, hqb⟩)
    · exact .inl (.inl hb)
    · rcases List.mem_append.1 hq with hq | hq
      · obtain ⟨k, j, p, h1, h2, rfl⟩ := poolsM_get hq
        rw [show H' (j, _).1 = _ from hH'n k j p h1 h2] at hqb
        exact .inr ⟨p, List.mem_of_getElem? h2, poolV_Hb.1 hqb⟩
      · rw [hH'o _ ⟨q, hq, rfl⟩] at hqb
        exact .inl (.inr ⟨q, hq, hqb⟩)
  refine hK x _ _ hq ⟨H', Z, ?_⟩
  rw [hd]
  refine hm.build (fun _ => False) hext (fun _ _ h => h.elim) (by simpa [Act.put] using hm.defers) (by simp [Act.put, hm.size]) ?_ ?_ ?_ ?_ ?_
  · intro p hp hpg
    rcases List.mem_append.1 hp with hp | hp
    · obtain ⟨k, j, q, h1, h2, rfl⟩ := poolsM_get hp
      have := allLtG_spec hjg j (List.mem_of_getElem? h1)
      simp only at hpg; omega
    · rw [hH'o _ ⟨p, hp, rfl⟩]; exact hm.hg p hp hpg
  · intro p hp q hq he
    rcases List.mem_append.1 hp with hp | hp <;> rcases List.mem_append.1 hq with hq | hq
    · obtain ⟨k, j, r, h1, h2, rfl⟩ := poolsM_get hp
      obtain ⟨k', j', r', h1', h2', rfl⟩ := poolsM_get hq
      have : k = k' := by
        obtain ⟨l1, g1⟩ := List.getElem?_eq_some_iff.1 h1
        obtain ⟨l2, g2⟩ := List.getElem?_eq_some_iff.1 h1'
        exact nodup_inj hnd' l1 l2 (by rw [g1, g2]; exact he)
      subst this
      rw [h2] at h2'; injection h2' with h2'; subst h2'
      exact Prod.ext he rfl
    · obtain ⟨k, j, r, h1, h2, rfl⟩ := poolsM_get hp
      exact absurd ⟨q, hq, he.symm⟩ (hfree j (List.mem_of_getElem? h1))
    · obtain ⟨k, j, r, h1, h2, rfl⟩ := poolsM_get hq
      exact absurd ⟨p, hp, he⟩ (hfree j (List.mem_of_getElem? h1))
    · exact hm.ids p hp q hq he
  · intro p hp
    rcases List.mem_append.1 hp with hp | hp
    · obtain ⟨k, j, r, h1, h2, rfl⟩ := poolsM_get hp
      refine .inr ⟨fun b hb => .inl (hpb k j r h1 h2 b hb), fun hMM' hfr => ⟨hH'n k j r h1 h2, ?_⟩⟩
      obtain ⟨g1, g2⟩ := hnew.ok r (List.mem_of_getElem? h2)
      exact ⟨fun k q hq => RowOK.mono (v := q.1) (xs := q.2) (g1 k q hq) (fun _ _ => rfl) (Nat.le_refl _) (fun _ _ _ => rfl) (fun b _ hb => hMM b hb), g2⟩
    · exact .inl ⟨hp, hH'o _ ⟨p, hp, rfl⟩, rfl, fun _ _ h => h, fun j hj hij => ⟨hIn j hij, hH'o j hij, rfl⟩⟩
  · intro p hp q hq hpq b hpb' hqb'
    rcases List.mem_append.1 hp with hp | hp <;> rcases List.mem_append.1 hq with hq | hq
    · obtain ⟨k, j, r, h1, h2, rfl⟩ := poolsM_get hp
      obtain ⟨k', j', r', h1', h2', rfl⟩ := poolsM_get hq
      have hkk : k ≠ k' := fun e => by
        subst e
        rw [h1] at h1'; injection h1' with h1'
        exact hpq h1'
      rw [show H' (j, _).1 = _ from hH'n k j r h1 h2] at hpb'
      rw [show H' (j', _).1 = _ from hH'n k' j' r' h1' h2'] at hqb'
      exact hnew.sep k k' r r' h2 h2' hkk b (poolV_Hb.1 hpb') (poolV_Hb.1 hqb')
    · obtain ⟨k, j, r, h1, h2, rfl⟩ := poolsM_get hp
      have := (hpb k j r h1 h2 b hpb').1
      rw [hH'o _ ⟨q, hq, rfl⟩] at hqb'
      have := (hm.fresh q hq b hqb').2
      omega
    · obtain ⟨k, j, r, h1, h2, rfl⟩ := poolsM_get hq
      have := (hpb k j r h1 h2 b hqb').1
      rw [hH'o _ ⟨p, hp, rfl⟩] at hpb'
      have := (hm.fresh p hp b hpb').2
      omega
    · rw [hH'o _ ⟨p, hp, rfl⟩] at hpb'
      rw [hH'o _ ⟨q, hq, rfl⟩] at hqb'
      exact hm.sep p hp q hq hpq b hpb' hqb'
  · intro p hp
    rcases List.mem_cons.1 hp with rfl | hp
    · refine .inr fun _ _ => ?_
      rw [put_self (by rw [hm.size]; exact Nat.blt_eq.mp hn)]
      exact hrep.mono (fun i hi => by rw [pureS_uses (hpure x)] at hi; cases hi) (Nat.le_refl _) (fun _ _ _ => rfl) (fun b _ hb => hMM b hb)
    · obtain ⟨h1, h2⟩ := delL_mem hp
      exact .inl ⟨p, h1, rfl, put_other h2, fun j hj hij => ⟨hIn j hij, hH'o j hij, rfl⟩⟩

theorem op_callO {f : FuncId} {args : List SV} {ι : Type} {Q : ι → Prop} {res : ι → ST} {ps : ι → PL} (hc : ConO C.P f args Q res ps) (js : List Nat) {xs : Array Operand} {ts : Array TypeId}
    (ho : o.op = .call { callee := .value (.func f), args := xs, argTypes := ts }) (hargs : evalArgs tm xs.toList = some args) (hren : renVs [] args = some args)
    (hnd : noDup js = true) (hjg : allLtG js = true) (hjf : freeM mm js = true) (hd : o.dst = some d) (hn : Nat.blt d n = true) (hpure : ∀ x, pureS (res x) = true) {a : Act} {w : World} {K : Act → World → Prop} {Qx : Exit → Act → World → Prop} (hh : Has C n tm mm a w)
    (hK : ∀ x a' w', Q x → Has C n ((d, res x) :: delL tm d) (poolsM js (ps x) ++ mm) a' w' → K a' w') : o.wp C.P a w K Qx := by
  obtain ⟨H, Z, hm⟩ := hh
  have hargs' := evalArgs_rep hm hargs
  have hI : ∀ i j, renI [] i = some j → Iof mm j → Iof [] i ∧ H i = H j := fun i j h _ => by
    have := (renI_spec h).2; simp at this
  have hM0 : ∀ b, Mof C H mm b → b < w.heap.size := by
    rintro b (hb | ⟨p, hp, hpb⟩)
    · exact Nat.lt_of_lt_of_le (hm.m0 b hb) hm.ext.size
    · exact (hm.fresh p hp b hpb).2
  have hcalls := hc.calls w (Mof C H mm) H Z _ hM0 (renVs_rep hI (fun b _ h => h) hren hargs')
  exact op_callO_core hc.ok js ho hnd hjg hjf hd hn hpure hm hcalls hK

theorem s_callO {f : FuncId} {args : List SV} {ι : Type} {Q : ι → Prop} {res : ι → ST} {ps : ι → PL} (hc : ConO C.P f args Q res ps) (js : List Nat) {xs : Array Operand} {ts : Array TypeId}
    (ho : o.op = .call { callee := .value (.func f), args := xs, argTypes := ts }) (hargs : evalArgs tm xs.toList = some args) (hren : renVs [] args = some args)
    (hnd : noDup js = true) (hjg : allLtG js = true) (hjf : freeM mm js = true) (hd : o.dst = some d) (hn : Nat.blt d n = true) (hg : guardL L tm o = some true) (hpure : ∀ x, pureS (res x) = true)
    (k : ∀ x, Q x → SOps C n L.toArray l ((d, res x) :: delL tm d) (poolsM js (ps x) ++ mm) T) : SOps C n L.toArray (o :: l) tm mm T := by
  intro a w hh
  unfold wpList
  rw [if_pos (wanted_of (guardL_eq hg) hh)]
  exact .inl (op_callO hc js ho hargs hren hnd hjg hjf hd hn hpure hh fun x a' w' hq h' => k x hq a' w' h')

/-! The steps of a chain. -/
def keyT (d : Nat) : TM → Bool
  | [] => true
  | (t, _) :: r => match Nat.beq t d with
    | true => false
    | false => keyT d r
theorem keyT_spec {d : Nat} : ∀ {l : TM}, keyT d l = true → ∀ p ∈ l, p.1 ≠ d
  | [], _, p, hp => by cases hp
  | (t, s) :: r, h, p, hp => by
    unfold keyT at h
    split at h
    · cases h
    · rename_i hb
      rcases List.mem_cons.1 hp with rfl | hp
      · exact fun e => by rw [show t = d from e] at hb; simp at hb
      · exact keyT_spec h p hp

variable {ι : Type} {tmF : TM} {ET : Nat → ι → TM} {MMx : Nat → ι → MM} {k : Nat} {x : ι}
theorem eff_core (hg : guardL L (onlyE (looksE L o) (tmF ++ ET k x)) o = some true)
    (h : ∀ (tm : TM) (a : Act) (w : World) (K : Act → World → Prop) (Q : Exit → Act → World → Prop), (∀ p ∈ onlyE (looksE L o) (tmF ++ ET k x), p ∈ tm) → Has C n tm (MMx k x) a w →
      (∀ x' tm' a' w', (∀ p ∈ tmF, p ∈ tm → p ∈ tm') → (∀ p ∈ ET (k + 1) x', p ∈ tm') → Has C n tm' (MMx (k + 1) x') a' w' → K a' w') → o.wp C.P a w K Q) : EffOK C n L tmF ET MMx k x o := by
  intro tm a w K Q hl he hh hK
  have hin : ∀ p ∈ onlyE (looksE L o) (tmF ++ ET k x), p ∈ tm := fun p hp => by
    obtain ⟨h1, h2⟩ := onlyE_mem.1 hp
    exact (List.mem_append.1 h1).elim (fun h => hl p h h2) (he p)
  rw [if_pos (wanted_of (guardL_eq hg) (hh.incl hin))]
  exact h tm a w K Q hin hh hK

/-- append to a row of a pool. -/
theorem ef_append {Θ : Tab} (hΘ : tabOK C.P Θ) {t : TypeId} {p q : Operand} {z bts e : Nat} {ag : Bool} {zt : Option (List CT)} {ei : TyI} {zr : List CT} {i : Nat} {nn' : Bool} {sz : Nat} {xs ys : List (List CT)} {qs : PQ} {v : Value}
    (ho : o.op = .call { callee := .builtin .append, args := ⟨[p, q]⟩, argTypes := ⟨[t, t]⟩ }) (ht : tyGet Θ t = some ⟨z, bts, ag, zt, .slice e⟩) (hei : tyGet Θ e = some ei) (hz : ei.zero = some zr)
    (hsz : Nat.beq ei.size sz = true) (hs0 : Nat.blt 0 ei.size = true) (hx : evalC (onlyE (looksE L o) (tmF ++ ET k x)) p = some (.c (.val v))) (hi : getM (MMx k x) i = some (.pool e sz qs)) (hy : evalC (onlyE (looksE L o) (tmF ++ ET k x)) q = some (.c (.slice nn' sz ys)))
    (hig : Nat.blt i given = true) (hno : noUse i (MMx k x) = true) (hd : o.dst = some d) (hn : Nat.blt d n = true) (hg : guardL L (onlyE (looksE L o) (tmF ++ ET k x)) o = some true) (hnt : noUseT i tmF = true) (hnk : keyT d tmF = true)
    (m : Nat) (hk : qs[m]? = some (v, xs)) (hbig : xs.length + ys.length ≤ 9223372036854775807 ∧ (xs.length + ys.length) * ei.bytes ≤ 140737488355328)
    (X : Value → ι) (hET : ∀ v', ET (k + 1) (X v') = [(d, .v (.one (.c (.val v'))))]) (hM : ∀ v', MMx (k + 1) (X v') = updM (MMx k x) i (.pool e sz (qs.set m (v', xs ++ ys)))) : EffOK C n L tmF ET MMx k x o := by
  refine eff_core hg fun tm a w K Q hin hh hK => ?_
  obtain ⟨v', w', hrun, hres⟩ := op_pappend (tm := onlyE (looksE L o) (tmF ++ ET k x) ++ tm) hΘ ho ht hei hz hsz hs0 (evalC_app hx) hi hk (evalC_app hy) hig hno hd hn hbig (hh.incl fun p hp => (List.mem_append.1 hp).elim (hin p) id)
  unfold Oper.wp
  rw [hrun]
  refine hK (X v') _ _ _ (fun p hp hpt => ?_) (fun p hp => ?_) (by rw [hM]; exact hres)
  · exact List.mem_cons_of_mem _ (mem_delL (dropU_in (noUseT_spec hnt p hp) (List.mem_append_right _ hpt)) (keyT_spec hnk p hp))
  · rw [hET] at hp
    rw [List.mem_singleton.1 hp]; exact List.mem_cons_self
/-- An operation that gives a value. -/
theorem ef_val {s : ST} (h : OpX C n (MMx k x) o (onlyE (looksE L o) (tmF ++ ET k x)) d s) (hg : guardL L (onlyE (looksE L o) (tmF ++ ET k x)) o = some true) (hnk : keyT d tmF = true)
    (hET : ET (k + 1) x = [(d, s)]) (hM : MMx (k + 1) x = MMx k x) : EffOK C n L tmF ET MMx k x o := by
  refine eff_core hg fun tm a w K Q hin hh hK => ?_
  refine h.2 tm hin a w K Q hh fun a' w' h' => hK x _ a' w' (fun p hp hpt => ?_) (fun p hp => ?_) (by rw [hM]; exact h')
  · exact List.mem_cons_of_mem _ (mem_delL hpt (keyT_spec hnk p hp))
  · rw [hET] at hp
    rw [List.mem_singleton.1 hp]; exact List.mem_cons_self
/-- A call that brings pools. -/
theorem ef_callO {f : FuncId} {args : List SV} {κ : Type} {Q : κ → Prop} {res : κ → ST} {ps : κ → PL} (hc : ConO C.P f args Q res ps) (js : List Nat) {xs : Array Operand} {ts : Array TypeId}
    (ho : o.op = .call { callee := .value (.func f), args := xs, argTypes := ts }) (hargs : evalArgs (onlyE (looksE L o) (tmF ++ ET k x)) xs.toList = some args) (hren : renVs [] args = some args)
    (hnd : noDup js = true) (hjg : allLtG js = true) (hjf : freeM (MMx k x) js = true) (hd : o.dst = some d) (hn : Nat.blt d n = true) (hg : guardL L (onlyE (looksE L o) (tmF ++ ET k x)) o = some true) (hnk : keyT d tmF = true) (hpure : ∀ y, pureS (res y) = true)
    (X : κ → ι) (hET : ∀ y, ET (k + 1) (X y) = [(d, res y)]) (hM : ∀ y, MMx (k + 1) (X y) = poolsM js (ps y) ++ MMx k x) : EffOK C n L tmF ET MMx k x o := by
  refine eff_core hg fun tm a w K Q hin hh hK => ?_
  refine op_callO (tm := onlyE (looksE L o) (tmF ++ ET k x) ++ tm) hc js ho (evalArgs_app hargs) hren hnd hjg hjf hd hn hpure (hh.incl fun p hp => (List.mem_append.1 hp).elim (hin p) id) fun y a' w' _ h' => ?_
  refine hK (X y) _ a' w' (fun p hp hpt => ?_) (fun p hp => ?_) (by rw [hM]; exact h')
  · exact List.mem_cons_of_mem _ (mem_delL (List.mem_append_right _ hpt) (keyT_spec hnk p hp))
  · rw [hET] at hp
    rw [List.mem_singleton.1 hp]; exact List.mem_cons_self
/-- A store to a variable. -/
theorem ef_store {Θ : Tab} (hΘ : tabOK C.P Θ) {t : TypeId} {ti : TyI} {p q : Operand} {i off : Nat} {cs r : List SC} {s : SV}
    (ho : o.op = .store t p q) (ht : tyGet Θ t = some ti) (hx : evalC (onlyE (looksE L o) (tmF ++ ET k x)) p = some (.ptr i off)) (hi : getM (MMx k x) i = some (.box cs))
    (hy : evalV (onlyE (looksE L o) (tmF ++ ET k x)) q = some s) (hk : s.cells.all SC.known = true) (hsz : Nat.beq s.cells.length ti.size = true) (hs : spliceL cs off s.cells = some r) (hd : o.dst = none)
    (hg : guardL L (onlyE (looksE L o) (tmF ++ ET k x)) o = some true) (hET : ET (k + 1) x = []) (hM : MMx (k + 1) x = updM (MMx k x) i (.box r)) : EffOK C n L tmF ET MMx k x o := by
  refine eff_core hg fun tm a w K Q hin hh hK => ?_
  refine (op_store_box (tm := onlyE (looksE L o) (tmF ++ ET k x) ++ tm) hΘ ho ht (evalC_app hx) hi (evalV_app hy) hk hsz hs hd).wp a w K Q (hh.incl fun p hp => (List.mem_append.1 hp).elim (hin p) id) fun a' w' h' => ?_
  exact hK x _ a' w' (fun p hp hpt => List.mem_append_right _ hpt) (fun p hp => by rw [hET] at hp; cases hp) (by rw [hM]; exact h')
/-- A store to an element of a pool's row. -/
theorem ef_pstore {Θ : Tab} (hΘ : tabOK C.P Θ) {t : TypeId} {ti : TyI} {p q : Operand} {i e sz : Nat} {qs : PQ} {v : Value} {xs : List (List CT)} {s : SV} {cs : List CT} {j : Nat}
    (ho : o.op = .store t p q) (ht : tyGet Θ t = some ti) (hx : evalC (onlyE (looksE L o) (tmF ++ ET k x)) p = some (.c (.val (ptrV v (j * sz))))) (hi : getM (MMx k x) i = some (.pool e sz qs))
    (hy : evalV (onlyE (looksE L o) (tmF ++ ET k x)) q = some s) (hc : ctsOf s.cells = some cs) (hsz : Nat.beq cs.length ti.size = true) (hts : Nat.beq ti.size sz = true) (hkn : s.cells.all SC.known = true) (hig : Nat.blt i given = true) (hno : noUse i (MMx k x) = true) (hd : o.dst = none)
    (hg : guardL L (onlyE (looksE L o) (tmF ++ ET k x)) o = some true) (hnt : noUseT i tmF = true) (m : Nat) (hk : qs[m]? = some (v, xs)) (hj : j < xs.length) (hET : ET (k + 1) x = []) (hM : MMx (k + 1) x = updM (MMx k x) i (.pool e sz (qs.set m (v, xs.set j cs)))) : EffOK C n L tmF ET MMx k x o := by
  refine eff_core hg fun tm a w K Q hin hh hK => ?_
  refine (op_pstore (tm := onlyE (looksE L o) (tmF ++ ET k x) ++ tm) hΘ ho ht (evalC_app hx) hi hk hj (evalV_app hy) hc hsz hts hkn hig hno hd).wp a w K Q (hh.incl fun p hp => (List.mem_append.1 hp).elim (hin p) id) fun a' w' h' => ?_
  exact hK x _ a' w' (fun p hp hpt => dropU_in (noUseT_spec hnt p hp) (List.mem_append_right _ hpt)) (fun p hp => by rw [hET] at hp; cases hp) (by rw [hM]; exact h')

/-! The operations that only read, within such a region. -/
variable {tm0 : TM} {E : List Nat} {i : Nat} {mmf : Nat → MM} {TF : TM → Prop} {p q : Operand} {ty ty' : TypeId}
theorem f_step {st : ST} (h : ∀ mm', OpV C n o (onlyE (looksE L o) tm) mm' d st) (hiE : memN E i = false) (hg : guardL L (onlyE (looksE L o) tm) o = some true) (hd : o.dst = some d)
    (k : FOps C n mmf L tm0 E (i + 1) l ((d, st) :: delL tm d) TF) : FOps C n mmf L tm0 E i (o :: l) tm TF := FOps.step hiE hg (fun mm' _ _ => (h mm').toX) hd k
theorem f_idx {Θ : Tab} (hΘ : tabOK C.P Θ) {nn : Bool} {sz : Nat} {xs : List (List CT)} {kd : IntKind} {m : Int} {e : Nat} {z bts : Nat} {ag : Bool} {zr : Option (List CT)} {ei : TyI}
    (ho : o.op = .indexAddr ty p q) (ht : tyGet Θ ty = some ⟨z, bts, ag, zr, .slice e⟩) (hei : tyGet Θ e = some ei) (hx : evalC (onlyE (looksE L o) tm) p = some (.c (.slice nn sz xs))) (hsz : Nat.beq ei.size sz = true)
    (hi : evalC (onlyE (looksE L o) tm) q = some (.c (.int kd m))) (hd : o.dst = some d) (hn : Nat.blt d n = true) (hg : guardL L (onlyE (looksE L o) tm) o = some true) (hiE : memN E i = false)
    (j : Nat) (cs : List CT) (hm : m = (j : Int)) (hj : xs[j]? = some cs) (k : FOps C n mmf L tm0 E (i + 1) l ((d, .v (.one (.eptr cs))) :: delL tm d) TF) : FOps C n mmf L tm0 E i (o :: l) tm TF :=
  f_step (fun mm' => op_idx hΘ ho ht hei hsz hx hi hm hj hd hn) hiE hg hd k
theorem f_pidx {Θ : Tab} (hΘ : tabOK C.P Θ) {r : Nat} {qs : PQ} {v : Value} {sz : Nat} {xs : List (List CT)} {kd : IntKind} {m : Int} {e e' : Nat} {z bts : Nat} {ag : Bool} {zr : Option (List CT)} {ei : TyI}
    (ho : o.op = .indexAddr ty p q) (ht : tyGet Θ ty = some ⟨z, bts, ag, zr, .slice e⟩) (hei : tyGet Θ e = some ei) (hx : evalC (onlyE (looksE L o) tm) p = some (.c (.val v))) (hi : getM (mmf i) r = some (.pool e' sz qs)) (hsz : Nat.beq ei.size sz = true)
    (hy : evalC (onlyE (looksE L o) tm) q = some (.c (.int kd m))) (hd : o.dst = some d) (hn : Nat.blt d n = true) (hg : guardL L (onlyE (looksE L o) tm) o = some true) (hiE : memN E i = false)
    (c : Nat) (hk : qs[c]? = some (v, xs)) (j : Nat) (hm : m = (j : Int)) (hj : j < xs.length) (k : FOps C n mmf L tm0 E (i + 1) l ((d, .v (.one (.c (.val (ptrV v (j * sz)))))) :: delL tm d) TF) : FOps C n mmf L tm0 E i (o :: l) tm TF :=
  FOps.step hiE hg (fun mm' hb hu => (op_pidx hΘ ho ht hei hsz hx (mono_get hb hu _ _ hi) hk hy hm hj hd hn).toX) hd k
theorem f_pload {Θ : Tab} (hΘ : tabOK C.P Θ) {ti : TyI} {r j e sz : Nat} {qs : PQ} {v : Value} {xs : List (List CT)} {cs : List CT} {s : SV}
    (ho : o.op = .load ty p) (ht : tyGet Θ ty = some ti) (hx : evalC (onlyE (looksE L o) tm) p = some (.c (.val (ptrV v (j * sz))))) (hi : getM (mmf i) r = some (.pool e sz qs)) (hs : Nat.beq ti.size sz = true) (hd : o.dst = some d) (hn : Nat.blt d n = true) (hg : guardL L (onlyE (looksE L o) tm) o = some true) (hiE : memN E i = false)
    (c : Nat) (hk : qs[c]? = some (v, xs)) (hj : xs[j]? = some cs) (hv : mkV SC.c ti.agg cs = some s)
    (k : FOps C n mmf L tm0 E (i + 1) l ((d, .v s) :: delL tm d) TF) : FOps C n mmf L tm0 E i (o :: l) tm TF :=
  FOps.step hiE hg (fun mm' hb hu => (op_pload hΘ ho ht hx (mono_get hb hu _ _ hi) hk hj hs hv hd hn).toX) hd k
theorem f_call {g : FuncId} {args args' : List SV} {res : ST} (hc : Con C.P g [] args res []) {xs : Array Operand} {ts : Array TypeId}
    (ho : o.op = .call { callee := .value (.func g), args := xs, argTypes := ts }) (hargs : evalArgs (onlyE (looksE L o) tm) xs.toList = some args') (hren : renVs [] args = some args')
    (hpure : pureS res = true) (hd : o.dst = some d) (hn : Nat.blt d n = true) (hg : guardL L (onlyE (looksE L o) tm) o = some true) (hiE : memN E i = false)
    (k : FOps C n mmf L tm0 E (i + 1) l ((d, res) :: delL tm d) TF) : FOps C n mmf L tm0 E i (o :: l) tm TF :=
  FOps.step hiE hg (fun mm' _ _ => op_callX hc [] ho hargs hren rfl rfl rfl hpure hd hn rfl) hd k
theorem f_lit {Θ : Tab} (hΘ : tabOK C.P Θ) {t : TypeId} {z bts e len : Nat} {ag : Bool} {zt : Option (List CT)} {ei : TyI} {zr : List CT} {parts : Array (Nat × Operand)} {r : List SC} {cts : List CT} {xs : List (List CT)} {ct : CT}
    (ho : o.op = .buildSlice t len parts) (ht : tyGet Θ t = some ⟨z, bts, ag, zt, .slice e⟩) (hei : tyGet Θ e = some ei) (hz : ei.zero = some zr)
    (hb : Nat.ble (len * ei.size) 16777216 = true) (hs0 : Nat.blt 0 ei.size = true)
    (hl : layL (fun i => some (i * ei.size, ei.size)) (onlyE (looksE L o) tm) (anyL (len * ei.size)) parts.toList = some r) (hc : ctsOf r = some cts) (hx : chunkL ei.size len cts = some xs)
    (hd : o.dst = some d) (hn : Nat.blt d n = true) (hg : guardL L (onlyE (looksE L o) tm) o = some true) (hiE : memN E i = false) (hle : LeC (.slice true ei.size xs) ct)
    (k : FOps C n mmf L tm0 E (i + 1) l ((d, .v (.one (.c ct))) :: delL tm d) TF) : FOps C n mmf L tm0 E i (o :: l) tm TF :=
  FOps.step hiE hg (fun _ _ _ => op_lit hΘ ho ht hei hz hb hs0 hl hc hx hle hd hn) hd k

/-! Steps on pools, one behind the other. -/
theorem s_pidx {Θ : Tab} (hΘ : tabOK C.P Θ) {r : Nat} {qs : PQ} {v : Value} {sz : Nat} {xs : List (List CT)} {kd : IntKind} {m : Int} {e e' : Nat} {z bts : Nat} {ag : Bool} {zr : Option (List CT)} {ei : TyI}
    (ho : o.op = .indexAddr ty p q) (ht : tyGet Θ ty = some ⟨z, bts, ag, zr, .slice e⟩) (hei : tyGet Θ e = some ei) (hx : evalC tm p = some (.c (.val v))) (hi : getM mm r = some (.pool e' sz qs)) (hsz : Nat.beq ei.size sz = true)
    (hy : evalC tm q = some (.c (.int kd m))) (hd : o.dst = some d) (hn : Nat.blt d n = true) (hg : guardL L tm o = some true)
    (c : Nat) (hk : qs[c]? = some (v, xs)) (j : Nat) (hm : m = (j : Int)) (hj : j < xs.length) (g : SOps C n L.toArray l ((d, .v (.one (.c (.val (ptrV v (j * sz)))))) :: delL tm d) mm T) : SOps C n L.toArray (o :: l) tm mm T :=
  s_step (op_pidx hΘ ho ht hei hsz hx hi hk hy hm hj hd hn).wp hg g
theorem s_pstore {Θ : Tab} (hΘ : tabOK C.P Θ) {t : TypeId} {ti : TyI} {r j e sz : Nat} {qs : PQ} {v : Value} {xs : List (List CT)} {s : SV} {cs : List CT}
    (ho : o.op = .store t p q) (ht : tyGet Θ t = some ti) (hx : evalC tm p = some (.c (.val (ptrV v (j * sz))))) (hi : getM mm r = some (.pool e sz qs))
    (hy : evalV tm q = some s) (hc : ctsOf s.cells = some cs) (hsz : Nat.beq cs.length ti.size = true) (hts : Nat.beq ti.size sz = true) (hkn : s.cells.all SC.known = true) (hig : Nat.blt r given = true) (hno : noUse r mm = true) (hd : o.dst = none) (hg : guardL L tm o = some true)
    (c : Nat) (hk : qs[c]? = some (v, xs)) (hj : j < xs.length) (g : SOps C n L.toArray l (dropU r tm) (updM mm r (.pool e sz (qs.set c (v, xs.set j cs)))) T) : SOps C n L.toArray (o :: l) tm mm T :=
  s_step (op_pstore hΘ ho ht hx hi hk hj hy hc hsz hts hkn hig hno hd).wp hg g
end
end Go.Sy

/- Symbolic states: an own slice becomes a pool's row; the steps on pools that are no operations, between regions. -/
namespace Go.Sy
open Go.RowKit

/-- All objects of the one are in the other. -/
def subG : MM → MM → Prop
  | [], _ => True
  | (i, o) :: r, mm => getM mm i = some o ∧ subG r mm
theorem subG_spec {mm : MM} : ∀ {l : MM}, subG l mm → ∀ q ∈ l, q ∈ mm
  | [], _, q, hq => by cases hq
  | (i, o) :: r, h, q, hq => by
    rcases List.mem_cons.1 hq with rfl | hq
    · exact getM_mem h.1
    · exact subG_spec h.2 q hq
theorem le_pool {e sz : Nat} {qs qs' : PQ} (h : qs = qs') : LeM (.pool e sz qs) (.pool e sz qs') := h ▸ .refl _
theorem Effs.nil {ι : Type} {C : Ctx} {n : Nat} {L : List Oper} {tmF : TM} {ET : Nat → ι → TM} {MMx : Nat → ι → MM} {k : Nat} : Effs C n L tmF ET MMx k [] := trivial
theorem Effs.cons {ι : Type} {C : Ctx} {n : Nat} {L : List Oper} {tmF : TM} {ET : Nat → ι → TM} {MMx : Nat → ι → MM} {k e : Nat} {r : List Nat} {o : Oper} (ho : nthO L e = some o) (h : ∀ x, EffOK C n L tmF ET MMx k x o) (g : Effs C n L tmF ET MMx (k + 1) r) : Effs C n L tmF ET MMx k (e :: r) :=
  ⟨fun o' ho' x => by rw [ho] at ho'; injection ho' with ho'; subst ho'; exact h x, g⟩

theorem SV.sub_uses {i : Nat} {r : SC} (hr : r.uses = []) (s : SV) : ∀ j ∈ (s.sub i r).uses, j ≠ i := by
  intro j hj
  cases s with
  | one x => exact (SC.sub_uses hr x j hj).2
  | agg xs =>
    simp only [SV.sub, subCs_eq, SV.uses, List.mem_flatMap, List.mem_map] at hj
    obtain ⟨c, ⟨c', _, rfl⟩, hj⟩ := hj
    exact (SC.sub_uses hr c' j hj).2
theorem ST.sub_uses {i : Nat} {r : SC} (hr : r.uses = []) (s : ST) : ∀ j ∈ (s.sub i r).uses, j ≠ i := by
  intro j hj
  cases s with
  | v x => exact SV.sub_uses hr x j hj
  | tup xs =>
    simp only [ST.sub, subSVs_eq, ST.uses, List.mem_flatMap, List.mem_map] at hj
    obtain ⟨c, ⟨c', _, rfl⟩, hj⟩ := hj
    exact SV.sub_uses hr c' j hj
theorem MO.sub_uses {i : Nat} {r : SC} (hr : r.uses = []) (o : MO) : ∀ j ∈ (o.sub i r).uses, j ≠ i := by
  intro j hj
  cases o with
  | box cs =>
    simp only [MO.sub, subCs_eq, MO.uses, List.mem_flatMap, List.mem_map] at hj
    obtain ⟨c, ⟨c', _, rfl⟩, hj⟩ := hj
    exact (SC.sub_uses hr c' j hj).2
  | arr => cases hj
  | mpo => cases hj
  | pool => cases hj

section
variable {C : Ctx} {n : Nat} {tm : TM} {mm : MM}
theorem Has.toPool {a : Act} {w : World} {i e sz : Nat} {nn : Bool} {xs : List (List CT)} (hi : getM mm i = some (.arr nn e sz xs)) (hig : Nat.blt i given = true) (h : Has C n tm mm a w) :
    ∃ v, Has C n (subT i (.c (.val v)) tm) ((i, .pool e sz [(v, xs)]) :: subM i (.c (.val v)) mm) a w := by
  obtain ⟨H, Z, hm⟩ := h
  obtain ⟨hz, us, h1, h2, h3, h4⟩ := hm.mem _ (getM_mem hi)
  have h1 : w.ownsRow 0 e sz (H i) xs.length us := h1
  have hone : (H i).oneCell' = true := by
    rcases h1.2 with ⟨hh, _⟩ | ⟨g, cap, cur, hh, _⟩ <;> rw [hh] <;> rfl
  have hbl : ∀ b, Hb (H i) b ↔ hblk (H i) = some b := fun b => by rw [hblk_row h1]; exact Hb_own h1 b
  refine ⟨H i, Sy.upd H i (poolV [(H i, xs)]), Z, ?_⟩
  have hnew : ∀ b, Hb (poolV [(H i, xs)]) b ↔ Hb (H i) b := fun b => by
    rw [poolV_Hb, hbl]
    simp
  have hru : (SC.c (.val (H i))).uses = [] := rfl
  have hsub : ∀ p ∈ subM i (.c (.val (H i))) mm, ∃ q ∈ mm, q.1 = p.1 ∧ p.2 = q.2.sub i (.c (.val (H i))) ∧ p.1 ≠ i := fun p hp => by
    obtain ⟨q, hq, e1, e2, e3⟩ := subM_mem hp
    exact ⟨q, hq, e1, e2, by rw [← e1]; exact e3⟩
  have hHo : ∀ q, q ≠ i → Sy.upd H i (poolV [(H i, xs)]) q = H q := fun q hq => upd_ne _ _ hq
  have hM : ∀ b, Mof C (Sy.upd H i (poolV [(H i, xs)])) ((i, .pool e sz [(H i, xs)]) :: subM i (.c (.val (H i))) mm) b → Mof C H mm b := by
    rintro b (hb | ⟨p, hp, hpb⟩)
    · exact .inl hb
    · rcases List.mem_cons.1 hp with rfl | hp
      · rw [upd_self] at hpb
        exact .inr ⟨_, getM_mem hi, (hnew b).1 hpb⟩
      · obtain ⟨q, hq, e1, _, e3⟩ := hsub p hp
        rw [hHo _ e3] at hpb
        exact .inr ⟨q, hq, by rw [e1]; exact hpb⟩
  have hI : ∀ j, Iof mm j → Iof ((i, .pool e sz [(H i, xs)]) :: subM i (.c (.val (H i))) mm) j := by
    intro j hj
    by_cases hji : j = i
    · exact ⟨_, List.mem_cons_self, hji.symm⟩
    · obtain ⟨p, hp, e1⟩ := subM_ids (i := i) (r := .c (.val (H i))) hji hj
      exact ⟨p, List.mem_cons_of_mem _ hp, e1⟩
  have hr : ∀ (M' : Nat → Prop) v, v = H i → RepSC (Iof ((i, .pool e sz [(H i, xs)]) :: subM i (.c (.val (H i))) mm)) H Z w M' v (.c (.val (H i))) := fun M' v hv => by
    subst hv; exact RepC.val _ hone
  refine ⟨hm.defers, hm.size, hm.nle, ?_, hm.ext, hm.m0, ?_, ?_, ?_, ?_, ?_⟩
  · intro p hp hpg
    rcases List.mem_cons.1 hp with rfl | hp
    · have := Nat.blt_eq.mp hig; simp only at hpg; omega
    · obtain ⟨q, hq, e1, _, e3⟩ := hsub p hp
      rw [hHo _ e3, ← e1]
      exact hm.hg q hq (by rw [e1]; exact hpg)
  · intro p hp q hq he
    rcases List.mem_cons.1 hp with rfl | hp <;> rcases List.mem_cons.1 hq with rfl | hq
    · rfl
    · obtain ⟨_, _, _, _, e3⟩ := hsub q hq; exact absurd he.symm e3
    · obtain ⟨_, _, _, _, e3⟩ := hsub p hp; exact absurd he e3
    · obtain ⟨p', hp', e1, e2, _⟩ := hsub p hp
      obtain ⟨q', hq', f1, f2, _⟩ := hsub q hq
      have := hm.ids p' hp' q' hq' (by rw [e1, f1]; exact he)
      subst this
      exact Prod.ext he (by rw [e2, f2])
  · intro p hp
    rcases List.mem_cons.1 hp with rfl | hp
    · refine ⟨by rw [upd_self]; rfl, fun k q hq => ?_, fun k l q r hq hr' hkl => ?_⟩
      · cases k with
        | zero =>
          simp at hq; subst hq
          exact RowOK.mono (v := H i) (xs := xs) ⟨us, h1, h3, h4⟩ (fun _ _ => rfl) (Nat.le_refl _) (fun _ _ _ => rfl) (fun b _ hb => hM b hb)
        | succ k => simp at hq
      · cases k with
        | zero =>
          cases l with
          | zero => exact absurd rfl hkl
          | succ l => simp at hr'
        | succ k => simp at hq
    · obtain ⟨q, hq, e1, e2, e3⟩ := hsub p hp
      have := (hm.mem q hq).sub' (I' := Iof ((i, .pool e sz [(H i, xs)]) :: subM i (.c (.val (H i))) mm)) hru (hr _) (fun j _ hj => hI j hj) (fun b _ hb => hM b hb)
      rw [← e2, e1] at this
      exact this.mono ⟨hHo _ e3, rfl⟩ (fun _ _ => rfl) (fun j hj hIj => ⟨hIj, hHo j (MO.sub_uses hru q.2 j (by rw [← e2]; exact hj)), rfl⟩) (Nat.le_refl _) (fun _ _ _ => rfl) (fun _ _ h => h)
  · intro p hp b hb
    rcases List.mem_cons.1 hp with rfl | hp
    · rw [upd_self] at hb
      exact hm.fresh _ (getM_mem hi) b ((hnew b).1 hb)
    · obtain ⟨q, hq, e1, _, e3⟩ := hsub p hp
      rw [hHo _ e3] at hb
      rw [← e1] at hb ⊢
      exact hm.fresh q hq b hb
  · intro p hp q hq hpq b hpb hqb
    have key : ∀ p ∈ (i, MO.pool e sz [(H i, xs)]) :: subM i (.c (.val (H i))) mm, Hb (Sy.upd H i (poolV [(H i, xs)]) p.1) b → ∃ p' ∈ mm, p'.1 = p.1 ∧ Hb (H p'.1) b := by
      intro p hp hb
      rcases List.mem_cons.1 hp with rfl | hp
      · rw [upd_self] at hb
        exact ⟨_, getM_mem hi, rfl, (hnew b).1 hb⟩
      · obtain ⟨q, hq, e1, _, e3⟩ := hsub p hp
        rw [hHo _ e3, ← e1] at hb
        exact ⟨q, hq, e1, hb⟩
    obtain ⟨p', hp', e1, hb1⟩ := key p hp hpb
    obtain ⟨q', hq', e2, hb2⟩ := key q hq hqb
    exact hm.sep p' hp' q' hq' (by rw [e1, e2]; exact hpq) b hb1 hb2
  · intro p hp
    obtain ⟨q, hq, e1, e2⟩ := subT_mem hp
    have := (hm.tmps q hq).sub' (I' := Iof ((i, .pool e sz [(H i, xs)]) :: subM i (.c (.val (H i))) mm)) hru (hr _) (fun j _ hj => hI j hj) (fun b _ hb => hM b hb)
    rw [← e2, e1] at this
    exact this.mono (fun j hj hIj => ⟨hIj, hHo j (ST.sub_uses hru q.2 j (by rw [← e2]; exact hj)), rfl⟩) (Nat.le_refl _) (fun _ _ _ => rfl) (fun _ _ h => h)

theorem Has.nilT {a : Act} {w : World} (t : Nat) (ht : getT tm t = some (.v (.one (.c .nils)))) (h : Has C n tm mm a w) : Has C n ((t, .v (.one (.c (.val (.slice none 0 0))))) :: delL tm t) mm a w := by
  obtain ⟨H, Z, hm⟩ := h
  refine ⟨H, Z, { hm with tmps := fun p hp => ?_ }⟩
  rcases List.mem_cons.1 hp with rfl | hp
  · have h1 := hm.tmps _ (getT_mem ht)
    have h2 : a.tmps.getD t undef = .slice none 0 0 := RepC.nils_inv h1
    show RepC _ _ _ _
    rw [h2]; exact RepC.val _ rfl
  · exact hm.tmps p (delL_mem hp).1

variable {f : FuncId} {R : Ending → World → Prop} {k : List Item} {L l : List Oper} {T : TM → MM → Prop}
theorem g_nilT (t : Nat) (ht : getT tm t = some (.v (.one (.c .nils)))) (g : Goes C f n R k ((t, .v (.one (.c (.val (.slice none 0 0))))) :: delL tm t) mm) : Goes C f n R k tm mm := g.mono fun _ _ h => h.nilT t ht
theorem g_toPool (i : Nat) {e sz : Nat} {nn : Bool} {xs : List (List CT)} (hi : getM mm i = some (.arr nn e sz xs)) (hig : Nat.blt i given = true)
    (g : ∀ v, Goes C f n R k (subT i (.c (.val v)) tm) ((i, .pool e sz [(v, xs)]) :: subM i (.c (.val v)) mm)) : Goes C f n R k tm mm := fun a w hh => by
  obtain ⟨v, h⟩ := hh.toPool hi hig
  exact g v a w h
theorem g_newPool (j e sz : Nat) (hj : Nat.blt j given = true) (hf : hasI mm j = false) (g : Goes C f n R k tm ((j, .pool e sz []) :: mm)) : Goes C f n R k tm mm := g.mono fun _ _ h => h.newPool j e sz hj hf
theorem g_nilPool (i : Nat) {e sz : Nat} {qs : PQ} (hi : getM mm i = some (.pool e sz qs)) (hig : Nat.blt i given = true) (hno : noUse i mm = true) (hnt : noUseT i tm = true)
    (g : Goes C f n R k tm (updM mm i (.pool e sz (qs ++ [(.slice none 0 0, [])])))) : Goes C f n R k tm mm := g.mono fun _ _ h => h.nilPool hi hig hno hnt
theorem g_nilVal (i j : Nat) {cs : List SC} (hi : getM mm i = some (.box cs)) (hj : nthC cs j = some (.c .nils)) (g : Goes C f n R k tm (updM mm i (.box (setL cs j (.c (.val (.slice none 0 0))))))) : Goes C f n R k tm mm :=
  g.mono fun _ _ h => h.nilVal hi hj
theorem g_freezeB (i j c : Nat) {e sz : Nat} {v : Value} {xs : List (List CT)} {cs : List SC} (hij : Nat.beq i j = false) (hi : getM mm i = some (.pool e sz [(v, xs)])) (hig : Nat.blt i given = true) (hj : getM mm j = some (.box cs))
    (hc : nthC cs c = some (.c (.val v))) (hno : noUse i mm = true) (hnt : noUseT i tm = true) (g : Goes C f n R k tm (updM (outM [i] mm) j (.box (setL cs c (.c (.slice false sz xs)))))) : Goes C f n R k tm mm :=
  g.mono fun _ _ h => h.freezeB i j c hij hi hig hj hc hno hnt
theorem g_freezeP (i j : Nat) {e sz e' : Nat} {qs : PQ} {v : Value} {rows : List (List CT)} (hij : Nat.beq i j = false) (hi : getM mm i = some (.pool e sz qs)) (hig : Nat.blt i given = true) (hj : getM mm j = some (.pool e' 1 [(v, rows)]))
    (hno : noUse i mm = true) (hnt : noUseT i tm = true) (hrows : rows = qs.map fun q => [.val q.1]) (g : Goes C f n R k tm (updM (outM [i] mm) j (.pool e' 1 [(v, qs.map fun q => [.slice false sz q.2])]))) : Goes C f n R k tm mm :=
  g.mono fun _ _ h => h.freezeP i j hij hi hig hj hno hnt hrows
theorem g_merge (i j : Nat) {e sz : Nat} {qs rs : PQ} (hij : Nat.beq i j = false) (hi : getM mm i = some (.pool e sz qs)) (hj : getM mm j = some (.pool e sz rs)) (hig : Nat.blt i given = true) (hjg : Nat.blt j given = true)
    (hno : noUse i mm = true) (hnt : noUseT i tm = true) (hno' : noUse j mm = true) (hnt' : noUseT j tm = true) (g : Goes C f n R k tm (updM (outM [i] mm) j (.pool e sz (rs ++ qs)))) : Goes C f n R k tm mm :=
  g.mono fun _ _ h => h.merge i j hij hi hj hig hjg hno hnt hno' hnt'
end
section
variable {C : Ctx} {n : Nat} {mmf : Nat → MM} {L l : List Oper} {tm0 tm : TM} {E : List Nat} {i : Nat} {o : Oper} {d : Nat} {TF : TM → Prop} {p q : Operand} {ty ty' : TypeId}
end
end Go.Sy

/- Layer: append to nil, frozen at once or as a new pool. -/
namespace Go.Sy
open Go.RowKit

section
variable {C : Ctx} {n : Nat} {mm : MM} {o : Oper} {d : Nat} {x y : Operand}
theorem op_appendNF {Θ : Tab} (hΘ : tabOK C.P Θ) {tmr : TM} {t : TypeId} {z bts e : Nat} {ag : Bool} {zt : Option (List CT)} {ei : TyI} {zr : List CT} {nn' : Bool} {sz : Nat} {ys : List (List CT)}
    (ho : o.op = .call { callee := .builtin .append, args := ⟨[x, y]⟩, argTypes := ⟨[t, t]⟩ }) (ht : tyGet Θ t = some ⟨z, bts, ag, zt, .slice e⟩) (hei : tyGet Θ e = some ei) (hz : ei.zero = some zr)
    (hsz : Nat.beq ei.size sz = true) (hs0 : Nat.blt 0 ei.size = true) (hx : evalC tmr x = some (.c .nils)) (hy : evalC tmr y = some (.c (.slice nn' sz ys))) (hd : o.dst = some d) (hn : Nat.blt d n = true)
    (hbig : ys.length ≤ 9223372036854775807 ∧ ys.length * ei.bytes ≤ 140737488355328) : OpX C n mm o tmr d (.v (.one (.c (.slice false sz ys)))) := by
  refine ⟨⟨hd, hn⟩, fun tm' hs => OpR.wp ?_⟩
  intro a w ⟨H, Z, hm'⟩
  have hm := hm'.sub hs
  have hszE : ei.size = sz := Nat.eq_of_beq_eq_true hsz
  subst hszE
  have hv : a.eval x = .slice none 0 0 := RepC.nils_inv (evalC_rep hm hx)
  obtain ⟨v', w', news, hr, h2, h3, h5, hylen, hyrep⟩ := append_tells (xs := []) (ty := o.type) (v := .slice none 0 0) (us := []) hΘ ht hei hz (Nat.blt_eq.mp hs0) (by simpa using hbig) (World.ownsRow_nil _ _ _ _) (evalC_rep hm hy : RepC w (Mof C H mm) (a.eval y) (.slice nn' ei.size ys))
  have hrun : (execOp a.eval o).run C.P w = .ok (.value v') w' := by
    unfold execOp
    simp only [ho, resolve, invoke, builtin, Sem.run_bind, Sem.run_pure, Result.andThen_ok, List.map_toArray, List.map_cons, List.map_nil, hv, hr]
  have hB' : hblk v' = v'.ownBlock := hblk_row h2
  have hMlt : ∀ b, Mof C H mm b → b < w.heap.size := by
    rintro b (hb | ⟨p, hp, hpb⟩)
    · exact Nat.lt_of_lt_of_le (hm.m0 b hb) hm.ext.size
    · exact (hm.fresh p hp b hpb).2
  have hext : Ext (fun _ => False) w w' := ⟨h3.os, h3.tape, h3.output, h3.size, fun k hk _ => h3.block k hk (fun e => by cases e)⟩
  have hrow : RowOK w' (Mof C H mm) e ei.size v' ys :=
    ⟨news, by simpa using h2, hylen, fun i q hq j c hc => by
      obtain ⟨u, hu, hr⟩ := hyrep i q hq j c hc
      exact ⟨u, hu, hr.mono h3.size (fun b hb _ => hext.block b hb (fun h => h)) (fun _ _ h => h)⟩⟩
  have hrep : RepC w' (Mof C H mm) v' (.slice false ei.size ys) := hrow.frozen (fun _ _ h => h) (fun b hb hM => by
    have hlt := hMlt b hM
    rcases h5 with h5 | h5
    · rw [hB', h5] at hb; cases hb
    · rw [hB', h5] at hb; injection hb with hb; omega)
  refine .inl ⟨_, _, hrun, H, Z, ?_⟩
  rw [hd]
  refine hm'.build (fun _ => False) hext (fun _ _ h => h.elim) (by simpa [Act.put] using hm.defers) (by simp [Act.put, hm.size]) hm.hg hm.ids
    (fun p hp => .inl ⟨hp, rfl, rfl, fun _ _ h => h, fun _ _ hj => ⟨hj, rfl, rfl⟩⟩) hm.sep (fun p hp => ?_)
  rcases List.mem_cons.1 hp with rfl | hp
  · refine .inr fun _ _ => ?_
    rw [put_self (by rw [hm.size]; exact Nat.blt_eq.mp hn)]
    exact hrep
  · obtain ⟨h1, h2'⟩ := delL_mem hp
    exact .inl ⟨p, h1, rfl, put_other h2', fun _ _ hj => ⟨hj, rfl, rfl⟩⟩
end
section
variable {C : Ctx} {n : Nat} {mm0 : MM} {L l : List Oper} {tm0 tm : TM} {R : List Rec} {i : Nat} {o : Oper} {d t : Nat} {T : TM → MM → Prop} {x y : Operand}
/-- append to nil in a drawn region: the outcome is frozen. -/
theorem e_appendNF {Θ : Tab} (hΘ : tabOK C.P Θ) {t : TypeId} {z bts e : Nat} {ag : Bool} {zt : Option (List CT)} {ei : TyI} {zr : List CT} {nn' : Bool} {sz : Nat} {ys : List (List CT)}
    (ho : o.op = .call { callee := .builtin .append, args := ⟨[x, y]⟩, argTypes := ⟨[t, t]⟩ }) (ht : tyGet Θ t = some ⟨z, bts, ag, zt, .slice e⟩) (hei : tyGet Θ e = some ei) (hz : ei.zero = some zr)
    (hsz : Nat.beq ei.size sz = true) (hs0 : Nat.blt 0 ei.size = true) (hx : evalC (onlyE (looksE L o) tm) x = some (.c .nils)) (hy : evalC (onlyE (looksE L o) tm) y = some (.c (.slice nn' sz ys)))
    (hd : o.dst = some d) (hn : Nat.blt d n = true) (hg : guardL L (onlyE (looksE L o) tm) o = some true)
    (hbig : ys.length ≤ 9223372036854775807 ∧ ys.length * ei.bytes ≤ 140737488355328)
    (k : EOps C n mm0 L tm0 (i + 1) l ((d, .v (.one (.c (.slice false sz ys)))) :: delL tm d) R T) : EOps C n mm0 L tm0 i (o :: l) tm R T :=
  EOps.step hg (fun _ _ _ => op_appendNF hΘ ho ht hei hz hsz hs0 hx hy hd hn hbig) hd k
end
theorem subM_id {i : Nat} {r : SC} : ∀ {mm : MM}, (∀ q ∈ mm, q.1 ≠ i ∧ i ∉ q.2.uses) → subM i r mm = mm
  | [], _ => rfl
  | (t, o) :: l, h => by
    obtain ⟨h1, h2⟩ := h (t, o) List.mem_cons_self
    have hb : Nat.beq t i = false := by
      cases hb : Nat.beq t i with
      | false => rfl
      | true => exact absurd (Nat.eq_of_beq_eq_true hb) h1
    show (match Nat.beq t i with | true => subM i r l | false => (t, o.sub i r) :: subM i r l) = _
    rw [hb]
    show (t, o.sub i r) :: subM i r l = _
    rw [MO.sub_id h2, subM_id fun q hq => h q (List.mem_cons_of_mem _ hq)]
section
variable {ι : Type} {C : Ctx} {n : Nat} {L : List Oper} {tmF : TM} {ET : Nat → ι → TM} {MMx : Nat → ι → MM} {k : Nat} {x : ι} {o : Oper} {d : Nat} {p q : Operand}
/-- append to nil in a region whose operations change memory: a new pool. -/
theorem ef_appendNew {Θ : Tab} (hΘ : tabOK C.P Θ) {t : TypeId} {z bts e : Nat} {ag : Bool} {zt : Option (List CT)} {ei : TyI} {zr : List CT} (j : Nat) {nn' : Bool} {sz : Nat} {ys : List (List CT)}
    (ho : o.op = .call { callee := .builtin .append, args := ⟨[p, q]⟩, argTypes := ⟨[t, t]⟩ }) (ht : tyGet Θ t = some ⟨z, bts, ag, zt, .slice e⟩) (hei : tyGet Θ e = some ei) (hz : ei.zero = some zr)
    (hsz : Nat.beq ei.size sz = true) (hs0 : Nat.blt 0 ei.size = true) (hx : evalC (onlyE (looksE L o) (tmF ++ ET k x)) p = some (.c .nils)) (hy : evalC (onlyE (looksE L o) (tmF ++ ET k x)) q = some (.c (.slice nn' sz ys)))
    (hig : Nat.blt j given = true) (hf : hasI (MMx k x) j = false) (hno : noUse j (MMx k x) = true) (hnt : noUseT j tmF = true) (hd : o.dst = some d) (hn : Nat.blt d n = true) (hg : guardL L (onlyE (looksE L o) (tmF ++ ET k x)) o = some true) (hnk : keyT d tmF = true)
    (hbig : ys.length ≤ 9223372036854775807 ∧ ys.length * ei.bytes ≤ 140737488355328)
    (X : Value → ι) (hET : ∀ v, ET (k + 1) (X v) = [(d, .v (.one (.c (.val v))))]) (hM : ∀ v, MMx (k + 1) (X v) = (j, .pool e sz [(v, ys)]) :: MMx k x) : EffOK C n L tmF ET MMx k x o := by
  refine eff_core hg fun tm a w K Q hin hh hK => ?_
  have hno' : noUse j ((j, .arr false e sz []) :: MMx k x) = true := by
    show (match memN [] j with | true => false | false => noUse j (MMx k x)) = true
    exact hno
  have hop := op_appendN (tm := onlyE (looksE L o) (tmF ++ ET k x) ++ tm) hΘ j ho ht hei hz hsz hs0 (evalC_app hx) (evalC_app hy) hig hf hno' hd hn hbig
  refine hop.wp a w K Q (hh.incl fun p hp => (List.mem_append.1 hp).elim (hin p) id) fun a' w' h' => ?_
  obtain ⟨v, h⟩ := h'.toPool (i := j) (nn := false) (e := e) (sz := sz) (xs := ys) (by simp [getM]) hig
  have hM0 : subM j (.c (.val v)) ((j, .arr false e sz ys) :: MMx k x) = MMx k x := by
    show (match Nat.beq j j with | true => subM j (.c (.val v)) (MMx k x) | false => _) = _
    rw [Nat.beq_refl]
    exact subM_id (fun q hq => ⟨fun e => hasI_false hf ⟨q, hq, e⟩, noUse_spec hno hq⟩)
  rw [hM0] at h
  refine hK (X v) _ a' w' (fun p hp hpt => ?_) (fun p hp => ?_) (by rw [hM]; exact h)
  · have hn := noUseT_spec hnt p hp
    exact subT_keep hn (List.mem_cons_of_mem _ (mem_delL (dropU_in hn (List.mem_append_right _ hpt)) (keyT_spec hnk p hp)))
  · rw [hET] at hp
    rw [List.mem_singleton.1 hp]
    show _ ∈ (d, ST.sub j (.c (.val v)) (.v (.one (.own j)))) :: _
    have : ST.sub j (.c (.val v)) (.v (.one (.own j))) = .v (.one (.c (.val v))) := by
      show ST.v (.one (match Nat.beq j j with | true => .c (.val v) | false => .own j)) = _
      rw [Nat.beq_refl]
    rw [this]
    exact List.mem_cons_self
end
section
variable {C : Ctx} {n : Nat} {tm : TM} {mm : MM} {o : Oper} {d : Nat} {x y : Operand}
/-- make, as a row of one's own. -/
theorem op_makeO {Θ : Tab} (hΘ : tabOK C.P Θ) {t : TypeId} {z bts e : Nat} {ag : Bool} {zt : Option (List CT)} {ei : TyI} {c0 : CT} {kx ky : IntKind} {v v' : Int}
    (ho : o.op = .makeSlice t x y) (ht : tyGet Θ t = some ⟨z, bts, ag, zt, .slice e⟩) (hei : tyGet Θ e = some ei) (hz : ei.zero = some [c0]) (hs1 : Nat.beq ei.size 1 = true)
    (hx : evalC tm x = some (.c (.int kx v))) (hy : evalC tm y = some (.c (.int ky v'))) (hi : getM mm d = none) (hd : o.dst = some d) (hn : Nat.blt d n = true)
    (m : Nat) (hv : v = (m : Int)) (hv' : v' = (m : Int)) (hbig : m ≤ 9223372036854775807 ∧ ei.bytes * m ≤ 281474976710656) :
    OpR C n o tm mm ((d, .v (.one (.own d))) :: delL tm d) ((d, .arr true e 1 (List.replicate m [c0])) :: mm) := by
  intro a w ⟨H, Z, hm⟩
  subst hv hv'
  have h1 : a.eval x = .int kx m := RepC.int_inv (evalC_rep hm hx)
  have h2 : a.eval y = .int ky m := RepC.int_inv (evalC_rep hm hy)
  obtain ⟨inf, de, hf⟩ := tyF hΘ ht
  obtain ⟨inf', de', hf'⟩ := tyF hΘ hei
  obtain ⟨zv, hzv, hzc, hzl⟩ := hf'.zero [c0] hz
  obtain ⟨q1, q2⟩ := zchk_cells (w := w) (M := Mof C H mm) hzc
  have hde : de = .slice e := by
    have := hf.sh
    cases de <;> simp [shChk] at this ⊢
    exact this
  subst hde
  have hs1 : ei.size = 1 := Nat.eq_of_beq_eq_true hs1
  have hrun0 := run_make (P := C.P) w t e inf' zv hf.und hf'.info hzv kx ky m m (by omega) (by omega) (by rw [hf'.bytes]; omega) (by omega)
  rw [hf'.size, hs1] at hrun0
  have hcs : zv.cells.size = 1 := by rw [q1]; rfl
  obtain ⟨u0, hu0, hr0⟩ := q2 0 c0 rfl
  have hcells : ∀ i, i < m → (madeCells zv.cells (m * 1))[i]? = some u0 := by
    intro i hi
    simp only [madeCells, Nat.mul_one]
    rw [Array.getElem?_map, Array.getElem?_range]
    rw [if_pos hi]
    simp only [Option.map_some, hcs, Nat.mod_one]
    rw [getElem!_def, hu0]
  have hrun : (execOp a.eval o).run C.P w = .ok (.value (.slice (some ⟨w.heap.size, 0, none⟩) m m)) (w.alloc (.cells (madeCells zv.cells (m * 1)) e)) := by
    simp only [execOp, ho, h1, h2, Sem.run_bind]
    simp [hrun0, Sem.run_pure]
  have hget : ∀ (k : Nat) (q : List CT), (List.replicate m [c0])[k]? = some q → k < m ∧ q = [c0] := fun k q hk => by
    rw [List.getElem?_replicate] at hk
    split at hk
    · rename_i h; injection hk with hk; exact ⟨h, hk.symm⟩
    · cases hk
  refine .inl ⟨_, _, hrun, upd H d (.slice (some ⟨w.heap.size, 0, none⟩) m m), upd Z d 1, ?_⟩
  rw [hd]
  refine hm.add (i := d) (hv := .slice (some ⟨w.heap.size, 0, none⟩) m m) (z := 1) (o := .arr true e 1 (List.replicate m [c0])) (getM_none hi) (Nat.blt_eq.mp hn) rfl (alloc_ext w _) ?_ ?_ ?_
  · intro b hb
    simp [Hb, hblk] at hb
    subst hb
    exact ⟨Nat.le_refl _, by show _ < (w.heap.push _).size; rw [Array.size_push]; omega⟩
  · intro hMM hfr
    refine ⟨upd_self _ _ _, (madeCells zv.cells (m * 1)).toList, ?_, by rw [upd_self]; simp, fun q hq => by rw [List.mem_replicate] at hq; rw [hq.2]; rfl, fun k x hk j c hc => ?_⟩
    · rw [upd_self, List.length_replicate]
      exact World.ownsRow_lit w _ m (Nat.zero_le _) (by simp only [maxLen]; omega) (by simp [madeCells])
    · obtain ⟨g1, rfl⟩ := hget k x hk
      cases j with
      | succ j => simp at hc
      | zero =>
        simp at hc; subst hc
        exact ⟨u0, by rw [Nat.mul_one, Nat.add_zero, Array.getElem?_toList]; simpa using hcells k g1, hr0.mono (alloc_ext w _).size hfr hMM⟩
  · exact ⟨⟨_, List.mem_cons_self, rfl⟩, (upd_self _ _ _).symm⟩
end
section
variable {C : Ctx} {n : Nat} {tm : TM} {mm : MM} {L l : List Oper} {T : TM → MM → Prop} {o : Oper} {d : Nat} {x y : Operand}
theorem s_makeO {Θ : Tab} (hΘ : tabOK C.P Θ) {t : TypeId} {z bts e : Nat} {ag : Bool} {zt : Option (List CT)} {ei : TyI} {c0 : CT} {kx ky : IntKind} {v v' : Int}
    (ho : o.op = .makeSlice t x y) (ht : tyGet Θ t = some ⟨z, bts, ag, zt, .slice e⟩) (hei : tyGet Θ e = some ei) (hz : ei.zero = some [c0]) (hs1 : Nat.beq ei.size 1 = true)
    (hx : evalC tm x = some (.c (.int kx v))) (hy : evalC tm y = some (.c (.int ky v'))) (hi : getM mm d = none) (hd : o.dst = some d) (hn : Nat.blt d n = true) (hg : guardL L tm o = some true)
    (m : Nat) (hv : v = (m : Int)) (hv' : v' = (m : Int)) (hbig : m ≤ 9223372036854775807 ∧ ei.bytes * m ≤ 281474976710656)
    (k : SOps C n L.toArray l ((d, .v (.one (.own d))) :: delL tm d) ((d, .arr true e 1 (List.replicate m [c0])) :: mm) T) : SOps C n L.toArray (o :: l) tm mm T :=
  s_step (op_makeO hΘ ho ht hei hz hs1 hx hy hi hd hn m hv hv' hbig).wp hg k
end
section
variable {C : Ctx} {n : Nat} {tm : TM} {mm : MM} {f : FuncId} {R : Ending → World → Prop} {k : List Item}
end
end Go.Sy

/- Layer: rows of one's own lent to a function that only reads them; a row of one's own under another id. -/
namespace Go.Sy
open Go.RowKit

/-! ### What holds whatever memory is read -/
def flatC : CT → Bool
  | .slice _ _ _ => false
  | _ => true
def flatSC : SC → Bool
  | .c x => flatC x
  | .lit _ => true
  | _ => false
def flatV : SV → Bool
  | .one s => flatSC s
  | .agg l => l.all flatSC
def flatS : ST → Bool
  | .v s => flatV s
  | .tup l => l.all flatV
def FlatRows (xs : List (List CT)) : Prop := ∀ q ∈ xs, ∀ c ∈ q, flatC c = true
theorem flatC_rep {w w' : World} {M M' : Nat → Prop} {v : Value} {c : CT} (hf : flatC c = true) (h : RepC w M v c) : RepC w' M' v c := by
  cases h with
  | int k n => exact .int k n
  | bool b => exact .bool b
  | str s => exact .str s
  | nils => exact .nils
  | intP k n h => exact .intP k n h
  | val v h => exact .val v h
  | slice => cases hf
section
variable {I I' : Nat → Prop} {H H' : Nat → Value} {Z Z' : Nat → Nat} {w w' : World} {M M' : Nat → Prop} {v : Value}
theorem flatSC_rep {s : SC} (hf : flatSC s = true) (h : RepSC I H Z w M v s) : RepSC I' H' Z' w' M' v s := by
  cases s with
  | c x => exact flatC_rep hf h
  | lit b => exact h
  | _ => cases hf
theorem flatV_rep {s : SV} (hf : flatV s = true) (h : RepSV I H Z w M v s) : RepSV I' H' Z' w' M' v s := by
  cases s with
  | one s => exact flatSC_rep hf h
  | agg l =>
    obtain ⟨vs, h1, h2, h3⟩ := h
    refine ⟨vs, h1, h2, fun j c hc => ?_⟩
    obtain ⟨u, hu, hr⟩ := h3 j c hc
    exact ⟨u, hu, flatSC_rep (List.all_eq_true.1 hf c (List.mem_of_getElem? hc)) hr⟩
theorem flatS_rep {s : ST} (hf : flatS s = true) (h : RepST I H Z w M v s) : RepST I' H' Z' w' M' v s := by
  cases s with
  | v s => exact flatV_rep hf h
  | tup l =>
    obtain ⟨vs, h1, h2, h3⟩ := h
    refine ⟨vs, h1, h2, fun j c hc => ?_⟩
    obtain ⟨u, hu, hr⟩ := h3 j c hc
    exact ⟨u, hu, flatV_rep (List.all_eq_true.1 hf c (List.mem_of_getElem? hc)) hr⟩
end

/-! ### Lending -/
def isArr : MO → Bool
  | .arr _ _ _ _ => true
  | _ => false
/-- The memory that may not be read as frozen, less the rows that are lent. -/
def MofL (C : Ctx) (H : Nat → Value) (mm : MM) (b : Nat) : Prop := Mof C H mm b ∧ ¬ ∃ p ∈ mm, isArr p.2 = true ∧ Hb (H p.1) b
def lendC (mm : MM) : SC → Option SC
  | .own i => match getM mm i with
    | some (.arr _ _ sz xs) => some (.c (.slice false sz xs))
    | _ => none
  | s => some s
def lendV (mm : MM) : SV → Option SV
  | .one s => match lendC mm s with
    | some s' => some (.one s')
    | none => none
  | .agg l => some (.agg l)
def lendVs (mm : MM) : List SV → Option (List SV)
  | [] => some []
  | a :: l => match lendV mm a with
    | some a' => match lendVs mm l with
      | some l' => some (a' :: l')
      | none => none
    | none => none
section
variable {C : Ctx} {n : Nat} {tm : TM} {mm : MM} {H : Nat → Value} {Z : Nat → Nat} {a : Act} {w : World}
theorem arr_frozen (hm : Mod C H Z n tm mm a w) {i e sz : Nat} {nn : Bool} {xs : List (List CT)} (hi : getM mm i = some (.arr nn e sz xs)) {M' : Nat → Prop} (hM : ∀ b, M' b → Mof C H mm b) (hn : ∀ b, Hb (H i) b → ¬ M' b) :
    RepC w M' (H i) (.slice false sz xs) := by
  obtain ⟨hz, us, h1, h2, h3, h4⟩ := hm.mem _ (getM_mem hi)
  have h1 : w.ownsRow 0 e sz (H i) xs.length us := h1
  refine RowOK.frozen (M := Mof C H mm) (e := e) ⟨us, h1, h3, h4⟩ (fun b _ hb => hM b hb) fun b hb => hn b ?_
  rw [Hb_own h1, ← hblk_row h1]; exact hb
theorem lendC_rep (hm : Mod C H Z n tm mm a w) {s r : SC} (h : lendC mm s = some r) {v : Value} (hr : RepSC (Iof mm) H Z w (Mof C H mm) v s) : RepSC (Iof mm) H Z w (MofL C H mm) v r := by
  have hmono : ∀ {s : SC}, RepSC (Iof mm) H Z w (Mof C H mm) v s → RepSC (Iof mm) H Z w (MofL C H mm) v s := fun hr =>
    hr.mono (fun i _ hi => ⟨hi, rfl, rfl⟩) (Nat.le_refl _) (fun _ _ _ => rfl) (fun b _ hb => hb.1)
  unfold lendC at h
  split at h
  · rename_i i
    split at h
    · rename_i nn e sz xs hi
      injection h with h; subst h
      obtain ⟨_, rfl⟩ := hr
      exact arr_frozen hm hi (fun b hb => hb.1) fun b hb hb' => hb'.2 ⟨_, getM_mem hi, rfl, hb⟩
    · cases h
  · injection h with h; subst h; exact hmono hr
theorem lendV_rep (hm : Mod C H Z n tm mm a w) {s r : SV} (h : lendV mm s = some r) {v : Value} (hr : RepSV (Iof mm) H Z w (Mof C H mm) v s) : RepSV (Iof mm) H Z w (MofL C H mm) v r := by
  unfold lendV at h
  split at h
  · split at h
    · rename_i hs
      injection h with h; subst h
      exact lendC_rep hm hs hr
    · cases h
  · injection h with h; subst h
    exact RepSV.mono (x := .agg _) hr (fun i _ hi => ⟨hi, rfl, rfl⟩) (Nat.le_refl _) (fun _ _ _ => rfl) (fun b _ hb => hb.1)
theorem lendVs_rep (hm : Mod C H Z n tm mm a w) : ∀ {l r : List SV} {us : List Value}, lendVs mm l = some r → Pw (fun v s => RepSV (Iof mm) H Z w (Mof C H mm) v s) us l → Pw (fun v s => RepSV (Iof mm) H Z w (MofL C H mm) v s) us r
  | [], r, us, h, hp => by
    injection h with h; subst h
    exact ⟨hp.1, fun j c hc => by simp at hc⟩
  | s :: l, r, us, h, hp => by
    unfold lendVs at h
    split at h
    · rename_i a' ha
      split at h
      · rename_i l' hl
        injection h with h; subst h
        match us, hp with
        | [], hp => exact absurd hp.1 (by simp)
        | u :: us, hp =>
          have ih := lendVs_rep hm (us := us) hl ⟨by simpa using hp.1, fun j c hc => by simpa using hp.2 (j + 1) c (by simpa using hc)⟩
          refine ⟨by simpa using ih.1, fun j c hc => ?_⟩
          match j, hc with
          | 0, hc =>
            simp at hc; subst hc
            obtain ⟨u', hu, hr⟩ := hp.2 0 s rfl
            simp at hu; subst hu
            exact ⟨_, rfl, lendV_rep hm ha hr⟩
          | j + 1, hc =>
            obtain ⟨u', hu, hr⟩ := ih.2 j c (by simpa using hc)
            exact ⟨u', by simpa using hu, hr⟩
      · cases h
    · cases h
theorem MofL_lt (hm : Mod C H Z n tm mm a w) : ∀ b, MofL C H mm b → b < w.heap.size := by
  rintro b ⟨hb | ⟨p, hp, hpb⟩, _⟩
  · exact Nat.lt_of_lt_of_le (hm.m0 b hb) hm.ext.size
  · exact (hm.fresh p hp b hpb).2
end
section
variable {C : Ctx} {n : Nat} {tm : TM} {mm : MM} {o : Oper} {d : Nat} {L l : List Oper} {T : TM → MM → Prop}
/-- A call that brings rows of its making, of what is flat; rows of one's own are lent. -/
theorem op_callOL {f : FuncId} {args args0 : List SV} {ι : Type} {Q : ι → Prop} {res : ι → ST} {ps : ι → PL} (hc : ConO C.P f args Q res ps) (js : List Nat) {xs : Array Operand} {ts : Array TypeId}
    (ho : o.op = .call { callee := .value (.func f), args := xs, argTypes := ts }) (hargs : evalArgs tm xs.toList = some args0) (hl : lendVs mm args0 = some args) (hren : renVs [] args = some args)
    (hnd : noDup js = true) (hjg : allLtG js = true) (hjf : freeM mm js = true) (hd : o.dst = some d) (hn : Nat.blt d n = true) (hpure : ∀ x, pureS (res x) = true) (hfl : ∀ x, flatS (res x) = true) (hfp : ∀ x, ∀ p ∈ ps x, ∀ q ∈ p.2.2, FlatRows q.2)
    {a : Act} {w : World} {K : Act → World → Prop} {Qx : Exit → Act → World → Prop} (hh : Has C n tm mm a w)
    (hK : ∀ x a' w', Q x → Has C n ((d, res x) :: delL tm d) (poolsM js (ps x) ++ mm) a' w' → K a' w') : o.wp C.P a w K Qx := by
  obtain ⟨H, Z, hm⟩ := hh
  have hargs' := lendVs_rep hm hl (evalArgs_rep hm hargs)
  have hI : ∀ i j, renI [] i = some j → Iof mm j → Iof [] i ∧ H i = H j := fun i j h _ => by
    have := (renI_spec h).2; simp at this
  have hcalls := hc.calls w (MofL C H mm) H Z _ (MofL_lt hm) (renVs_rep hI (fun b _ h => h) hren hargs')
  refine op_callO_core hc.ok js ho hnd hjg hjf hd hn hpure hm (hcalls.mono ?_) hK
  rintro e w' ⟨x, v, hq, rfl, hext, hnew, hrep⟩
  refine ⟨x, v, hq, rfl, hext, ⟨fun p hp => ?_, hnew.fresh, hnew.sep⟩, flatS_rep (hfl x) hrep⟩
  obtain ⟨g1, g2⟩ := hnew.ok p hp
  refine ⟨fun k q hk => ?_, g2⟩
  obtain ⟨us, u1, u2, u3⟩ := g1 k q hk
  refine ⟨us, u1, u2, fun i y hy j c hc' => ?_⟩
  obtain ⟨u, hu, hr⟩ := u3 i y hy j c hc'
  exact ⟨u, hu, flatC_rep (hfp x p hp q (List.mem_of_getElem? hk) y (List.mem_of_getElem? hy) c (List.mem_of_getElem? hc')) hr⟩
theorem s_callOL {f : FuncId} {args args0 : List SV} {ι : Type} {Q : ι → Prop} {res : ι → ST} {ps : ι → PL} (hc : ConO C.P f args Q res ps) (js : List Nat) {xs : Array Operand} {ts : Array TypeId}
    (ho : o.op = .call { callee := .value (.func f), args := xs, argTypes := ts }) (hargs : evalArgs tm xs.toList = some args0) (hl : lendVs mm args0 = some args) (hren : renVs [] args = some args)
    (hnd : noDup js = true) (hjg : allLtG js = true) (hjf : freeM mm js = true) (hd : o.dst = some d) (hn : Nat.blt d n = true) (hg : guardL L tm o = some true) (hpure : ∀ x, pureS (res x) = true) (hfl : ∀ x, flatS (res x) = true) (hfp : ∀ x, ∀ p ∈ ps x, ∀ q ∈ p.2.2, FlatRows q.2)
    (k : ∀ x, Q x → SOps C n L.toArray l ((d, res x) :: delL tm d) (poolsM js (ps x) ++ mm) T) : SOps C n L.toArray (o :: l) tm mm T := by
  intro a w hh
  unfold wpList
  rw [if_pos (wanted_of (guardL_eq hg) hh)]
  exact .inl (op_callOL hc js ho hargs hl hren hnd hjg hjf hd hn hpure hfl hfp hh fun x a' w' hq h' => k x hq a' w' h')

/-- append of a row of one's own, of what is flat, to a row of one's own. -/
theorem op_appendL {Θ : Tab} (hΘ : tabOK C.P Θ) {t : TypeId} {x y : Operand} {z bts e e' : Nat} {ag : Bool} {zt : Option (List CT)} {ei : TyI} {zr : List CT} {i j : Nat} {nn nn' : Bool} {sz : Nat} {xs ys : List (List CT)}
    (ho : o.op = .call { callee := .builtin .append, args := ⟨[x, y]⟩, argTypes := ⟨[t, t]⟩ }) (ht : tyGet Θ t = some ⟨z, bts, ag, zt, .slice e⟩) (hei : tyGet Θ e = some ei) (hz : ei.zero = some zr)
    (hsz : Nat.beq ei.size sz = true) (hs0 : Nat.blt 0 ei.size = true) (hx : evalC tm x = some (.own i)) (hi : getM mm i = some (.arr nn e sz xs)) (hy : evalC tm y = some (.own j)) (hj : getM mm j = some (.arr nn' e' sz ys)) (hf : FlatRows ys)
    (hbig : xs.length + ys.length ≤ 9223372036854775807 ∧ (xs.length + ys.length) * ei.bytes ≤ 140737488355328) (hig : Nat.blt i given = true) (hno : noUse i mm = true) (hd : o.dst = some d) (hn : Nat.blt d n = true) :
    OpR C n o tm mm ((d, .v (.one (.own i))) :: delL (dropU i tm) d) (updM mm i (.arr false e sz (xs ++ ys))) := by
  intro a w ⟨H, Z, hm⟩
  obtain ⟨_, hyv⟩ := evalC_rep hm hy
  have hyr := arr_frozen hm hj (M' := fun b => Mof C H mm b ∧ ¬ Hb (H j) b) (fun b hb => hb.1) fun b hb hb' => hb'.2 hb
  rw [← hyv] at hyr
  obtain ⟨v', w', h1, h2⟩ := append_core hΘ ho ht hei hz hsz hs0 hi hbig hig hno hd hn hm (evalC_rep hm hx).2 hyr fun q hq ct hct v hv => flatC_rep (hf q hq ct hct) hv
  exact .inl ⟨v', w', h1, h2⟩
theorem s_appendL {Θ : Tab} (hΘ : tabOK C.P Θ) {t : TypeId} {x y : Operand} {z bts e e' : Nat} {ag : Bool} {zt : Option (List CT)} {ei : TyI} {zr : List CT} {i j : Nat} {nn nn' : Bool} {sz : Nat} {xs ys : List (List CT)}
    (ho : o.op = .call { callee := .builtin .append, args := ⟨[x, y]⟩, argTypes := ⟨[t, t]⟩ }) (ht : tyGet Θ t = some ⟨z, bts, ag, zt, .slice e⟩) (hei : tyGet Θ e = some ei) (hz : ei.zero = some zr)
    (hsz : Nat.beq ei.size sz = true) (hs0 : Nat.blt 0 ei.size = true) (hx : evalC tm x = some (.own i)) (hi : getM mm i = some (.arr nn e sz xs)) (hy : evalC tm y = some (.own j)) (hj : getM mm j = some (.arr nn' e' sz ys))
    (hig : Nat.blt i given = true) (hno : noUse i mm = true) (hd : o.dst = some d) (hn : Nat.blt d n = true) (hg : guardL L tm o = some true) (hf : FlatRows ys)
    (hbig : xs.length + ys.length ≤ 9223372036854775807 ∧ (xs.length + ys.length) * ei.bytes ≤ 140737488355328)
    (k : SOps C n L.toArray l ((d, .v (.one (.own i))) :: delL (dropU i tm) d) (updM mm i (.arr false e sz (xs ++ ys))) T) : SOps C n L.toArray (o :: l) tm mm T :=
  s_step (op_appendL hΘ ho ht hei hz hsz hs0 hx hi hy hj hf hbig hig hno hd hn).wp hg k
end

/-! ### A row of one's own under another id (toPool, then ownP) -/
section
variable {C : Ctx} {n : Nat} {tm : TM} {mm : MM} {f : FuncId} {R : Ending → World → Prop} {k : List Item}
/-- A pool of one row is a row of one's own that a temporary holds. -/
theorem Has.ownP {a : Act} {w : World} (i j t : Nat) {e sz : Nat} {v : Value} {xs : List (List CT)} (hi : getM mm i = some (.pool e sz [(v, xs)])) (hig : Nat.blt i given = true) (ht : getT tm t = some (.v (.one (.c (.val v)))))
    (hjg : Nat.blt j given = true) (hjf : hasI mm j = false) (hno : noUse i mm = true) (hnt : noUseT i tm = true) (h : Has C n tm mm a w) : Has C n ((t, .v (.one (.own j))) :: delL tm t) ((j, .arr false e sz xs) :: outM [i] mm) a w := by
  obtain ⟨H, Z, hm⟩ := h
  obtain ⟨hH, hpool⟩ := hm.mem _ (getM_mem hi)
  have hH : H i = poolV [(v, xs)] := hH
  have hpool : PoolOK w (Mof C H mm) e sz [(v, xs)] := hpool
  obtain ⟨us, h1, h3, h4⟩ := hpool.row (k := 0) rfl
  have hji := hasI_false hjf
  have hjn : j ≠ i := fun e => hji (e ▸ ⟨_, getM_mem hi, rfl⟩)
  have hsub : ∀ p ∈ outM [i] mm, p ∈ mm ∧ p.1 ≠ i ∧ p.1 ≠ j := fun p hp => by
    obtain ⟨g1, g2⟩ := outM_mem.1 hp
    exact ⟨g1, by simpa using g2, fun e => hji ⟨p, g1, e⟩⟩
  have hHo : ∀ q, q ≠ j → Sy.upd H j v q = H q := fun q hq => upd_ne _ _ hq
  have hZo : ∀ q, q ≠ j → Sy.upd Z j sz q = Z q := fun q hq => upd_ne _ _ hq
  have hvb : ∀ b, Hb v b → Hb (H i) b := fun b hb => by
    rw [hH]; exact poolV_Hb.2 ⟨_, List.mem_cons_self, by rw [hblk_row h1]; exact (Hb_own h1 b).1 hb⟩
  have hIds : ∀ q, q ≠ i → Iof mm q → Iof ((j, .arr false e sz xs) :: outM [i] mm) q := fun q hq ⟨p, hp, e⟩ => ⟨p, List.mem_cons_of_mem _ (outM_mem.2 ⟨hp, by simpa [e] using hq⟩), e⟩
  refine ⟨Sy.upd H j v, Sy.upd Z j sz, hm.build (fun _ => False) (Ext.refl _ w) (fun _ _ h => h.elim) hm.defers hm.size ?_ ?_ ?_ ?_ ?_⟩
  · intro p hp hpg
    rcases List.mem_cons.1 hp with rfl | hp
    · have := Nat.blt_eq.mp hjg; simp only at hpg; omega
    · rw [hHo _ (hsub p hp).2.2]; exact hm.hg p (hsub p hp).1 hpg
  · intro p hp q hq he
    rcases List.mem_cons.1 hp with rfl | hp <;> rcases List.mem_cons.1 hq with rfl | hq
    · rfl
    · exact absurd he.symm (hsub q hq).2.2
    · exact absurd he (hsub p hp).2.2
    · exact hm.ids p (hsub p hp).1 q (hsub q hq).1 he
  · intro p hp
    rcases List.mem_cons.1 hp with rfl | hp
    · refine .inr ⟨fun b hb => ?_, fun hMM _ => ?_⟩
      · rw [upd_self] at hb
        exact .inr ⟨_, getM_mem hi, hvb b hb, .inr ⟨Nat.blt_eq.mp hig, Nat.blt_eq.mp hjg⟩⟩
      · refine ⟨upd_self _ _ _, us, by rw [upd_self]; exact h1, fun h => (by cases h), h3, fun k x hx m c hc => ?_⟩
        obtain ⟨u, hu, hr⟩ := h4 k x hx m c hc
        exact ⟨u, hu, hr.mono (Nat.le_refl _) (fun _ _ _ => rfl) hMM⟩
    · obtain ⟨k1, k2, k3⟩ := hsub p hp
      exact .inl ⟨k1, hHo _ k3, hZo _ k3, fun _ _ h => h, fun q hq hIq => ⟨hIds q (fun e => noUse_spec hno k1 (e ▸ hq)) hIq, hHo q (fun e => hji (e ▸ hIq)), hZo q (fun e => hji (e ▸ hIq))⟩⟩
  · intro p hp q hq hpq b hpb hqb
    rcases List.mem_cons.1 hp with rfl | hp <;> rcases List.mem_cons.1 hq with rfl | hq
    · exact hpq rfl
    · rw [upd_self] at hpb
      rw [hHo _ (hsub q hq).2.2] at hqb
      exact hm.sep _ (getM_mem hi) q (hsub q hq).1 (Ne.symm (hsub q hq).2.1) b (hvb b hpb) hqb
    · rw [upd_self] at hqb
      rw [hHo _ (hsub p hp).2.2] at hpb
      exact hm.sep p (hsub p hp).1 _ (getM_mem hi) (hsub p hp).2.1 b hpb (hvb b hqb)
    · rw [hHo _ (hsub p hp).2.2] at hpb
      rw [hHo _ (hsub q hq).2.2] at hqb
      exact hm.sep p (hsub p hp).1 q (hsub q hq).1 hpq b hpb hqb
  · intro p hp
    rcases List.mem_cons.1 hp with rfl | hp
    · refine .inr fun _ _ => ?_
      have hv : a.tmps.getD t undef = v := RepC.val_inv (hm.tmps _ (getT_mem ht))
      exact ⟨⟨_, List.mem_cons_self, rfl⟩, by show a.tmps.getD t undef = _; rw [hv, upd_self]⟩
    · have hp := (delL_mem hp).1
      exact .inl ⟨p, hp, rfl, rfl, fun q hq hIq => ⟨hIds q (fun e => noUseT_spec hnt p hp (e ▸ hq)) hIq, hHo q (fun e => hji (e ▸ hIq)), hZo q (fun e => hji (e ▸ hIq))⟩⟩
theorem g_ownP (i j t : Nat) {e sz : Nat} {v : Value} {xs : List (List CT)} (hi : getM mm i = some (.pool e sz [(v, xs)])) (hig : Nat.blt i given = true) (ht : getT tm t = some (.v (.one (.c (.val v)))))
    (hjg : Nat.blt j given = true) (hjf : hasI mm j = false) (hno : noUse i mm = true) (hnt : noUseT i tm = true) (g : Goes C f n R k ((t, .v (.one (.own j))) :: delL tm t) ((j, .arr false e sz xs) :: outM [i] mm)) : Goes C f n R k tm mm :=
  g.mono fun _ _ h => h.ownP i j t hi hig ht hjg hjf hno hnt
end
/-! ### Two ways of control that meet again -/
section
variable {C : Ctx} {n : Nat} {tm : TM} {mm : MM} {f : FuncId} {R : Ending → World → Prop} {k : List Item}
theorem g_joinC {x : Item} {k' : List Item} (tm' : TM) (mm' : MM) (hr : runC tm' k = some k') (hk : Goes C f n R k' tm' mm') (h : Goes C f n R k' tm' mm' → Goes C f n R (x :: k) tm mm) : Goes C f n R (x :: k) tm mm := h hk
end
/-! ### A region of which some operations are waited for by none -/
section
variable {C : Ctx} {n : Nat} {L : List Oper} {tm : TM}
/-- The step q (at e0) waits for whatever reads what the chain changes from there on ('ids'; 'ids0': what is changed ahead of that step); what reads nothing that is changed may be done at any time. -/
theorem g_drawF1 {ι : Type} (q e0 : Nat) (E : List Nat) (ids ids0 : List Nat) (ET : Nat → ι → TM) (MMx : Nat → ι → MM) (x0 : ι) {mm : MM} {f : FuncId} {Rr : Ending → World → Prop} {k : List Item} {id : Nat} (hmix : C.P.follows .mixedOrders = true)
    (hm0 : MMx 0 x0 = mm) (hbase : ∀ k x, ∀ q ∈ outM ids mm, q ∈ MMx k x) (hbase0 : ∀ k x, k < q + 1 → ∀ q ∈ outM ids0 mm, q ∈ MMx k x) (hE0 : ET 0 x0 = []) (hET : ∀ k x, subE E L (ET k x) = true)
    (hok : okR2 L [] L 0 = true) (hu : uniT (dstsE L) (cutT (dstsE L) tm) = true) (hEl : E ≠ []) (hq : E[q]? = some e0) (hch : chainL L E = true)
    (h : FOps C n (fun i => match depB L e0 i with | true => outM ids0 mm | false => outM ids mm) L (cutT (dstsE L) tm) E 0 L (cutT (dstsE L) tm) fun tmF => Effs C n L tmF ET MMx 0 E ∧ ∀ x, Goes C f n Rr k (tmF ++ ET E.length x) (MMx E.length x)) :
    Goes C f n Rr (.code (.region id L.toArray true) :: k) tm mm := by
  refine g_drawFm _ E ET MMx x0 hmix hm0 hE0 hET hok hu hEl hch (fun listed k hdn hst i hi hiE hf x => ?_) h
  cases hd : depB L e0 i with
  | false => exact hbase k x
  | true =>
    refine hbase0 k x ?_
    rcases Nat.lt_or_ge k (q + 1) with hk | hk
    · exact hk
    · exfalso
      unfold depB at hd
      split at hd
      · rename_i o ho
        have := hdn e0 o (by rw [← nthO_get]; exact ho) ((hst _ _ hq).2 (by omega)) i (memN_iff.1 hd)
        rw [hf] at this; cases this
      · cases hd
end
/-! ### A number's opposite -/
section
variable {C : Ctx} {n : Nat} {tm : TM} {mm : MM} {L l : List Oper} {T : TM → MM → Prop} {o : Oper} {d : Nat} {x : Operand}
end
/-! ### Arguments of which more is known -/
theorem Con.args {P : Program} {f : FuncId} {pre post : List (List CT)} {args args' : List SV} {res : ST} (h : Con P f pre args res post) (hl : LeVs args' args) : Con P f pre args' res post :=
  ⟨h.ok, fun w M0 H Z vs hp hv => h.calls w M0 H Z vs hp (hl.rep hv)⟩
theorem ConQ.args {P : Program} {f : FuncId} {pre post : List (List CT)} {args args' : List SV} {Q : ST → Prop} (h : ConQ P f pre args Q post) (hl : LeVs args' args) : ConQ P f pre args' Q post :=
  ⟨h.ok, fun w M0 H Z vs hp hv => h.calls w M0 H Z vs hp (hl.rep hv)⟩
end Go.Sy
