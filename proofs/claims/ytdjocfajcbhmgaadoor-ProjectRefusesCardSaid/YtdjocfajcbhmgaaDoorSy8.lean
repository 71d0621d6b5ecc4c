/- The symbolic layer, bundle Sy8. -/
import Derived.Test.YtdjocfajcbhmgaaDoorSy7
set_option linter.unusedSimpArgs false
set_option linter.unusedVariables false
set_option linter.unusedSectionVars false
namespace Go.Sy
open Go.RowKit
abbrev PL := List (TypeId × Nat × PQ)
def plHb (ps : PL) (b : Nat) : Prop := ∃ p ∈ ps, ∃ q ∈ p.2.2, hblk q.1 = some b
structure NewPools (w w' : World) (M0 : Nat → Prop) (ps : PL) : Prop where
  ok : ∀ p ∈ ps, PoolOK w' (fun b => M0 b ∨ plHb ps b) p.1 p.2.1 p.2.2
  fresh : ∀ b, plHb ps b → w.heap.size ≤ b
  sep : ∀ (j k : Nat) (p q : TypeId × Nat × PQ), ps[j]? = some p → ps[k]? = some q → j ≠ k → ∀ b, (∃ r ∈ p.2.2, hblk r.1 = some b) → ¬ ∃ r ∈ q.2.2, hblk r.1 = some b
def EndO {ι : Type} (Q : ι → Prop) (res : ι → ST) (ps : ι → PL) (w : World) (M0 : Nat → Prop) (e : Ending) (w' : World) : Prop :=
  ∃ x v, Q x ∧ e = .returned v ∧ Ext (fun _ => False) w w' ∧ NewPools w w' M0 (ps x) ∧ RepST (fun _ => False) (fun _ => undef) (fun _ => 0) w' (fun b => M0 b ∨ plHb (ps x) b) v (res x)
structure ConO (P : Program) (f : FuncId) (args : List SV) {ι : Type} (Q : ι → Prop) (res : ι → ST) (ps : ι → PL) : Prop where
  ok : CallOK P f
  calls : ∀ (w : World) (M0 : Nat → Prop) (H : Nat → Value) (Z : Nat → Nat) (vs : List Value), (∀ b, M0 b → b < w.heap.size) →
    Pw (fun v s => RepSV (Iof []) H Z w M0 v s) vs args → Calls P f vs.toArray w (EndO Q res ps w M0)
theorem conO_of {P : Program} {f : FuncId} {fn : Func} {c : Code} {args : List SV} {ι : Type} {Q : ι → Prop} {res : ι → ST} {ps : ι → PL}
    (hf : P.funcs[f]? = some fn) (hb : fn.body = some c) (hn : Nat.ble args.length fn.ntmps = true) (hng : Nat.ble fn.ntmps given = true) (hnm : (fn.name == "runtime.NumGoroutine") = false)
    (h : ∀ (w : World) (M0 : Nat → Prop) (H : Nat → Value), Goes ⟨P, w, M0, fun _ => False, H, fun _ => False, fun _ h => h.elim⟩ f fn.ntmps (EndO Q res ps w M0) [.code c] (argT 0 args) []) : ConO P f args Q res ps := by
  refine ⟨callOK hf hb hnm, ?_⟩
  intro w M0 H Z vs hM0 hargs fs
  have hlen : vs.length = args.length := hargs.1
  let a : Act := { tmps := vs.toArray ++ Array.replicate (fn.ntmps - vs.toArray.size) undef, defers := [] }
  have hn := Nat.ble_eq.mp hn
  have hmod : Mod ⟨P, w, M0, fun _ => False, H, fun _ => False, fun _ h => h.elim⟩ H Z fn.ntmps (argT 0 args) [] a w := by
    refine ⟨rfl, by simp [a]; omega, Nat.ble_eq.mp hng, (fun p hp => by cases hp), Ext.refl _ _, hM0, (fun p hp => by cases hp), (fun p hp => by cases hp), (fun p hp => by cases hp), (fun p hp => by cases hp), ?_⟩
    intro p hp
    obtain ⟨j, s, rfl, hj⟩ := argT_mem hp
    obtain ⟨u, hu, hr⟩ := hargs.2 j s hj
    have hjl : j < vs.length := (List.getElem?_eq_some_iff.1 hu).1
    have : a.tmps.getD (0 + j) undef = u := by
      have hju : vs[j] = u := by
        have := List.getElem?_eq_getElem hjl
        rw [hu] at this
        injection this with this; exact this.symm
      simp [a, Array.getD_eq_getD_getElem?, Array.getElem?_append, hjl, hju]
    rw [this]
    exact RepSV.mono hr (fun i _ hi => ⟨hi, rfl, rfl⟩) (Nat.le_refl _) (fun _ _ _ => rfl) (fun b _ hb => by
      rcases hb with hb | ⟨p, hp, _⟩
      · exact hb
      · cases hp)
  let b : Frame := { (default : Frame) with fn := f, kind := .normal }
  have henter : Frame.enter P f vs.toArray .normal = b.at a [.code c] := by
    simp [Frame.enter, Frame.at, hf, hb, b, a]
  obtain ⟨e, w', fr, h1, h2, h3, h4⟩ := h w M0 H a w ⟨H, Z, hmod⟩ b fs rfl rfl
  rw [henter]
  exact ⟨e, w', fr, h1, h2, h3, h4⟩
def poolsE (mm : MM) : List Nat → Option PL
  | [] => some []
  | i :: r => match getM mm i with
    | some (.pool e sz qs) => match poolsE mm r with
      | some l => some ((e, sz, qs) :: l)
      | none => none
    | _ => none
theorem poolsE_spec {mm : MM} : ∀ {ids : List Nat} {ps : PL}, poolsE mm ids = some ps → ids.length = ps.length ∧ ∀ (k : Nat) (p : TypeId × Nat × PQ), ps[k]? = some p → ∃ i, ids[k]? = some i ∧ (i, MO.pool p.1 p.2.1 p.2.2) ∈ mm
  | [], ps, h => by simp [poolsE] at h; subst h; exact ⟨rfl, fun k p hp => by simp at hp⟩
  | i :: r, ps, h => by
    unfold poolsE at h
    split at h
    · rename_i hg
      split at h
      · rename_i l hl
        injection h with h; subst h
        obtain ⟨h1, h2⟩ := poolsE_spec hl
        refine ⟨by simp [h1], fun k p hp => ?_⟩
        cases k with
        | zero => simp at hp; subst hp; exact ⟨i, rfl, getM_mem hg⟩
        | succ k => simpa using h2 k p (by simpa using hp)
      · cases h
    · cases h
def allLtG : List Nat → Bool
  | [] => true
  | i :: r => match Nat.blt i given with
    | true => allLtG r
    | false => false
theorem allLtG_spec : ∀ {l : List Nat}, allLtG l = true → ∀ i ∈ l, i < given
  | [], _, i, hi => by cases hi
  | j :: r, h, i, hi => by
    unfold allLtG at h
    split at h
    · rename_i hb
      rcases List.mem_cons.1 hi with rfl | hi
      · exact Nat.blt_eq.mp hb
      · exact allLtG_spec h i hi
    · cases h
theorem g_endO {P : Program} {w0 : World} {M0 : Nat → Prop} {f : FuncId} {n : Nat} {tm : TM} {mm : MM} {H : Nat → Value} {Θ : Tab} (hΘ : tabOK P Θ) {ι : Type} {Q : ι → Prop} {res : ι → ST} {ps : ι → PL}
    {fn : Func} (hf : P.funcs[f]? = some fn) (ids : List Nat) (x : ι) {rs : List SV} {t : List Item} (ht : t = [] ∨ ∃ k, t = .code .ret :: k)
    (hr : resE Θ tm mm fn.results.toList = some rs) (he : packS rs = res x) (hpure : pureS (res x) = true) (hps : poolsE mm ids = some (ps x)) (hnd : noDup ids = true) (hg : allLtG ids = true) (hQ : Q x) :
    Goes ⟨P, w0, M0, fun _ => False, H, fun _ => False, fun _ h => h.elim⟩ f n (EndO Q res ps w0 M0) t tm mm := by
  intro a w ⟨H', Z', hm⟩ b fs hb hk
  obtain ⟨v, h1, h2⟩ := results_run hΘ hm hr
  obtain ⟨p1, p2⟩ := poolsE_spec hps
  have hH : ∀ i e sz qs, (i, MO.pool e sz qs) ∈ mm → H' i = poolV qs ∧ PoolOK w (Mof ⟨P, w0, M0, fun _ => False, H, fun _ => False, fun _ h => h.elim⟩ H' mm) e sz qs := fun i e sz qs hi => hm.mem _ hi
  have hM : ∀ b, (M0 b ∨ plHb (ps x) b) → Mof ⟨P, w0, M0, fun _ => False, H, fun _ => False, fun _ h => h.elim⟩ H' mm b := by
    rintro b (hb | ⟨p, hp, hpb⟩)
    · exact .inl hb
    · obtain ⟨k, hk, hkp⟩ := List.mem_iff_getElem.1 hp
      obtain ⟨i, _, hi⟩ := p2 k p (by rw [List.getElem?_eq_getElem hk, hkp])
      exact .inr ⟨_, hi, by rw [show H' (i, _).1 = _ from (hH _ _ _ _ hi).1]; exact poolV_Hb.2 hpb⟩
  have hfin : EndO Q res ps w0 M0 (.returned v) w := by
    refine ⟨x, v, hQ, rfl, hm.ext, ⟨fun p hp => ?_, fun b hb => ?_, fun j k p q hj hk hjk b hpb hqb => ?_⟩, ?_⟩
    · obtain ⟨k, hk, hkp⟩ := List.mem_iff_getElem.1 hp
      obtain ⟨i, _, hi⟩ := p2 k p (by rw [List.getElem?_eq_getElem hk, hkp])
      obtain ⟨_, g1, g2⟩ := hH _ _ _ _ hi
      exact ⟨fun k q hq => RowOK.mono (v := q.1) (xs := q.2) (g1 k q hq) (fun _ _ => rfl) (Nat.le_refl _) (fun _ _ _ => rfl) (fun b _ hb => hM b hb), g2⟩
    · obtain ⟨p, hp, hpb⟩ := hb
      obtain ⟨k, hk, hkp⟩ := List.mem_iff_getElem.1 hp
      obtain ⟨i, hik, hi⟩ := p2 k p (by rw [List.getElem?_eq_getElem hk, hkp])
      have hfr := (hm.fresh _ hi b (by rw [show H' (i, _).1 = _ from (hH _ _ _ _ hi).1]; exact poolV_Hb.2 hpb)).1
      have := allLtG_spec hg i (List.mem_of_getElem? hik)
      rcases hfr with ⟨_, h | h⟩ | ⟨h, _⟩
      · exact h
      · exact h.elim
      · simp only at h; omega
    · obtain ⟨i, hik, hi⟩ := p2 j p hj
      obtain ⟨i', hik', hi'⟩ := p2 k q hk
      have hne : i ≠ i' := fun e => by
        subst e
        have hl1 := (List.getElem?_eq_some_iff.1 hik)
        have hl2 := (List.getElem?_eq_some_iff.1 hik')
        obtain ⟨l1, g1⟩ := hl1
        obtain ⟨l2, g2⟩ := hl2
        exact hjk (nodup_inj (noDup_spec hnd) l1 l2 (by rw [g1, g2]))
      exact hm.sep _ hi _ hi' hne b (by rw [show H' (i, _).1 = _ from (hH _ _ _ _ hi).1]; exact poolV_Hb.2 hpb) (by rw [show H' (i', _).1 = _ from (hH _ _ _ _ hi').1]; exact poolV_Hb.2 hqb)
    · rw [← he]
      exact h2.mono (fun i hi => by rw [he, pureS_uses hpure] at hi; cases hi) (Nat.le_refl _) (fun _ _ _ => rfl) (fun b _ hb => hM b hb)
  rcases ht with rfl | ⟨k, rfl⟩
  · exact ⟨.returned v, w, _, hfin, Steps.one step_end, hb, rfl, hm.defers, hk, fn, hb ▸ hf, h1⟩
  · exact ⟨.returned v, w, _, hfin, Steps.one step_ret, hb, rfl, hm.defers, hk, fn, hb ▸ hf, h1⟩
def poolsM : List Nat → PL → MM
  | j :: js, p :: ps => (j, .pool p.1 p.2.1 p.2.2) :: poolsM js ps
  | _, _ => []
theorem poolsM_get : ∀ {js : List Nat} {ps : PL} {q : Nat × MO}, q ∈ poolsM js ps → ∃ (k j : Nat) (p : TypeId × Nat × PQ), js[k]? = some j ∧ ps[k]? = some p ∧ q = (j, .pool p.1 p.2.1 p.2.2)
  | [], _, q, h => by simp [poolsM] at h
  | _ :: _, [], q, h => by simp [poolsM] at h
  | j :: js, p :: ps, q, h => by
    unfold poolsM at h
    rcases List.mem_cons.1 h with rfl | h
    · exact ⟨0, j, p, rfl, rfl, rfl⟩
    · obtain ⟨k, j', p', h1, h2, h3⟩ := poolsM_get h
      exact ⟨k + 1, j', p', by simpa using h1, by simpa using h2, h3⟩
def lookP : List Nat → PL → Nat → Option Value
  | j :: js, p :: ps, i => if j = i then some (poolV p.2.2) else lookP js ps i
  | _, _, _ => none
theorem lookP_get : ∀ {js : List Nat} {ps : PL}, js.Nodup → ∀ {k j : Nat} {p : TypeId × Nat × PQ}, js[k]? = some j → ps[k]? = some p → lookP js ps j = some (poolV p.2.2)
  | [], _, _, k, j, p, h, _ => by simp at h
  | _ :: _, [], _, k, j, p, _, h => by simp at h
  | j0 :: js, p0 :: ps, hnd, k, j, p, h1, h2 => by
    unfold lookP
    cases k with
    | zero => simp at h1 h2; subst h1 h2; simp
    | succ k =>
      have hne : j0 ≠ j := fun e => (List.nodup_cons.1 hnd).1 (by rw [e]; exact List.mem_of_getElem? (by simpa using h1))
      rw [if_neg hne]
      exact lookP_get (List.nodup_cons.1 hnd).2 (by simpa using h1) (by simpa using h2)
theorem lookP_none : ∀ {js : List Nat} {ps : PL} {i : Nat}, i ∉ js → lookP js ps i = none
  | [], _, i, _ => by simp [lookP]
  | _ :: _, [], i, _ => by simp [lookP]
  | j :: js, p :: ps, i, h => by
    unfold lookP
    rw [if_neg (fun e => h (by simp [e]))]
    exact lookP_none fun hi => h (List.mem_cons_of_mem _ hi)
def freeM (mm : MM) : List Nat → Bool
  | [] => true
  | j :: r => match hasI mm j with
    | true => false
    | false => freeM mm r
theorem freeM_spec {mm : MM} : ∀ {l : List Nat}, freeM mm l = true → ∀ j ∈ l, ¬ Iof mm j
  | [], _, j, hj => by cases hj
  | i :: r, h, j, hj => by
    unfold freeM at h
    split at h
    · cases h
    · rename_i hf
      rcases List.mem_cons.1 hj with rfl | hj
      · exact hasI_false hf
      · exact freeM_spec h j hj
section
variable {C : Ctx} {n : Nat} {tm : TM} {mm mm0 : MM} {o : Oper} {d : Nat} {L l : List Oper} {T : TM → MM → Prop}
theorem op_callO_core {f : FuncId} {ι : Type} {Q : ι → Prop} {res : ι → ST} {ps : ι → PL} (hcok : CallOK C.P f) (js : List Nat) {xs : Array Operand} {ts : Array TypeId}
    (ho : o.op = .call { callee := .value (.func f), args := xs, argTypes := ts })
    (hnd : noDup js = true) (hjg : allLtG js = true) (hjf : freeM mm js = true) (hd : o.dst = some d) (hn : Nat.blt d n = true) (hpure : ∀ x, pureS (res x) = true) {H : Nat → Value} {Z : Nat → Nat} {a : Act} {w : World} {K : Act → World → Prop} {Qx : Exit → Act → World → Prop} (hm : Mod C H Z n tm mm a w)
    (hcalls : Calls C.P f (xs.toList.map a.eval).toArray w (EndO Q res ps w (Mof C H mm)))
    (hK : ∀ x a' w', Q x → Has C n ((d, res x) :: delL tm d) (poolsM js (ps x) ++ mm) a' w' → K a' w') : o.wp C.P a w K Qx := by
  unfold Oper.wp
  have hrun : (execOp a.eval o).run C.P w = .ok (.enter f (xs.toList.map a.eval).toArray) w := by
    have hmap : xs.map a.eval = (xs.toList.map a.eval).toArray := by simp [← List.map_toArray]
    simp only [execOp, ho, resolve, hmap, Deferred.ofValue, Act.eval, invoke, Sem.run_bind, Sem.run_pure, Result.andThen_ok, Array.append_empty, Array.empty_append, hcok w]
  rw [hrun]
  show Calls _ _ _ _ _
  refine Calls.mono hcalls ?_
  rintro e w' ⟨x, v, hq, rfl, hext, hnew, hrep⟩
  have hnd' := noDup_spec hnd
  have hfree := freeM_spec hjf
  let H' : Nat → Value := fun i => (lookP js (ps x) i).getD (H i)
  have hH'o : ∀ i, Iof mm i → H' i = H i := fun i hi => by
    have : i ∉ js := fun h => hfree i h hi
    simp [H', lookP_none this]
  have hH'n : ∀ (k j : Nat) (p : TypeId × Nat × PQ), js[k]? = some j → (ps x)[k]? = some p → H' j = poolV p.2.2 := fun k j p h1 h2 => by
    simp [H', lookP_get hnd' h1 h2]
  have hIn : ∀ i, Iof mm i → Iof (poolsM js (ps x) ++ mm) i := fun i ⟨p, hp, e⟩ => ⟨p, List.mem_append_right _ hp, e⟩
  have hpb : ∀ (k j : Nat) (p : TypeId × Nat × PQ), js[k]? = some j → (ps x)[k]? = some p → ∀ b, Hb (H' j) b → w.heap.size ≤ b ∧ b < w'.heap.size := by
    intro k j p h1 h2 b hb
    rw [hH'n k j p h1 h2] at hb
    obtain ⟨q, hq', hqb⟩ := poolV_Hb.1 hb
    have hp : p ∈ ps x := List.mem_of_getElem? h2
    refine ⟨hnew.fresh b ⟨p, hp, q, hq', hqb⟩, ?_⟩
    obtain ⟨m, hm1, hm2⟩ := List.mem_iff_getElem.1 hq'
    exact RowOK.lt (v := q.1) (xs := q.2) ((hnew.ok p hp).1 m q (by rw [List.getElem?_eq_getElem hm1, hm2])) hqb
  have hMM : ∀ b, Mof C H' (poolsM js (ps x) ++ mm) b → Mof C H mm b ∨ plHb (ps x) b := by
    rintro b (hb | ⟨q, hq, hqb⟩)
    · exact .inl (.inl hb)
    · rcases List.mem_append.1 hq with hq | hq
      · obtain ⟨k, j, p, h1, h2, rfl⟩ := poolsM_get hq
        rw [show H' (j, _).1 = _ from hH'n k j p h1 h2] at hqb
        exact .inr ⟨p, List.mem_of_getElem? h2, poolV_Hb.1 hqb⟩
      · rw [hH'o _ ⟨q, hq, rfl⟩] at hqb
        exact .inl (.inr ⟨q, hq, hqb⟩)
  refine hK x _ _ hq ⟨H', Z, ?_⟩
  rw [hd]
  refine hm.build (fun _ => False) hext (fun _ _ h => h.elim) (by simpa [Act.put] using hm.defers) (by simp [Act.put, hm.size]) ?_ ?_ ?_ ?_ ?_
  · intro p hp hpg
    rcases List.mem_append.1 hp with hp | hp
    · obtain ⟨k, j, q, h1, h2, rfl⟩ := poolsM_get hp
      have := allLtG_spec hjg j (List.mem_of_getElem? h1)
      simp only at hpg; omega
    · rw [hH'o _ ⟨p, hp, rfl⟩]; exact hm.hg p hp hpg
  · intro p hp q hq he
    rcases List.mem_append.1 hp with hp | hp <;> rcases List.mem_append.1 hq with hq | hq
    · obtain ⟨k, j, r, h1, h2, rfl⟩ := poolsM_get hp
      obtain ⟨k', j', r', h1', h2', rfl⟩ := poolsM_get hq
      have : k = k' := by
        obtain ⟨l1, g1⟩ := List.getElem?_eq_some_iff.1 h1
        obtain ⟨l2, g2⟩ := List.getElem?_eq_some_iff.1 h1'
        exact nodup_inj hnd' l1 l2 (by rw [g1, g2]; exact he)
      subst this
      rw [h2] at h2'; injection h2' with h2'; subst h2'
      exact Prod.ext he rfl
    · obtain ⟨k, j, r, h1, h2, rfl⟩ := poolsM_get hp
      exact absurd ⟨q, hq, he.symm⟩ (hfree j (List.mem_of_getElem? h1))
    · obtain ⟨k, j, r, h1, h2, rfl⟩ := poolsM_get hq
      exact absurd ⟨p, hp, he⟩ (hfree j (List.mem_of_getElem? h1))
    · exact hm.ids p hp q hq he
  · intro p hp
    rcases List.mem_append.1 hp with hp | hp
    · obtain ⟨k, j, r, h1, h2, rfl⟩ := poolsM_get hp
      refine .inr ⟨fun b hb => .inl (hpb k j r h1 h2 b hb), fun hMM' hfr => ⟨hH'n k j r h1 h2, ?_⟩⟩
      obtain ⟨g1, g2⟩ := hnew.ok r (List.mem_of_getElem? h2)
      exact ⟨fun k q hq => RowOK.mono (v := q.1) (xs := q.2) (g1 k q hq) (fun _ _ => rfl) (Nat.le_refl _) (fun _ _ _ => rfl) (fun b _ hb => hMM b hb), g2⟩
    · exact .inl ⟨hp, hH'o _ ⟨p, hp, rfl⟩, rfl, fun _ _ h => h, fun j hj hij => ⟨hIn j hij, hH'o j hij, rfl⟩⟩
  · intro p hp q hq hpq b hpb' hqb'
    rcases List.mem_append.1 hp with hp | hp <;> rcases List.mem_append.1 hq with hq | hq
    · obtain ⟨k, j, r, h1, h2, rfl⟩ := poolsM_get hp
      obtain ⟨k', j', r', h1', h2', rfl⟩ := poolsM_get hq
      have hkk : k ≠ k' := fun e => by
        subst e
        rw [h1] at h1'; injection h1' with h1'
        exact hpq h1'
      rw [show H' (j, _).1 = _ from hH'n k j r h1 h2] at hpb'
      rw [show H' (j', _).1 = _ from hH'n k' j' r' h1' h2'] at hqb'
      exact hnew.sep k k' r r' h2 h2' hkk b (poolV_Hb.1 hpb') (poolV_Hb.1 hqb')
    · obtain ⟨k, j, r, h1, h2, rfl⟩ := poolsM_get hp
      have := (hpb k j r h1 h2 b hpb').1
      rw [hH'o _ ⟨q, hq, rfl⟩] at hqb'
      have := (hm.fresh q hq b hqb').2
      omega
    · obtain ⟨k, j, r, h1, h2, rfl⟩ := poolsM_get hq
      have := (hpb k j r h1 h2 b hqb').1
      rw [hH'o _ ⟨p, hp, rfl⟩] at hpb'
      have := (hm.fresh p hp b hpb').2
      omega
    · rw [hH'o _ ⟨p, hp, rfl⟩] at hpb'
      rw [hH'o _ ⟨q, hq, rfl⟩] at hqb'
      exact hm.sep p hp q hq hpq b hpb' hqb'
  · intro p hp
    rcases List.mem_cons.1 hp with rfl | hp
    · refine .inr fun _ _ => ?_
      rw [put_self (by rw [hm.size]; exact Nat.blt_eq.mp hn)]
      exact hrep.mono (fun i hi => by rw [pureS_uses (hpure x)] at hi; cases hi) (Nat.le_refl _) (fun _ _ _ => rfl) (fun b _ hb => hMM b hb)
    · obtain ⟨h1, h2⟩ := delL_mem hp
      exact .inl ⟨p, h1, rfl, put_other h2, fun j hj hij => ⟨hIn j hij, hH'o j hij, rfl⟩⟩
theorem op_callO {f : FuncId} {args : List SV} {ι : Type} {Q : ι → Prop} {res : ι → ST} {ps : ι → PL} (hc : ConO C.P f args Q res ps) (js : List Nat) {xs : Array Operand} {ts : Array TypeId}
    (ho : o.op = .call { callee := .value (.func f), args := xs, argTypes := ts }) (hargs : evalArgs tm xs.toList = some args) (hren : renVs [] args = some args)
    (hnd : noDup js = true) (hjg : allLtG js = true) (hjf : freeM mm js = true) (hd : o.dst = some d) (hn : Nat.blt d n = true) (hpure : ∀ x, pureS (res x) = true) {a : Act} {w : World} {K : Act → World → Prop} {Qx : Exit → Act → World → Prop} (hh : Has C n tm mm a w)
    (hK : ∀ x a' w', Q x → Has C n ((d, res x) :: delL tm d) (poolsM js (ps x) ++ mm) a' w' → K a' w') : o.wp C.P a w K Qx := by
  obtain ⟨H, Z, hm⟩ := hh
  have hargs' := evalArgs_rep hm hargs
  have hI : ∀ i j, renI [] i = some j → Iof mm j → Iof [] i ∧ H i = H j := fun i j h _ => by
    have := (renI_spec h).2; simp at this
  have hM0 : ∀ b, Mof C H mm b → b < w.heap.size := by
    rintro b (hb | ⟨p, hp, hpb⟩)
    · exact Nat.lt_of_lt_of_le (hm.m0 b hb) hm.ext.size
    · exact (hm.fresh p hp b hpb).2
  have hcalls := hc.calls w (Mof C H mm) H Z _ hM0 (renVs_rep hI (fun b _ h => h) hren hargs')
  exact op_callO_core hc.ok js ho hnd hjg hjf hd hn hpure hm hcalls hK
theorem s_callO {f : FuncId} {args : List SV} {ι : Type} {Q : ι → Prop} {res : ι → ST} {ps : ι → PL} (hc : ConO C.P f args Q res ps) (js : List Nat) {xs : Array Operand} {ts : Array TypeId}
    (ho : o.op = .call { callee := .value (.func f), args := xs, argTypes := ts }) (hargs : evalArgs tm xs.toList = some args) (hren : renVs [] args = some args)
    (hnd : noDup js = true) (hjg : allLtG js = true) (hjf : freeM mm js = true) (hd : o.dst = some d) (hn : Nat.blt d n = true) (hg : guardL L tm o = some true) (hpure : ∀ x, pureS (res x) = true)
    (k : ∀ x, Q x → SOps C n L.toArray l ((d, res x) :: delL tm d) (poolsM js (ps x) ++ mm) T) : SOps C n L.toArray (o :: l) tm mm T := by
  intro a w hh
  unfold wpList
  rw [if_pos (wanted_of (guardL_eq hg) hh)]
  exact .inl (op_callO hc js ho hargs hren hnd hjg hjf hd hn hpure hh fun x a' w' hq h' => k x hq a' w' h')
def keyT (d : Nat) : TM → Bool
  | [] => true
  | (t, _) :: r => match Nat.beq t d with
    | true => false
    | false => keyT d r
theorem keyT_spec {d : Nat} : ∀ {l : TM}, keyT d l = true → ∀ p ∈ l, p.1 ≠ d
  | [], _, p, hp => by cases hp
  | (t, s) :: r, h, p, hp => by
    unfold keyT at h
    split at h
    · cases h
    · rename_i hb
      rcases List.mem_cons.1 hp with rfl | hp
      · exact fun e => by rw [show t = d from e] at hb; simp at hb
      · exact keyT_spec h p hp
variable {ι : Type} {tmF : TM} {ET : Nat → ι → TM} {MMx : Nat → ι → MM} {k : Nat} {x : ι}
theorem eff_core (hg : guardL L (onlyE (looksE L o) (tmF ++ ET k x)) o = some true)
    (h : ∀ (tm : TM) (a : Act) (w : World) (K : Act → World → Prop) (Q : Exit → Act → World → Prop), (∀ p ∈ onlyE (looksE L o) (tmF ++ ET k x), p ∈ tm) → Has C n tm (MMx k x) a w →
      (∀ x' tm' a' w', (∀ p ∈ tmF, p ∈ tm → p ∈ tm') → (∀ p ∈ ET (k + 1) x', p ∈ tm') → Has C n tm' (MMx (k + 1) x') a' w' → K a' w') → o.wp C.P a w K Q) : EffOK C n L tmF ET MMx k x o := by
  intro tm a w K Q hl he hh hK
  have hin : ∀ p ∈ onlyE (looksE L o) (tmF ++ ET k x), p ∈ tm := fun p hp => by
    obtain ⟨h1, h2⟩ := onlyE_mem.1 hp
    exact (List.mem_append.1 h1).elim (fun h => hl p h h2) (he p)
  rw [if_pos (wanted_of (guardL_eq hg) (hh.incl hin))]
  exact h tm a w K Q hin hh hK
theorem ef_append {Θ : Tab} (hΘ : tabOK C.P Θ) {t : TypeId} {p q : Operand} {z bts e : Nat} {ag : Bool} {zt : Option (List CT)} {ei : TyI} {zr : List CT} {i : Nat} {nn' : Bool} {sz : Nat} {xs ys : List (List CT)} {qs : PQ} {v : Value}
    (ho : o.op = .call { callee := .builtin .append, args := ⟨[p, q]⟩, argTypes := ⟨[t, t]⟩ }) (ht : tyGet Θ t = some ⟨z, bts, ag, zt, .slice e⟩) (hei : tyGet Θ e = some ei) (hz : ei.zero = some zr)
    (hsz : Nat.beq ei.size sz = true) (hs0 : Nat.blt 0 ei.size = true) (hx : evalC (onlyE (looksE L o) (tmF ++ ET k x)) p = some (.c (.val v))) (hi : getM (MMx k x) i = some (.pool e sz qs)) (hy : evalC (onlyE (looksE L o) (tmF ++ ET k x)) q = some (.c (.slice nn' sz ys)))
    (hig : Nat.blt i given = true) (hno : noUse i (MMx k x) = true) (hd : o.dst = some d) (hn : Nat.blt d n = true) (hg : guardL L (onlyE (looksE L o) (tmF ++ ET k x)) o = some true) (hnt : noUseT i tmF = true) (hnk : keyT d tmF = true)
    (m : Nat) (hk : qs[m]? = some (v, xs)) (hbig : xs.length + ys.length ≤ 9223372036854775807 ∧ (xs.length + ys.length) * ei.bytes ≤ 140737488355328)
    (X : Value → ι) (hET : ∀ v', ET (k + 1) (X v') = [(d, .v (.one (.c (.val v'))))]) (hM : ∀ v', MMx (k + 1) (X v') = updM (MMx k x) i (.pool e sz (qs.set m (v', xs ++ ys)))) : EffOK C n L tmF ET MMx k x o := by
  refine eff_core hg fun tm a w K Q hin hh hK => ?_
  obtain ⟨v', w', hrun, hres⟩ := op_pappend (tm := onlyE (looksE L o) (tmF ++ ET k x) ++ tm) hΘ ho ht hei hz hsz hs0 (evalC_app hx) hi hk (evalC_app hy) hig hno hd hn hbig (hh.incl fun p hp => (List.mem_append.1 hp).elim (hin p) id)
  unfold Oper.wp
  rw [hrun]
  refine hK (X v') _ _ _ (fun p hp hpt => ?_) (fun p hp => ?_) (by rw [hM]; exact hres)
  · exact List.mem_cons_of_mem _ (mem_delL (dropU_in (noUseT_spec hnt p hp) (List.mem_append_right _ hpt)) (keyT_spec hnk p hp))
  · rw [hET] at hp
    rw [List.mem_singleton.1 hp]; exact List.mem_cons_self
variable {tm0 : TM} {E : List Nat} {i : Nat} {mmf : Nat → MM} {TF : TM → Prop} {p q : Operand} {ty ty' : TypeId}
theorem f_lit {Θ : Tab} (hΘ : tabOK C.P Θ) {t : TypeId} {z bts e len : Nat} {ag : Bool} {zt : Option (List CT)} {ei : TyI} {zr : List CT} {parts : Array (Nat × Operand)} {r : List SC} {cts : List CT} {xs : List (List CT)} {ct : CT}
    (ho : o.op = .buildSlice t len parts) (ht : tyGet Θ t = some ⟨z, bts, ag, zt, .slice e⟩) (hei : tyGet Θ e = some ei) (hz : ei.zero = some zr)
    (hb : Nat.ble (len * ei.size) 16777216 = true) (hs0 : Nat.blt 0 ei.size = true)
    (hl : layL (fun i => some (i * ei.size, ei.size)) (onlyE (looksE L o) tm) (anyL (len * ei.size)) parts.toList = some r) (hc : ctsOf r = some cts) (hx : chunkL ei.size len cts = some xs)
    (hd : o.dst = some d) (hn : Nat.blt d n = true) (hg : guardL L (onlyE (looksE L o) tm) o = some true) (hiE : memN E i = false) (hle : LeC (.slice true ei.size xs) ct)
    (k : FOps C n mmf L tm0 E (i + 1) l ((d, .v (.one (.c ct))) :: delL tm d) TF) : FOps C n mmf L tm0 E i (o :: l) tm TF :=
  FOps.step hiE hg (fun _ _ _ => op_lit hΘ ho ht hei hz hb hs0 hl hc hx hle hd hn) hd k
theorem s_pidx {Θ : Tab} (hΘ : tabOK C.P Θ) {r : Nat} {qs : PQ} {v : Value} {sz : Nat} {xs : List (List CT)} {kd : IntKind} {m : Int} {e e' : Nat} {z bts : Nat} {ag : Bool} {zr : Option (List CT)} {ei : TyI}
    (ho : o.op = .indexAddr ty p q) (ht : tyGet Θ ty = some ⟨z, bts, ag, zr, .slice e⟩) (hei : tyGet Θ e = some ei) (hx : evalC tm p = some (.c (.val v))) (hi : getM mm r = some (.pool e' sz qs)) (hsz : Nat.beq ei.size sz = true)
    (hy : evalC tm q = some (.c (.int kd m))) (hd : o.dst = some d) (hn : Nat.blt d n = true) (hg : guardL L tm o = some true)
    (c : Nat) (hk : qs[c]? = some (v, xs)) (j : Nat) (hm : m = (j : Int)) (hj : j < xs.length) (g : SOps C n L.toArray l ((d, .v (.one (.c (.val (ptrV v (j * sz)))))) :: delL tm d) mm T) : SOps C n L.toArray (o :: l) tm mm T :=
  s_step (op_pidx hΘ ho ht hei hsz hx hi hk hy hm hj hd hn).wp hg g
theorem s_pstore {Θ : Tab} (hΘ : tabOK C.P Θ) {t : TypeId} {ti : TyI} {r j e sz : Nat} {qs : PQ} {v : Value} {xs : List (List CT)} {s : SV} {cs : List CT}
    (ho : o.op = .store t p q) (ht : tyGet Θ t = some ti) (hx : evalC tm p = some (.c (.val (ptrV v (j * sz))))) (hi : getM mm r = some (.pool e sz qs))
    (hy : evalV tm q = some s) (hc : ctsOf s.cells = some cs) (hsz : Nat.beq cs.length ti.size = true) (hts : Nat.beq ti.size sz = true) (hkn : s.cells.all SC.known = true) (hig : Nat.blt r given = true) (hno : noUse r mm = true) (hd : o.dst = none) (hg : guardL L tm o = some true)
    (c : Nat) (hk : qs[c]? = some (v, xs)) (hj : j < xs.length) (g : SOps C n L.toArray l (dropU r tm) (updM mm r (.pool e sz (qs.set c (v, xs.set j cs)))) T) : SOps C n L.toArray (o :: l) tm mm T :=
  s_step (op_pstore hΘ ho ht hx hi hk hj hy hc hsz hts hkn hig hno hd).wp hg g
end
end Go.Sy
namespace Go.Sy
open Go.RowKit
def subG : MM → MM → Prop
  | [], _ => True
  | (i, o) :: r, mm => getM mm i = some o ∧ subG r mm
theorem subG_spec {mm : MM} : ∀ {l : MM}, subG l mm → ∀ q ∈ l, q ∈ mm
  | [], _, q, hq => by cases hq
  | (i, o) :: r, h, q, hq => by
    rcases List.mem_cons.1 hq with rfl | hq
    · exact getM_mem h.1
    · exact subG_spec h.2 q hq
theorem Effs.nil {ι : Type} {C : Ctx} {n : Nat} {L : List Oper} {tmF : TM} {ET : Nat → ι → TM} {MMx : Nat → ι → MM} {k : Nat} : Effs C n L tmF ET MMx k [] := trivial
theorem Effs.cons {ι : Type} {C : Ctx} {n : Nat} {L : List Oper} {tmF : TM} {ET : Nat → ι → TM} {MMx : Nat → ι → MM} {k e : Nat} {r : List Nat} {o : Oper} (ho : nthO L e = some o) (h : ∀ x, EffOK C n L tmF ET MMx k x o) (g : Effs C n L tmF ET MMx (k + 1) r) : Effs C n L tmF ET MMx k (e :: r) :=
  ⟨fun o' ho' x => by rw [ho] at ho'; injection ho' with ho'; subst ho'; exact h x, g⟩
theorem SV.sub_uses {i : Nat} {r : SC} (hr : r.uses = []) (s : SV) : ∀ j ∈ (s.sub i r).uses, j ≠ i := by
  intro j hj
  cases s with
  | one x => exact (SC.sub_uses hr x j hj).2
  | agg xs =>
    simp only [SV.sub, subCs_eq, SV.uses, List.mem_flatMap, List.mem_map] at hj
    obtain ⟨c, ⟨c', _, rfl⟩, hj⟩ := hj
    exact (SC.sub_uses hr c' j hj).2
theorem ST.sub_uses {i : Nat} {r : SC} (hr : r.uses = []) (s : ST) : ∀ j ∈ (s.sub i r).uses, j ≠ i := by
  intro j hj
  cases s with
  | v x => exact SV.sub_uses hr x j hj
  | tup xs =>
    simp only [ST.sub, subSVs_eq, ST.uses, List.mem_flatMap, List.mem_map] at hj
    obtain ⟨c, ⟨c', _, rfl⟩, hj⟩ := hj
    exact SV.sub_uses hr c' j hj
theorem MO.sub_uses {i : Nat} {r : SC} (hr : r.uses = []) (o : MO) : ∀ j ∈ (o.sub i r).uses, j ≠ i := by
  intro j hj
  cases o with
  | box cs =>
    simp only [MO.sub, subCs_eq, MO.uses, List.mem_flatMap, List.mem_map] at hj
    obtain ⟨c, ⟨c', _, rfl⟩, hj⟩ := hj
    exact (SC.sub_uses hr c' j hj).2
  | arr => cases hj
  | mpo => cases hj
  | pool => cases hj
section
variable {C : Ctx} {n : Nat} {tm : TM} {mm : MM}
theorem Has.toPool {a : Act} {w : World} {i e sz : Nat} {nn : Bool} {xs : List (List CT)} (hi : getM mm i = some (.arr nn e sz xs)) (hig : Nat.blt i given = true) (h : Has C n tm mm a w) :
    ∃ v, Has C n (subT i (.c (.val v)) tm) ((i, .pool e sz [(v, xs)]) :: subM i (.c (.val v)) mm) a w := by
  obtain ⟨H, Z, hm⟩ := h
  obtain ⟨hz, us, h1, h2, h3, h4⟩ := hm.mem _ (getM_mem hi)
  have h1 : w.ownsRow 0 e sz (H i) xs.length us := h1
  have hone : (H i).oneCell' = true := by
    rcases h1.2 with ⟨hh, _⟩ | ⟨g, cap, cur, hh, _⟩ <;> rw [hh] <;> rfl
  have hbl : ∀ b, Hb (H i) b ↔ hblk (H i) = some b := fun b => by rw [hblk_row h1]; exact Hb_own h1 b
  refine ⟨H i, Sy.upd H i (poolV [(H i, xs)]), Z, ?_⟩
  have hnew : ∀ b, Hb (poolV [(H i, xs)]) b ↔ Hb (H i) b := fun b => by
    rw [poolV_Hb, hbl]
    simp
  have hru : (SC.c (.val (H i))).uses = [] := rfl
  have hsub : ∀ p ∈ subM i (.c (.val (H i))) mm, ∃ q ∈ mm, q.1 = p.1 ∧ p.2 = q.2.sub i (.c (.val (H i))) ∧ p.1 ≠ i := fun p hp => by
    obtain ⟨q, hq, e1, e2, e3⟩ := subM_mem hp
    exact ⟨q, hq, e1, e2, by rw [← e1]; exact e3⟩
  have hHo : ∀ q, q ≠ i → Sy.upd H i (poolV [(H i, xs)]) q = H q := fun q hq => upd_ne _ _ hq
  have hM : ∀ b, Mof C (Sy.upd H i (poolV [(H i, xs)])) ((i, .pool e sz [(H i, xs)]) :: subM i (.c (.val (H i))) mm) b → Mof C H mm b := by
    rintro b (hb | ⟨p, hp, hpb⟩)
    · exact .inl hb
    · rcases List.mem_cons.1 hp with rfl | hp
      · rw [upd_self] at hpb
        exact .inr ⟨_, getM_mem hi, (hnew b).1 hpb⟩
      · obtain ⟨q, hq, e1, _, e3⟩ := hsub p hp
        rw [hHo _ e3] at hpb
        exact .inr ⟨q, hq, by rw [e1]; exact hpb⟩
  have hI : ∀ j, Iof mm j → Iof ((i, .pool e sz [(H i, xs)]) :: subM i (.c (.val (H i))) mm) j := by
    intro j hj
    by_cases hji : j = i
    · exact ⟨_, List.mem_cons_self, hji.symm⟩
    · obtain ⟨p, hp, e1⟩ := subM_ids (i := i) (r := .c (.val (H i))) hji hj
      exact ⟨p, List.mem_cons_of_mem _ hp, e1⟩
  have hr : ∀ (M' : Nat → Prop) v, v = H i → RepSC (Iof ((i, .pool e sz [(H i, xs)]) :: subM i (.c (.val (H i))) mm)) H Z w M' v (.c (.val (H i))) := fun M' v hv => by
    subst hv; exact RepC.val _ hone
  refine ⟨hm.defers, hm.size, hm.nle, ?_, hm.ext, hm.m0, ?_, ?_, ?_, ?_, ?_⟩
  · intro p hp hpg
    rcases List.mem_cons.1 hp with rfl | hp
    · have := Nat.blt_eq.mp hig; simp only at hpg; omega
    · obtain ⟨q, hq, e1, _, e3⟩ := hsub p hp
      rw [hHo _ e3, ← e1]
      exact hm.hg q hq (by rw [e1]; exact hpg)
  · intro p hp q hq he
    rcases List.mem_cons.1 hp with rfl | hp <;> rcases List.mem_cons.1 hq with rfl | hq
    · rfl
    · obtain ⟨_, _, _, _, e3⟩ := hsub q hq; exact absurd he.symm e3
    · obtain ⟨_, _, _, _, e3⟩ := hsub p hp; exact absurd he e3
    · obtain ⟨p', hp', e1, e2, _⟩ := hsub p hp
      obtain ⟨q', hq', f1, f2, _⟩ := hsub q hq
      have := hm.ids p' hp' q' hq' (by rw [e1, f1]; exact he)
      subst this
      exact Prod.ext he (by rw [e2, f2])
  · intro p hp
    rcases List.mem_cons.1 hp with rfl | hp
    · refine ⟨by rw [upd_self]; rfl, fun k q hq => ?_, fun k l q r hq hr' hkl => ?_⟩
      · cases k with
        | zero =>
          simp at hq; subst hq
          exact RowOK.mono (v := H i) (xs := xs) ⟨us, h1, h3, h4⟩ (fun _ _ => rfl) (Nat.le_refl _) (fun _ _ _ => rfl) (fun b _ hb => hM b hb)
        | succ k => simp at hq
      · cases k with
        | zero =>
          cases l with
          | zero => exact absurd rfl hkl
          | succ l => simp at hr'
        | succ k => simp at hq
    · obtain ⟨q, hq, e1, e2, e3⟩ := hsub p hp
      have := (hm.mem q hq).sub' (I' := Iof ((i, .pool e sz [(H i, xs)]) :: subM i (.c (.val (H i))) mm)) hru (hr _) (fun j _ hj => hI j hj) (fun b _ hb => hM b hb)
      rw [← e2, e1] at this
      exact this.mono ⟨hHo _ e3, rfl⟩ (fun _ _ => rfl) (fun j hj hIj => ⟨hIj, hHo j (MO.sub_uses hru q.2 j (by rw [← e2]; exact hj)), rfl⟩) (Nat.le_refl _) (fun _ _ _ => rfl) (fun _ _ h => h)
  · intro p hp b hb
    rcases List.mem_cons.1 hp with rfl | hp
    · rw [upd_self] at hb
      exact hm.fresh _ (getM_mem hi) b ((hnew b).1 hb)
    · obtain ⟨q, hq, e1, _, e3⟩ := hsub p hp
      rw [hHo _ e3] at hb
      rw [← e1] at hb ⊢
      exact hm.fresh q hq b hb
  · intro p hp q hq hpq b hpb hqb
    have key : ∀ p ∈ (i, MO.pool e sz [(H i, xs)]) :: subM i (.c (.val (H i))) mm, Hb (Sy.upd H i (poolV [(H i, xs)]) p.1) b → ∃ p' ∈ mm, p'.1 = p.1 ∧ Hb (H p'.1) b := by
      intro p hp hb
      rcases List.mem_cons.1 hp with rfl | hp
      · rw [upd_self] at hb
        exact ⟨_, getM_mem hi, rfl, (hnew b).1 hb⟩
      · obtain ⟨q, hq, e1, _, e3⟩ := hsub p hp
        rw [hHo _ e3, ← e1] at hb
        exact ⟨q, hq, e1, hb⟩
    obtain ⟨p', hp', e1, hb1⟩ := key p hp hpb
    obtain ⟨q', hq', e2, hb2⟩ := key q hq hqb
    exact hm.sep p' hp' q' hq' (by rw [e1, e2]; exact hpq) b hb1 hb2
  · intro p hp
    obtain ⟨q, hq, e1, e2⟩ := subT_mem hp
    have := (hm.tmps q hq).sub' (I' := Iof ((i, .pool e sz [(H i, xs)]) :: subM i (.c (.val (H i))) mm)) hru (hr _) (fun j _ hj => hI j hj) (fun b _ hb => hM b hb)
    rw [← e2, e1] at this
    exact this.mono (fun j hj hIj => ⟨hIj, hHo j (ST.sub_uses hru q.2 j (by rw [← e2]; exact hj)), rfl⟩) (Nat.le_refl _) (fun _ _ _ => rfl) (fun _ _ h => h)
theorem Has.nilT {a : Act} {w : World} (t : Nat) (ht : getT tm t = some (.v (.one (.c .nils)))) (h : Has C n tm mm a w) : Has C n ((t, .v (.one (.c (.val (.slice none 0 0))))) :: delL tm t) mm a w := by
  obtain ⟨H, Z, hm⟩ := h
  refine ⟨H, Z, { hm with tmps := fun p hp => ?_ }⟩
  rcases List.mem_cons.1 hp with rfl | hp
  · have h1 := hm.tmps _ (getT_mem ht)
    have h2 : a.tmps.getD t undef = .slice none 0 0 := RepC.nils_inv h1
    show RepC _ _ _ _
    rw [h2]; exact RepC.val _ rfl
  · exact hm.tmps p (delL_mem hp).1
variable {f : FuncId} {R : Ending → World → Prop} {k : List Item} {L l : List Oper} {T : TM → MM → Prop}
theorem g_nilT (t : Nat) (ht : getT tm t = some (.v (.one (.c .nils)))) (g : Goes C f n R k ((t, .v (.one (.c (.val (.slice none 0 0))))) :: delL tm t) mm) : Goes C f n R k tm mm := g.mono fun _ _ h => h.nilT t ht
theorem g_toPool (i : Nat) {e sz : Nat} {nn : Bool} {xs : List (List CT)} (hi : getM mm i = some (.arr nn e sz xs)) (hig : Nat.blt i given = true)
    (g : ∀ v, Goes C f n R k (subT i (.c (.val v)) tm) ((i, .pool e sz [(v, xs)]) :: subM i (.c (.val v)) mm)) : Goes C f n R k tm mm := fun a w hh => by
  obtain ⟨v, h⟩ := hh.toPool hi hig
  exact g v a w h
theorem g_newPool (j e sz : Nat) (hj : Nat.blt j given = true) (hf : hasI mm j = false) (g : Goes C f n R k tm ((j, .pool e sz []) :: mm)) : Goes C f n R k tm mm := g.mono fun _ _ h => h.newPool j e sz hj hf
theorem g_nilPool (i : Nat) {e sz : Nat} {qs : PQ} (hi : getM mm i = some (.pool e sz qs)) (hig : Nat.blt i given = true) (hno : noUse i mm = true) (hnt : noUseT i tm = true)
    (g : Goes C f n R k tm (updM mm i (.pool e sz (qs ++ [(.slice none 0 0, [])])))) : Goes C f n R k tm mm := g.mono fun _ _ h => h.nilPool hi hig hno hnt
theorem g_nilVal (i j : Nat) {cs : List SC} (hi : getM mm i = some (.box cs)) (hj : nthC cs j = some (.c .nils)) (g : Goes C f n R k tm (updM mm i (.box (setL cs j (.c (.val (.slice none 0 0))))))) : Goes C f n R k tm mm :=
  g.mono fun _ _ h => h.nilVal hi hj
theorem g_leB (i j : Nat) {cs : List SC} {x : CT} (y : CT) (hi : getM mm i = some (.box cs)) (hj : nthC cs j = some (.c x)) (hle : LeC x y) (g : Goes C f n R k tm (updM mm i (.box (setL cs j (.c y))))) : Goes C f n R k tm mm :=
  g.mono fun _ _ h => h.leB hi hj hle
end
section
variable {C : Ctx} {n : Nat} {mmf : Nat → MM} {L l : List Oper} {tm0 tm : TM} {E : List Nat} {i : Nat} {o : Oper} {d : Nat} {TF : TM → Prop} {p q : Operand} {ty ty' : TypeId}
end
end Go.Sy
namespace Go.Sy
open Go.RowKit
section
variable {C : Ctx} {n : Nat} {mm : MM} {o : Oper} {d : Nat} {x y : Operand}
end
section
variable {C : Ctx} {n : Nat} {mm0 : MM} {L l : List Oper} {tm0 tm : TM} {R : List Rec} {i : Nat} {o : Oper} {d t : Nat} {T : TM → MM → Prop} {x y : Operand}
end
section
variable {ι : Type} {C : Ctx} {n : Nat} {L : List Oper} {tmF : TM} {ET : Nat → ι → TM} {MMx : Nat → ι → MM} {k : Nat} {x : ι} {o : Oper} {d : Nat} {p q : Operand}
end
section
variable {C : Ctx} {n : Nat} {tm : TM} {mm : MM} {o : Oper} {d : Nat} {x y : Operand}
theorem op_makeO {Θ : Tab} (hΘ : tabOK C.P Θ) {t : TypeId} {z bts e : Nat} {ag : Bool} {zt : Option (List CT)} {ei : TyI} {c0 : CT} {kx ky : IntKind} {v v' : Int}
    (ho : o.op = .makeSlice t x y) (ht : tyGet Θ t = some ⟨z, bts, ag, zt, .slice e⟩) (hei : tyGet Θ e = some ei) (hz : ei.zero = some [c0]) (hs1 : Nat.beq ei.size 1 = true)
    (hx : evalC tm x = some (.c (.int kx v))) (hy : evalC tm y = some (.c (.int ky v'))) (hi : getM mm d = none) (hd : o.dst = some d) (hn : Nat.blt d n = true)
    (m : Nat) (hv : v = (m : Int)) (hv' : v' = (m : Int)) (hbig : m ≤ 9223372036854775807 ∧ ei.bytes * m ≤ 281474976710656) :
    OpR C n o tm mm ((d, .v (.one (.own d))) :: delL tm d) ((d, .arr true e 1 (List.replicate m [c0])) :: mm) := by
  intro a w ⟨H, Z, hm⟩
  subst hv hv'
  have h1 : a.eval x = .int kx m := RepC.int_inv (evalC_rep hm hx)
  have h2 : a.eval y = .int ky m := RepC.int_inv (evalC_rep hm hy)
  obtain ⟨inf, de, hf⟩ := tyF hΘ ht
  obtain ⟨inf', de', hf'⟩ := tyF hΘ hei
  obtain ⟨zv, hzv, hzc, hzl⟩ := hf'.zero [c0] hz
  obtain ⟨q1, q2⟩ := zchk_cells (w := w) (M := Mof C H mm) hzc
  have hde : de = .slice e := by
    have := hf.sh
    cases de <;> simp [shChk] at this ⊢
    exact this
  subst hde
  have hs1 : ei.size = 1 := Nat.eq_of_beq_eq_true hs1
  have hrun0 := run_make (P := C.P) w t e inf' zv hf.und hf'.info hzv kx ky m m (by omega) (by omega) (by rw [hf'.bytes]; omega) (by omega)
  rw [hf'.size, hs1] at hrun0
  have hcs : zv.cells.size = 1 := by rw [q1]; rfl
  obtain ⟨u0, hu0, hr0⟩ := q2 0 c0 rfl
  have hcells : ∀ i, i < m → (madeCells zv.cells (m * 1))[i]? = some u0 := by
    intro i hi
    simp only [madeCells, Nat.mul_one]
    rw [Array.getElem?_map, Array.getElem?_range]
    rw [if_pos hi]
    simp only [Option.map_some, hcs, Nat.mod_one]
    rw [getElem!_def, hu0]
  have hrun : (execOp a.eval o).run C.P w = .ok (.value (.slice (some ⟨w.heap.size, 0, none⟩) m m)) (w.alloc (.cells (madeCells zv.cells (m * 1)) e)) := by
    simp only [execOp, ho, h1, h2, Sem.run_bind]
    simp [hrun0, Sem.run_pure]
  have hget : ∀ (k : Nat) (q : List CT), (List.replicate m [c0])[k]? = some q → k < m ∧ q = [c0] := fun k q hk => by
    rw [List.getElem?_replicate] at hk
    split at hk
    · rename_i h; injection hk with hk; exact ⟨h, hk.symm⟩
    · cases hk
  refine .inl ⟨_, _, hrun, upd H d (.slice (some ⟨w.heap.size, 0, none⟩) m m), upd Z d 1, ?_⟩
  rw [hd]
  refine hm.add (i := d) (hv := .slice (some ⟨w.heap.size, 0, none⟩) m m) (z := 1) (o := .arr true e 1 (List.replicate m [c0])) (getM_none hi) (Nat.blt_eq.mp hn) rfl (alloc_ext w _) ?_ ?_ ?_
  · intro b hb
    simp [Hb, hblk] at hb
    subst hb
    exact ⟨Nat.le_refl _, by show _ < (w.heap.push _).size; rw [Array.size_push]; omega⟩
  · intro hMM hfr
    refine ⟨upd_self _ _ _, (madeCells zv.cells (m * 1)).toList, ?_, by rw [upd_self]; simp, fun q hq => by rw [List.mem_replicate] at hq; rw [hq.2]; rfl, fun k x hk j c hc => ?_⟩
    · rw [upd_self, List.length_replicate]
      exact World.ownsRow_lit w _ m (Nat.zero_le _) (by simp only [maxLen]; omega) (by simp [madeCells])
    · obtain ⟨g1, rfl⟩ := hget k x hk
      cases j with
      | succ j => simp at hc
      | zero =>
        simp at hc; subst hc
        exact ⟨u0, by rw [Nat.mul_one, Nat.add_zero, Array.getElem?_toList]; simpa using hcells k g1, hr0.mono (alloc_ext w _).size hfr hMM⟩
  · exact ⟨⟨_, List.mem_cons_self, rfl⟩, (upd_self _ _ _).symm⟩
end
section
variable {C : Ctx} {n : Nat} {tm : TM} {mm : MM} {L l : List Oper} {T : TM → MM → Prop} {o : Oper} {d : Nat} {x y : Operand}
theorem s_makeO {Θ : Tab} (hΘ : tabOK C.P Θ) {t : TypeId} {z bts e : Nat} {ag : Bool} {zt : Option (List CT)} {ei : TyI} {c0 : CT} {kx ky : IntKind} {v v' : Int}
    (ho : o.op = .makeSlice t x y) (ht : tyGet Θ t = some ⟨z, bts, ag, zt, .slice e⟩) (hei : tyGet Θ e = some ei) (hz : ei.zero = some [c0]) (hs1 : Nat.beq ei.size 1 = true)
    (hx : evalC tm x = some (.c (.int kx v))) (hy : evalC tm y = some (.c (.int ky v'))) (hi : getM mm d = none) (hd : o.dst = some d) (hn : Nat.blt d n = true) (hg : guardL L tm o = some true)
    (m : Nat) (hv : v = (m : Int)) (hv' : v' = (m : Int)) (hbig : m ≤ 9223372036854775807 ∧ ei.bytes * m ≤ 281474976710656)
    (k : SOps C n L.toArray l ((d, .v (.one (.own d))) :: delL tm d) ((d, .arr true e 1 (List.replicate m [c0])) :: mm) T) : SOps C n L.toArray (o :: l) tm mm T :=
  s_step (op_makeO hΘ ho ht hei hz hs1 hx hy hi hd hn m hv hv' hbig).wp hg k
end
section
variable {C : Ctx} {n : Nat} {tm : TM} {mm : MM} {f : FuncId} {R : Ending → World → Prop} {k : List Item}
theorem Has.freezeT {a : Act} {w : World} (i t : Nat) {e sz : Nat} {v : Value} {xs : List (List CT)} (hi : getM mm i = some (.pool e sz [(v, xs)])) (hig : Nat.blt i given = true) (ht : getT tm t = some (.v (.one (.c (.val v)))))
    (hno : noUse i mm = true) (hnt : noUseT i tm = true) (h : Has C n tm mm a w) : Has C n ((t, .v (.one (.c (.slice false sz xs)))) :: delL tm t) (outM [i] mm) a w := by
  obtain ⟨H, Z, hm⟩ := h
  obtain ⟨hH, hpool⟩ := hm.mem _ (getM_mem hi)
  have hH : H i = poolV [(v, xs)] := hH
  have hpool : PoolOK w (Mof C H mm) e sz [(v, xs)] := hpool
  have hsub : ∀ p ∈ outM [i] mm, p ∈ mm ∧ p.1 ≠ i := fun p hp => by
    obtain ⟨g1, g2⟩ := outM_mem.1 hp
    exact ⟨g1, by simpa using g2⟩
  have hIds : ∀ q, q ≠ i → Iof mm q → Iof (outM [i] mm) q := fun q hq ⟨p, hp, e⟩ => ⟨p, outM_mem.2 ⟨hp, by simpa [e] using hq⟩, e⟩
  have hM : ∀ b, b < w.heap.size → Mof C H (outM [i] mm) b → Mof C H mm b := by
    rintro b _ (hb | ⟨p, hp, hpb⟩)
    · exact .inl hb
    · exact .inr ⟨p, (hsub p hp).1, hpb⟩
  have hnM : ∀ b, hblk v = some b → ¬ Mof C H (outM [i] mm) b := by
    rintro b hqb (hb | ⟨p, hp, hpb⟩)
    · have hf := hm.fresh _ (getM_mem hi) b (by rw [show H (i, _).1 = _ from hH]; exact poolV_Hb.2 ⟨_, List.mem_cons_self, hqb⟩)
      have := hm.m0 b hb
      have := Nat.blt_eq.mp hig
      rcases hf.1 with ⟨_, h2 | h2⟩ | ⟨h1, _⟩
      · omega
      · exact (C.hV b h2).2 hb
      · simp only at h1; omega
    · exact hm.sep p (hsub p hp).1 _ (getM_mem hi) (hsub p hp).2 b hpb (by rw [show H (i, _).1 = _ from hH]; exact poolV_Hb.2 ⟨_, List.mem_cons_self, hqb⟩)
  have hrep : RepC w (Mof C H (outM [i] mm)) v (.slice false sz xs) := (hpool.row (k := 0) rfl).frozen hM hnM
  refine ⟨H, Z, hm.defers, hm.size, hm.nle, fun p hp => hm.hg p (hsub p hp).1, hm.ext, hm.m0, fun p hp q hq => hm.ids p (hsub p hp).1 q (hsub q hq).1, fun p hp => ?_,
    fun p hp => hm.fresh p (hsub p hp).1, fun p hp q hq => hm.sep p (hsub p hp).1 q (hsub q hq).1, fun p hp => ?_⟩
  · have k1 := (hsub p hp).1
    exact (hm.mem p k1).mono ⟨rfl, rfl⟩ (fun _ _ => rfl) (fun q hq hIq => ⟨hIds q (fun e => noUse_spec hno k1 (e ▸ hq)) hIq, rfl, rfl⟩) (Nat.le_refl _) (fun _ _ _ => rfl) hM
  · rcases List.mem_cons.1 hp with rfl | hp
    · have hv : a.tmps.getD t undef = v := RepC.val_inv (hm.tmps _ (getT_mem ht))
      show RepC w _ (a.tmps.getD t undef) _
      rw [hv]
      exact hrep
    · have hp := (delL_mem hp).1
      exact (hm.tmps p hp).mono (fun q hq hIq => ⟨hIds q (fun e => noUseT_spec hnt p hp (e ▸ hq)) hIq, rfl, rfl⟩) (Nat.le_refl _) (fun _ _ _ => rfl) hM
theorem g_freezeT (i t : Nat) {e sz : Nat} {v : Value} {xs : List (List CT)} (hi : getM mm i = some (.pool e sz [(v, xs)])) (hig : Nat.blt i given = true) (ht : getT tm t = some (.v (.one (.c (.val v)))))
    (hno : noUse i mm = true) (hnt : noUseT i tm = true) (g : Goes C f n R k ((t, .v (.one (.c (.slice false sz xs)))) :: delL tm t) (outM [i] mm)) : Goes C f n R k tm mm := g.mono fun _ _ h => h.freezeT i t hi hig ht hno hnt
end
end Go.Sy
namespace Go.Sy
open Go.RowKit
section
variable {I I' : Nat → Prop} {H H' : Nat → Value} {Z Z' : Nat → Nat} {w w' : World} {M M' : Nat → Prop} {v : Value}
end
section
variable {C : Ctx} {n : Nat} {tm : TM} {mm : MM} {H : Nat → Value} {Z : Nat → Nat} {a : Act} {w : World}
end
section
variable {C : Ctx} {n : Nat} {tm : TM} {mm : MM} {o : Oper} {d : Nat} {L l : List Oper} {T : TM → MM → Prop}
end
section
variable {C : Ctx} {n : Nat} {tm : TM} {mm : MM} {f : FuncId} {R : Ending → World → Prop} {k : List Item}
theorem Has.ownP {a : Act} {w : World} (i j t : Nat) {e sz : Nat} {v : Value} {xs : List (List CT)} (hi : getM mm i = some (.pool e sz [(v, xs)])) (hig : Nat.blt i given = true) (ht : getT tm t = some (.v (.one (.c (.val v)))))
    (hjg : Nat.blt j given = true) (hjf : hasI mm j = false) (hno : noUse i mm = true) (hnt : noUseT i tm = true) (h : Has C n tm mm a w) : Has C n ((t, .v (.one (.own j))) :: delL tm t) ((j, .arr false e sz xs) :: outM [i] mm) a w := by
  obtain ⟨H, Z, hm⟩ := h
  obtain ⟨hH, hpool⟩ := hm.mem _ (getM_mem hi)
  have hH : H i = poolV [(v, xs)] := hH
  have hpool : PoolOK w (Mof C H mm) e sz [(v, xs)] := hpool
  obtain ⟨us, h1, h3, h4⟩ := hpool.row (k := 0) rfl
  have hji := hasI_false hjf
  have hjn : j ≠ i := fun e => hji (e ▸ ⟨_, getM_mem hi, rfl⟩)
  have hsub : ∀ p ∈ outM [i] mm, p ∈ mm ∧ p.1 ≠ i ∧ p.1 ≠ j := fun p hp => by
    obtain ⟨g1, g2⟩ := outM_mem.1 hp
    exact ⟨g1, by simpa using g2, fun e => hji ⟨p, g1, e⟩⟩
  have hHo : ∀ q, q ≠ j → Sy.upd H j v q = H q := fun q hq => upd_ne _ _ hq
  have hZo : ∀ q, q ≠ j → Sy.upd Z j sz q = Z q := fun q hq => upd_ne _ _ hq
  have hvb : ∀ b, Hb v b → Hb (H i) b := fun b hb => by
    rw [hH]; exact poolV_Hb.2 ⟨_, List.mem_cons_self, by rw [hblk_row h1]; exact (Hb_own h1 b).1 hb⟩
  have hIds : ∀ q, q ≠ i → Iof mm q → Iof ((j, .arr false e sz xs) :: outM [i] mm) q := fun q hq ⟨p, hp, e⟩ => ⟨p, List.mem_cons_of_mem _ (outM_mem.2 ⟨hp, by simpa [e] using hq⟩), e⟩
  refine ⟨Sy.upd H j v, Sy.upd Z j sz, hm.build (fun _ => False) (Ext.refl _ w) (fun _ _ h => h.elim) hm.defers hm.size ?_ ?_ ?_ ?_ ?_⟩
  · intro p hp hpg
    rcases List.mem_cons.1 hp with rfl | hp
    · have := Nat.blt_eq.mp hjg; simp only at hpg; omega
    · rw [hHo _ (hsub p hp).2.2]; exact hm.hg p (hsub p hp).1 hpg
  · intro p hp q hq he
    rcases List.mem_cons.1 hp with rfl | hp <;> rcases List.mem_cons.1 hq with rfl | hq
    · rfl
    · exact absurd he.symm (hsub q hq).2.2
    · exact absurd he (hsub p hp).2.2
    · exact hm.ids p (hsub p hp).1 q (hsub q hq).1 he
  · intro p hp
    rcases List.mem_cons.1 hp with rfl | hp
    · refine .inr ⟨fun b hb => ?_, fun hMM _ => ?_⟩
      · rw [upd_self] at hb
        exact .inr ⟨_, getM_mem hi, hvb b hb, .inr ⟨Nat.blt_eq.mp hig, Nat.blt_eq.mp hjg⟩⟩
      · refine ⟨upd_self _ _ _, us, by rw [upd_self]; exact h1, fun h => (by cases h), h3, fun k x hx m c hc => ?_⟩
        obtain ⟨u, hu, hr⟩ := h4 k x hx m c hc
        exact ⟨u, hu, hr.mono (Nat.le_refl _) (fun _ _ _ => rfl) hMM⟩
    · obtain ⟨k1, k2, k3⟩ := hsub p hp
      exact .inl ⟨k1, hHo _ k3, hZo _ k3, fun _ _ h => h, fun q hq hIq => ⟨hIds q (fun e => noUse_spec hno k1 (e ▸ hq)) hIq, hHo q (fun e => hji (e ▸ hIq)), hZo q (fun e => hji (e ▸ hIq))⟩⟩
  · intro p hp q hq hpq b hpb hqb
    rcases List.mem_cons.1 hp with rfl | hp <;> rcases List.mem_cons.1 hq with rfl | hq
    · exact hpq rfl
    · rw [upd_self] at hpb
      rw [hHo _ (hsub q hq).2.2] at hqb
      exact hm.sep _ (getM_mem hi) q (hsub q hq).1 (Ne.symm (hsub q hq).2.1) b (hvb b hpb) hqb
    · rw [upd_self] at hqb
      rw [hHo _ (hsub p hp).2.2] at hpb
      exact hm.sep p (hsub p hp).1 _ (getM_mem hi) (hsub p hp).2.1 b hpb (hvb b hqb)
    · rw [hHo _ (hsub p hp).2.2] at hpb
      rw [hHo _ (hsub q hq).2.2] at hqb
      exact hm.sep p (hsub p hp).1 q (hsub q hq).1 hpq b hpb hqb
  · intro p hp
    rcases List.mem_cons.1 hp with rfl | hp
    · refine .inr fun _ _ => ?_
      have hv : a.tmps.getD t undef = v := RepC.val_inv (hm.tmps _ (getT_mem ht))
      exact ⟨⟨_, List.mem_cons_self, rfl⟩, by show a.tmps.getD t undef = _; rw [hv, upd_self]⟩
    · have hp := (delL_mem hp).1
      exact .inl ⟨p, hp, rfl, rfl, fun q hq hIq => ⟨hIds q (fun e => noUseT_spec hnt p hp (e ▸ hq)) hIq, hHo q (fun e => hji (e ▸ hIq)), hZo q (fun e => hji (e ▸ hIq))⟩⟩
end
section
variable {C : Ctx} {n : Nat} {tm : TM} {mm : MM} {f : FuncId} {R : Ending → World → Prop} {k : List Item}
end
section
variable {C : Ctx} {n : Nat} {L : List Oper} {tm : TM}
end
section
variable {C : Ctx} {n : Nat} {tm : TM} {mm : MM} {L l : List Oper} {T : TM → MM → Prop} {o : Oper} {d : Nat} {x : Operand}
end
theorem Con.args {P : Program} {f : FuncId} {pre post : List (List CT)} {args args' : List SV} {res : ST} (h : Con P f pre args res post) (hl : LeVs args' args) : Con P f pre args' res post :=
  ⟨h.ok, fun w M0 H Z vs hp hv => h.calls w M0 H Z vs hp (hl.rep hv)⟩
theorem ConQ.args {P : Program} {f : FuncId} {pre post : List (List CT)} {args args' : List SV} {Q : ST → Prop} (h : ConQ P f pre args Q post) (hl : LeVs args' args) : ConQ P f pre args' Q post :=
  ⟨h.ok, fun w M0 H Z vs hp hv => h.calls w M0 H Z vs hp (hl.rep hv)⟩
end Go.Sy
namespace Go.Sy
open Go.RowKit
def renN : List (Nat × Nat) → Nat → Nat
  | [], i => i
  | (a, b) :: r, i => match Nat.beq a i with
    | true => b
    | false => renN r i
def rnNs (ren : List (Nat × Nat)) : List Nat → List Nat
  | [] => []
  | i :: l => renN ren i :: rnNs ren l
def rnC (ren : List (Nat × Nat)) : SC → SC
  | .c x => .c x
  | .lit b => .lit b
  | .ptr i o => .ptr (renN ren i) o
  | .aptr i k o => .aptr (renN ren i) k o
  | .eptr cs => .eptr cs
  | .own i => .own (renN ren i)
  | .mp i => .mp (renN ren i)
  | .bsl i n => .bsl (renN ren i) n
  | .clo f l => .clo f (rnNs ren l)
  | .any => .any
def rnCs (ren : List (Nat × Nat)) : List SC → List SC
  | [] => []
  | a :: l => rnC ren a :: rnCs ren l
def rnV (ren : List (Nat × Nat)) : SV → SV
  | .one s => .one (rnC ren s)
  | .agg l => .agg (rnCs ren l)
def rnVs (ren : List (Nat × Nat)) : List SV → List SV
  | [] => []
  | a :: l => rnV ren a :: rnVs ren l
def rnS (ren : List (Nat × Nat)) : ST → ST
  | .v s => .v (rnV ren s)
  | .tup l => .tup (rnVs ren l)
def rnO (ren : List (Nat × Nat)) : MO → MO
  | .box cs => .box (rnCs ren cs)
  | .arr nn e sz xs => .arr nn e sz xs
  | .mpo es => .mpo es
  | .pool e sz qs => .pool e sz qs
def rnM (ren : List (Nat × Nat)) : MM → MM
  | [] => []
  | (i, o) :: r => (renN ren i, rnO ren o) :: rnM ren r
theorem rnNs_eq (ren : List (Nat × Nat)) : ∀ l, rnNs ren l = l.map (renN ren)
  | [] => rfl
  | i :: l => by rw [rnNs, rnNs_eq ren l]; rfl
theorem rnCs_eq (ren : List (Nat × Nat)) : ∀ l, rnCs ren l = l.map (rnC ren)
  | [] => rfl
  | i :: l => by rw [rnCs, rnCs_eq ren l]; rfl
theorem rnVs_eq (ren : List (Nat × Nat)) : ∀ l, rnVs ren l = l.map (rnV ren)
  | [] => rfl
  | i :: l => by rw [rnVs, rnVs_eq ren l]; rfl
theorem rnM_eq (ren : List (Nat × Nat)) : ∀ l : MM, rnM ren l = l.map fun p => (renN ren p.1, rnO ren p.2)
  | [] => rfl
  | (i, o) :: l => by rw [rnM, rnM_eq ren l]; rfl
def plC : SC → Bool
  | .aptr _ _ _ => false
  | _ => true
def plCs : List SC → Bool
  | [] => true
  | a :: l => match plC a with
    | true => plCs l
    | false => false
def plV : SV → Bool
  | .one s => plC s
  | .agg l => plCs l
def plVs : List SV → Bool
  | [] => true
  | a :: l => match plV a with
    | true => plVs l
    | false => false
def plS : ST → Bool
  | .v s => plV s
  | .tup l => plVs l
def plO : MO → Bool
  | .box cs => plCs cs
  | .arr _ _ _ _ => false
  | _ => true
def plM : MM → Bool
  | [] => true
  | (_, o) :: r => match plO o with
    | true => plM r
    | false => false
theorem plCs_spec : ∀ {l : List SC}, plCs l = true → ∀ s ∈ l, plC s = true
  | [], _, s, h => by cases h
  | a :: l, h, s, hs => by
    unfold plCs at h
    split at h
    · rename_i ha
      rcases List.mem_cons.1 hs with rfl | hs
      · exact ha
      · exact plCs_spec h s hs
    · cases h
theorem plVs_spec : ∀ {l : List SV}, plVs l = true → ∀ s ∈ l, plV s = true
  | [], _, s, h => by cases h
  | a :: l, h, s, hs => by
    unfold plVs at h
    split at h
    · rename_i ha
      rcases List.mem_cons.1 hs with rfl | hs
      · exact ha
      · exact plVs_spec h s hs
    · cases h
theorem plM_spec : ∀ {l : MM}, plM l = true → ∀ p ∈ l, plO p.2 = true
  | [], _, p, h => by cases h
  | (i, o) :: l, h, p, hp => by
    unfold plM at h
    split at h
    · rename_i ha
      rcases List.mem_cons.1 hp with rfl | hp
      · exact ha
      · exact plM_spec h p hp
    · cases h
section
variable {ren : List (Nat × Nat)} {I I' : Nat → Prop} {H H' : Nat → Value} {Z Z' : Nat → Nat} {w : World} {M M' : Nat → Prop} {v : Value}
theorem repC_ren {s : SC} (hp : plC s = true) (h : RepSC I H Z w M v s) (hI : ∀ i ∈ s.uses, I i → I' (renN ren i) ∧ H' (renN ren i) = H i)
    (hM : ∀ b, b < w.heap.size → M' b → M b) : RepSC I' H' Z' w M' v (rnC ren s) := by
  cases s with
  | c x => exact RepC.mono h (Nat.le_refl _) (fun _ _ _ => rfl) hM
  | lit b => exact h
  | ptr i off =>
    obtain ⟨h1, b, h2, h3⟩ := h
    obtain ⟨k1, k2⟩ := hI i (by simp [SC.uses]) h1
    exact ⟨k1, b, by rw [k2]; exact h2, h3⟩
  | bsl i n =>
    obtain ⟨h1, b, h2, h3⟩ := h
    obtain ⟨k1, k2⟩ := hI i (by simp [SC.uses]) h1
    exact ⟨k1, b, by rw [k2]; exact h2, h3⟩
  | aptr i k off => cases hp
  | eptr cs =>
    obtain ⟨ad, h1, h2, h3, h4, h5⟩ := h
    refine ⟨ad, h1, h2, h3, fun hm => h4 (hM _ h3 hm), fun j c hc => ?_⟩
    obtain ⟨u, hu, hr⟩ := h5 j c hc
    exact ⟨u, hu, hr.mono (Nat.le_refl _) (fun _ _ _ => rfl) hM⟩
  | own i =>
    obtain ⟨h1, h2⟩ := h
    obtain ⟨k1, k2⟩ := hI i (by simp [SC.uses]) h1
    exact ⟨k1, by rw [k2]; exact h2⟩
  | mp i =>
    obtain ⟨h1, h2⟩ := h
    obtain ⟨k1, k2⟩ := hI i (by simp [SC.uses]) h1
    exact ⟨k1, by rw [k2]; exact h2⟩
  | clo f caps =>
    obtain ⟨h1, vs, h2, h3, h4⟩ := h
    have hr : rnC ren (.clo f caps) = .clo f (caps.map (renN ren)) := by rw [rnC, rnNs_eq]
    rw [hr]
    refine ⟨fun i hi => ?_, vs, h2, by rw [List.length_map]; exact h3, fun j i hj => ?_⟩
    · obtain ⟨k, hk, rfl⟩ := List.mem_map.1 hi
      exact (hI k hk (h1 k hk)).1
    · rw [List.getElem?_map] at hj
      cases hq : caps[j]? with
      | none => rw [hq] at hj; cases hj
      | some k =>
        rw [hq] at hj; injection hj with hj; subst hj
        have hm : k ∈ caps := List.mem_of_getElem? hq
        rw [(hI k hm (h1 k hm)).2]
        exact h4 j k hq
  | any => trivial
theorem repC_unren {s : SC} (hp : plC s = true) (h : RepSC I H Z w M v (rnC ren s)) (hI : ∀ i ∈ s.uses, I' i)
    (hM : ∀ b, b < w.heap.size → M' b → M b) : RepSC I' (fun i => H (renN ren i)) Z' w M' v s := by
  cases s with
  | c x => exact RepC.mono h (Nat.le_refl _) (fun _ _ _ => rfl) hM
  | lit b => exact h
  | ptr i off =>
    obtain ⟨h1, b, h2, h3⟩ := h
    exact ⟨hI i (by simp [SC.uses]), b, h2, h3⟩
  | bsl i n =>
    obtain ⟨h1, b, h2, h3⟩ := h
    exact ⟨hI i (by simp [SC.uses]), b, h2, h3⟩
  | aptr i k off => cases hp
  | eptr cs =>
    obtain ⟨ad, h1, h2, h3, h4, h5⟩ := h
    refine ⟨ad, h1, h2, h3, fun hm => h4 (hM _ h3 hm), fun j c hc => ?_⟩
    obtain ⟨u, hu, hr⟩ := h5 j c hc
    exact ⟨u, hu, hr.mono (Nat.le_refl _) (fun _ _ _ => rfl) hM⟩
  | own i =>
    obtain ⟨h1, h2⟩ := h
    exact ⟨hI i (by simp [SC.uses]), h2⟩
  | mp i =>
    obtain ⟨h1, h2⟩ := h
    exact ⟨hI i (by simp [SC.uses]), h2⟩
  | clo f caps =>
    have hr : rnC ren (.clo f caps) = .clo f (caps.map (renN ren)) := by rw [rnC, rnNs_eq]
    rw [hr] at h
    obtain ⟨h1, vs, h2, h3, h4⟩ := h
    refine ⟨fun i hi => hI i hi, vs, h2, by rw [List.length_map] at h3; exact h3, fun j i hj => ?_⟩
    exact h4 j (renN ren i) (by rw [List.getElem?_map, hj]; rfl)
  | any => trivial
theorem repV_ren {s : SV} (hp : plV s = true) (h : RepSV I H Z w M v s) (hI : ∀ i ∈ s.uses, I i → I' (renN ren i) ∧ H' (renN ren i) = H i)
    (hM : ∀ b, b < w.heap.size → M' b → M b) : RepSV I' H' Z' w M' v (rnV ren s) := by
  cases s with
  | one s => exact repC_ren (s := s) hp h hI hM
  | agg l =>
    obtain ⟨vs, h1, h2, h3⟩ := h
    show RepSV I' H' Z' w M' v (.agg (rnCs ren l))
    rw [rnCs_eq]
    refine ⟨vs, h1, by simpa using h2, fun j c hc => ?_⟩
    rw [List.getElem?_map] at hc
    cases hq : l[j]? with
    | none => rw [hq] at hc; cases hc
    | some k =>
      rw [hq] at hc; injection hc with hc; subst hc
      obtain ⟨u, hu, hr⟩ := h3 j k hq
      exact ⟨u, hu, repC_ren (plCs_spec hp k (List.mem_of_getElem? hq)) hr (fun i hi => hI i (by simp only [SV.uses, List.mem_flatMap]; exact ⟨k, List.mem_of_getElem? hq, hi⟩)) hM⟩
theorem repV_unren {s : SV} (hp : plV s = true) (h : RepSV I H Z w M v (rnV ren s)) (hI : ∀ i ∈ s.uses, I' i)
    (hM : ∀ b, b < w.heap.size → M' b → M b) : RepSV I' (fun i => H (renN ren i)) Z' w M' v s := by
  cases s with
  | one s => exact repC_unren (s := s) hp h hI hM
  | agg l =>
    have h : RepSV I H Z w M v (.agg (rnCs ren l)) := h
    rw [rnCs_eq] at h
    obtain ⟨vs, h1, h2, h3⟩ := h
    refine ⟨vs, h1, by simpa using h2, fun j c hc => ?_⟩
    obtain ⟨u, hu, hr⟩ := h3 j (rnC ren c) (by rw [List.getElem?_map, hc]; rfl)
    exact ⟨u, hu, repC_unren (plCs_spec hp c (List.mem_of_getElem? hc)) hr (fun i hi => hI i (by simp only [SV.uses, List.mem_flatMap]; exact ⟨c, List.mem_of_getElem? hc, hi⟩)) hM⟩
theorem repS_ren {s : ST} (hp : plS s = true) (h : RepST I H Z w M v s) (hI : ∀ i ∈ s.uses, I i → I' (renN ren i) ∧ H' (renN ren i) = H i)
    (hM : ∀ b, b < w.heap.size → M' b → M b) : RepST I' H' Z' w M' v (rnS ren s) := by
  cases s with
  | v s => exact repV_ren (s := s) hp h hI hM
  | tup l =>
    obtain ⟨vs, h1, h2, h3⟩ := h
    show RepST I' H' Z' w M' v (.tup (rnVs ren l))
    rw [rnVs_eq]
    refine ⟨vs, h1, by simpa using h2, fun j c hc => ?_⟩
    rw [List.getElem?_map] at hc
    cases hq : l[j]? with
    | none => rw [hq] at hc; cases hc
    | some k =>
      rw [hq] at hc; injection hc with hc; subst hc
      obtain ⟨u, hu, hr⟩ := h3 j k hq
      exact ⟨u, hu, repV_ren (plVs_spec hp k (List.mem_of_getElem? hq)) hr (fun i hi => hI i (by simp only [ST.uses, List.mem_flatMap]; exact ⟨k, List.mem_of_getElem? hq, hi⟩)) hM⟩
theorem PoolOK.mask {e sz : Nat} {qs : PQ} (h : PoolOK w M e sz qs) (hM : ∀ b, b < w.heap.size → M' b → M b) : PoolOK w M' e sz qs :=
  ⟨fun k q hq => RowOK.mono (v := q.1) (xs := q.2) (h.1 k q hq) (fun _ _ => rfl) (Nat.le_refl _) (fun _ _ _ => rfl) hM, h.2⟩
theorem memO_ren {i : Nat} {o : MO} (hp : plO o = true) (h : MemOK I H Z w M i o) (hh : H' (renN ren i) = H i) (hI : ∀ j ∈ o.uses, I j → I' (renN ren j) ∧ H' (renN ren j) = H j)
    (hM : ∀ b, b < w.heap.size → M' b → M b) : MemOK I' H' Z' w M' (renN ren i) (rnO ren o) := by
  cases o with
  | box cs =>
    obtain ⟨b, ty, vs, h1, h2, h3, h4⟩ := h
    show MemOK I' H' Z' w M' (renN ren i) (.box (rnCs ren cs))
    rw [rnCs_eq]
    refine ⟨b, ty, vs, by rw [hh]; exact h1, h2, by simpa using h3, fun j c hc => ?_⟩
    rw [List.getElem?_map] at hc
    cases hq : cs[j]? with
    | none => rw [hq] at hc; cases hc
    | some k =>
      rw [hq] at hc; injection hc with hc; subst hc
      obtain ⟨u, hu, ho, hr⟩ := h4 j k hq
      exact ⟨u, hu, ho, repC_ren (plCs_spec hp k (List.mem_of_getElem? hq)) hr (fun i hi => hI i (by simp only [MO.uses, List.mem_flatMap]; exact ⟨k, List.mem_of_getElem? hq, hi⟩)) hM⟩
  | arr nn e sz xs => cases hp
  | mpo es =>
    obtain ⟨r, es', ck, h1, h2, h3, h4⟩ := h
    refine ⟨r, es', ck, by rw [hh]; exact h1, h2, h3, fun j p hp => ?_⟩
    obtain ⟨en, he, hk, hv⟩ := h4 j p hp
    exact ⟨en, he, hk.mono (Nat.le_refl _) (fun _ _ _ => rfl) hM, hv.mono (Nat.le_refl _) (fun _ _ _ => rfl) hM⟩
  | pool e sz qs =>
    obtain ⟨h1, h2⟩ := h
    exact ⟨by rw [hh]; exact h1, PoolOK.mask h2 hM⟩
theorem memO_unren {i : Nat} {o : MO} (hp : plO o = true) (h : MemOK I H Z w M (renN ren i) (rnO ren o)) (hI : ∀ j ∈ o.uses, I' j)
    (hM : ∀ b, b < w.heap.size → M' b → M b) : MemOK I' (fun i => H (renN ren i)) Z' w M' i o := by
  cases o with
  | box cs =>
    have h : MemOK I H Z w M (renN ren i) (.box (rnCs ren cs)) := h
    rw [rnCs_eq] at h
    obtain ⟨b, ty, vs, h1, h2, h3, h4⟩ := h
    refine ⟨b, ty, vs, h1, h2, by simpa using h3, fun j c hc => ?_⟩
    obtain ⟨u, hu, ho, hr⟩ := h4 j (rnC ren c) (by rw [List.getElem?_map, hc]; rfl)
    exact ⟨u, hu, ho, repC_unren (plCs_spec hp c (List.mem_of_getElem? hc)) hr (fun i hi => hI i (by simp only [MO.uses, List.mem_flatMap]; exact ⟨c, List.mem_of_getElem? hc, hi⟩)) hM⟩
  | arr nn e sz xs => cases hp
  | mpo es =>
    obtain ⟨r, es', ck, h1, h2, h3, h4⟩ := h
    refine ⟨r, es', ck, h1, h2, h3, fun j p hp => ?_⟩
    obtain ⟨en, he, hk, hv⟩ := h4 j p hp
    exact ⟨en, he, hk.mono (Nat.le_refl _) (fun _ _ _ => rfl) hM, hv.mono (Nat.le_refl _) (fun _ _ _ => rfl) hM⟩
  | pool e sz qs =>
    obtain ⟨h1, h2⟩ := h
    exact ⟨h1, PoolOK.mask h2 hM⟩
end
structure PreM (w : World) (M0 : Nat → Prop) (H : Nat → Value) (Z : Nat → Nat) (mm : MM) : Prop where
  m0 : ∀ b, M0 b → b < w.heap.size
  dis : ∀ b, blksOf H mm b → ¬ M0 b
  mem : ∀ p ∈ mm, MemOK (Iof mm) H Z w (fun b => M0 b ∨ blksOf H mm b) p.1 p.2
  lt : ∀ p ∈ mm, ∀ b, Hb (H p.1) b → b < w.heap.size
  sep : ∀ p ∈ mm, ∀ q ∈ mm, p.1 ≠ q.1 → ∀ b, Hb (H p.1) b → ¬ Hb (H q.1) b
structure PostM (w w' : World) (M0 : Nat → Prop) (H H' : Nat → Value) (Z : Nat → Nat) (pre post : MM) : Prop where
  hd : ∀ p ∈ post, given ≤ p.1 → H' p.1 = H p.1
  mem : ∀ p ∈ post, MemOK (Iof post) H' Z w' (fun b => M0 b ∨ blksOf H' post b) p.1 p.2
  lt : ∀ p ∈ post, ∀ b, Hb (H' p.1) b → b < w'.heap.size ∧ (w.heap.size ≤ b ∨ ∃ q ∈ pre, Hb (H q.1) b ∧ (p.1 = q.1 ∨ (q.1 < given ∧ p.1 < given)))
  sep : ∀ p ∈ post, ∀ q ∈ post, p.1 ≠ q.1 → ∀ b, Hb (H' p.1) b → ¬ Hb (H' q.1) b
def EndM (H : Nat → Value) (Z : Nat → Nat) (pre : MM) {ι : Type} (Q : ι → Prop) (res : ι → ST) (post : ι → MM) (w : World) (M0 : Nat → Prop) (e : Ending) (w' : World) : Prop :=
  ∃ x v H', Q x ∧ e = .returned v ∧ Ext (blksOf H pre) w w' ∧ PostM w w' M0 H H' Z pre (post x) ∧
    RepST (Iof (post x)) H' Z w' (fun b => M0 b ∨ blksOf H' (post x) b) v (res x)
structure ConM (P : Program) (f : FuncId) (pre : MM) (args : List SV) {ι : Type} (Q : ι → Prop) (res : ι → ST) (post : ι → MM) : Prop where
  ok : CallOK P f
  calls : ∀ (w : World) (M0 : Nat → Prop) (H : Nat → Value) (Z : Nat → Nat) (vs : List Value), PreM w M0 H Z pre →
    Pw (fun v s => RepSV (Iof pre) H Z w (fun b => M0 b ∨ blksOf H pre b) v s) vs args →
    Calls P f vs.toArray w (EndM H Z pre Q res post w M0)
def rowsOf (H : Nat → Value) (pre : MM) (b : Nat) : Prop := ∃ p ∈ pre, p.1 < given ∧ Hb (H p.1) b
theorem rowsOf_ok {H : Nat → Value} {pre : MM} {M0 : Nat → Prop} (hd : ∀ b, blksOf H pre b → ¬ M0 b) : ∀ b, rowsOf H pre b → blksOf H pre b ∧ ¬ M0 b :=
  fun b ⟨p, hp, _, hb⟩ => ⟨⟨p, hp, hb⟩, hd b ⟨p, hp, hb⟩⟩
theorem conM_of {P : Program} {f : FuncId} {fn : Func} {c : Code} {pre : MM} {args : List SV} {ι : Type} {Q : ι → Prop} {res : ι → ST} {post : ι → MM}
    (hf : P.funcs[f]? = some fn) (hb : fn.body = some c) (hn : Nat.ble args.length fn.ntmps = true) (hng : Nat.ble fn.ntmps given = true) (hnm : (fn.name == "runtime.NumGoroutine") = false)
    (hu : uniM pre = true)
    (h : ∀ (w : World) (M0 : Nat → Prop) (H : Nat → Value) (Z : Nat → Nat) (hd : ∀ b, blksOf H pre b → ¬ M0 b),
      Goes ⟨P, w, M0, blksOf H pre, H, rowsOf H pre, rowsOf_ok hd⟩ f fn.ntmps (EndM H Z pre Q res post w M0) [.code c] (argT 0 args) pre) :
    ConM P f pre args Q res post := by
  refine ⟨callOK hf hb hnm, ?_⟩
  intro w M0 H Z vs hpre hargs cs
  have hlen : vs.length = args.length := hargs.1
  let a : Act := { tmps := vs.toArray ++ Array.replicate (fn.ntmps - vs.toArray.size) undef, defers := [] }
  have hn := Nat.ble_eq.mp hn
  have hmod : Mod ⟨P, w, M0, blksOf H pre, H, rowsOf H pre, rowsOf_ok hpre.dis⟩ H Z fn.ntmps (argT 0 args) pre a w := by
    refine ⟨rfl, by simp [a]; omega, Nat.ble_eq.mp hng, fun _ _ _ => rfl, Ext.refl _ _, hpre.m0, uniM_spec hu, hpre.mem, ?_, hpre.sep, ?_⟩
    · intro p hp b hb
      refine ⟨?_, hpre.lt p hp b hb⟩
      rcases Nat.lt_or_ge p.1 given with h1 | h1
      · exact .inl ⟨h1, .inr ⟨p, hp, h1, hb⟩⟩
      · exact .inr ⟨h1, .inl ⟨p, hp, hb⟩⟩
    · intro p hp
      obtain ⟨j, s, rfl, hj⟩ := argT_mem hp
      obtain ⟨u, hu, hr⟩ := hargs.2 j s hj
      have hjl : j < vs.length := (List.getElem?_eq_some_iff.1 hu).1
      have : a.tmps.getD (0 + j) undef = u := by
        have hju : vs[j] = u := by
          have := List.getElem?_eq_getElem hjl
          rw [hu] at this
          injection this with this; exact this.symm
        simp [a, Array.getD_eq_getD_getElem?, Array.getElem?_append, hjl, hju]
      rw [this]
      exact hr
  let b : Frame := { (default : Frame) with fn := f, kind := .normal }
  have henter : Frame.enter P f vs.toArray .normal = b.at a [.code c] := by
    simp [Frame.enter, Frame.at, hf, hb, b, a]
  obtain ⟨e, w', fr, h1, h2, h3, h4⟩ := h w M0 H Z hpre.dis a w ⟨H, Z, hmod⟩ b cs rfl rfl
  rw [henter]
  exact ⟨e, w', fr, h1, h2, h3, h4⟩
def AllIn (mm : MM) : MM → Prop
  | [] => True
  | (i, o) :: r => getM mm i = some o ∧ AllIn mm r
theorem AllIn.get {mm : MM} : ∀ {l : MM}, AllIn mm l → ∀ p ∈ l, getM mm p.1 = some p.2
  | [], _, p, hp => by cases hp
  | (i, o) :: r, h, p, hp => by
    rcases List.mem_cons.1 hp with rfl | hp
    · exact h.1
    · exact AllIn.get h.2 p hp
def givenIn (pre : MM) : MM → Bool
  | [] => true
  | (i, _) :: r => match Nat.blt i given with
    | true => givenIn pre r
    | false => match hasI pre i with
      | true => givenIn pre r
      | false => false
theorem givenIn_spec {pre : MM} : ∀ {l : MM}, givenIn pre l = true → ∀ p ∈ l, given ≤ p.1 → Iof pre p.1
  | [], _, p, hp => by cases hp
  | (i, o) :: r, h, p, hp => by
    unfold givenIn at h
    intro hg
    split at h
    · rename_i hb
      rcases List.mem_cons.1 hp with rfl | hp
      · exact absurd hg (Nat.not_le.2 (Nat.blt_eq.mp hb))
      · exact givenIn_spec h p hp hg
    · split at h
      · rename_i hh
        rcases List.mem_cons.1 hp with rfl | hp
        · exact hasI_spec hh
        · exact givenIn_spec h p hp hg
      · cases h
theorem rnC_nil (s : SC) : rnC [] s = s := by
  cases s with
  | clo f caps => rw [rnC, rnNs_eq, show renN [] = id from rfl, List.map_id]
  | _ => rfl
theorem rnV_nil (s : SV) : rnV [] s = s := by
  cases s with
  | one s => rw [rnV, rnC_nil]
  | agg l => rw [rnV, rnCs_eq, show rnC [] = id from funext rnC_nil, List.map_id]
theorem rnS_nil (s : ST) : rnS [] s = s := by
  cases s with
  | v s => rw [rnS, rnV_nil]
  | tup l => rw [rnS, rnVs_eq, show rnV [] = id from funext rnV_nil, List.map_id]
theorem rnO_nil (o : MO) : rnO [] o = o := by
  cases o with
  | box cs => rw [rnO, rnCs_eq, show rnC [] = id from funext rnC_nil, List.map_id]
  | _ => rfl
theorem g_endM {P : Program} {w0 : World} {M0 : Nat → Prop} {f : FuncId} {n : Nat} {tm : TM} {mm pre : MM} {H : Nat → Value} {Z : Nat → Nat} {hd : ∀ b, blksOf H pre b → ¬ M0 b} {Θ : Tab} (hΘ : tabOK P Θ)
    {ι : Type} {Q : ι → Prop} {res : ι → ST} {post : ι → MM} {fn : Func} (hf : P.funcs[f]? = some fn) (x : ι) {rs : List SV} {t : List Item} (ht : t = [] ∨ ∃ k, t = .code .ret :: k)
    (hr : resE Θ tm mm fn.results.toList = some rs) (he : packS rs = res x) (hpl : plS (res x) = true) (hok : okS (post x) (res x) = true) (hall : AllIn mm (post x))
    (hpm : plM (post x) = true) (hom : okM (post x) (post x) = true) (hgi : givenIn pre (post x) = true) (hQ : Q x) :
    Goes ⟨P, w0, M0, blksOf H pre, H, rowsOf H pre, rowsOf_ok hd⟩ f n (EndM H Z pre Q res post w0 M0) t tm mm := by
  intro a w ⟨H', Z', hm⟩ b fs hb hk
  obtain ⟨v, h1, h2⟩ := results_run hΘ hm hr
  have hmem : ∀ p ∈ post x, p ∈ mm := fun p hp => getM_mem (hall.get p hp)
  have hM : ∀ b, b < w.heap.size → (M0 b ∨ blksOf H' (post x) b) → Mof ⟨P, w0, M0, blksOf H pre, H, rowsOf H pre, rowsOf_ok hd⟩ H' mm b := by
    rintro b _ (hb | ⟨p, hp, hpb⟩)
    · exact .inl hb
    · exact .inr ⟨p, hmem p hp, hpb⟩
  have hI : ∀ i, Iof (post x) i → Iof (post x) (renN [] i) ∧ H' (renN [] i) = H' i := fun i hi => ⟨hi, rfl⟩
  have hfin : EndM H Z pre Q res post w0 M0 (.returned v) w := by
    refine ⟨x, v, H', hQ, rfl, hm.ext, ⟨fun p hp hg => hm.hg p (hmem p hp) hg, fun p hp => ?_, fun p hp b hb => ?_, fun p hp q hq => hm.sep p (hmem p hp) q (hmem q hq)⟩, ?_⟩
    · have := memO_ren (ren := []) (H' := H') (Z' := Z) (I' := Iof (post x)) (plM_spec hpm p hp) (hm.mem p (hmem p hp)) rfl (fun j hj _ => ⟨okM_spec hom p hp j hj, rfl⟩) hM
      rw [rnO_nil] at this
      exact this
    · obtain ⟨h3, h4⟩ := hm.fresh p (hmem p hp) b hb
      refine ⟨h4, ?_⟩
      rcases h3 with ⟨h5, h6 | ⟨q, hq, hq1, hqb⟩⟩ | ⟨h5, h6 | h6⟩
      · exact .inl h6
      · exact .inr ⟨q, hq, hqb, .inr ⟨hq1, h5⟩⟩
      · obtain ⟨q, hq, hqe⟩ := givenIn_spec hgi p hp h5
        refine .inr ⟨q, hq, ?_, .inl hqe.symm⟩
        rw [hqe]
        have := hm.hg p (hmem p hp) h5
        simp only at this
        rw [← this]; exact hb
      · exact .inl h6
    · have := repS_ren (ren := []) (H' := H') (Z' := Z) (I' := Iof (post x)) hpl (he ▸ h2) (fun j hj _ => ⟨okS_spec hok j hj, rfl⟩) hM
      rw [rnS_nil] at this
      exact this
  rcases ht with rfl | ⟨k, rfl⟩
  · exact ⟨.returned v, w, _, hfin, Steps.one step_end, hb, rfl, hm.defers, hk, fn, hb ▸ hf, h1⟩
  · exact ⟨.returned v, w, _, hfin, Steps.one step_ret, hb, rfl, hm.defers, hk, fn, hb ▸ hf, h1⟩
def PreAt (mm : MM) (ren : List (Nat × Nat)) : MM → Prop
  | [] => True
  | (i, o) :: r => getM mm (renN ren i) = some (rnO ren o) ∧ PreAt mm ren r
theorem PreAt.get {mm : MM} {ren : List (Nat × Nat)} : ∀ {l : MM}, PreAt mm ren l → ∀ p ∈ l, getM mm (renN ren p.1) = some (rnO ren p.2)
  | [], _, p, hp => by cases hp
  | (i, o) :: r, h, p, hp => by
    rcases List.mem_cons.1 hp with rfl | hp
    · exact h.1
    · exact PreAt.get h.2 p hp
def idsM (ren : List (Nat × Nat)) : MM → List Nat
  | [] => []
  | (i, _) :: r => renN ren i :: idsM ren r
theorem idsM_mem {ren : List (Nat × Nat)} : ∀ {l : MM} {j : Nat}, j ∈ idsM ren l ↔ ∃ p ∈ l, renN ren p.1 = j
  | [], j => by simp [idsM]
  | (i, o) :: r, j => by
    rw [idsM, List.mem_cons, idsM_mem (l := r)]
    simp [eq_comm]
def rowsLt (ren : List (Nat × Nat)) : MM → Bool
  | [] => true
  | (i, _) :: r => match Nat.blt i given with
    | true => match Nat.blt (renN ren i) given with
      | true => rowsLt ren r
      | false => false
    | false => rowsLt ren r
theorem rowsLt_spec {ren : List (Nat × Nat)} : ∀ {l : MM}, rowsLt ren l = true → ∀ p ∈ l, p.1 < given → renN ren p.1 < given
  | [], _, p, hp => by cases hp
  | (i, o) :: r, h, p, hp => by
    unfold rowsLt at h
    intro hg
    split at h
    · split at h
      · rename_i hb
        rcases List.mem_cons.1 hp with rfl | hp
        · exact Nat.blt_eq.mp hb
        · exact rowsLt_spec h p hp hg
      · cases h
    · rename_i hb
      rcases List.mem_cons.1 hp with rfl | hp
      · have := Nat.blt_eq.mpr hg
        rw [this] at hb; cases hb
      · exact rowsLt_spec h p hp hg
def keptIn (post : MM) : MM → Bool
  | [] => true
  | (i, _) :: r => match Nat.blt i given with
    | true => keptIn post r
    | false => match hasI post i with
      | true => keptIn post r
      | false => false
theorem keptIn_eq (post : MM) : ∀ l : MM, keptIn post l = givenIn post l
  | [] => rfl
  | (i, o) :: r => by unfold keptIn givenIn; rw [keptIn_eq post r]
def rowsN (ren : List (Nat × Nat)) (mm : MM) : MM → Bool
  | [] => true
  | (i, _) :: r => match Nat.blt i given with
    | false => rowsN ren mm r
    | true => match noUse (renN ren i) mm with
      | true => rowsN ren mm r
      | false => false
theorem rowsN_spec {ren : List (Nat × Nat)} {mm : MM} : ∀ {l : MM}, rowsN ren mm l = true → ∀ p ∈ l, p.1 < given → ∀ t ∈ mm, renN ren p.1 ∉ t.2.uses
  | [], _, p, hp => by cases hp
  | (i, o) :: r, h, p, hp => by
    unfold rowsN at h
    intro hg
    split at h
    · rename_i hb
      rcases List.mem_cons.1 hp with rfl | hp
      · have := Nat.blt_eq.mpr hg
        rw [this] at hb; cases hb
      · exact rowsN_spec h p hp hg
    · split at h
      · rename_i hb
        rcases List.mem_cons.1 hp with rfl | hp
        · exact fun t ht => noUse_spec hb ht
        · exact rowsN_spec h p hp hg
      · cases h
def dropR (ren : List (Nat × Nat)) : MM → TM → TM
  | [], tm => tm
  | (i, _) :: r, tm => match Nat.blt i given with
    | true => dropR ren r (dropU (renN ren i) tm)
    | false => dropR ren r tm
theorem dropR_mem {ren : List (Nat × Nat)} {t : Nat × ST} : ∀ {l : MM} {tm : TM}, t ∈ dropR ren l tm → t ∈ tm ∧ ∀ p ∈ l, p.1 < given → renN ren p.1 ∉ t.2.uses
  | [], _, h => ⟨h, fun p hp => by cases hp⟩
  | (i, o) :: r, tm, h => by
    unfold dropR at h
    split at h
    · obtain ⟨h1, h2⟩ := dropR_mem h
      obtain ⟨h3, h4⟩ := dropU_mem h1
      refine ⟨h3, fun p hp hg => ?_⟩
      rcases List.mem_cons.1 hp with rfl | hp
      · exact h4
      · exact h2 p hp hg
    · rename_i hb
      obtain ⟨h1, h2⟩ := dropR_mem h
      refine ⟨h1, fun p hp hg => ?_⟩
      rcases List.mem_cons.1 hp with rfl | hp
      · have := Nat.blt_eq.mpr hg
        rw [this] at hb; cases hb
      · exact h2 p hp hg
def lookR (ren : List (Nat × Nat)) : MM → Nat → Option Nat
  | [], _ => none
  | (i, _) :: r, j => if renN ren i = j then some i else lookR ren r j
theorem lookR_some {ren : List (Nat × Nat)} {j i : Nat} : ∀ {l : MM}, lookR ren l j = some i → ∃ p ∈ l, p.1 = i ∧ renN ren i = j
  | [], h => by cases h
  | (k, o) :: r, h => by
    unfold lookR at h
    split at h
    · rename_i hk
      injection h with h; subst h
      exact ⟨_, List.mem_cons_self, rfl, hk⟩
    · obtain ⟨p, hp, e⟩ := lookR_some h
      exact ⟨p, List.mem_cons_of_mem _ hp, e⟩
theorem lookR_none {ren : List (Nat × Nat)} {j : Nat} : ∀ {l : MM}, (∀ p ∈ l, renN ren p.1 ≠ j) → lookR ren l j = none
  | [], _ => rfl
  | (k, o) :: r, h => by
    unfold lookR
    rw [if_neg (h (k, o) List.mem_cons_self)]
    exact lookR_none fun p hp => h p (List.mem_cons_of_mem _ hp)
theorem lookR_get {ren : List (Nat × Nat)} {l : MM} (hi : ∀ p ∈ l, ∀ q ∈ l, renN ren p.1 = renN ren q.1 → p.1 = q.1) {p : Nat × MO} (hp : p ∈ l) : lookR ren l (renN ren p.1) = some p.1 := by
  cases h : lookR ren l (renN ren p.1) with
  | some i =>
    obtain ⟨q, hq, e1, e2⟩ := lookR_some h
    subst e1
    rw [hi q hq p hp e2]
  | none =>
    exfalso
    have : ∀ {l : MM}, lookR ren l (renN ren p.1) = none → p ∉ l := by
      intro l
      induction l with
      | nil => intro _; simp
      | cons q l ih =>
        intro h hm
        unfold lookR at h
        split at h
        · cases h
        · rename_i hne
          rcases List.mem_cons.1 hm with rfl | hm
          · exact hne rfl
          · exact ih h hm
    exact this h hp
theorem uni_split : ∀ {A B : MM}, uniM (A ++ B) = true → ∀ p ∈ A, ∀ q ∈ B, p.1 ≠ q.1
  | [], _, _, p, hp, _, _ => by cases hp
  | (i, o) :: A, B, h, p, hp, q, hq => by
    rw [List.cons_append] at h
    unfold uniM at h
    split at h
    · cases h
    · rename_i hh
      rcases List.mem_cons.1 hp with rfl | hp
      · exact fun e => hasI_false hh ⟨q, List.mem_append_right _ hq, e.symm⟩
      · exact uni_split h p hp q hq
section
variable {C : Ctx} {n : Nat} {tm : TM} {mm : MM} {o : Oper} {d : Nat} {L l : List Oper} {T : TM → MM → Prop}
def aftM (ren : List (Nat × Nat)) (mm pre post : MM) : MM := rnM ren post ++ outM (idsM ren pre) mm
def injM (ren : List (Nat × Nat)) : MM → Bool
  | [] => true
  | (i, _) :: r => match memN (idsM ren r) (renN ren i) with
    | true => false
    | false => injM ren r
theorem injM_spec {ren : List (Nat × Nat)} : ∀ {l : MM}, injM ren l = true → ∀ p ∈ l, ∀ q ∈ l, renN ren p.1 = renN ren q.1 → p = q
  | [], _, p, hp => by cases hp
  | (i, o) :: r, h, p, hp => by
    intro q hq he
    unfold injM at h
    split at h
    · cases h
    · rename_i hm
      have hni : ∀ s ∈ r, renN ren s.1 ≠ renN ren i := fun s hs e => by
        have : renN ren i ∈ idsM ren r := idsM_mem.2 ⟨s, hs, e⟩
        rw [memN_iff.2 this] at hm; cases hm
      rcases List.mem_cons.1 hp with rfl | hp <;> rcases List.mem_cons.1 hq with rfl | hq
      · rfl
      · exact absurd he.symm (hni q hq)
      · exact absurd he (hni p hp)
      · exact injM_spec h p hp q hq he
structure RenA (ren : List (Nat × Nat)) (mm pre : MM) : Prop where
  inj : injM ren pre = true
  pl : plM pre = true
  ok : okM pre pre = true
  lt : rowsLt ren pre = true
  nm : rowsN ren mm pre = true
structure RenB (ren : List (Nat × Nat)) (mm pre post : MM) : Prop where
  injP : injM ren post = true
  uni : uniM (aftM ren mm pre post) = true
  plP : plM post = true
  okP : okM post post = true
  ltP : rowsLt ren post = true
  gin : givenIn pre post = true
  kept : keptIn post pre = true
theorem aftM_mem {ren : List (Nat × Nat)} {mm pre post : MM} {q : Nat × MO} : q ∈ aftM ren mm pre post ↔ (∃ p ∈ post, q = (renN ren p.1, rnO ren p.2)) ∨ (q ∈ mm ∧ ∀ p ∈ pre, renN ren p.1 ≠ q.1) := by
  unfold aftM
  rw [List.mem_append, rnM_eq, List.mem_map, outM_mem]
  constructor
  · rintro (⟨p, hp, rfl⟩ | ⟨h1, h2⟩)
    · exact .inl ⟨p, hp, rfl⟩
    · exact .inr ⟨h1, fun p hp e => h2 (idsM_mem.2 ⟨p, hp, e⟩)⟩
  · rintro (⟨p, hp, rfl⟩ | ⟨h1, h2⟩)
    · exact .inl ⟨p, hp, rfl⟩
    · exact .inr ⟨h1, fun h => let ⟨p, hp, e⟩ := idsM_mem.1 h; h2 p hp e⟩
theorem op_callM_core {f : FuncId} {pre : MM} {args : List SV} {ι : Type} {Q : ι → Prop} {res : ι → ST} {post : ι → MM} (hc : ConM C.P f pre args Q res post) (ren : List (Nat × Nat)) {vs : List Value}
    {H : Nat → Value} {Z : Nat → Nat} {a : Act} {w : World} (hm : Mod C H Z n tm mm a w)
    (hv : Pw (fun v s => RepSV (Iof mm) H Z w (Mof C H mm) v s) vs (rnVs ren args)) (hpa : plVs args = true) (hoa : okVs pre args = true) (hpre : PreAt mm ren pre)
    (hA : RenA ren mm pre) (hB : ∀ x, RenB ren mm pre (post x)) (hpr : ∀ x, plS (res x) = true) (hor : ∀ x, okS (post x) (res x) = true) (hd : d < n)
    (K : Act → World → Prop) (Qx : Exit → Act → World → Prop) (hK : ∀ x a' w', Q x → Has C n ((d, rnS ren (res x)) :: delL (dropR ren pre tm) d) (aftM ren mm pre (post x)) a' w' → K a' w') :
    Calls C.P f vs.toArray w fun
      | .returned v, w'' => K (a.put (some d) v) w''
      | .panicked chain, w'' => Qx (.panic chain) a w''
      | .outgrown, _ => LetsOut Qx := by
  have hin : ∀ p ∈ pre, (renN ren p.1, rnO ren p.2) ∈ mm := fun p hp => getM_mem (hpre.get p hp)
  let Hc : Nat → Value := fun i => H (renN ren i)
  let Zc : Nat → Nat := fun i => Z (renN ren i)
  have hblk : ∀ b, blksOf Hc pre b → ∃ q ∈ mm, Hb (H q.1) b := fun b ⟨p, hp, hb⟩ => ⟨_, hin p hp, hb⟩
  let M0c : Nat → Prop := fun b => Mof C H mm b ∧ ¬ blksOf Hc pre b
  have hMeq : ∀ b, (M0c b ∨ blksOf Hc pre b) → Mof C H mm b := fun b hb => hb.elim (fun h => h.1) fun h => .inr (hblk b h)
  have hPre : PreM w M0c Hc Zc pre := by
    refine ⟨?_, fun b hb h => h.2 hb, ?_, ?_, ?_⟩
    · rintro b ⟨hb | ⟨p, hp, hpb⟩, _⟩
      · exact Nat.lt_of_lt_of_le (hm.m0 b hb) hm.ext.size
      · exact (hm.fresh p hp b hpb).2
    · intro p hp
      exact memO_unren (plM_spec hA.pl p hp) (hm.mem _ (hin p hp)) (okM_spec hA.ok p hp) (fun b _ => hMeq b)
    · intro p hp b hb
      exact (hm.fresh _ (hin p hp) b hb).2
    · intro p hp q hq hpq b hb
      refine hm.sep _ (hin p hp) _ (hin q hq) (fun e => hpq ?_) b hb
      rw [injM_spec hA.inj p hp q hq e]
  refine (hc.calls w M0c Hc Zc vs hPre ?_).mono ?_
  · refine ⟨by have := hv.1; rw [rnVs_eq, List.length_map] at this; exact this, fun j s hs => ?_⟩
    obtain ⟨u, hu, hr⟩ := hv.2 j (rnV ren s) (by rw [rnVs_eq, List.getElem?_map, hs]; rfl)
    exact ⟨u, hu, repV_unren (plVs_spec hpa s (List.mem_of_getElem? hs)) hr (okVs_spec hoa s (List.mem_of_getElem? hs)) (fun b _ => hMeq b)⟩
  rintro e w' ⟨x, v, He, hQ, rfl, hext, hpost, hres⟩
  obtain ⟨hhd, hmem, hlt, hsep⟩ := hpost
  have hB := hB x
  have huq := uniM_spec hB.uni
  let H' : Nat → Value := fun j => match lookR ren (post x) j with
    | some i => He i
    | none => H j
  have hinj : ∀ p ∈ post x, ∀ q ∈ post x, renN ren p.1 = renN ren q.1 → p.1 = q.1 := fun p hp q hq e => by rw [injM_spec hB.injP p hp q hq e]
  have hHp : ∀ p ∈ post x, H' (renN ren p.1) = He p.1 := fun p hp => by simp only [H', lookR_get hinj hp]
  have hHr : ∀ q ∈ mm, (∀ p ∈ pre, renN ren p.1 ≠ q.1) → H' q.1 = H q.1 := fun q hq hqp => by
    have : lookR ren (post x) q.1 = none := lookR_none fun p hp e => by
      refine uni_split hB.uni (renN ren p.1, rnO ren p.2) ?_ q (outM_mem.2 ⟨hq, fun h => ?_⟩) e
      · rw [rnM_eq]; exact List.mem_map.2 ⟨p, hp, rfl⟩
      · obtain ⟨r, hr, e⟩ := idsM_mem.1 h
        exact hqp r hr e
    simp only [H', this]
  have hgv : ∀ p ∈ post x, given ≤ p.1 → H' (renN ren p.1) = H (renN ren p.1) := fun p hp hg => by rw [hHp p hp]; exact hhd p hp hg
  have hIold : ∀ (u : List Nat), (∀ p ∈ pre, p.1 < given → renN ren p.1 ∉ u) → ∀ j ∈ u, Iof mm j → Iof (aftM ren mm pre (post x)) j ∧ H' j = H j ∧ Z j = Z j := by
    intro u hu j hj ⟨q, hq, hqj⟩
    subst hqj
    by_cases hqp : ∃ p ∈ pre, renN ren p.1 = q.1
    · obtain ⟨p, hp, e⟩ := hqp
      rcases Nat.lt_or_ge p.1 given with h1 | h1
      · exact absurd (e ▸ hj) (hu p hp h1)
      · obtain ⟨r, hr, hre⟩ := givenIn_spec (keptIn_eq _ _ ▸ hB.kept) p hp h1
        have hre' : renN ren r.1 = q.1 := by rw [hre]; exact e
        refine ⟨⟨(renN ren r.1, rnO ren r.2), aftM_mem.2 (.inl ⟨r, hr, rfl⟩), hre'⟩, ?_, rfl⟩
        have := hgv r hr (by rw [hre]; exact h1)
        rw [hre'] at this
        exact this
    · have hqp' : ∀ p ∈ pre, renN ren p.1 ≠ q.1 := fun p hp e => hqp ⟨p, hp, e⟩
      exact ⟨⟨q, aftM_mem.2 (.inr ⟨hq, hqp'⟩), rfl⟩, hHr q hq hqp', rfl⟩
  have hMnew : ∀ b, b < w'.heap.size → Mof C H' (aftM ren mm pre (post x)) b → (M0c b ∨ blksOf He (post x) b) := by
    rintro b _ (hb | ⟨q, hq, hqb⟩)
    · by_cases hbp : blksOf Hc pre b
      · obtain ⟨p, hp, hpb⟩ := hbp
        rcases Nat.lt_or_ge p.1 given with h1 | h1
        · have hf := (hm.fresh _ (hin p hp) b hpb).1
          have h2 := rowsLt_spec hA.lt p hp h1
          rcases hf with ⟨_, h3 | h3⟩ | ⟨h3, _⟩
          · exact absurd (hm.m0 b hb) (by omega)
          · exact absurd hb (C.hV b h3).2
          · simp only at h3; omega
        · obtain ⟨r, hr, hre⟩ := givenIn_spec (keptIn_eq _ _ ▸ hB.kept) p hp h1
          refine .inr ⟨r, hr, ?_⟩
          rw [hhd r hr (by rw [hre]; exact h1), hre]
          exact hpb
      · exact .inl ⟨.inl hb, hbp⟩
    · rcases aftM_mem.1 hq with ⟨p, hp, rfl⟩ | ⟨h1, h2⟩
      · exact .inr ⟨p, hp, by rw [← hHp p hp]; exact hqb⟩
      · rw [hHr q h1 h2] at hqb
        refine .inl ⟨.inr ⟨q, h1, hqb⟩, fun ⟨p, hp, hpb⟩ => ?_⟩
        exact hm.sep _ (hin p hp) q h1 (h2 p hp) b hpb hqb
  have hIp : ∀ j, Iof (post x) j → Iof (aftM ren mm pre (post x)) (renN ren j) ∧ H' (renN ren j) = He j := by
    rintro j ⟨p, hp, rfl⟩
    exact ⟨⟨_, aftM_mem.2 (.inl ⟨p, hp, rfl⟩), rfl⟩, hHp p hp⟩
  refine hK x _ _ hQ ⟨H', Z, ?_⟩
  refine hm.build (blksOf Hc pre) hext (fun b _ hb => hblk b hb) (by simpa [Act.put] using hm.defers) (by simp [Act.put, hm.size]) ?_ huq ?_ ?_ ?_
  · intro q hq hqg
    rcases aftM_mem.1 hq with ⟨p, hp, rfl⟩ | ⟨h1, h2⟩
    · rcases Nat.lt_or_ge p.1 given with h1 | h1
      · have := rowsLt_spec hB.ltP p hp h1
        simp only at hqg; omega
      · obtain ⟨r, hr, hre⟩ := givenIn_spec hB.gin p hp h1
        rw [show H' (renN ren p.1, rnO ren p.2).1 = H (renN ren p.1) from hgv p hp h1]
        have := hm.hg _ (hin r hr) (by rw [hre]; exact hqg)
        rw [hre] at this
        exact this
    · rw [hHr q h1 h2]; exact hm.hg q h1 hqg
  · intro q hq
    rcases aftM_mem.1 hq with ⟨p, hp, rfl⟩ | ⟨h1, h2⟩
    · refine .inr ⟨fun b hb => ?_, fun hMM hfr => ?_⟩
      · rw [show H' (renN ren p.1, rnO ren p.2).1 = He p.1 from hHp p hp] at hb
        obtain ⟨h3, h4⟩ := hlt p hp b hb
        rcases h4 with h4 | ⟨r, hr, hrb, h5⟩
        · exact .inl ⟨h4, h3⟩
        · refine .inr ⟨_, hin r hr, hrb, ?_⟩
          rcases h5 with h5 | ⟨h5, h6⟩
          · exact .inl (by show renN ren p.1 = renN ren r.1; rw [h5])
          · exact .inr ⟨rowsLt_spec hA.lt r hr h5, rowsLt_spec hB.ltP p hp h6⟩
      · refine memO_ren (plM_spec hB.plP p hp) (hmem p hp) (hHp p hp) (fun j _ hj => hIp j hj) hMnew
    · refine .inl ⟨h1, hHr q h1 h2, rfl, fun b hb ⟨p, hp, hpb⟩ => ?_, fun j hj hij => hIold q.2.uses (fun p hp hg => rowsN_spec hA.nm p hp hg q h1) j hj hij⟩
      exact hm.sep _ (hin p hp) q h1 (h2 p hp) b hpb hb
  · intro q hq r hr hqr b hqb hrb
    rcases aftM_mem.1 hq with ⟨p, hp, rfl⟩ | ⟨h1, h2⟩ <;> rcases aftM_mem.1 hr with ⟨s, hs, rfl⟩ | ⟨k1, k2⟩
    · rw [show H' (renN ren p.1, rnO ren p.2).1 = He p.1 from hHp p hp] at hqb
      rw [show H' (renN ren s.1, rnO ren s.2).1 = He s.1 from hHp s hs] at hrb
      exact hsep p hp s hs (fun e => hqr (by show renN ren p.1 = renN ren s.1; rw [e])) b hqb hrb
    · rw [show H' (renN ren p.1, rnO ren p.2).1 = He p.1 from hHp p hp] at hqb
      rw [hHr r k1 k2] at hrb
      rcases (hlt p hp b hqb).2 with h4 | ⟨s, hs, hsb, _⟩
      · have := (hm.fresh r k1 b hrb).2; omega
      · exact hm.sep _ (hin s hs) r k1 (k2 s hs) b hsb hrb
    · rw [show H' (renN ren s.1, rnO ren s.2).1 = He s.1 from hHp s hs] at hrb
      rw [hHr q h1 h2] at hqb
      rcases (hlt s hs b hrb).2 with h4 | ⟨p, hp, hpb, _⟩
      · have := (hm.fresh q h1 b hqb).2; omega
      · exact hm.sep _ (hin p hp) q h1 (h2 p hp) b hpb hqb
    · rw [hHr q h1 h2] at hqb
      rw [hHr r k1 k2] at hrb
      exact hm.sep q h1 r k1 hqr b hqb hrb
  · intro p hp
    rcases List.mem_cons.1 hp with rfl | hp
    · refine .inr fun _ _ => ?_
      rw [put_self (by rw [hm.size]; exact hd)]
      exact repS_ren (hpr x) hres (fun j _ hj => hIp j hj) hMnew
    · obtain ⟨h1, h2⟩ := delL_mem hp
      obtain ⟨h3, h4⟩ := dropR_mem h1
      exact .inl ⟨p, h3, rfl, put_other h2, fun j hj hij => hIold p.2.uses h4 j hj hij⟩
theorem op_callM {f : FuncId} {pre : MM} {args : List SV} {ι : Type} {Q : ι → Prop} {res : ι → ST} {post : ι → MM} (hc : ConM C.P f pre args Q res post) (ren : List (Nat × Nat)) {xs : Array Operand} {ts : Array TypeId}
    (ho : o.op = .call { callee := .value (.func f), args := xs, argTypes := ts }) (hargs : evalArgs tm xs.toList = some (rnVs ren args)) (hpa : plVs args = true) (hoa : okVs pre args = true) (hpre : PreAt mm ren pre)
    (hA : RenA ren mm pre) (hB : ∀ x, RenB ren mm pre (post x)) (hpr : ∀ x, plS (res x) = true) (hor : ∀ x, okS (post x) (res x) = true) (hd : o.dst = some d) (hn : Nat.blt d n = true)
    {a : Act} {w : World} {K : Act → World → Prop} {Qx : Exit → Act → World → Prop} (hh : Has C n tm mm a w)
    (hK : ∀ x a' w', Q x → Has C n ((d, rnS ren (res x)) :: delL (dropR ren pre tm) d) (aftM ren mm pre (post x)) a' w' → K a' w') : o.wp C.P a w K Qx := by
  obtain ⟨H, Z, hm⟩ := hh
  have hcore := op_callM_core hc ren hm (evalArgs_rep hm hargs) hpa hoa hpre hA hB hpr hor (Nat.blt_eq.mp hn) K Qx hK
  unfold Oper.wp
  have hrun : (execOp a.eval o).run C.P w = .ok (.enter f (xs.toList.map a.eval).toArray) w := by
    have hmap : xs.map a.eval = (xs.toList.map a.eval).toArray := by simp [← List.map_toArray]
    simp only [execOp, ho, resolve, hmap, Deferred.ofValue, Act.eval, invoke, Sem.run_bind, Sem.run_pure, Result.andThen_ok, Array.append_empty, Array.empty_append, hc.ok w]
  rw [hrun]
  show Calls _ _ _ _ _
  rw [hd]
  exact hcore
theorem s_callM {f : FuncId} {pre : MM} {args : List SV} {ι : Type} {Q : ι → Prop} {res : ι → ST} {post : ι → MM} (hc : ConM C.P f pre args Q res post) (ren : List (Nat × Nat)) {xs : Array Operand} {ts : Array TypeId}
    (ho : o.op = .call { callee := .value (.func f), args := xs, argTypes := ts }) (hargs : evalArgs tm xs.toList = some (rnVs ren args)) (hpa : plVs args = true) (hoa : okVs pre args = true) (hpre : PreAt mm ren pre)
    (hA : RenA ren mm pre) (hB : ∀ x, RenB ren mm pre (post x)) (hpr : ∀ x, plS (res x) = true) (hor : ∀ x, okS (post x) (res x) = true) (hd : o.dst = some d) (hn : Nat.blt d n = true) (hg : guardL L tm o = some true)
    (k : ∀ x, Q x → SOps C n L.toArray l ((d, rnS ren (res x)) :: delL (dropR ren pre tm) d) (aftM ren mm pre (post x)) T) : SOps C n L.toArray (o :: l) tm mm T := by
  intro a w hh
  unfold wpList
  rw [if_pos (wanted_of (guardL_eq hg) hh)]
  exact .inl (op_callM hc ren ho hargs hpa hoa hpre hA hB hpr hor hd hn hh fun x a' w' hq h' => k x hq a' w' h')
theorem op_cloM {f : FuncId} {pre : MM} {args : List SV} {ι : Type} {Q : ι → Prop} {res : ι → ST} {post : ι → MM} (hc : ConM C.P f pre args Q res post) (ren : List (Nat × Nat)) {x : Operand} {caps : List Nat} {args' : List SV} {xs : Array Operand} {ts : Array TypeId}
    (ho : o.op = .call { callee := .value x, args := xs, argTypes := ts }) (hx : evalC tm x = some (.clo f caps)) (hargs : evalArgs tm xs.toList = some args') (happ : appV args' caps = rnVs ren args)
    (hbox : caps.all (fun i => match getM mm i with | some (.box _) => true | _ => false) = true) (hpa : plVs args = true) (hoa : okVs pre args = true) (hpre : PreAt mm ren pre)
    (hA : RenA ren mm pre) (hB : ∀ x, RenB ren mm pre (post x)) (hpr : ∀ x, plS (res x) = true) (hor : ∀ x, okS (post x) (res x) = true) (hd : o.dst = some d) (hn : Nat.blt d n = true)
    {a : Act} {w : World} {K : Act → World → Prop} {Qx : Exit → Act → World → Prop} (hh : Has C n tm mm a w)
    (hK : ∀ x a' w', Q x → Has C n ((d, rnS ren (res x)) :: delL (dropR ren pre tm) d) (aftM ren mm pre (post x)) a' w' → K a' w') : o.wp C.P a w K Qx := by
  obtain ⟨H, Z, hm⟩ := hh
  obtain ⟨hcI, cvs, hcv, hcl, hcg⟩ := evalC_rep hm hx
  have hpw : Pw (fun v s => RepSV (Iof mm) H Z w (Mof C H mm) v s) ((xs.toList.map a.eval) ++ cvs) (appV args' caps) := by
    rw [appV_eq]
    refine (evalArgs_rep hm hargs).append ⟨by simpa using hcl, fun j c hc' => ?_⟩
    rw [List.getElem?_map] at hc'
    cases hq : caps[j]? with
    | none => rw [hq] at hc'; cases hc'
    | some i =>
      rw [hq] at hc'; injection hc' with hc'; subst hc'
      refine ⟨H i, hcg j i hq, hcI i (List.mem_of_getElem? hq), ?_⟩
      have hb := List.all_eq_true.1 hbox i (List.mem_of_getElem? hq)
      split at hb
      · rename_i cs hg
        obtain ⟨b, _, _, g1, _⟩ := hm.box hg
        exact ⟨b, by rw [g1]; rfl, g1⟩
      · cases hb
  have hcore := op_callM_core hc ren hm (happ ▸ hpw) hpa hoa hpre hA hB hpr hor (Nat.blt_eq.mp hn) K Qx hK
  unfold Oper.wp
  have hrun : (execOp a.eval o).run C.P w = .ok (.enter f ((xs.toList.map a.eval) ++ cvs).toArray) w := by
    have hmap : xs.map a.eval = (xs.toList.map a.eval).toArray := by simp [← List.map_toArray]
    simp only [execOp, ho, resolve, hmap, hcv, Deferred.ofValue, invoke, Sem.run_bind, Sem.run_pure, Result.andThen_ok, Array.empty_append, hc.ok w, List.append_toArray, List.nil_append]
  rw [hrun]
  show Calls _ _ _ _ _
  rw [hd]
  exact hcore
theorem s_cloM {f : FuncId} {pre : MM} {args : List SV} {ι : Type} {Q : ι → Prop} {res : ι → ST} {post : ι → MM} (hc : ConM C.P f pre args Q res post) (ren : List (Nat × Nat)) {x : Operand} {caps : List Nat} {args' : List SV} {xs : Array Operand} {ts : Array TypeId}
    (ho : o.op = .call { callee := .value x, args := xs, argTypes := ts }) (hx : evalC tm x = some (.clo f caps)) (hargs : evalArgs tm xs.toList = some args') (happ : appV args' caps = rnVs ren args)
    (hbox : caps.all (fun i => match getM mm i with | some (.box _) => true | _ => false) = true) (hpa : plVs args = true) (hoa : okVs pre args = true) (hpre : PreAt mm ren pre)
    (hA : RenA ren mm pre) (hB : ∀ x, RenB ren mm pre (post x)) (hpr : ∀ x, plS (res x) = true) (hor : ∀ x, okS (post x) (res x) = true) (hd : o.dst = some d) (hn : Nat.blt d n = true) (hg : guardL L tm o = some true)
    (k : ∀ x, Q x → SOps C n L.toArray l ((d, rnS ren (res x)) :: delL (dropR ren pre tm) d) (aftM ren mm pre (post x)) T) : SOps C n L.toArray (o :: l) tm mm T := by
  intro a w hh
  unfold wpList
  rw [if_pos (wanted_of (guardL_eq hg) hh)]
  exact .inl (op_cloM hc ren ho hx hargs happ hbox hpa hoa hpre hA hB hpr hor hd hn hh fun x a' w' hq h' => k x hq a' w' h')
end
section
variable {C : Ctx} {n : Nat} {L : List Oper} {ι : Type} {tmF : TM} {ET : Nat → ι → TM} {MMx : Nat → ι → MM} {k : Nat} {x : ι} {o : Oper} {d : Nat}
end
end Go.Sy
