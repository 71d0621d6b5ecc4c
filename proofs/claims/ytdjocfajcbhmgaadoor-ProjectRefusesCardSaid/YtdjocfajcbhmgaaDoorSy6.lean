/- The symbolic layer, bundle Sy6. -/
import Derived.Test.YtdjocfajcbhmgaaDoorSy5
import Derived.Laws.Cover3
set_option linter.unusedSimpArgs false
set_option linter.unusedVariables false
set_option linter.unusedSectionVars false
namespace Go.Sy
open Go.RowKit
section
variable {C : Ctx} {n : Nat} {tm : TM} {mm : MM} {L l : List Oper} {T : TM → MM → Prop} {o : Oper} {d : Nat} {x y : Operand} {ty ty' : TypeId}
theorem s_isNil {Θ : Tab} (hΘ : tabOK C.P Θ) {z bts e : Nat} {ag : Bool} {zr : Option (List CT)} {nn : Bool} {sz : Nat} {xs : List (List CT)}
    (ho : o.op = .binOp .eql ty x y ty') (ht : tyGet Θ ty = some ⟨z, bts, ag, zr, .slice e⟩) (hx : evalC tm x = some (.c (.slice nn sz xs))) (hy : evalC tm y = some (.c .nils))
    (hd : o.dst = some d) (hn : Nat.blt d n = true) (hg : guardL L tm o = some true)
    (k : ∀ b : Bool, (b = true → xs = []) → SOps C n L.toArray l ((d, .v (.one (.c (.bool b)))) :: delL tm d) mm T) : SOps C n L.toArray (o :: l) tm mm T := by
  intro a w hh
  obtain ⟨H, Z, hm⟩ := hh
  have h1 : RepC w (Mof C H mm) (a.eval x) (.slice nn sz xs) := evalC_rep hm hx
  have h2 : a.eval y = .slice none 0 0 := RepC.nils_inv (evalC_rep hm hy)
  obtain ⟨ad, len, cap, hA⟩ : ∃ ad len cap, a.eval x = .slice ad len cap := by
    generalize a.eval x = v at h1
    cases h1 with
    | slice u hlen hcap hmax hnn hszs had hrep => exact ⟨_, _, _, rfl⟩
  rw [hA] at h1
  have hnil : ad.isNone = true → xs = [] := by
    intro hb
    cases h1 with
    | slice u hlen hcap hmax hnn hszs had hrep =>
      cases xs with
      | nil => rfl
      | cons q r =>
        obtain ⟨a', h', _⟩ := had (by simp)
        rw [h'] at hb; simp at hb
  have hop : OpV C n o [] mm d (.v (.one (.c (.bool ad.isNone)))) ∨ True := .inr trivial
  obtain ⟨inf, de, hf⟩ := tyF hΘ ht
  have hde : de = .slice e := by
    have := hf.sh
    cases de <;> simp [shChk] at this ⊢
    exact this
  subst hde
  have hrun : (execOp a.eval o).run C.P w = .ok (.value (.bool ad.isNone)) w := by
    simp only [execOp, ho, hA, h2, Sem.run_bind]
    simp [eqGuard, binOp, Sem.run_bind, run_equal_slice_nil w ty e ad len cap hf.und, Sem.run_pure]
  unfold wpList
  rw [if_pos (wanted_of (guardL_eq hg) ⟨H, Z, hm⟩)]
  refine .inl ?_
  unfold Oper.wp
  rw [hrun]
  refine k ad.isNone hnil _ _ ⟨H, Z, ?_⟩
  rw [hd]
  exact hm.setT (Nat.blt_eq.mp hn) (RepC.bool _)
end
section
variable {C : Ctx} {n : Nat} {tmr : TM} {mm : MM} {o : Oper} {d : Nat} {x y : Operand}
end
section
variable {C : Ctx} {n : Nat} {mm0 : MM} {L l : List Oper} {tm0 tm : TM} {R : List Rec} {i : Nat} {o : Oper} {d : Nat} {T : TM → MM → Prop} {x y : Operand}
end
end Go.Sy
namespace Go.Sy
open Go.RowKit
abbrev PQ := List (Value × List (List CT))
def poolV (qs : PQ) : Value := .func (.func 0) #[] (qs.map (·.1)).toArray
theorem poolV_Hb {qs : PQ} {b : Nat} : Hb (poolV qs) b ↔ ∃ q ∈ qs, hblk q.1 = some b := by
  unfold poolV Hb
  simp only [List.mem_map]
  constructor
  · rintro ⟨u, ⟨q, hq, rfl⟩, hb⟩; exact ⟨q, hq, hb⟩
  · rintro ⟨q, hq, hb⟩; exact ⟨q.1, ⟨q, hq, rfl⟩, hb⟩
def RowOK (w : World) (M : Nat → Prop) (e sz : Nat) (v : Value) (xs : List (List CT)) : Prop :=
  ∃ us, w.ownsRow 0 e sz v xs.length us ∧ (∀ x ∈ xs, x.length = sz) ∧
    ∀ (i : Nat) (x : List CT), xs[i]? = some x → ∀ (j : Nat) (c : CT), x[j]? = some c → ∃ u : Value, us[i * sz + j]? = some u ∧ RepC w M u c
theorem PoolOK.row {w : World} {M : Nat → Prop} {e sz : Nat} {qs : PQ} (h : PoolOK w M e sz qs) {k : Nat} {v : Value} {xs : List (List CT)} (hk : qs[k]? = some (v, xs)) : RowOK w M e sz v xs := h.1 k _ hk
section
variable {w w' : World} {M M' : Nat → Prop} {e sz : Nat} {v : Value} {xs : List (List CT)}
theorem RowOK.mono (h : RowOK w M e sz v xs) (hsame : ∀ b, hblk v = some b → w'.heap[b]? = w.heap[b]?) (hs : w.heap.size ≤ w'.heap.size)
    (hb : ∀ b, b < w.heap.size → ¬ M b → w'.heap[b]? = w.heap[b]?) (hM : ∀ b, b < w.heap.size → M' b → M b) : RowOK w' M' e sz v xs := by
  obtain ⟨us, g1, g2, g3⟩ := h
  refine ⟨us, ⟨g1.1, ?_⟩, g2, fun i x hx j c hc => let ⟨u, hu, hr⟩ := g3 i x hx j c hc; ⟨u, hu, hr.mono hs hb hM⟩⟩
  rcases g1.2 with hh | ⟨g, cap, cur, hv, hg, hh, rest⟩
  · exact .inl hh
  · exact .inr ⟨g, cap, cur, hv, hg, (hsame g (by rw [hv]; rfl)).trans hh, rest⟩
theorem hblk_row {us : List Value} {n : Nat} (h : w.ownsRow 0 e sz v n us) : hblk v = v.ownBlock := hblk_ownBlock h
theorem RowOK.lt (h : RowOK w M e sz v xs) {b : Nat} (hb : hblk v = some b) : b < w.heap.size := by
  obtain ⟨us, g1, _⟩ := h
  rw [hblk_row g1] at hb
  exact (g1.lt b hb).2
theorem RowOK.one (h : RowOK w M e sz v xs) : v.oneCell' = true := by
  obtain ⟨us, g1, _⟩ := h
  rcases g1.2 with ⟨rfl, _⟩ | ⟨g, cap, cur, rfl, _⟩ <;> rfl
theorem RowOK.nil (w : World) (M : Nat → Prop) (e sz : Nat) : RowOK w M e sz (.slice none 0 0) [] :=
  ⟨[], World.ownsRow_nil _ _ _ _, (fun x hx => by cases hx), fun i x hx => by simp at hx⟩
theorem RowOK.frozen (h : RowOK w M e sz v xs) (hM : ∀ b, b < w.heap.size → M' b → M b) (hn : ∀ b, hblk v = some b → ¬ M' b) : RepC w M' v (.slice false sz xs) := by
  obtain ⟨us, g1, g2, g3⟩ := h
  have hrow := g1
  rcases g1.2 with ⟨rfl, h0⟩ | ⟨g, cap, cur, rfl, _, hheap, hcap, hmax, hcur, htake⟩
  · have hx : xs = [] := List.eq_nil_of_length_eq_zero h0
    subst hx
    exact .slice (fun _ _ => undef) (by simp) (Nat.le_refl _) (by simp [maxLen]) (fun hnn => by cases hnn) (by simp) (fun hp => by simp at hp) (fun k x hx => by simp at hx)
  · refine .slice (fun k j => us.getD (k * sz + j) undef) rfl hcap hmax (fun _ => rfl) g2 (fun hp => ?_) (fun k x hx j c hc => ?_)
    · refine ⟨⟨g, 0, none⟩, rfl, rfl, (hrow.lt g rfl).2, hn g rfl, fun k x hx j c hc => ?_⟩
      obtain ⟨u, hu, _⟩ := g3 k x hx j c hc
      have := World.ownsRow.cells hrow (g := g) rfl (k * sz + j) u hu
      rw [this]
      simp [List.getD, hu]
    · obtain ⟨u, hu, hr⟩ := g3 k x hx j c hc
      have : us.getD (k * sz + j) undef = u := by simp [List.getD, hu]
      rw [this]
      exact hr.mono (Nat.le_refl _) (fun _ _ _ => rfl) hM
theorem PoolOK.set {qs : PQ} (h : PoolOK w M e sz qs) {k : Nat} {v : Value} {xs : List (List CT)} (hk : qs[k]? = some (v, xs)) {v' : Value} {xs' : List (List CT)}
    (hrow : RowOK w' M' e sz v' xs') (hs : w.heap.size ≤ w'.heap.size) (hkeep : ∀ b, b < w.heap.size → hblk v ≠ some b → w'.heap[b]? = w.heap[b]?)
    (hb : ∀ b, b < w.heap.size → ¬ M b → w'.heap[b]? = w.heap[b]?) (hM : ∀ b, b < w.heap.size → M' b → M b) (hv : ∀ b, hblk v' = some b → hblk v = some b ∨ w.heap.size ≤ b) :
    PoolOK w' M' e sz (qs.set k (v', xs')) := by
  refine ⟨fun l q hq => ?_, fun l m q r hq hr hlm b hqb hrb => ?_⟩
  · rw [List.getElem?_set] at hq
    split at hq
    · split at hq
      · injection hq with hq; subst hq; exact hrow
      · cases hq
    · rename_i hlk
      exact RowOK.mono (v := q.1) (xs := q.2) (h.1 l q hq) (fun b hb' => hkeep b (RowOK.lt (v := q.1) (xs := q.2) (h.1 l q hq) hb') (fun e => h.2 k l _ _ hk hq hlk b e hb')) hs hb hM
  · have hfar : ∀ (l : Nat) (q : Value × List (List CT)), qs[l]? = some q → k ≠ l → ∀ b, hblk q.1 = some b → hblk v' ≠ some b := by
      intro l q hq hkl b hqb hvb
      rcases hv b hvb with h1 | h1
      · exact h.2 k l _ _ hk hq hkl b h1 hqb
      · have := RowOK.lt (v := q.1) (xs := q.2) (h.1 l q hq) hqb; omega
    rw [List.getElem?_set] at hq hr
    split at hq
    · rename_i hlk; subst hlk
      split at hq
      · injection hq with hq; subst hq
        rw [if_neg hlm] at hr
        exact hfar m r hr hlm b hrb hqb
      · cases hq
    · rename_i hlk
      split at hr
      · rename_i hmk; subst hmk
        split at hr
        · injection hr with hr; subst hr
          exact hfar l q hq hlk b hqb hrb
        · cases hr
      · exact h.2 l m q r hq hr hlm b hqb hrb
end
section
variable {C : Ctx} {n : Nat} {tm tm' : TM} {mm : MM} {o : Oper} {d : Nat}
theorem Mod.setPool {H : Nat → Value} {Z : Nat → Nat} {a a' : Act} {w w' : World} (hm : Mod C H Z n tm mm a w) {i e sz : Nat} {qs qs' : PQ} (hi : getM mm i = some (.pool e sz qs)) (hig : i < given) (hno : noUse i mm = true)
    (hext : Ext (fun b => ∃ q ∈ qs, hblk q.1 = some b) w w') (hdef : a'.defers = []) (hsize : a'.tmps.size = n)
    (hbl : ∀ q ∈ qs', ∀ b, hblk q.1 = some b → (∃ r ∈ qs, hblk r.1 = some b) ∨ (w.heap.size ≤ b ∧ b < w'.heap.size))
    (hok : ∀ M' : Nat → Prop, (∀ b, b < w.heap.size → M' b → Mof C H mm b) → (∀ b, b < w.heap.size → ¬ Mof C H mm b → w'.heap[b]? = w.heap[b]?) → PoolOK w' M' e sz qs')
    (htm : ∀ p ∈ tm', (∃ q ∈ tm, q.2 = p.2 ∧ a'.tmps.getD p.1 undef = a.tmps.getD q.1 undef ∧ i ∉ p.2.uses) ∨
      (∃ v, a'.tmps.getD p.1 undef = v ∧ v.oneCell' = true ∧ p.2 = .v (.one (.c (.val v))))) :
    Mod C (Sy.upd H i (poolV qs')) Z n tm' (updM mm i (.pool e sz qs')) a' w' := by
  obtain ⟨hH, hrows, hdist⟩ := hm.mem _ (getM_mem hi)
  have hH : H i = poolV qs := hH
  have hX : ∀ b, Hb (H i) b ↔ ∃ q ∈ qs, hblk q.1 = some b := fun b => by rw [hH]; exact poolV_Hb
  have hI : ∀ j, Iof mm j → Iof (updM mm i (.pool e sz qs')) j := fun j hj => (updM_ids j).2 hj
  refine hm.build (fun b => Hb (H i) b) (hext.weak fun b _ h => (hX b).2 h) (fun b _ hb => ⟨_, getM_mem hi, hb⟩) hdef hsize ?_ ?_ ?_ ?_ ?_
  · intro p hp hpg
    have hpi : p.1 ≠ i := by omega
    rw [upd_ne _ _ hpi]
    rcases updM_mem p hp with ⟨rfl, _⟩ | ⟨k1, _⟩
    · exact absurd rfl hpi
    · exact hm.hg p k1 hpg
  · intro p hp q hq he
    rcases updM_mem p hp with ⟨rfl, _⟩ | ⟨k1, k2⟩ <;> rcases updM_mem q hq with ⟨rfl, _⟩ | ⟨k1', k2'⟩
    · rfl
    · exact absurd he.symm k2'
    · exact absurd he k2
    · exact hm.ids p k1 q k1' he
  · intro p hp
    rcases updM_mem p hp with ⟨rfl, _⟩ | ⟨k1, k2⟩
    · refine .inr ⟨fun b hb => ?_, fun hMM hfr => ?_⟩
      · rw [upd_self] at hb
        obtain ⟨q, hq, hqb⟩ := poolV_Hb.1 hb
        rcases hbl q hq b hqb with h | h
        · exact .inr ⟨_, getM_mem hi, (hX b).2 h, .inl rfl⟩
        · exact .inl h
      · exact ⟨by rw [upd_self]; rfl, hok _ hMM hfr⟩
    · refine .inl ⟨k1, upd_ne _ _ k2, rfl, fun b hb hx => hm.sep p k1 _ (getM_mem hi) k2 b hb hx, fun j hj hij => ⟨hI j hij, upd_ne _ _ (fun e => ?_), rfl⟩⟩
      subst e; exact noUse_spec hno k1 hj
  · intro p hp q hq hpq b hpb hqb
    have key : ∀ p ∈ mm, p.1 ≠ i → Hb (H p.1) b → Hb (poolV qs') b → False := by
      intro p hp hpi h1 h2
      obtain ⟨q, hq, hqb⟩ := poolV_Hb.1 h2
      rcases hbl q hq b hqb with h | h
      · exact hm.sep p hp _ (getM_mem hi) hpi b h1 ((hX b).2 h)
      · have := (hm.fresh p hp b h1).2
        omega
    rcases updM_mem p hp with ⟨rfl, _⟩ | ⟨k1, k2⟩ <;> rcases updM_mem q hq with ⟨rfl, _⟩ | ⟨k1', k2'⟩
    · exact hpq rfl
    · rw [upd_self] at hpb; rw [upd_ne _ _ k2'] at hqb
      exact key q k1' k2' hqb hpb
    · rw [upd_self] at hqb; rw [upd_ne _ _ k2] at hpb
      exact key p k1 k2 hpb hqb
    · rw [upd_ne _ _ k2] at hpb; rw [upd_ne _ _ k2'] at hqb
      exact hm.sep p k1 q k1' hpq b hpb hqb
  · intro p hp
    rcases htm p hp with ⟨q, hq, e1, e2, e3⟩ | ⟨v, e1, e2, e3⟩
    · exact .inl ⟨q, hq, e1, e2, fun j hj hij => ⟨hI j hij, upd_ne _ _ (fun e => e3 (e ▸ hj)), rfl⟩⟩
    · refine .inr fun _ _ => ?_
      rw [e3, e1]
      exact RepC.val v e2
theorem append_tells {Θ : Tab} (hΘ : tabOK C.P Θ) {t : TypeId} {y : Operand} {z bts e : Nat} {ag : Bool} {zt : Option (List CT)} {ei : TyI} {zr : List CT} {nn' : Bool} {xs ys : List (List CT)} {ty : TypeId}
    (ht : tyGet Θ t = some ⟨z, bts, ag, zt, .slice e⟩) (hei : tyGet Θ e = some ei) (hz : ei.zero = some zr) (hs0 : 0 < ei.size)
    (hbig : xs.length + ys.length ≤ 9223372036854775807 ∧ (xs.length + ys.length) * ei.bytes ≤ 140737488355328)
    {a : Act} {w : World} {M : Nat → Prop} {v : Value} {us : List Value} (hown : w.ownsRow 0 e ei.size v xs.length us) (hy : RepC w M (a.eval y) (.slice nn' ei.size ys)) :
    ∃ v' w' news, (Builtin.append_ #[t, t] ty #[v, a.eval y]).run C.P w = .ok v' w' ∧ w'.ownsRow 0 e ei.size v' (xs.length + ys.length) (us ++ news) ∧ w.grownBy w' v.ownBlock ∧
      (v'.ownBlock = v.ownBlock ∨ v'.ownBlock = some w.heap.size) ∧ (∀ q ∈ ys, q.length = ei.size) ∧
      (∀ (k : Nat) (q : List CT), ys[k]? = some q → ∀ (j : Nat) (ct : CT), q[j]? = some ct → ∃ u, news[k * ei.size + j]? = some u ∧ RepC w M u ct) := by
  obtain ⟨inf, de, hf⟩ := tyF hΘ ht
  obtain ⟨inf', de', hf'⟩ := tyF hΘ hei
  obtain ⟨zv, hzv, hzc, hzl⟩ := hf'.zero zr hz
  obtain ⟨hz1, _⟩ := zchk_cells (w := w) (M := M) hzc
  have hde : de = .slice e := by
    have := hf.sh
    cases de <;> simp [shChk] at this ⊢
    exact this
  subst hde
  have hs0' := hs0
  generalize hve : a.eval y = vy at hy
  cases hy with
  | slice u hlen' hcap hmax hnn hsz' had hrep' =>
    rename_i ad len cap
    by_cases hy0 : ys = []
    · subst hy0
      simp only [List.length_nil] at hlen'
      subst hlen'
      refine ⟨v, w, [], ?_, by simpa using hown, ⟨rfl, rfl, rfl, Nat.le_refl _, fun _ _ _ => rfl⟩, .inl rfl, (fun q hq => by cases hq), fun k q hq => by simp at hq⟩
      rcases hown.2 with ⟨h0, _⟩ | ⟨g, cap', cur, h0, _, _, hnc, _⟩
      · rw [h0]
        cases ad <;> simp [Builtin.append_, run_underlying hf.und, sizeOf, typeInfo, hf'.info, Builtin.lenOf, Builtin.firstCells, loadCells, loadCellsFrom]
      · rw [h0]
        cases ad <;> simp [Builtin.append_, run_underlying hf.und, sizeOf, typeInfo, hf'.info, Builtin.lenOf, Builtin.firstCells, hnc, storeCells, loadCells, loadCellsFrom]
    · obtain ⟨ad', rfl, hsp, hab, haM, hcell⟩ := had (List.length_pos_iff.2 hy0)
      let news : List Value := (List.range (ys.length * ei.size)).map fun m => u (m / ei.size) (m % ei.size)
      have hnget : ∀ m, m < ys.length * ei.size → news[m]? = some (u (m / ei.size) (m % ei.size)) := fun m hm => by simp [news, hm]
      have hnl : news.length = ys.length * ei.size := by simp [news]
      have hkj : ∀ k j, j < ei.size → (k * ei.size + j) / ei.size = k ∧ (k * ei.size + j) % ei.size = j := fun k j hj => by
        constructor
        · rw [Nat.add_comm, Nat.add_mul_div_right _ _ hs0', Nat.div_eq_of_lt hj, Nat.zero_add]
        · rw [Nat.add_comm, Nat.add_mul_mod_self_right, Nat.mod_eq_of_lt hj]
      have hlt : ∀ k j, k < ys.length → j < ei.size → k * ei.size + j < ys.length * ei.size := fun k j hk hj => by
        have := Nat.mul_le_mul_right ei.size (show k + 1 ≤ ys.length from hk)
        rw [Nat.add_mul] at this; omega
      have hnrep : ∀ (k : Nat) (q : List CT), ys[k]? = some q → ∀ (j : Nat) (ct : CT), q[j]? = some ct → ∃ v, news[k * ei.size + j]? = some v ∧ RepC w M v ct := by
        intro k q hq j ct hc
        have hk := (List.getElem?_eq_some_iff.1 hq).1
        have hj : j < ei.size := by rw [← hsz' q (List.mem_of_getElem? hq)]; exact (List.getElem?_eq_some_iff.1 hc).1
        refine ⟨u k j, ?_, hrep' k q hq j ct hc⟩
        rw [hnget _ (hlt k j hk hj), (hkj k j hj).1, (hkj k j hj).2]
      have hncell : ∀ j v, news[j]? = some v → w.cell? (ad'.add j) = some v := by
        intro j v hj
        have hjl : j < ys.length * ei.size := by rw [← hnl]; exact (List.getElem?_eq_some_iff.1 hj).1
        rw [hnget j hjl] at hj
        injection hj with hj
        have hk : j / ei.size < ys.length := by rw [Nat.div_lt_iff_lt_mul hs0']; exact hjl
        have hmo : j % ei.size < ei.size := Nat.mod_lt _ hs0'
        have h1 : ys[j / ei.size]? = some ys[j / ei.size] := List.getElem?_eq_getElem hk
        have hql := hsz' _ (List.mem_of_getElem? h1)
        have h2 : (ys[j / ei.size])[j % ei.size]? = some ((ys[j / ei.size])[j % ei.size]'(by rw [hql]; exact hmo)) := List.getElem?_eq_getElem _
        have := hcell _ _ h1 _ _ h2
        rw [show j / ei.size * ei.size + j % ei.size = j by rw [Nat.mul_comm]; exact Nat.div_add_mod j ei.size, hj] at this
        exact this
      obtain ⟨v', w', hr, h2, h3, _, h5⟩ := run_append_own_at (P := C.P) w 0 t ty e inf' zv ei.size ei.bytes hf.und hf'.info hzv hf'.size hf'.bytes (by rw [hz1, hzl]) hs0' v xs.length us hown ad' ys.length cap news hnl hncell
        (one_of_elems hsz' hnl hnrep) (by simp only [maxLen]; omega) hbig.2 (Nat.zero_le _)
      exact ⟨v', w', news, by rw [hlen']; exact hr, h2, h3, h5, hsz', hnrep⟩
theorem op_pappend {Θ : Tab} (hΘ : tabOK C.P Θ) {t : TypeId} {x y : Operand} {z bts e : Nat} {ag : Bool} {zt : Option (List CT)} {ei : TyI} {zr : List CT} {i k : Nat} {nn' : Bool} {sz : Nat} {xs ys : List (List CT)} {qs : PQ} {v : Value}
    (ho : o.op = .call { callee := .builtin .append, args := ⟨[x, y]⟩, argTypes := ⟨[t, t]⟩ }) (ht : tyGet Θ t = some ⟨z, bts, ag, zt, .slice e⟩) (hei : tyGet Θ e = some ei) (hz : ei.zero = some zr)
    (hsz : Nat.beq ei.size sz = true) (hs0 : Nat.blt 0 ei.size = true) (hx : evalC tm x = some (.c (.val v))) (hi : getM mm i = some (.pool e sz qs)) (hk : qs[k]? = some (v, xs)) (hy : evalC tm y = some (.c (.slice nn' sz ys)))
    (hig : Nat.blt i given = true) (hno : noUse i mm = true) (hd : o.dst = some d) (hn : Nat.blt d n = true)
    (hbig : xs.length + ys.length ≤ 9223372036854775807 ∧ (xs.length + ys.length) * ei.bytes ≤ 140737488355328) {a : Act} {w : World} (hh : Has C n tm mm a w) :
    ∃ v' w', (execOp a.eval o).run C.P w = .ok (.value v') w' ∧ Has C n ((d, .v (.one (.c (.val v')))) :: delL (dropU i tm) d) (updM mm i (.pool e sz (qs.set k (v', xs ++ ys)))) (a.put o.dst v') w' := by
  obtain ⟨H, Z, hm⟩ := hh
  have hszE : ei.size = sz := Nat.eq_of_beq_eq_true hsz
  subst hszE
  have hv : a.eval x = v := RepC.val_inv (evalC_rep hm hx)
  obtain ⟨hH, hpool⟩ := hm.mem _ (getM_mem hi)
  have hpool : PoolOK w (Mof C H mm) e ei.size qs := hpool
  obtain ⟨us, hown, hlen, hrep⟩ := hpool.row hk
  obtain ⟨v', w', news, hr, h2, h3, h5, hylen, hyrep⟩ := append_tells (xs := xs) (ty := o.type) hΘ ht hei hz (Nat.blt_eq.mp hs0) hbig hown (evalC_rep hm hy : RepC w (Mof C H mm) (a.eval y) (.slice nn' ei.size ys))
  have hrun : (execOp a.eval o).run C.P w = .ok (.value v') w' := by
    unfold execOp
    simp only [ho, resolve, invoke, builtin, Sem.run_bind, Sem.run_pure, Result.andThen_ok, List.map_toArray, List.map_cons, List.map_nil, hv, hr]
  have hB' : hblk v' = v'.ownBlock := hblk_row h2
  have hBv : hblk v = v.ownBlock := hblk_row hown
  have hvmem : (v, xs) ∈ qs := List.mem_of_getElem? hk
  have hblock : ∀ b, b < w.heap.size → hblk v ≠ some b → w'.heap[b]? = w.heap[b]? := fun b hb hne => h3.block b hb (fun e => hne (by rw [hBv, ← e]))
  refine ⟨v', w', hrun, Sy.upd H i (poolV (qs.set k (v', xs ++ ys))), Z, ?_⟩
  rw [hd]
  refine hm.setPool (Z := Z) hi (Nat.blt_eq.mp hig) hno ⟨h3.os, h3.tape, h3.output, h3.size, fun b hb hne => hblock b hb (fun e => hne ⟨_, hvmem, e⟩)⟩ (by simpa [Act.put] using hm.defers) (by simp [Act.put, hm.size]) ?_ ?_ ?_
  · intro q hq b hqb
    rcases List.mem_or_eq_of_mem_set hq with hq | rfl
    · exact .inl ⟨q, hq, hqb⟩
    · rcases h5 with h5 | h5
      · exact .inl ⟨_, hvmem, by rw [hBv, ← h5, ← hB']; exact hqb⟩
      · have hvb : hblk v' = some b := hqb
        refine .inr ⟨?_, ?_⟩
        · rw [hB', h5] at hvb; injection hvb with hvb; omega
        · rw [hB'] at hvb; exact (h2.lt b hvb).2
  · intro M' hMM hfr
    refine hpool.set hk ⟨us ++ news, by rw [List.length_append]; exact h2, fun q hq => ?_, fun k q hk j ct hc => ?_⟩ h3.size hblock hfr hMM (fun b hb => ?_)
    · rcases List.mem_append.1 hq with hq | hq
      · exact hlen q hq
      · exact hylen q hq
    · have hul : us.length = xs.length * ei.size := hown.1
      rw [List.getElem?_append] at hk
      split at hk
      · obtain ⟨u, hu, hr⟩ := hrep k q hk j ct hc
        refine ⟨u, ?_, RepC.mono hr h3.size hfr hMM⟩
        rw [List.getElem?_append_left (List.getElem?_eq_some_iff.1 hu).1]
        exact hu
      · rename_i hkl
        obtain ⟨u, hu, hr⟩ := hyrep _ q hk j ct hc
        refine ⟨u, ?_, RepC.mono hr h3.size hfr hMM⟩
        have hle : xs.length * ei.size ≤ k * ei.size := Nat.mul_le_mul_right _ (by omega)
        rw [List.getElem?_append_right (by rw [hul]; omega), hul]
        rw [Nat.sub_mul] at hu
        rw [← hu]; congr 1; omega
    · rcases h5 with h5 | h5
      · exact .inl (by rw [hBv, ← h5, ← hB']; exact hb)
      · rw [hB', h5] at hb; injection hb with hb; exact .inr (by omega)
  · intro p hp
    rcases List.mem_cons.1 hp with rfl | hp
    · refine .inr ⟨v', put_self (by rw [hm.size]; exact Nat.blt_eq.mp hn), ?_, rfl⟩
      rcases h2.2 with ⟨rfl, _⟩ | ⟨g, cap, cur, rfl, _⟩ <;> rfl
    · obtain ⟨h1, h2'⟩ := delL_mem hp
      obtain ⟨h3', h4⟩ := dropU_mem h1
      exact .inl ⟨p, h3', rfl, put_other h2', h4⟩
def ptrV (v : Value) (k : Nat) : Value :=
  match v with
  | .slice (some ad) _ _ => .pointer (some (ad.add k))
  | _ => .pointer none
theorem op_pidx {t : TypeId} {x y : Operand} {i k : Nat} {qs : PQ} {v : Value} {sz : Nat} {xs : List (List CT)} {kd : IntKind} {m : Int} {j e e' : Nat} {Θ : Tab} (hΘ : tabOK C.P Θ)
    {z bts : Nat} {ag : Bool} {zr : Option (List CT)} {ei : TyI}
    (ho : o.op = .indexAddr t x y) (ht : tyGet Θ t = some ⟨z, bts, ag, zr, .slice e⟩) (hei : tyGet Θ e = some ei) (hsz : Nat.beq ei.size sz = true)
    (hx : evalC tm x = some (.c (.val v))) (hi : getM mm i = some (.pool e' sz qs)) (hk : qs[k]? = some (v, xs)) (hy : evalC tm y = some (.c (.int kd m))) (hm : m = (j : Int)) (hj : j < xs.length) (hd : o.dst = some d) (hn : Nat.blt d n = true) :
    OpV C n o tm mm d (.v (.one (.c (.val (ptrV v (j * sz)))))) :=
  OpV.val hd hn _ fun H Z A w hmod => by
    have h2 : A.eval y = .int kd m := RepC.int_inv (evalC_rep hmod hy)
    have h1 : A.eval x = v := RepC.val_inv (evalC_rep hmod hx)
    obtain ⟨hH, hpool⟩ := hmod.mem _ (getM_mem hi)
    have hpool : PoolOK w (Mof C H mm) e' sz qs := hpool
    obtain ⟨us, hown, _⟩ := hpool.row hk
    obtain ⟨inf, de, hf⟩ := tyF hΘ ht
    obtain ⟨inf', de', hf'⟩ := tyF hΘ hei
    have hde : de = .slice e := by
      have := hf.sh
      cases de <;> simp [shChk] at this ⊢
      exact this
    subst hde
    subst hm
    have hszz : ei.size = sz := Nat.eq_of_beq_eq_true hsz
    rcases hown.2 with ⟨_, h0⟩ | ⟨g, cap, cur, hv, _⟩
    · omega
    · subst hv
      refine ⟨.pointer (some ((⟨g, 0, none⟩ : Addr).add (j * sz))), ?_, RepC.val _ rfl⟩
      have hjl : ((j : Nat) : Int) < ((xs.length : Nat) : Int) := by omega
      simp [execOp, ho, h1, h2, Instr.indexAt, asIntOf, hf.underlying, hf'.sizeOf, hszz, add_mk]
      intro hcon; omega
theorem op_pload {Θ : Tab} (hΘ : tabOK C.P Θ) {t : TypeId} {ti : TyI} {x : Operand} {i k j e sz : Nat} {qs : PQ} {v : Value} {xs : List (List CT)} {cs : List CT} {s : SV}
    (ho : o.op = .load t x) (ht : tyGet Θ t = some ti) (hx : evalC tm x = some (.c (.val (ptrV v (j * sz))))) (hi : getM mm i = some (.pool e sz qs)) (hk : qs[k]? = some (v, xs)) (hj : xs[j]? = some cs)
    (hs : Nat.beq ti.size sz = true) (hv : mkV SC.c ti.agg cs = some s) (hd : o.dst = some d) (hn : Nat.blt d n = true) :
    OpV C n o tm mm d (.v s) :=
  OpV.val hd hn _ fun H Z a w hm => by
    obtain ⟨inf, de, hf⟩ := tyF hΘ ht
    obtain ⟨hH, hpool⟩ := hm.mem _ (getM_mem hi)
    have hpool : PoolOK w (Mof C H mm) e sz qs := hpool
    obtain ⟨us, g1, g3, g4⟩ := hpool.row hk
    have hx' := RepC.val_inv (evalC_rep hm hx)
    have hlt : j < xs.length := (List.getElem?_eq_some_iff.1 hj).1
    have hcl : cs.length = sz := g3 cs (List.mem_of_getElem? hj)
    have hts : ti.size = sz := Nat.eq_of_beq_eq_true hs
    rcases g1.2 with ⟨_, h0⟩ | ⟨b, cap, cur, rfl, rest⟩
    · omega
    simp only [ptrV, add_mk, Nat.zero_add] at hx'
    have hown : ∀ q u, us[q]? = some u → w.cell? ⟨b, q, none⟩ = some u := by
      intro q u hq
      have := World.ownsRow.cells g1 (g := b) rfl q u hq
      rwa [add_mk, Nat.zero_add] at this
    have hch : ∀ m, m ≤ cs.length → ∃ vs : List Value, vs.length = m ∧ (∀ (q : Nat) (u : Value), vs[q]? = some u → w.cell? ((⟨b, j * sz, none⟩ : Addr).add q) = some u) ∧
        Pw (fun u c => RepC w (Mof C H mm) u c) vs (cs.take m) := by
      intro m
      induction m with
      | zero => intro _; exact ⟨[], rfl, fun q u hu => by simp at hu, by simpa using Pw.nil⟩
      | succ m ih =>
        intro hmle
        obtain ⟨vs, k1, k2, k3⟩ := ih (by omega)
        obtain ⟨u, hu, hr⟩ := g4 j cs hj m cs[m] (List.getElem?_eq_getElem (by omega))
        refine ⟨vs ++ [u], by simp [k1], fun q v hq => ?_, ?_⟩
        · rw [List.getElem?_append] at hq
          split at hq
          · exact k2 q v hq
          · rename_i hjq
            have hj0 : q - vs.length = 0 := by
              rcases Nat.eq_zero_or_pos (q - vs.length) with h0 | h0
              · exact h0
              · rw [List.getElem?_eq_none (by simp; omega)] at hq; cases hq
            rw [hj0] at hq
            simp at hq; subst hq
            have : q = m := by omega
            subst this
            rw [add_mk]
            exact hown _ _ hu
        · rw [List.take_succ_eq_append_getElem (by omega)]
          exact k3.append (Pw.cons hr Pw.nil)
    obtain ⟨vs, k1, k2, k3⟩ := hch cs.length (Nat.le_refl _)
    rw [List.take_length] at k3
    obtain ⟨v, hr, q1, q2⟩ := run_loadVar_pw (w := w) hf ⟨b, j * sz, none⟩ vs (by rw [k1, hcl, hts]) k2 (fun ha => by
        rw [k1]
        rw [ha] at hv
        unfold mkV at hv
        split at hv <;> first | (rename_i hh; cases hh; done) | rfl | (cases hv; done))
    refine ⟨v, by simp [execOp, ho, hx', Instr.loadAt, Instr.sureAddr, hr], ?_⟩
    exact mkV_rep (f := SC.c) hv k3 q1 q2
end
end Go.Sy
