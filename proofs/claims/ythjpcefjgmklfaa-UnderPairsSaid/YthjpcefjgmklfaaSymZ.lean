/- Symbolic states: appending what is frozen, adopting what is nil in a variable, contracts with a result that is known by a property. -/
import Derived.Test.YthjpcefjgmklfaaSymY
import Derived.Laws.OwnMore
namespace Go.Sy
set_option linter.unusedSimpArgs false
set_option linter.unusedVariables false
set_option linter.unusedSectionVars false
open Go.RowKit

section
variable {C : Ctx} {n : Nat} {tm : TM} {mm : MM} {o : Oper} {d : Nat}

theorem Mod.adopt0 {H : Nat → Value} {Z : Nat → Nat} {a : Act} {w : World} (hm : Mod C H Z n tm mm a w) (j e sz : Nat) (hj : Nat.blt j given = true) (hf : hasI mm j = false) :
    Mod C (Sy.upd H j (.slice none 0 0)) (Sy.upd Z j sz) n tm ((j, .arr false e sz []) :: mm) a w := by
  have hni := hasI_false hf
  have hne : ∀ p ∈ mm, p.1 ≠ j := fun p hp e => hni ⟨p, hp, e⟩
  have hnj : ∀ k, Iof mm k → k ≠ j := fun k ⟨p, hp, e⟩ e' => hne p hp (e.trans e')
  have hI : ∀ k, Iof mm k → Iof ((j, MO.arr false e sz []) :: mm) k := fun k ⟨p, hp, e⟩ => ⟨p, List.mem_cons_of_mem _ hp, e⟩
  have hjg : j < given := Nat.blt_eq.mp hj
  refine hm.build (fun _ => False) (Ext.refl _ _) (fun _ _ h => h.elim) hm.defers hm.size ?_ ?_ ?_ ?_ ?_
  · intro p hp hpg
    rcases List.mem_cons.1 hp with rfl | hp
    · simp only at hpg; omega
    · rw [upd_ne _ _ (hne p hp)]; exact hm.hg p hp hpg
  · intro p hp q hq he
    rcases List.mem_cons.1 hp with rfl | hp <;> rcases List.mem_cons.1 hq with rfl | hq
    · rfl
    · exact absurd he.symm (hne q hq)
    · exact absurd he (hne p hp)
    · exact hm.ids p hp q hq he
  · intro p hp
    rcases List.mem_cons.1 hp with rfl | hp
    · refine .inr ⟨fun b hb => by rw [upd_self] at hb; simp [hblk] at hb, fun _ _ => ⟨upd_self _ _ _, [], ?_, (fun h => by cases h), (fun q hq => by cases hq), fun k q hq => by simp at hq⟩⟩
      rw [upd_self]
      exact World.ownsRow_nil w 0 e sz
    · exact .inl ⟨hp, upd_ne _ _ (hne p hp), upd_ne _ _ (hne p hp), fun _ _ h => h, fun k _ hk => ⟨hI k hk, upd_ne _ _ (hnj k hk), upd_ne _ _ (hnj k hk)⟩⟩
  · intro p hp q hq hpq b hpb hqb
    rcases List.mem_cons.1 hp with rfl | hp
    · rw [upd_self] at hpb; simp [hblk] at hpb
    · rcases List.mem_cons.1 hq with rfl | hq
      · rw [upd_self] at hqb; simp [hblk] at hqb
      · rw [upd_ne _ _ (hne p hp)] at hpb
        rw [upd_ne _ _ (hne q hq)] at hqb
        exact hm.sep p hp q hq hpq b hpb hqb
  · intro p hp
    exact .inl ⟨p, hp, rfl, rfl, fun k _ hk => ⟨hI k hk, upd_ne _ _ (hnj k hk), upd_ne _ _ (hnj k hk)⟩⟩

/-- What is nil in a variable is a slice of one's own. -/
theorem Has.adoptB {a : Act} {w : World} (i c j e sz : Nat) {cs : List SC} (hi : getM mm i = some (.box cs)) (hc : nthC cs c = some (.c .nils)) (hj : Nat.blt j given = true) (hf : hasI mm j = false) (h : Has C n tm mm a w) :
    Has C n tm (updM ((j, .arr false e sz []) :: mm) i (.box (setL cs c (.own j)))) a w := by
  obtain ⟨H, Z, hm⟩ := h
  have h0 := hm.adopt0 j e sz hj hf
  have hij : i ≠ j := fun e => by subst e; exact hasI_false hf ⟨_, getM_mem hi, rfl⟩
  rw [nthC_eq] at hc
  have hmem0 : (i, MO.box cs) ∈ ((j, MO.arr false e sz []) :: mm) := List.mem_cons_of_mem _ (getM_mem hi)
  obtain ⟨b, ty, vs, h1, h2, h3, h4⟩ := h0.mem _ hmem0
  obtain ⟨b', ty', vs', g1, g2, g3, g4⟩ := hm.mem _ (getM_mem hi)
  have h1' : H i = .pointer (some ⟨b, 0, none⟩) := by
    have h1 : Sy.upd H j (.slice none 0 0) i = _ := h1
    rwa [upd_ne _ _ hij] at h1
  have hbb : b' = b := by
    have g1 : H i = _ := g1
    rw [h1'] at g1; injection g1 with g1; injection g1 with g1; injection g1 with g1; exact g1.symm
  subst hbb
  rw [h2] at g2
  injection g2 with g2; injection g2 with g2 g2'
  subst g2
  obtain ⟨u, hu, ho, hr⟩ := g4 c _ hc
  have hv := RepC.nils_inv hr
  have hI : ∀ q, Iof ((j, MO.arr false e sz []) :: mm) q → Iof (updM ((j, .arr false e sz []) :: mm) i (.box (setL cs c (.own j)))) q := fun q hq => (updM_ids q).2 hq
  refine ⟨_, _, h0.upd (b0 := b') ⟨_, hmem0, rfl⟩ (by show hblk (Sy.upd H j _ i) = _; rw [upd_ne _ _ hij, h1']; rfl) (Ext.refl _ _) hm.defers hm.size ?_ (fun q hq => ⟨hq, rfl⟩)⟩
  intro hMM hfr
  refine ⟨b', ty, vs, h1, h2, by rw [setL_eq]; simpa using h3, fun j' x hx => ?_⟩
  rw [setL_eq, List.getElem?_set] at hx
  split at hx
  · rename_i hjj
    subst hjj
    split at hx
    · injection hx with hx
      subst hx
      exact ⟨u, hu, ho, hI _ ⟨_, List.mem_cons_self, rfl⟩, by rw [upd_self]; exact hv⟩
    · cases hx
  · obtain ⟨u', hu', ho', hr'⟩ := h4 j' x hx
    exact ⟨u', hu', ho', hr'.mono (fun q _ hq => ⟨hI q hq, rfl, rfl⟩) (Nat.le_refl _) (fun _ _ _ => rfl) hMM⟩
end
section
variable {C : Ctx} {f : FuncId} {n : Nat} {R : Ending → World → Prop} {k : List Item} {tm : TM} {mm : MM}
theorem g_adoptB (i c j e sz : Nat) {cs : List SC} (hi : getM mm i = some (.box cs)) (hc : nthC cs c = some (.c .nils)) (hj : Nat.blt j given = true) (hf : hasI mm j = false)
    (g : Goes C f n R k tm (updM ((j, .arr false e sz []) :: mm) i (.box (setL cs c (.own j))))) : Goes C f n R k tm mm := g.mono fun _ _ h => h.adoptB i c j e sz hi hc hj hf
end

/-! append: the second row is frozen. -/
section
variable {C : Ctx} {n : Nat} {tm : TM} {mm : MM} {o : Oper} {d : Nat}

theorem append_core {Θ : Tab} (hΘ : tabOK C.P Θ) {t : TypeId} {x y : Operand} {z bts e : Nat} {ag : Bool} {zt : Option (List CT)} {ei : TyI} {zr : List CT} {i : Nat} {nn nn' : Bool} {sz : Nat} {xs ys : List (List CT)}
    (ho : o.op = .call { callee := .builtin .append, args := ⟨[x, y]⟩, argTypes := ⟨[t, t]⟩ }) (ht : tyGet Θ t = some ⟨z, bts, ag, zt, .slice e⟩) (hei : tyGet Θ e = some ei) (hz : ei.zero = some zr)
    (hsz : Nat.beq ei.size sz = true) (hs0 : Nat.blt 0 ei.size = true) (hi : getM mm i = some (.arr nn e sz xs))
    (hbig : xs.length + ys.length ≤ 9223372036854775807 ∧ (xs.length + ys.length) * ei.bytes ≤ 140737488355328) (hig : Nat.blt i given = true) (hno : noUse i mm = true) (hd : o.dst = some d) (hn : Nat.blt d n = true)
    {H : Nat → Value} {Z : Nat → Nat} {a : Act} {w : World} (hm : Mod C H Z n tm mm a w) (hv : a.eval x = H i) (hy : RepC w (Mof C H mm) (a.eval y) (.slice nn' sz ys)) :
    ∃ v' w' , (execOp a.eval o).run C.P w = .ok (.value v') w' ∧ Has C n ((d, .v (.one (.own i))) :: delL (dropU i tm) d) (updM mm i (.arr false e sz (xs ++ ys))) (a.put o.dst v') w' := by
  obtain ⟨inf, de, hf⟩ := tyF hΘ ht
  obtain ⟨inf', de', hf'⟩ := tyF hΘ hei
  obtain ⟨zv, hzv, hzc, hzl⟩ := hf'.zero zr hz
  obtain ⟨hz1, _⟩ := zchk_cells (w := w) (M := Mof C H mm) hzc
  have hde : de = .slice e := by
    have := hf.sh
    cases de <;> simp [shChk] at this ⊢
    exact this
  subst hde
  have hszE : ei.size = sz := Nat.eq_of_beq_eq_true hsz
  subst hszE
  have hs0' : 0 < ei.size := Nat.blt_eq.mp hs0
  obtain ⟨hZ, us, hown, _, hlen, hrep⟩ := hm.mem _ (getM_mem hi)
  -- what append tells, with rows or without
  have hall : ∃ v' w' news, (Builtin.append_ #[t, t] o.type #[H i, a.eval y]).run C.P w = .ok v' w' ∧ w'.ownsRow 0 e ei.size v' (xs.length + ys.length) (us ++ news) ∧ w.grownBy w' (H i).ownBlock ∧
      (v'.ownBlock = (H i).ownBlock ∨ v'.ownBlock = some w.heap.size) ∧ (∀ q ∈ ys, q.length = ei.size) ∧
      (∀ (k : Nat) (q : List CT), ys[k]? = some q → ∀ (j : Nat) (ct : CT), q[j]? = some ct → ∃ u, news[k * ei.size + j]? = some u ∧ RepC w (Mof C H mm) u ct) := by
    generalize hve : a.eval y = vy at hy
    cases hy with
    | slice u hlen' hcap hmax hnn hsz' had hrep' =>
      rename_i ad len cap
      by_cases hy0 : ys = []
      · subst hy0
        simp only [List.length_nil] at hlen'
        subst hlen'
        refine ⟨H i, w, [], ?_, by simpa using hown, ⟨rfl, rfl, rfl, Nat.le_refl _, fun _ _ _ => rfl⟩, .inl rfl, (fun q hq => by cases hq), fun k q hq => by simp at hq⟩
        rcases hown.2 with ⟨h0, _⟩ | ⟨g, cap', cur, h0, _, _, hnc, _⟩
        · rw [h0]
          cases ad <;> simp [Builtin.append_, run_underlying hf.und, sizeOf, typeInfo, hf'.info, Builtin.lenOf, Builtin.firstCells, loadCells, loadCellsFrom]
        · rw [h0]
          cases ad <;> simp [Builtin.append_, run_underlying hf.und, sizeOf, typeInfo, hf'.info, Builtin.lenOf, Builtin.firstCells, hnc, storeCells, loadCells, loadCellsFrom]
      · obtain ⟨ad', rfl, hsp, hab, haM, hcell⟩ := had (List.length_pos_iff.2 hy0)
        let news : List Value := (List.range (ys.length * ei.size)).map fun m => u (m / ei.size) (m % ei.size)
        have hnget : ∀ m, m < ys.length * ei.size → news[m]? = some (u (m / ei.size) (m % ei.size)) := fun m hm => by simp [news, hm]
        have hnl : news.length = ys.length * ei.size := by simp [news]
        have hkj : ∀ k j, j < ei.size → (k * ei.size + j) / ei.size = k ∧ (k * ei.size + j) % ei.size = j := fun k j hj => by
          constructor
          · rw [Nat.add_comm, Nat.add_mul_div_right _ _ hs0', Nat.div_eq_of_lt hj, Nat.zero_add]
          · rw [Nat.add_comm, Nat.add_mul_mod_self_right, Nat.mod_eq_of_lt hj]
        have hlt : ∀ k j, k < ys.length → j < ei.size → k * ei.size + j < ys.length * ei.size := fun k j hk hj => by
          have := Nat.mul_le_mul_right ei.size (show k + 1 ≤ ys.length from hk)
          rw [Nat.add_mul] at this; omega
        have hnrep : ∀ (k : Nat) (q : List CT), ys[k]? = some q → ∀ (j : Nat) (ct : CT), q[j]? = some ct → ∃ v, news[k * ei.size + j]? = some v ∧ RepC w (Mof C H mm) v ct := by
          intro k q hq j ct hc
          have hk := (List.getElem?_eq_some_iff.1 hq).1
          have hj : j < ei.size := by rw [← hsz' q (List.mem_of_getElem? hq)]; exact (List.getElem?_eq_some_iff.1 hc).1
          refine ⟨u k j, ?_, hrep' k q hq j ct hc⟩
          rw [hnget _ (hlt k j hk hj), (hkj k j hj).1, (hkj k j hj).2]
        have hncell : ∀ j v, news[j]? = some v → w.cell? (ad'.add j) = some v := by
          intro j v hj
          have hjl : j < ys.length * ei.size := by rw [← hnl]; exact (List.getElem?_eq_some_iff.1 hj).1
          rw [hnget j hjl] at hj
          injection hj with hj
          have hk : j / ei.size < ys.length := by rw [Nat.div_lt_iff_lt_mul hs0']; exact hjl
          have hmo : j % ei.size < ei.size := Nat.mod_lt _ hs0'
          have h1 : ys[j / ei.size]? = some ys[j / ei.size] := List.getElem?_eq_getElem hk
          have hql := hsz' _ (List.mem_of_getElem? h1)
          have h2 : (ys[j / ei.size])[j % ei.size]? = some ((ys[j / ei.size])[j % ei.size]'(by rw [hql]; exact hmo)) := List.getElem?_eq_getElem _
          have := hcell _ _ h1 _ _ h2
          rw [show j / ei.size * ei.size + j % ei.size = j by rw [Nat.mul_comm]; exact Nat.div_add_mod j ei.size, hj] at this
          exact this
        obtain ⟨v', w', hr, h2, h3, _, h5⟩ := run_append_own_at (P := C.P) w 0 t o.type e inf' zv ei.size ei.bytes hf.und hf'.info hzv hf'.size hf'.bytes (by rw [hz1, hzl]) hs0' (H i) xs.length us hown ad' ys.length cap news hnl hncell
          (one_of_elems hsz' hnl hnrep) (by simp only [maxLen]; omega) hbig.2 (Nat.zero_le _)
        exact ⟨v', w', news, by rw [hlen']; exact hr, h2, h3, h5, hsz', hnrep⟩
  obtain ⟨v', w', news, hr, h2, h3, h5, hylen, hyrep⟩ := hall
  have hrun : (execOp a.eval o).run C.P w = .ok (.value v') w' := by
    unfold execOp
    simp only [ho, resolve, invoke, builtin, Sem.run_bind, Sem.run_pure, Result.andThen_ok, List.map_toArray, List.map_cons, List.map_nil, hv, hr]
  have hhb : ∀ (v : Value) {w : World} {m : Nat} {l : List Value}, w.ownsRow 0 e ei.size v m l → hblk v = v.ownBlock := fun v _ _ _ h => hblk_ownBlock h
  have hv'b : hblk v' = v'.ownBlock := hhb v' h2
  have hHib : hblk (H i) = (H i).ownBlock := hhb _ hown
  have hext : Ext (fun b => hblk (H i) = some b) w w' := ⟨h3.os, h3.tape, h3.output, h3.size, fun k hk hne => h3.block k hk (fun e => hne (by rw [hHib]; first | exact e | exact e.symm))⟩
  have hnew : ∀ b, hblk v' = some b → b < w'.heap.size := by
    intro b hb
    rcases h2.2 with ⟨rfl, _⟩ | ⟨g, cap, cur, rfl, _, hg, _⟩
    · simp [hblk] at hb
    · simp [hblk] at hb
      subst hb
      exact (Array.getElem?_eq_some_iff.1 hg).1
  have hig' : i < given := Nat.blt_eq.mp hig
  have hI : ∀ j, Iof mm j → Iof (updM mm i (.arr false e ei.size (xs ++ ys))) j := fun j hj => (updM_ids j).2 hj
  refine ⟨v', w', hrun, upd H i v', Z, ?_⟩
  rw [hd]
  refine hm.build (fun b => hblk (H i) = some b) hext (fun b _ hb => ⟨_, getM_mem hi, hb⟩) (by simpa [Act.put] using hm.defers) (by simp [Act.put, hm.size]) ?_ ?_ ?_ ?_ ?_
  · intro p hp hpg
    have hpi : p.1 ≠ i := by omega
    rw [upd_ne _ _ hpi]
    rcases updM_mem p hp with ⟨rfl, _⟩ | ⟨k1, _⟩
    · exact absurd rfl hpi
    · exact hm.hg p k1 hpg
  · intro p hp q hq he
    rcases updM_mem p hp with ⟨rfl, _⟩ | ⟨k1, k2⟩ <;> rcases updM_mem q hq with ⟨rfl, _⟩ | ⟨k1', k2'⟩
    · rfl
    · exact absurd he.symm k2'
    · exact absurd he k2
    · exact hm.ids p k1 q k1' he
  · intro p hp
    rcases updM_mem p hp with ⟨rfl, _⟩ | ⟨k1, k2⟩
    · refine .inr ⟨fun b hb => ?_, fun hMM hfr => ?_⟩
      · rw [upd_self] at hb
        rcases h5 with h5 | h5
        · exact .inr ⟨_, getM_mem hi, by rw [hHib, ← h5, ← hv'b]; exact hb, .inl rfl⟩
        · refine .inl ⟨?_, hnew b hb⟩
          rw [hv'b, h5] at hb; injection hb with hb; omega
      · refine ⟨hZ, us ++ news, by rw [upd_self, List.length_append]; exact h2, (fun h => by cases h), fun q hq => ?_, fun k q hk j ct hc => ?_⟩
        · rcases List.mem_append.1 hq with hq | hq
          · exact hlen q hq
          · exact hylen q hq
        · have hul : us.length = xs.length * ei.size := hown.1
          rw [List.getElem?_append] at hk
          split at hk
          · rename_i hkl
            obtain ⟨u, hu, hr⟩ := hrep k q hk j ct hc
            refine ⟨u, ?_, RepC.mono hr h3.size hfr hMM⟩
            rw [List.getElem?_append_left (List.getElem?_eq_some_iff.1 hu).1]
            exact hu
          · rename_i hkl
            obtain ⟨u, hu, hr⟩ := hyrep _ q hk j ct hc
            refine ⟨u, ?_, RepC.mono hr h3.size hfr hMM⟩
            have hle : xs.length * ei.size ≤ k * ei.size := Nat.mul_le_mul_right _ (by omega)
            rw [List.getElem?_append_right (by rw [hul]; omega), hul]
            rw [Nat.sub_mul] at hu
            rw [← hu]; congr 1; omega
    · refine .inl ⟨k1, upd_ne _ _ k2, rfl, fun b hb hx => ?_, fun j hj hij => ⟨hI j hij, upd_ne _ _ (fun e => ?_), rfl⟩⟩
      · exact hm.sep p k1 _ (getM_mem hi) k2 b hb hx
      · subst e; exact noUse_spec hno k1 hj
  · intro p hp q hq hpq b hpb hqb
    have key : ∀ p ∈ mm, p.1 ≠ i → hblk (H p.1) = some b → hblk v' = some b → False := by
      intro p hp hpi h1 h2
      rcases h5 with h5 | h5
      · exact hm.sep p hp _ (getM_mem hi) hpi b h1 (by rw [hHib, ← h5, ← hv'b]; exact h2)
      · rw [hv'b, h5] at h2
        injection h2 with h2
        have := (hm.fresh p hp b h1).2
        omega
    rcases updM_mem p hp with ⟨rfl, _⟩ | ⟨k1, k2⟩ <;> rcases updM_mem q hq with ⟨rfl, _⟩ | ⟨k1', k2'⟩
    · exact hpq rfl
    · rw [upd_self] at hpb; rw [upd_ne _ _ k2'] at hqb
      exact key q k1' k2' hqb hpb
    · rw [upd_self] at hqb; rw [upd_ne _ _ k2] at hpb
      exact key p k1 k2 hpb hqb
    · rw [upd_ne _ _ k2] at hpb; rw [upd_ne _ _ k2'] at hqb
      exact hm.sep p k1 q k1' hpq b hpb hqb
  · intro p hp
    rcases List.mem_cons.1 hp with rfl | hp
    · refine .inr fun _ _ => ?_
      rw [put_self (by rw [hm.size]; exact Nat.blt_eq.mp hn)]
      exact ⟨hI i ⟨_, getM_mem hi, rfl⟩, (upd_self _ _ _).symm⟩
    · obtain ⟨h1, h2'⟩ := delL_mem hp
      obtain ⟨h3', h4⟩ := dropU_mem h1
      exact .inl ⟨p, h3', rfl, put_other h2', fun j hj hij => ⟨hI j hij, upd_ne _ _ (fun e => h4 (e ▸ hj)), rfl⟩⟩

theorem op_appendF {Θ : Tab} (hΘ : tabOK C.P Θ) {t : TypeId} {x y : Operand} {z bts e : Nat} {ag : Bool} {zt : Option (List CT)} {ei : TyI} {zr : List CT} {i : Nat} {nn nn' : Bool} {sz : Nat} {xs ys : List (List CT)}
    (ho : o.op = .call { callee := .builtin .append, args := ⟨[x, y]⟩, argTypes := ⟨[t, t]⟩ }) (ht : tyGet Θ t = some ⟨z, bts, ag, zt, .slice e⟩) (hei : tyGet Θ e = some ei) (hz : ei.zero = some zr)
    (hsz : Nat.beq ei.size sz = true) (hs0 : Nat.blt 0 ei.size = true) (hx : evalC tm x = some (.own i)) (hi : getM mm i = some (.arr nn e sz xs)) (hy : evalC tm y = some (.c (.slice nn' sz ys)))
    (hig : Nat.blt i given = true) (hno : noUse i mm = true) (hd : o.dst = some d) (hn : Nat.blt d n = true)
    (hbig : xs.length + ys.length ≤ 9223372036854775807 ∧ (xs.length + ys.length) * ei.bytes ≤ 140737488355328) :
    OpR C n o tm mm ((d, .v (.one (.own i))) :: delL (dropU i tm) d) (updM mm i (.arr false e sz (xs ++ ys))) := by
  intro a w ⟨H, Z, hm⟩
  obtain ⟨v', w', h1, h2⟩ := append_core hΘ ho ht hei hz hsz hs0 hi hbig hig hno hd hn hm (evalC_rep hm hx).2 (evalC_rep hm hy)
  exact .inl ⟨v', w', h1, h2⟩
/-- append(nil, what is frozen): a new slice of one's own. -/
theorem op_appendN {Θ : Tab} (hΘ : tabOK C.P Θ) {t : TypeId} {x y : Operand} {z bts e : Nat} {ag : Bool} {zt : Option (List CT)} {ei : TyI} {zr : List CT} (i : Nat) {nn' : Bool} {sz : Nat} {ys : List (List CT)}
    (ho : o.op = .call { callee := .builtin .append, args := ⟨[x, y]⟩, argTypes := ⟨[t, t]⟩ }) (ht : tyGet Θ t = some ⟨z, bts, ag, zt, .slice e⟩) (hei : tyGet Θ e = some ei) (hz : ei.zero = some zr)
    (hsz : Nat.beq ei.size sz = true) (hs0 : Nat.blt 0 ei.size = true) (hx : evalC tm x = some (.c .nils)) (hy : evalC tm y = some (.c (.slice nn' sz ys)))
    (hig : Nat.blt i given = true) (hf : hasI mm i = false) (hno : noUse i ((i, .arr false e sz []) :: mm) = true) (hd : o.dst = some d) (hn : Nat.blt d n = true)
    (hbig : ys.length ≤ 9223372036854775807 ∧ ys.length * ei.bytes ≤ 140737488355328) :
    OpR C n o tm mm ((d, .v (.one (.own i))) :: delL (dropU i tm) d) ((i, .arr false e sz ys) :: mm) := by
  intro a w ⟨H, Z, hm⟩
  have h0 := hm.adopt0 i e sz hig hf
  have hnil : a.eval x = Sy.upd H i (.slice none 0 0) i := by rw [upd_self]; exact RepC.nils_inv (evalC_rep hm hx)
  have hyr : RepC w (Mof C (Sy.upd H i (.slice none 0 0)) ((i, .arr false e sz []) :: mm)) (a.eval y) (.slice nn' sz ys) := evalC_rep h0 hy
  obtain ⟨v', w', h1, h2⟩ := append_core hΘ ho ht hei hz hsz hs0 (nn := false) (xs := []) (by simp [getM]) (by simpa using hbig) hig hno hd hn h0 hnil hyr
  refine .inl ⟨v', w', h1, ?_⟩
  have hni : ∀ l : MM, hasI l i = false → updM l i (.arr false e sz ys) = l := by
    intro l
    induction l with
    | nil => intro _; rfl
    | cons p l ih =>
      obtain ⟨q, o'⟩ := p
      intro h
      have hne : Nat.beq q i = false := by
        cases hb : Nat.beq q i with
        | false => rfl
        | true => simp [hasI, getM, hb] at h
      simp only [hasI, getM, hne] at h
      simp only [updM, hne]
      rw [ih (by simpa [hasI] using h)]
  have : updM ((i, .arr false e sz []) :: mm) i (.arr false e sz ([] ++ ys)) = (i, .arr false e sz ys) :: mm := by
    simp only [List.nil_append]
    have : Nat.beq i i = true := Nat.beq_refl i
    simp only [updM, this]
    first | rfl | rw [hni mm hf]
  rw [← this]
  exact h2
end
end Go.Sy
