/- The symbolic layer, bundle Sy5. -/
import Derived.Test.YtdjocfajcbhmgaaDoorSy4
import Derived.Laws.OwnMore
set_option linter.unusedSimpArgs false
set_option linter.unusedVariables false
set_option linter.unusedSectionVars false
namespace Go.Sy
open Go.RowKit
section
variable {C : Ctx} {n : Nat} {tm : TM} {mm : MM} {o : Oper} {d : Nat}
theorem Mod.adopt0 {H : Nat → Value} {Z : Nat → Nat} {a : Act} {w : World} (hm : Mod C H Z n tm mm a w) (j e sz : Nat) (hj : Nat.blt j given = true) (hf : hasI mm j = false) :
    Mod C (Sy.upd H j (.slice none 0 0)) (Sy.upd Z j sz) n tm ((j, .arr false e sz []) :: mm) a w := by
  have hni := hasI_false hf
  have hne : ∀ p ∈ mm, p.1 ≠ j := fun p hp e => hni ⟨p, hp, e⟩
  have hnj : ∀ k, Iof mm k → k ≠ j := fun k ⟨p, hp, e⟩ e' => hne p hp (e.trans e')
  have hI : ∀ k, Iof mm k → Iof ((j, MO.arr false e sz []) :: mm) k := fun k ⟨p, hp, e⟩ => ⟨p, List.mem_cons_of_mem _ hp, e⟩
  have hjg : j < given := Nat.blt_eq.mp hj
  refine hm.build (fun _ => False) (Ext.refl _ _) (fun _ _ h => h.elim) hm.defers hm.size ?_ ?_ ?_ ?_ ?_
  · intro p hp hpg
    rcases List.mem_cons.1 hp with rfl | hp
    · simp only at hpg; omega
    · rw [upd_ne _ _ (hne p hp)]; exact hm.hg p hp hpg
  · intro p hp q hq he
    rcases List.mem_cons.1 hp with rfl | hp <;> rcases List.mem_cons.1 hq with rfl | hq
    · rfl
    · exact absurd he.symm (hne q hq)
    · exact absurd he (hne p hp)
    · exact hm.ids p hp q hq he
  · intro p hp
    rcases List.mem_cons.1 hp with rfl | hp
    · refine .inr ⟨fun b hb => by rw [upd_self] at hb; simp [Hb, hblk] at hb, fun _ _ => ⟨upd_self _ _ _, [], ?_, (fun h => by cases h), (fun q hq => by cases hq), fun k q hq => by simp at hq⟩⟩
      rw [upd_self]
      exact World.ownsRow_nil w 0 e sz
    · exact .inl ⟨hp, upd_ne _ _ (hne p hp), upd_ne _ _ (hne p hp), fun _ _ h => h, fun k _ hk => ⟨hI k hk, upd_ne _ _ (hnj k hk), upd_ne _ _ (hnj k hk)⟩⟩
  · intro p hp q hq hpq b hpb hqb
    rcases List.mem_cons.1 hp with rfl | hp
    · rw [upd_self] at hpb; simp [Hb, hblk] at hpb
    · rcases List.mem_cons.1 hq with rfl | hq
      · rw [upd_self] at hqb; simp [Hb, hblk] at hqb
      · rw [upd_ne _ _ (hne p hp)] at hpb
        rw [upd_ne _ _ (hne q hq)] at hqb
        exact hm.sep p hp q hq hpq b hpb hqb
  · intro p hp
    exact .inl ⟨p, hp, rfl, rfl, fun k _ hk => ⟨hI k hk, upd_ne _ _ (hnj k hk), upd_ne _ _ (hnj k hk)⟩⟩
theorem Has.adoptB {a : Act} {w : World} (i c j e sz : Nat) {cs : List SC} (hi : getM mm i = some (.box cs)) (hc : nthC cs c = some (.c .nils)) (hj : Nat.blt j given = true) (hf : hasI mm j = false) (h : Has C n tm mm a w) :
    Has C n tm (updM ((j, .arr false e sz []) :: mm) i (.box (setL cs c (.own j)))) a w := by
  obtain ⟨H, Z, hm⟩ := h
  have h0 := hm.adopt0 j e sz hj hf
  have hij : i ≠ j := fun e => by subst e; exact hasI_false hf ⟨_, getM_mem hi, rfl⟩
  rw [nthC_eq] at hc
  have hmem0 : (i, MO.box cs) ∈ ((j, MO.arr false e sz []) :: mm) := List.mem_cons_of_mem _ (getM_mem hi)
  obtain ⟨b, ty, vs, h1, h2, h3, h4⟩ := h0.mem _ hmem0
  obtain ⟨b', ty', vs', g1, g2, g3, g4⟩ := hm.mem _ (getM_mem hi)
  have h1' : H i = .pointer (some ⟨b, 0, none⟩) := by
    have h1 : Sy.upd H j (.slice none 0 0) i = _ := h1
    rwa [upd_ne _ _ hij] at h1
  have hbb : b' = b := by
    have g1 : H i = _ := g1
    rw [h1'] at g1; injection g1 with g1; injection g1 with g1; injection g1 with g1; exact g1.symm
  subst hbb
  rw [h2] at g2
  injection g2 with g2; injection g2 with g2 g2'
  subst g2
  obtain ⟨u, hu, ho, hr⟩ := g4 c _ hc
  have hv := RepC.nils_inv hr
  have hI : ∀ q, Iof ((j, MO.arr false e sz []) :: mm) q → Iof (updM ((j, .arr false e sz []) :: mm) i (.box (setL cs c (.own j)))) q := fun q hq => (updM_ids q).2 hq
  refine ⟨_, _, h0.upd (b0 := b') ⟨_, hmem0, rfl⟩ (by show Hb (Sy.upd H j _ i) _; rw [upd_ne _ _ hij, h1']; rfl) (Ext.refl _ _) hm.defers hm.size ?_ (fun q hq => ⟨hq, rfl⟩)⟩
  intro hMM hfr
  refine ⟨b', ty, vs, h1, h2, by rw [setL_eq]; simpa using h3, fun j' x hx => ?_⟩
  rw [setL_eq, List.getElem?_set] at hx
  split at hx
  · rename_i hjj
    subst hjj
    split at hx
    · injection hx with hx
      subst hx
      exact ⟨u, hu, ho, hI _ ⟨_, List.mem_cons_self, rfl⟩, by rw [upd_self]; exact hv⟩
    · cases hx
  · obtain ⟨u', hu', ho', hr'⟩ := h4 j' x hx
    exact ⟨u', hu', ho', hr'.mono (fun q _ hq => ⟨hI q hq, rfl, rfl⟩) (Nat.le_refl _) (fun _ _ _ => rfl) hMM⟩
end
section
variable {C : Ctx} {f : FuncId} {n : Nat} {R : Ending → World → Prop} {k : List Item} {tm : TM} {mm : MM}
theorem g_adoptB (i c j e sz : Nat) {cs : List SC} (hi : getM mm i = some (.box cs)) (hc : nthC cs c = some (.c .nils)) (hj : Nat.blt j given = true) (hf : hasI mm j = false)
    (g : Goes C f n R k tm (updM ((j, .arr false e sz []) :: mm) i (.box (setL cs c (.own j))))) : Goes C f n R k tm mm := g.mono fun _ _ h => h.adoptB i c j e sz hi hc hj hf
end
section
variable {C : Ctx} {n : Nat} {tm : TM} {mm : MM} {o : Oper} {d : Nat}
theorem append_core {Θ : Tab} (hΘ : tabOK C.P Θ) {t : TypeId} {x y : Operand} {z bts e : Nat} {ag : Bool} {zt : Option (List CT)} {ei : TyI} {zr : List CT} {i : Nat} {nn nn' : Bool} {sz : Nat} {xs ys : List (List CT)}
    (ho : o.op = .call { callee := .builtin .append, args := ⟨[x, y]⟩, argTypes := ⟨[t, t]⟩ }) (ht : tyGet Θ t = some ⟨z, bts, ag, zt, .slice e⟩) (hei : tyGet Θ e = some ei) (hz : ei.zero = some zr)
    (hsz : Nat.beq ei.size sz = true) (hs0 : Nat.blt 0 ei.size = true) (hi : getM mm i = some (.arr nn e sz xs))
    (hbig : xs.length + ys.length ≤ 9223372036854775807 ∧ (xs.length + ys.length) * ei.bytes ≤ 140737488355328) (hig : Nat.blt i given = true) (hno : noUse i mm = true) (hd : o.dst = some d) (hn : Nat.blt d n = true)
    {H : Nat → Value} {Z : Nat → Nat} {a : Act} {w : World} (hm : Mod C H Z n tm mm a w) (hv : a.eval x = H i) {My : Nat → Prop} (hy : RepC w My (a.eval y) (.slice nn' sz ys)) (hMy : ∀ q ∈ ys, ∀ ct ∈ q, ∀ v, RepC w My v ct → RepC w (Mof C H mm) v ct) :
    ∃ v' w' , (execOp a.eval o).run C.P w = .ok (.value v') w' ∧ Has C n ((d, .v (.one (.own i))) :: delL (dropU i tm) d) (updM mm i (.arr false e sz (xs ++ ys))) (a.put o.dst v') w' := by
  obtain ⟨inf, de, hf⟩ := tyF hΘ ht
  obtain ⟨inf', de', hf'⟩ := tyF hΘ hei
  obtain ⟨zv, hzv, hzc, hzl⟩ := hf'.zero zr hz
  obtain ⟨hz1, _⟩ := zchk_cells (w := w) (M := Mof C H mm) hzc
  have hde : de = .slice e := by
    have := hf.sh
    cases de <;> simp [shChk] at this ⊢
    exact this
  subst hde
  have hszE : ei.size = sz := Nat.eq_of_beq_eq_true hsz
  subst hszE
  have hs0' : 0 < ei.size := Nat.blt_eq.mp hs0
  obtain ⟨hZ, us, hown, _, hlen, hrep⟩ := hm.mem _ (getM_mem hi)
  have hall : ∃ v' w' news, (Builtin.append_ #[t, t] o.type #[H i, a.eval y]).run C.P w = .ok v' w' ∧ w'.ownsRow 0 e ei.size v' (xs.length + ys.length) (us ++ news) ∧ w.grownBy w' (H i).ownBlock ∧
      (v'.ownBlock = (H i).ownBlock ∨ v'.ownBlock = some w.heap.size) ∧ (∀ q ∈ ys, q.length = ei.size) ∧
      (∀ (k : Nat) (q : List CT), ys[k]? = some q → ∀ (j : Nat) (ct : CT), q[j]? = some ct → ∃ u, news[k * ei.size + j]? = some u ∧ RepC w (Mof C H mm) u ct) := by
    generalize hve : a.eval y = vy at hy
    cases hy with
    | slice u hlen' hcap hmax hnn hsz' had hrep' =>
      rename_i ad len cap
      by_cases hy0 : ys = []
      · subst hy0
        simp only [List.length_nil] at hlen'
        subst hlen'
        refine ⟨H i, w, [], ?_, by simpa using hown, ⟨rfl, rfl, rfl, Nat.le_refl _, fun _ _ _ => rfl⟩, .inl rfl, (fun q hq => by cases hq), fun k q hq => by simp at hq⟩
        rcases hown.2 with ⟨h0, _⟩ | ⟨g, cap', cur, h0, _, _, hnc, _⟩
        · rw [h0]
          cases ad <;> simp [Builtin.append_, run_underlying hf.und, sizeOf, typeInfo, hf'.info, Builtin.lenOf, Builtin.firstCells, loadCells, loadCellsFrom]
        · rw [h0]
          cases ad <;> simp [Builtin.append_, run_underlying hf.und, sizeOf, typeInfo, hf'.info, Builtin.lenOf, Builtin.firstCells, hnc, storeCells, loadCells, loadCellsFrom]
      · obtain ⟨ad', rfl, hsp, hab, haM, hcell⟩ := had (List.length_pos_iff.2 hy0)
        let news : List Value := (List.range (ys.length * ei.size)).map fun m => u (m / ei.size) (m % ei.size)
        have hnget : ∀ m, m < ys.length * ei.size → news[m]? = some (u (m / ei.size) (m % ei.size)) := fun m hm => by simp [news, hm]
        have hnl : news.length = ys.length * ei.size := by simp [news]
        have hkj : ∀ k j, j < ei.size → (k * ei.size + j) / ei.size = k ∧ (k * ei.size + j) % ei.size = j := fun k j hj => by
          constructor
          · rw [Nat.add_comm, Nat.add_mul_div_right _ _ hs0', Nat.div_eq_of_lt hj, Nat.zero_add]
          · rw [Nat.add_comm, Nat.add_mul_mod_self_right, Nat.mod_eq_of_lt hj]
        have hlt : ∀ k j, k < ys.length → j < ei.size → k * ei.size + j < ys.length * ei.size := fun k j hk hj => by
          have := Nat.mul_le_mul_right ei.size (show k + 1 ≤ ys.length from hk)
          rw [Nat.add_mul] at this; omega
        have hnrep : ∀ (k : Nat) (q : List CT), ys[k]? = some q → ∀ (j : Nat) (ct : CT), q[j]? = some ct → ∃ v, news[k * ei.size + j]? = some v ∧ RepC w (Mof C H mm) v ct := by
          intro k q hq j ct hc
          have hk := (List.getElem?_eq_some_iff.1 hq).1
          have hj : j < ei.size := by rw [← hsz' q (List.mem_of_getElem? hq)]; exact (List.getElem?_eq_some_iff.1 hc).1
          refine ⟨u k j, ?_, hMy q (List.mem_of_getElem? hq) ct (List.mem_of_getElem? hc) _ (hrep' k q hq j ct hc)⟩
          rw [hnget _ (hlt k j hk hj), (hkj k j hj).1, (hkj k j hj).2]
        have hncell : ∀ j v, news[j]? = some v → w.cell? (ad'.add j) = some v := by
          intro j v hj
          have hjl : j < ys.length * ei.size := by rw [← hnl]; exact (List.getElem?_eq_some_iff.1 hj).1
          rw [hnget j hjl] at hj
          injection hj with hj
          have hk : j / ei.size < ys.length := by rw [Nat.div_lt_iff_lt_mul hs0']; exact hjl
          have hmo : j % ei.size < ei.size := Nat.mod_lt _ hs0'
          have h1 : ys[j / ei.size]? = some ys[j / ei.size] := List.getElem?_eq_getElem hk
          have hql := hsz' _ (List.mem_of_getElem? h1)
          have h2 : (ys[j / ei.size])[j % ei.size]? = some ((ys[j / ei.size])[j % ei.size]'(by rw [hql]; exact hmo)) := List.getElem?_eq_getElem _
          have := hcell _ _ h1 _ _ h2
          rw [show j / ei.size * ei.size + j % ei.size = j by rw [Nat.mul_comm]; exact Nat.div_add_mod j ei.size, hj] at this
          exact this
        obtain ⟨v', w', hr, h2, h3, _, h5⟩ := run_append_own_at (P := C.P) w 0 t o.type e inf' zv ei.size ei.bytes hf.und hf'.info hzv hf'.size hf'.bytes (by rw [hz1, hzl]) hs0' (H i) xs.length us hown ad' ys.length cap news hnl hncell
          (one_of_elems hsz' hnl hnrep) (by simp only [maxLen]; omega) hbig.2 (Nat.zero_le _)
        exact ⟨v', w', news, by rw [hlen']; exact hr, h2, h3, h5, hsz', hnrep⟩
  obtain ⟨v', w', news, hr, h2, h3, h5, hylen, hyrep⟩ := hall
  have hrun : (execOp a.eval o).run C.P w = .ok (.value v') w' := by
    unfold execOp
    simp only [ho, resolve, invoke, builtin, Sem.run_bind, Sem.run_pure, Result.andThen_ok, List.map_toArray, List.map_cons, List.map_nil, hv, hr]
  have hB' : ∀ b, Hb v' b ↔ v'.ownBlock = some b := fun b => Hb_own h2 b
  have hBi : ∀ b, Hb (H i) b ↔ (H i).ownBlock = some b := fun b => Hb_own hown b
  have hext : Ext (fun b => Hb (H i) b) w w' := ⟨h3.os, h3.tape, h3.output, h3.size, fun k hk hne => h3.block k hk (fun e => hne ((hBi _).2 (by first | exact e | exact e.symm)))⟩
  have hnew : ∀ b, Hb v' b → b < w'.heap.size := by
    intro b hb
    rcases h2.2 with ⟨rfl, _⟩ | ⟨g, cap, cur, rfl, _, hg, _⟩
    · simp [Hb, hblk] at hb
    · simp [Hb, hblk] at hb
      subst hb
      exact (Array.getElem?_eq_some_iff.1 hg).1
  have hig' : i < given := Nat.blt_eq.mp hig
  have hI : ∀ j, Iof mm j → Iof (updM mm i (.arr false e ei.size (xs ++ ys))) j := fun j hj => (updM_ids j).2 hj
  refine ⟨v', w', hrun, upd H i v', Z, ?_⟩
  rw [hd]
  refine hm.build (fun b => Hb (H i) b) hext (fun b _ hb => ⟨_, getM_mem hi, hb⟩) (by simpa [Act.put] using hm.defers) (by simp [Act.put, hm.size]) ?_ ?_ ?_ ?_ ?_
  · intro p hp hpg
    have hpi : p.1 ≠ i := by omega
    rw [upd_ne _ _ hpi]
    rcases updM_mem p hp with ⟨rfl, _⟩ | ⟨k1, _⟩
    · exact absurd rfl hpi
    · exact hm.hg p k1 hpg
  · intro p hp q hq he
    rcases updM_mem p hp with ⟨rfl, _⟩ | ⟨k1, k2⟩ <;> rcases updM_mem q hq with ⟨rfl, _⟩ | ⟨k1', k2'⟩
    · rfl
    · exact absurd he.symm k2'
    · exact absurd he k2
    · exact hm.ids p k1 q k1' he
  · intro p hp
    rcases updM_mem p hp with ⟨rfl, _⟩ | ⟨k1, k2⟩
    · refine .inr ⟨fun b hb => ?_, fun hMM hfr => ?_⟩
      · rw [upd_self] at hb
        rcases h5 with h5 | h5
        · exact .inr ⟨_, getM_mem hi, (hBi b).2 (by rw [← h5]; exact (hB' b).1 hb), .inl rfl⟩
        · refine .inl ⟨?_, hnew b hb⟩
          replace hb := (hB' b).1 hb; rw [h5] at hb; injection hb with hb; omega
      · refine ⟨hZ, us ++ news, by rw [upd_self, List.length_append]; exact h2, (fun h => by cases h), fun q hq => ?_, fun k q hk j ct hc => ?_⟩
        · rcases List.mem_append.1 hq with hq | hq
          · exact hlen q hq
          · exact hylen q hq
        · have hul : us.length = xs.length * ei.size := hown.1
          rw [List.getElem?_append] at hk
          split at hk
          · rename_i hkl
            obtain ⟨u, hu, hr⟩ := hrep k q hk j ct hc
            refine ⟨u, ?_, RepC.mono hr h3.size hfr hMM⟩
            rw [List.getElem?_append_left (List.getElem?_eq_some_iff.1 hu).1]
            exact hu
          · rename_i hkl
            obtain ⟨u, hu, hr⟩ := hyrep _ q hk j ct hc
            refine ⟨u, ?_, RepC.mono hr h3.size hfr hMM⟩
            have hle : xs.length * ei.size ≤ k * ei.size := Nat.mul_le_mul_right _ (by omega)
            rw [List.getElem?_append_right (by rw [hul]; omega), hul]
            rw [Nat.sub_mul] at hu
            rw [← hu]; congr 1; omega
    · refine .inl ⟨k1, upd_ne _ _ k2, rfl, fun b hb hx => ?_, fun j hj hij => ⟨hI j hij, upd_ne _ _ (fun e => ?_), rfl⟩⟩
      · exact hm.sep p k1 _ (getM_mem hi) k2 b hb hx
      · subst e; exact noUse_spec hno k1 hj
  · intro p hp q hq hpq b hpb hqb
    have key : ∀ p ∈ mm, p.1 ≠ i → Hb (H p.1) b → Hb v' b → False := by
      intro p hp hpi h1 h2
      rcases h5 with h5 | h5
      · exact hm.sep p hp _ (getM_mem hi) hpi b h1 ((hBi b).2 (by rw [← h5]; exact (hB' b).1 h2))
      · replace h2 := (hB' b).1 h2; rw [h5] at h2
        injection h2 with h2
        have := (hm.fresh p hp b h1).2
        omega
    rcases updM_mem p hp with ⟨rfl, _⟩ | ⟨k1, k2⟩ <;> rcases updM_mem q hq with ⟨rfl, _⟩ | ⟨k1', k2'⟩
    · exact hpq rfl
    · rw [upd_self] at hpb; rw [upd_ne _ _ k2'] at hqb
      exact key q k1' k2' hqb hpb
    · rw [upd_self] at hqb; rw [upd_ne _ _ k2] at hpb
      exact key p k1 k2 hpb hqb
    · rw [upd_ne _ _ k2] at hpb; rw [upd_ne _ _ k2'] at hqb
      exact hm.sep p k1 q k1' hpq b hpb hqb
  · intro p hp
    rcases List.mem_cons.1 hp with rfl | hp
    · refine .inr fun _ _ => ?_
      rw [put_self (by rw [hm.size]; exact Nat.blt_eq.mp hn)]
      exact ⟨hI i ⟨_, getM_mem hi, rfl⟩, (upd_self _ _ _).symm⟩
    · obtain ⟨h1, h2'⟩ := delL_mem hp
      obtain ⟨h3', h4⟩ := dropU_mem h1
      exact .inl ⟨p, h3', rfl, put_other h2', fun j hj hij => ⟨hI j hij, upd_ne _ _ (fun e => h4 (e ▸ hj)), rfl⟩⟩
theorem op_appendF {Θ : Tab} (hΘ : tabOK C.P Θ) {t : TypeId} {x y : Operand} {z bts e : Nat} {ag : Bool} {zt : Option (List CT)} {ei : TyI} {zr : List CT} {i : Nat} {nn nn' : Bool} {sz : Nat} {xs ys : List (List CT)}
    (ho : o.op = .call { callee := .builtin .append, args := ⟨[x, y]⟩, argTypes := ⟨[t, t]⟩ }) (ht : tyGet Θ t = some ⟨z, bts, ag, zt, .slice e⟩) (hei : tyGet Θ e = some ei) (hz : ei.zero = some zr)
    (hsz : Nat.beq ei.size sz = true) (hs0 : Nat.blt 0 ei.size = true) (hx : evalC tm x = some (.own i)) (hi : getM mm i = some (.arr nn e sz xs)) (hy : evalC tm y = some (.c (.slice nn' sz ys)))
    (hig : Nat.blt i given = true) (hno : noUse i mm = true) (hd : o.dst = some d) (hn : Nat.blt d n = true)
    (hbig : xs.length + ys.length ≤ 9223372036854775807 ∧ (xs.length + ys.length) * ei.bytes ≤ 140737488355328) :
    OpR C n o tm mm ((d, .v (.one (.own i))) :: delL (dropU i tm) d) (updM mm i (.arr false e sz (xs ++ ys))) := by
  intro a w ⟨H, Z, hm⟩
  obtain ⟨v', w', h1, h2⟩ := append_core hΘ ho ht hei hz hsz hs0 hi hbig hig hno hd hn hm (evalC_rep hm hx).2 (evalC_rep hm hy) (fun _ _ _ _ _ h => h)
  exact .inl ⟨v', w', h1, h2⟩
theorem op_appendN {Θ : Tab} (hΘ : tabOK C.P Θ) {t : TypeId} {x y : Operand} {z bts e : Nat} {ag : Bool} {zt : Option (List CT)} {ei : TyI} {zr : List CT} (i : Nat) {nn' : Bool} {sz : Nat} {ys : List (List CT)}
    (ho : o.op = .call { callee := .builtin .append, args := ⟨[x, y]⟩, argTypes := ⟨[t, t]⟩ }) (ht : tyGet Θ t = some ⟨z, bts, ag, zt, .slice e⟩) (hei : tyGet Θ e = some ei) (hz : ei.zero = some zr)
    (hsz : Nat.beq ei.size sz = true) (hs0 : Nat.blt 0 ei.size = true) (hx : evalC tm x = some (.c .nils)) (hy : evalC tm y = some (.c (.slice nn' sz ys)))
    (hig : Nat.blt i given = true) (hf : hasI mm i = false) (hno : noUse i ((i, .arr false e sz []) :: mm) = true) (hd : o.dst = some d) (hn : Nat.blt d n = true)
    (hbig : ys.length ≤ 9223372036854775807 ∧ ys.length * ei.bytes ≤ 140737488355328) :
    OpR C n o tm mm ((d, .v (.one (.own i))) :: delL (dropU i tm) d) ((i, .arr false e sz ys) :: mm) := by
  intro a w ⟨H, Z, hm⟩
  have h0 := hm.adopt0 i e sz hig hf
  have hnil : a.eval x = Sy.upd H i (.slice none 0 0) i := by rw [upd_self]; exact RepC.nils_inv (evalC_rep hm hx)
  have hyr : RepC w (Mof C (Sy.upd H i (.slice none 0 0)) ((i, .arr false e sz []) :: mm)) (a.eval y) (.slice nn' sz ys) := evalC_rep h0 hy
  obtain ⟨v', w', h1, h2⟩ := append_core hΘ ho ht hei hz hsz hs0 (nn := false) (xs := []) (by simp [getM]) (by simpa using hbig) hig hno hd hn h0 hnil hyr (fun _ _ _ _ _ h => h)
  refine .inl ⟨v', w', h1, ?_⟩
  have hni : ∀ l : MM, hasI l i = false → updM l i (.arr false e sz ys) = l := by
    intro l
    induction l with
    | nil => intro _; rfl
    | cons p l ih =>
      obtain ⟨q, o'⟩ := p
      intro h
      have hne : Nat.beq q i = false := by
        cases hb : Nat.beq q i with
        | false => rfl
        | true => simp [hasI, getM, hb] at h
      simp only [hasI, getM, hne] at h
      simp only [updM, hne]
      rw [ih (by simpa [hasI] using h)]
  have : updM ((i, .arr false e sz []) :: mm) i (.arr false e sz ([] ++ ys)) = (i, .arr false e sz ys) :: mm := by
    simp only [List.nil_append]
    have : Nat.beq i i = true := Nat.beq_refl i
    simp only [updM, this]
    first | rfl | rw [hni mm hf]
  rw [← this]
  exact h2
end
end Go.Sy
namespace Go.Sy
open Go.RowKit
section
variable {C : Ctx} {n : Nat} {tmr : TM} {mm : MM} {o : Oper} {d : Nat}
theorem op_lit {Θ : Tab} (hΘ : tabOK C.P Θ) {t : TypeId} {z bts e len : Nat} {ag : Bool} {zt : Option (List CT)} {ei : TyI} {zr : List CT} {parts : Array (Nat × Operand)} {r : List SC} {cts : List CT} {xs : List (List CT)} {ct : CT}
    (ho : o.op = .buildSlice t len parts) (ht : tyGet Θ t = some ⟨z, bts, ag, zt, .slice e⟩) (hei : tyGet Θ e = some ei) (hz : ei.zero = some zr)
    (hb : Nat.ble (len * ei.size) 16777216 = true) (hs0 : Nat.blt 0 ei.size = true)
    (hl : layL (fun i => some (i * ei.size, ei.size)) tmr (anyL (len * ei.size)) parts.toList = some r) (hc : ctsOf r = some cts) (hx : chunkL ei.size len cts = some xs)
    (hle : LeC (.slice true ei.size xs) ct) (hd : o.dst = some d) (hn : Nat.blt d n = true) :
    OpX C n mm o tmr d (.v (.one (.c ct))) := by
  refine ⟨⟨hd, hn⟩, fun tm' hs => OpR.wp ?_⟩
  intro a w ⟨H, Z, hm'⟩
  have hm := hm'.sub hs
  obtain ⟨inf, de, hf⟩ := tyF hΘ ht
  obtain ⟨inf', de', hf'⟩ := tyF hΘ hei
  obtain ⟨zv, hzv, hzc, hzl⟩ := hf'.zero zr hz
  obtain ⟨h1, h2⟩ := zchk_cells (w := w) (M := Mof C H mm) hzc
  have hde : de = .slice e := by
    have := hf.sh
    cases de <;> simp [shChk] at this ⊢
    exact this
  subst hde
  have hbl : len * ei.size ≤ 16777216 := Nat.ble_eq.mp hb
  have hs0' : 0 < ei.size := Nat.blt_eq.mp hs0
  have hzcs : zv.cells.size = ei.size := by rw [h1, hzl]
  let init : Array Value := (Array.range (len * ei.size)).map ((if len * ei.size = 0 then #[] else zv.cells)[· % (if len * ei.size = 0 then #[] else zv.cells).size]!)
  have hp : Pw (fun u c => u.oneCell' = true ∧ RepSC (Iof mm) H Z w (Mof C H mm) u c) init.toList (anyL (len * ei.size)) := by
    rw [anyL_eq]
    refine ⟨by simp [init], fun j c hc => ?_⟩
    have hj : j < len * ei.size := by
      have := (List.getElem?_eq_some_iff.1 hc).1
      simpa using this
    rw [List.getElem?_replicate, if_pos hj] at hc
    injection hc with hc; subst hc
    have hne : len * ei.size ≠ 0 := by omega
    refine ⟨zv.cells[j % zv.cells.size]!, by simp [init, hj, hne], ?_, trivial⟩
    have hlt : j % zv.cells.size < zv.cells.size := Nat.mod_lt _ (by rw [hzcs]; exact hs0')
    have hlt' : j % zv.cells.size < zr.length := by rw [← h1]; exact hlt
    obtain ⟨u, hu, hr⟩ := h2 (j % zv.cells.size) zr[j % zv.cells.size] (List.getElem?_eq_getElem hlt')
    rw [getElem!_def, hu]
    exact hr.one
  obtain ⟨vs', g1, g2⟩ := layL_fill hm _ parts.toList _ _ r hp hl
  have g3 : Pw (fun u c => RepC w (Mof C H mm) u c) vs'.toList cts := ctsOf_pw hc (g2.mono fun _ _ _ h => h.2)
  obtain ⟨c1, c2, c3, c4⟩ := chunkL_spec _ hx
  have hvl : vs'.size = len * ei.size := by have := g3.1; rw [c3] at this; simpa using this
  have hrun : (execOp a.eval o).run C.P w = .ok (.value (.slice (some ⟨w.heap.size, 0, none⟩) len len)) (w.alloc (.cells vs' e)) := by
    have hfill : Instr.fill (fun i => some (i * ei.size, ei.size)) init (parts.map fun (i, x) => (i, a.eval x)).toList = some vs' := by
      rw [← g1, Array.toList_map]
    simp only [execOp, ho, Instr.buildSlice, Sem.run_bind, hf.underlying, Result.andThen_ok, hf'.sizeOf]
    rw [if_neg (by omega)]
    simp only [init] at hfill
    by_cases h0 : len * ei.size = 0
    · rw [if_pos h0] at hfill
      rw [if_pos h0]
      simp only [Sem.run_bind, Sem.run_pure, Result.andThen_ok, hfill]
      simp [newRow, newObj, Sem.run]
    · rw [if_neg h0] at hfill
      rw [if_neg h0]
      simp only [Sem.run_bind, Sem.run_pure, Result.andThen_ok, hf'.zeroValue hzv, hfill]
      simp [newRow, newObj, Sem.run]
  have hlen : len ≤ maxLen := by
    have : len ≤ len * ei.size := Nat.le_mul_of_pos_right _ hs0'
    simp only [maxLen]; omega
  have hMlt : ∀ b, Mof C H mm b → b < w.heap.size := by
    rintro b (hb | ⟨p, hp, hpb⟩)
    · exact Nat.lt_of_lt_of_le (hm.m0 b hb) hm.ext.size
    · exact (hm.fresh p hp b hpb).2
  have hsz' : (w.alloc (.cells vs' e)).heap.size = w.heap.size + 1 := by show (w.heap.push _).size = _; rw [Array.size_push]
  have hrep : RepC (w.alloc (.cells vs' e)) (Mof C H mm) (.slice (some ⟨w.heap.size, 0, none⟩) len len) (.slice true ei.size xs) := by
    refine .slice (fun k j => (vs'.toList[k * ei.size + j]?).getD undef) c1.symm (Nat.le_refl _) hlen (fun _ => rfl) c2 (fun _ => ⟨_, rfl, rfl, by rw [hsz']; exact Nat.lt_succ_self _, fun hM => absurd (hMlt _ hM) (Nat.lt_irrefl _), fun k x hk j c hc => ?_⟩) (fun k x hk j c hc => ?_)
    · obtain ⟨u, hu, _⟩ := g3.2 _ c (c4 k x hk j c hc)
      rw [hu]
      exact World.ownsRow.cells (World.ownsRow_lit (base := 0) (e := e) (size := ei.size) w vs' len (Nat.zero_le _) hlen hvl) rfl _ _ hu
    · obtain ⟨u, hu, hrep⟩ := g3.2 _ c (c4 k x hk j c hc)
      rw [hu]
      exact hrep.mono (alloc_ext w _).size (fun b hb _ => (alloc_ext w (.cells vs' e)).block b hb (fun h => h)) (fun _ _ h => h)
  refine .inl ⟨_, _, hrun, H, Z, ?_⟩
  rw [hd]
  refine hm'.build (fun _ => False) (alloc_ext w _) (fun _ _ h => h.elim) (by simpa [Act.put] using hm.defers) (by simp [Act.put, hm.size]) hm.hg hm.ids
    (fun p hp => .inl ⟨hp, rfl, rfl, fun _ _ h => h, fun _ _ hj => ⟨hj, rfl, rfl⟩⟩) hm.sep (fun p hp => ?_)
  rcases List.mem_cons.1 hp with rfl | hp
  · refine .inr fun _ _ => ?_
    rw [put_self (by rw [hm.size]; exact Nat.blt_eq.mp hn)]
    exact hle.rep hrep
  · obtain ⟨h1, h2'⟩ := delL_mem hp
    exact .inl ⟨p, h1, rfl, put_other h2', fun _ _ hj => ⟨hj, rfl, rfl⟩⟩
end
section
variable {C : Ctx} {n : Nat} {mm0 : MM} {L l : List Oper} {tm0 tm : TM} {R : List Rec} {i : Nat} {o : Oper} {d t : Nat} {T : TM → MM → Prop} {x y : Operand} {ty ty' : TypeId} {mm : MM}
theorem s_appendF {Θ : Tab} (hΘ : tabOK C.P Θ) {t : TypeId} {x y : Operand} {z bts e : Nat} {ag : Bool} {zt : Option (List CT)} {ei : TyI} {zr : List CT} {i : Nat} {nn nn' : Bool} {sz : Nat} {xs ys : List (List CT)} {T : TM → MM → Prop}
    (ho : o.op = .call { callee := .builtin .append, args := ⟨[x, y]⟩, argTypes := ⟨[t, t]⟩ }) (ht : tyGet Θ t = some ⟨z, bts, ag, zt, .slice e⟩) (hei : tyGet Θ e = some ei) (hz : ei.zero = some zr)
    (hsz : Nat.beq ei.size sz = true) (hs0 : Nat.blt 0 ei.size = true) (hx : evalC tm x = some (.own i)) (hi : getM mm i = some (.arr nn e sz xs)) (hy : evalC tm y = some (.c (.slice nn' sz ys)))
    (hig : Nat.blt i given = true) (hno : noUse i mm = true) (hd : o.dst = some d) (hn : Nat.blt d n = true) (hg : guardL L tm o = some true)
    (hbig : xs.length + ys.length ≤ 9223372036854775807 ∧ (xs.length + ys.length) * ei.bytes ≤ 140737488355328)
    (g : SOps C n L.toArray l ((d, .v (.one (.own i))) :: delL (dropU i tm) d) (updM mm i (.arr false e sz (xs ++ ys))) T) : SOps C n L.toArray (o :: l) tm mm T :=
  s_step (op_appendF hΘ ho ht hei hz hsz hs0 hx hi hy hig hno hd hn hbig).wp hg g
theorem s_appendN {Θ : Tab} (hΘ : tabOK C.P Θ) {t : TypeId} {x y : Operand} {z bts e : Nat} {ag : Bool} {zt : Option (List CT)} {ei : TyI} {zr : List CT} (i : Nat) {nn' : Bool} {sz : Nat} {ys : List (List CT)} {T : TM → MM → Prop}
    (ho : o.op = .call { callee := .builtin .append, args := ⟨[x, y]⟩, argTypes := ⟨[t, t]⟩ }) (ht : tyGet Θ t = some ⟨z, bts, ag, zt, .slice e⟩) (hei : tyGet Θ e = some ei) (hz : ei.zero = some zr)
    (hsz : Nat.beq ei.size sz = true) (hs0 : Nat.blt 0 ei.size = true) (hx : evalC tm x = some (.c .nils)) (hy : evalC tm y = some (.c (.slice nn' sz ys)))
    (hig : Nat.blt i given = true) (hf : hasI mm i = false) (hno : noUse i ((i, .arr false e sz []) :: mm) = true) (hd : o.dst = some d) (hn : Nat.blt d n = true) (hg : guardL L tm o = some true)
    (hbig : ys.length ≤ 9223372036854775807 ∧ ys.length * ei.bytes ≤ 140737488355328)
    (g : SOps C n L.toArray l ((d, .v (.one (.own i))) :: delL (dropU i tm) d) ((i, .arr false e sz ys) :: mm) T) : SOps C n L.toArray (o :: l) tm mm T :=
  s_step (op_appendN hΘ i ho ht hei hz hsz hs0 hx hy hig hf hno hd hn hbig).wp hg g
theorem s_assignAny {T : TM → MM → Prop} (ho : o.op = .assign x) (hd : o.dst = some d) (hn : Nat.blt d n = true) (hg : guardL L tm o = some true)
    (k : SOps C n L.toArray l ((d, .v (.one .any)) :: delL tm d) mm T) : SOps C n L.toArray (o :: l) tm mm T :=
  s_step (OpV.wp (OpV.val hd hn (.v (.one .any)) fun H Z a w hm => ⟨a.eval x, by simp [execOp, ho, Sem.run_pure], trivial⟩)) hg k
theorem s_callN {g : FuncId} {args : List SV} {cs : List CT} {T : TM → MM → Prop} (hc : ConN C.P g args cs) {xs : Array Operand} {ts : Array TypeId}
    (ho : o.op = .call { callee := .value (.func g), args := xs, argTypes := ts }) (hargs : evalArgs tm xs.toList = some args) (hren : renVs [] args = some args)
    (hi : getM mm d = none) (hd : o.dst = some d) (hn : Nat.blt d n = true) (hg : guardL L tm o = some true)
    (k : SOps C n L.toArray l ((d, .v (.one (.ptr d 0))) :: delL tm d) ((d, .box (cs.map SC.c)) :: mm) T) : SOps C n L.toArray (o :: l) tm mm T :=
  s_step (op_callN hc ho hargs hren hi hd hn) hg k
end
def EndE (Q : ST → Prop) (H : Nat → Value) (Z : Nat → Nat) (pre post : List (List CT)) (w : World) (M0 : Nat → Prop) (e : Ending) (w' : World) : Prop :=
  ∃ res, Q res ∧ EndR H Z pre post w M0 res e w'
structure ConQ (P : Program) (f : FuncId) (pre : List (List CT)) (args : List SV) (Q : ST → Prop) (post : List (List CT)) : Prop where
  ok : CallOK P f
  calls : ∀ (w : World) (M0 : Nat → Prop) (H : Nat → Value) (Z : Nat → Nat) (vs : List Value), Pre w M0 H Z (preMM given pre) →
    Pw (fun v s => RepSV (Iof (preMM given pre)) H Z w (fun b => M0 b ∨ blksOf H (preMM given pre) b) v s) vs args →
    Calls P f vs.toArray w (EndE Q H Z pre post w M0)
section
variable {C : Ctx} {n : Nat} {tm : TM} {mm : MM} {L l : List Oper} {T : TM → MM → Prop} {o : Oper} {d : Nat}
end
end Go.Sy
namespace Go.Sy
open Go.RowKit
section
variable {C : Ctx} {n : Nat} {tm : TM} {mm : MM} {L l : List Oper} {T : TM → MM → Prop} {o : Oper} {d : Nat} {f : FuncId} {R : Ending → World → Prop} {k : List Item}
theorem Has.anyB {i j : Nat} {cs : List SC} (hi : getM mm i = some (.box cs)) {a : Act} {w : World} (h : Has C n tm mm a w) :
    Has C n tm (updM mm i (.box (setL cs j .any))) a w := by
  obtain ⟨H, Z, hm⟩ := h
  obtain ⟨b, ty, vs, h1, h2, h3, h4⟩ := hm.mem _ (getM_mem hi)
  have hI : ∀ q, Iof mm q → Iof (updM mm i (.box (setL cs j .any))) q := fun q hq => (updM_ids q).2 hq
  refine ⟨H, Z, hm.upd (b0 := b) ⟨_, getM_mem hi, rfl⟩ (by rw [show H i = _ from h1]; rfl) (Ext.refl _ _) hm.defers hm.size ?_ (fun q hq => ⟨hq, rfl⟩)⟩
  intro hMM hfr
  refine ⟨b, ty, vs, h1, h2, by rw [setL_eq]; simpa using h3, fun j' c hc => ?_⟩
  rw [setL_eq, List.getElem?_set] at hc
  split at hc
  · rename_i hjj
    subst hjj
    split at hc
    · rename_i hlt
      injection hc with hc
      subst hc
      obtain ⟨u, hu, ho, _⟩ := h4 j _ (List.getElem?_eq_getElem hlt)
      exact ⟨u, hu, ho, trivial⟩
    · cases hc
  · obtain ⟨u', hu', ho', hr'⟩ := h4 j' c hc
    exact ⟨u', hu', ho', hr'.mono (fun q _ hq => ⟨hI q hq, rfl, rfl⟩) (Nat.le_refl _) (fun _ _ _ => rfl) hMM⟩
theorem s_anyB (i j : Nat) {cs : List SC} (hi : getM mm i = some (.box cs)) (g : SOps C n L.toArray l tm (updM mm i (.box (setL cs j .any))) T) : SOps C n L.toArray l tm mm T :=
  g.mono fun _ _ h => h.anyB hi
end
end Go.Sy
namespace Go.Sy
open Go.RowKit
theorem Con.le {P : Program} {f : FuncId} {pre post : List (List CT)} {args : List SV} {res res' : ST} (h : Con P f pre args res post) (hl : LeT res res') : Con P f pre args res' post :=
  ⟨h.ok, fun w M0 H Z vs hp hv => (h.calls w M0 H Z vs hp hv).mono fun _ _ ⟨v, h1, h2, h3, h4⟩ => ⟨v, h1, h2, h3, hl.rep h4⟩⟩
theorem LeCs.get2 : ∀ {x y : List CT}, LeCs x y → x.length = y.length ∧ ∀ (j : Nat) (c d : CT), x[j]? = some c → y[j]? = some d → LeC c d
  | _, _, .nil => ⟨rfl, fun j c d h _ => by simp at h⟩
  | _, _, .cons h k => by
    obtain ⟨k1, k2⟩ := k.get2
    refine ⟨by simp [k1], fun j c d hc hd => ?_⟩
    cases j with
    | zero => simp at hc hd; subst hc hd; exact h
    | succ j => exact k2 j c d (by simpa using hc) (by simpa using hd)
theorem LeX.get2 : ∀ {xs ys : List (List CT)}, LeX xs ys → xs.length = ys.length ∧ ∀ (i : Nat) (x y : List CT), xs[i]? = some x → ys[i]? = some y → x.length = y.length ∧ ∀ (j : Nat) (c d : CT), x[j]? = some c → y[j]? = some d → LeC c d
  | _, _, .refl l => ⟨rfl, fun i x y hx hy => by
      rw [hx] at hy; injection hy with hy; subst hy
      exact ⟨rfl, fun j c d hc hd => by rw [hc] at hd; injection hd with hd; subst hd; exact .refl _⟩⟩
  | _, _, .nil => ⟨rfl, fun i x y h _ => by simp at h⟩
  | _, _, .cons h k => by
    obtain ⟨k1, k2⟩ := k.get2
    refine ⟨by simp [k1], fun i x y hx hy => ?_⟩
    cases i with
    | zero => simp at hx hy; subst hx hy; exact h.get2
    | succ i => exact k2 i x y (by simpa using hx) (by simpa using hy)
  | _, _, .append (a := a) (b := b) h k => by
    obtain ⟨h1, h2⟩ := h.get2
    obtain ⟨k1, k2⟩ := k.get2
    refine ⟨by simp [h1, k1], fun i x y hx hy => ?_⟩
    by_cases hi : i < a.length
    · rw [List.getElem?_append_left hi] at hx
      rw [List.getElem?_append_left (by omega)] at hy
      exact h2 i x y hx hy
    · rw [List.getElem?_append_right (by omega)] at hx
      rw [List.getElem?_append_right (by omega)] at hy
      rw [← h1] at hy
      exact k2 _ x y hx hy
theorem le_deep {nn : Bool} {sz : Nat} {xs ys : List (List CT)} (h : LeX xs ys) : LeC (.slice nn sz xs) (.slice nn sz ys) :=
  .deep h.get2.1 (fun i x y hx hy => (h.get2.2 i x y hx hy).1) (fun i j x y c d hx hy hc hd => (h.get2.2 i x y hx hy).2 j c d hc hd)
section
variable {C : Ctx} {n : Nat} {tm : TM} {mm : MM} {L l : List Oper} {T : TM → MM → Prop} {o : Oper} {d : Nat} {f : FuncId} {R : Ending → World → Prop} {k : List Item}
theorem Has.leB {i j : Nat} {cs : List SC} {x y : CT} (hi : getM mm i = some (.box cs)) (hj : nthC cs j = some (.c x)) (hle : LeC x y) {a : Act} {w : World} (h : Has C n tm mm a w) :
    Has C n tm (updM mm i (.box (setL cs j (.c y)))) a w := by
  obtain ⟨H, Z, hm⟩ := h
  rw [nthC_eq] at hj
  obtain ⟨b, ty, vs, h1, h2, h3, h4⟩ := hm.mem _ (getM_mem hi)
  obtain ⟨u, hu, ho, hr⟩ := h4 j _ hj
  have hI : ∀ q, Iof mm q → Iof (updM mm i (.box (setL cs j (.c y)))) q := fun q hq => (updM_ids q).2 hq
  have hjl := (List.getElem?_eq_some_iff.1 hj).1
  refine ⟨H, Z, hm.upd (b0 := b) ⟨_, getM_mem hi, rfl⟩ (by rw [show H i = _ from h1]; rfl) (Ext.refl _ _) hm.defers hm.size ?_ (fun q hq => ⟨hq, rfl⟩)⟩
  intro hMM hfr
  refine ⟨b, ty, vs, h1, h2, by rw [setL_eq]; simpa using h3, fun j' c hc => ?_⟩
  rw [setL_eq, List.getElem?_set] at hc
  split at hc
  · rename_i hjj
    subst hjj
    injection hc with hc
    subst hc
    exact ⟨u, hu, ho, RepC.mono (hle.rep hr) (Nat.le_refl _) (fun _ _ _ => rfl) hMM⟩
  · obtain ⟨u', hu', ho', hr'⟩ := h4 j' c hc
    exact ⟨u', hu', ho', hr'.mono (fun q _ hq => ⟨hI q hq, rfl, rfl⟩) (Nat.le_refl _) (fun _ _ _ => rfl) hMM⟩
end
end Go.Sy
namespace Go.Sy
open Go.RowKit
section
variable {C : Ctx} {n : Nat} {tm : TM} {mm : MM} {L l : List Oper} {T : TM → MM → Prop} {o : Oper} {d : Nat}
end
end Go.Sy
namespace Go.Sy
open Go.RowKit
theorem dropU_in {i : Nat} {p : Nat × ST} (hn : i ∉ p.2.uses) : ∀ {l : TM}, p ∈ l → p ∈ dropU i l
  | [], h => by cases h
  | (t, s) :: r, h => by
    unfold dropU
    split
    · rename_i hm
      rcases List.mem_cons.1 h with rfl | h
      · exact absurd (memN_iff.1 hm) hn
      · exact dropU_in hn h
    · rcases List.mem_cons.1 h with rfl | h
      · exact List.mem_cons_self
      · exact List.mem_cons_of_mem _ (dropU_in hn h)
section
variable {C : Ctx} {n : Nat} {mm0 mm : MM} {L l : List Oper} {tm0 tm : TM} {R : List Rec} {i : Nat} {o : Oper} {d t : Nat} {T : TM → MM → Prop} {x y : Operand} {s : ST}
end
end Go.Sy
namespace Go.Sy
open Go.RowKit
theorem RepC.take {w : World} {M : Nat → Prop} {a : Option Addr} {len cap : Nat} {nn : Bool} {sz : Nat} {xs : List (List CT)} (h : RepC w M (.slice a len cap) (.slice nn sz xs)) {j : Nat} (hj : j ≤ xs.length) :
    RepC w M (.slice a j cap) (.slice nn sz (xs.take j)) := by
  cases h with
  | slice u hlen hcap hmax hnn hsz had hrep =>
    have hget : ∀ (i : Nat) (y : List CT), (xs.take j)[i]? = some y → xs[i]? = some y := fun i y hy => by
      rw [List.getElem?_take] at hy
      split at hy
      · exact hy
      · cases hy
    exact .slice u (by simp; omega) (by omega) hmax hnn (fun y hy => hsz y (List.mem_of_mem_take hy)) (fun hp => by
      obtain ⟨ad, h1, h2, h3, h4, h5⟩ := had (by simp at hp; omega)
      exact ⟨ad, h1, h2, h3, h4, fun i y hy => h5 i y (hget i y hy)⟩) (fun i y hy => hrep i y (hget i y hy))
theorem RepC.drop {w : World} {M : Nat → Prop} {a : Option Addr} {len cap : Nat} {nn : Bool} {sz : Nat} {xs : List (List CT)} (h : RepC w M (.slice a len cap) (.slice nn sz xs)) {j : Nat} (hj : j ≤ xs.length) :
    RepC w M (.slice (if cap = j then a else a.map (·.add (j * sz))) (len - j) (cap - j)) (.slice nn sz (xs.drop j)) := by
  cases h with
  | slice u hlen hcap hmax hnn hsz had hrep =>
    refine .slice (fun i q => u (j + i) q) (by simp; omega) (by omega) (by omega) (fun h => ?_) (fun y hy => hsz y (List.mem_of_mem_drop hy)) (fun hp => ?_) (fun i y hy q c hc => ?_)
    · have := hnn h
      split
      · exact this
      · cases a with
        | none => exact this
        | some ad => rfl
    · simp at hp
      obtain ⟨ad, rfl, h2, h3, h4, h5⟩ := had (by omega)
      rw [if_neg (by omega)]
      refine ⟨ad.add (j * sz), rfl, add_spot h2 _, by rw [add_block]; exact h3, by rw [add_block]; exact h4, fun i y hy q c hc => ?_⟩
      rw [add_add, show j * sz + (i * sz + q) = (j + i) * sz + q by rw [Nat.add_mul]; omega]
      rw [List.getElem?_drop] at hy
      exact h5 (j + i) y hy q c hc
    · rw [List.getElem?_drop] at hy
      exact hrep (j + i) y hy q c hc
section
variable {C : Ctx} {n : Nat} {tm : TM} {mm : MM} {o : Oper} {d : Nat}
end
section
variable {C : Ctx} {n : Nat} {mm0 : MM} {L l : List Oper} {tm0 tm : TM} {R : List Rec} {i : Nat} {o : Oper} {d t : Nat} {T : TM → MM → Prop} {x y : Operand} {ty ty' : TypeId} {mm : MM}
end
section
variable {C : Ctx} {n : Nat} {tm : TM} {mm : MM} {L l : List Oper} {T : TM → MM → Prop}
theorem s_leT (t : Nat) (s' : ST) {s : ST} (ht : getT tm t = some s) (hle : LeT s s') (g : SOps C n L.toArray l ((t, s') :: delL tm t) mm T) : SOps C n L.toArray l tm mm T := by
  refine g.mono fun a w ⟨H, Z, hm⟩ => ⟨H, Z, { hm with tmps := fun p hp => ?_ }⟩
  rcases List.mem_cons.1 hp with rfl | hp
  · exact hle.rep (hm.tmps _ (getT_mem ht))
  · exact hm.tmps p (delL_mem hp).1
end
end Go.Sy
