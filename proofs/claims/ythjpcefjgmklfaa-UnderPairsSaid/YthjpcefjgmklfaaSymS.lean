/- Symbolic states: append. -/
import Derived.Test.YthjpcefjgmklfaaSymR
import Derived.Maps.AppendAt
namespace Go.Sy
set_option linter.unusedSimpArgs false
set_option linter.unusedVariables false
set_option linter.unusedSectionVars false
open Go.RowKit

/-- What speaks of i is forgotten. -/
def memU : List Nat → Nat → Bool := memN
def dropU (i : Nat) : TM → TM
  | [] => []
  | (t, s) :: r => match memN s.uses i with
    | true => dropU i r
    | false => (t, s) :: dropU i r
theorem dropU_mem {i : Nat} {p : Nat × ST} : ∀ {l : TM}, p ∈ dropU i l → p ∈ l ∧ i ∉ p.2.uses
  | [], h => by cases h
  | (t, s) :: r, h => by
    unfold dropU at h
    split at h
    · obtain ⟨h1, h2⟩ := dropU_mem h; exact ⟨List.mem_cons_of_mem _ h1, h2⟩
    · rename_i hm
      rcases List.mem_cons.1 h with rfl | h
      · exact ⟨List.mem_cons_self, fun hk => by rw [memN_iff.2 hk] at hm; cases hm⟩
      · obtain ⟨h1, h2⟩ := dropU_mem h; exact ⟨List.mem_cons_of_mem _ h1, h2⟩
def noUse (i : Nat) : MM → Bool
  | [] => true
  | (_, o) :: r => match memN o.uses i with
    | true => false
    | false => noUse i r
theorem noUse_spec {i : Nat} {p : Nat × MO} : ∀ {l : MM}, noUse i l = true → p ∈ l → i ∉ p.2.uses
  | [], _, h => by cases h
  | (t, s) :: r, hn, h => by
    unfold noUse at hn
    split at hn
    · cases hn
    · rename_i hm
      rcases List.mem_cons.1 h with rfl | h
      · exact fun hk => by rw [memN_iff.2 hk] at hm; cases hm
      · exact noUse_spec hn h

/-- The elements that are appended, as they lie in memory. -/
def Elems (C : Ctx) (n : Nat) (tm : TM) (mm : MM) (y : Operand) (sz : Nat) (ys : List (List CT)) : Prop :=
  ∀ H Z a w, Mod C H Z n tm mm a w → (∀ q ∈ ys, q.length = sz) ∧ ∃ (ad : Addr) (c : Nat) (news : List Value), a.eval y = .slice (some ad) ys.length c ∧ news.length = ys.length * sz ∧ (∀ (j : Nat) (u : Value), news[j]? = some u → w.cell? (ad.add j) = some u) ∧
    (∀ (k : Nat) (q : List CT), ys[k]? = some q → ∀ (j : Nat) (ct : CT), q[j]? = some ct → ∃ u, news[k * sz + j]? = some u ∧ RepC w (Mof C H mm) u ct)

section
variable {C : Ctx} {n : Nat} {tm : TM} {mm : MM} {o : Oper} {d : Nat}

theorem one_of_elems {w : World} {M : Nat → Prop} {sz : Nat} {ys : List (List CT)} {news : List Value} (h0 : ∀ q ∈ ys, q.length = sz) (hl : news.length = ys.length * sz)
    (h : ∀ (k : Nat) (q : List CT), ys[k]? = some q → ∀ (j : Nat) (ct : CT), q[j]? = some ct → ∃ u, news[k * sz + j]? = some u ∧ RepC w M u ct) : ∀ u ∈ news, u.oneCell' = true := by
  intro u hu
  obtain ⟨m, hm, hmu⟩ := List.mem_iff_getElem.1 hu
  have hsz : 0 < sz := by
    rcases Nat.eq_zero_or_pos sz with h | h
    · subst h; omega
    · exact h
  have hk : m / sz < ys.length := by rw [Nat.div_lt_iff_lt_mul hsz]; omega
  have hj : m % sz < ys[m / sz].length := by rw [h0 _ (List.getElem_mem hk)]; exact Nat.mod_lt _ hsz
  obtain ⟨u', hu', hr⟩ := h (m / sz) ys[m / sz] (List.getElem?_eq_getElem hk) (m % sz) _ (List.getElem?_eq_getElem hj)
  have e : m / sz * sz + m % sz = m := by rw [Nat.mul_comm]; exact Nat.div_add_mod m sz
  rw [e, List.getElem?_eq_getElem hm, hmu] at hu'
  injection hu' with hu'
  rw [hu']; exact hr.one

theorem elems_own {y : Operand} {k e sz : Nat} {ys : List (List CT)} (hy : evalC tm y = some (.own k)) (hk : getM mm k = some (.arr true e sz ys)) : Elems C n tm mm y sz ys := by
  intro H Z a w hm
  obtain ⟨_, hv⟩ := evalC_rep hm hy
  obtain ⟨hz, us, hown, hnn, hlen, hrep⟩ := hm.mem _ (getM_mem hk)
  rcases hown.2 with ⟨h0, _⟩ | ⟨g, cap, cur, hg, h2⟩
  · exact absurd h0 (hnn rfl)
  · refine ⟨hlen, ⟨g, 0, none⟩, cap, us, by rw [hv, hg], hown.1, fun j u hu => ?_, hrep⟩
    exact World.ownsRow.cells hown (by rw [hg]; rfl) j u hu

theorem op_append {Θ : Tab} (hΘ : tabOK C.P Θ) {t : TypeId} {x y : Operand} {z bts e : Nat} {ag : Bool} {zt : Option (List CT)} {ei : TyI} {zr : List CT} {i : Nat} {nn : Bool} {sz : Nat} {xs ys : List (List CT)}
    (ho : o.op = .call { callee := .builtin .append, args := ⟨[x, y]⟩, argTypes := ⟨[t, t]⟩ }) (ht : tyGet Θ t = some ⟨z, bts, ag, zt, .slice e⟩) (hei : tyGet Θ e = some ei) (hz : ei.zero = some zr)
    (hsz : Nat.beq ei.size sz = true) (hs0 : Nat.blt 0 ei.size = true) (hx : evalC tm x = some (.own i)) (hi : getM mm i = some (.arr nn e sz xs)) (hy : Elems C n tm mm y sz ys)
    (hbig : xs.length + ys.length ≤ 9223372036854775807 ∧ (xs.length + ys.length) * ei.bytes ≤ 140737488355328) (hig : Nat.blt i given = true) (hno : noUse i mm = true) (hd : o.dst = some d) (hn : Nat.blt d n = true) :
    OpR C n o tm mm ((d, .v (.one (.own i))) :: delL (dropU i tm) d) (updM mm i (.arr false e sz (xs ++ ys))) := by
  intro a w ⟨H, Z, hm⟩
  obtain ⟨inf, de, hf⟩ := tyF hΘ ht
  obtain ⟨inf', de', hf'⟩ := tyF hΘ hei
  obtain ⟨zv, hzv, hzc, hzl⟩ := hf'.zero zr hz
  obtain ⟨hz1, _⟩ := zchk_cells (w := w) (M := Mof C H mm) hzc
  have hde : de = .slice e := by
    have := hf.sh
    cases de <;> simp [shChk] at this ⊢
    exact this
  subst hde
  have hszE : ei.size = sz := Nat.eq_of_beq_eq_true hsz
  subst hszE
  have hs0' : 0 < ei.size := Nat.blt_eq.mp hs0
  obtain ⟨_, hv⟩ := evalC_rep hm hx
  obtain ⟨hZ, us, hown, _, hlen, hrep⟩ := hm.mem _ (getM_mem hi)
  obtain ⟨hylen, ad, c, news, hyv, hnl, hcells, hyrep⟩ := hy H Z a w hm
  obtain ⟨v', w', hr, h2, h3, _, h5⟩ := run_append_own_at (P := C.P) w 0 t o.type e inf' zv ei.size ei.bytes hf.und hf'.info hzv hf'.size hf'.bytes (by rw [hz1, hzl]) hs0' (H i) xs.length us hown ad ys.length c news hnl hcells
    (one_of_elems hylen hnl hyrep) (by simp only [maxLen]; omega) hbig.2 (Nat.zero_le _)
  have hrun : (execOp a.eval o).run C.P w = .ok (.value v') w' := by
    unfold execOp
    simp only [ho, resolve, invoke, builtin, Sem.run_bind, Sem.run_pure, Result.andThen_ok, List.map_toArray, List.map_cons, List.map_nil, hv, hyv, hr]
  have hhb : ∀ (v : Value) {w : World} {m : Nat} {l : List Value}, w.ownsRow 0 e ei.size v m l → hblk v = v.ownBlock := fun v _ _ _ h => hblk_ownBlock h
  have hv'b : hblk v' = v'.ownBlock := hhb v' h2
  have hHib : hblk (H i) = (H i).ownBlock := hhb _ hown
  have hext : Ext (fun b => hblk (H i) = some b) w w' := ⟨h3.os, h3.tape, h3.output, h3.size, fun k hk hne => h3.block k hk (fun e => hne (by rw [hHib]; first | exact e | exact e.symm))⟩
  have hnew : ∀ b, hblk v' = some b → b < w'.heap.size := by
    intro b hb
    rcases h2.2 with ⟨rfl, _⟩ | ⟨g, cap, cur, rfl, _, hg, _⟩
    · simp [hblk] at hb
    · simp [hblk] at hb
      subst hb
      exact (Array.getElem?_eq_some_iff.1 hg).1
  have hig' : i < given := Nat.blt_eq.mp hig
  have hI : ∀ j, Iof mm j → Iof (updM mm i (.arr false e ei.size (xs ++ ys))) j := fun j hj => (updM_ids j).2 hj
  refine .inl ⟨v', w', hrun, upd H i v', Z, ?_⟩
  rw [hd]
  refine hm.build (fun b => hblk (H i) = some b) hext (fun b _ hb => ⟨_, getM_mem hi, hb⟩) (by simpa [Act.put] using hm.defers) (by simp [Act.put, hm.size]) ?_ ?_ ?_ ?_ ?_
  · intro p hp hpg
    have hpi : p.1 ≠ i := by omega
    rw [upd_ne _ _ hpi]
    rcases updM_mem p hp with ⟨rfl, _⟩ | ⟨k1, _⟩
    · exact absurd rfl hpi
    · exact hm.hg p k1 hpg
  · intro p hp q hq he
    rcases updM_mem p hp with ⟨rfl, _⟩ | ⟨k1, k2⟩ <;> rcases updM_mem q hq with ⟨rfl, _⟩ | ⟨k1', k2'⟩
    · rfl
    · exact absurd he.symm k2'
    · exact absurd he k2
    · exact hm.ids p k1 q k1' he
  · intro p hp
    rcases updM_mem p hp with ⟨rfl, _⟩ | ⟨k1, k2⟩
    · refine .inr ⟨fun b hb => ?_, fun hMM hfr => ?_⟩
      · rw [upd_self] at hb
        rcases h5 with h5 | h5
        · exact .inr ⟨_, getM_mem hi, by rw [hHib, ← h5, ← hv'b]; exact hb, .inl rfl⟩
        · refine .inl ⟨?_, hnew b hb⟩
          rw [hv'b, h5] at hb; injection hb with hb; omega
      · refine ⟨hZ, us ++ news, by rw [upd_self, List.length_append]; exact h2, (fun h => by cases h), fun q hq => ?_, fun k q hk j ct hc => ?_⟩
        · rcases List.mem_append.1 hq with hq | hq
          · exact hlen q hq
          · exact hylen q hq
        · have hul : us.length = xs.length * ei.size := hown.1
          rw [List.getElem?_append] at hk
          split at hk
          · rename_i hkl
            obtain ⟨u, hu, hr⟩ := hrep k q hk j ct hc
            refine ⟨u, ?_, RepC.mono hr h3.size hfr hMM⟩
            rw [List.getElem?_append_left (List.getElem?_eq_some_iff.1 hu).1]
            exact hu
          · rename_i hkl
            obtain ⟨u, hu, hr⟩ := hyrep _ q hk j ct hc
            refine ⟨u, ?_, RepC.mono hr h3.size hfr hMM⟩
            have hle : xs.length * ei.size ≤ k * ei.size := Nat.mul_le_mul_right _ (by omega)
            rw [List.getElem?_append_right (by rw [hul]; omega), hul]
            rw [Nat.sub_mul] at hu
            rw [← hu]; congr 1; omega
    · refine .inl ⟨k1, upd_ne _ _ k2, rfl, fun b hb hx => ?_, fun j hj hij => ⟨hI j hij, upd_ne _ _ (fun e => ?_), rfl⟩⟩
      · exact hm.sep p k1 _ (getM_mem hi) k2 b hb hx
      · subst e; exact noUse_spec hno k1 hj
  · intro p hp q hq hpq b hpb hqb
    have key : ∀ p ∈ mm, p.1 ≠ i → hblk (H p.1) = some b → hblk v' = some b → False := by
      intro p hp hpi h1 h2
      rcases h5 with h5 | h5
      · exact hm.sep p hp _ (getM_mem hi) hpi b h1 (by rw [hHib, ← h5, ← hv'b]; exact h2)
      · rw [hv'b, h5] at h2
        injection h2 with h2
        have := (hm.fresh p hp b h1).2
        omega
    rcases updM_mem p hp with ⟨rfl, _⟩ | ⟨k1, k2⟩ <;> rcases updM_mem q hq with ⟨rfl, _⟩ | ⟨k1', k2'⟩
    · exact hpq rfl
    · rw [upd_self] at hpb; rw [upd_ne _ _ k2'] at hqb
      exact key q k1' k2' hqb hpb
    · rw [upd_self] at hqb; rw [upd_ne _ _ k2] at hpb
      exact key p k1 k2 hpb hqb
    · rw [upd_ne _ _ k2] at hpb; rw [upd_ne _ _ k2'] at hqb
      exact hm.sep p k1 q k1' hpq b hpb hqb
  · intro p hp
    rcases List.mem_cons.1 hp with rfl | hp
    · refine .inr fun _ _ => ?_
      rw [put_self (by rw [hm.size]; exact Nat.blt_eq.mp hn)]
      exact ⟨hI i ⟨_, getM_mem hi, rfl⟩, (upd_self _ _ _).symm⟩
    · obtain ⟨h1, h2'⟩ := delL_mem hp
      obtain ⟨h3', h4⟩ := dropU_mem h1
      exact .inl ⟨p, h3', rfl, put_other h2', fun j hj hij => ⟨hI j hij, upd_ne _ _ (fun e => h4 (e ▸ hj)), rfl⟩⟩

/-- What is nil is a slice of one's own. -/
theorem Has.adopt {a : Act} {w : World} (t j e sz : Nat) (ht : getT tm t = some (.v (.one (.c .nils)))) (hj : Nat.blt j given = true) (hf : hasI mm j = false) (h : Has C n tm mm a w) :
    Has C n ((t, .v (.one (.own j))) :: delL tm t) ((j, .arr false e sz []) :: mm) a w := by
  obtain ⟨H, Z, hm⟩ := h
  have hni := hasI_false hf
  have hne : ∀ p ∈ mm, p.1 ≠ j := fun p hp e => hni ⟨p, hp, e⟩
  have hnj : ∀ k, Iof mm k → k ≠ j := fun k ⟨p, hp, e⟩ e' => hne p hp (e.trans e')
  have hI : ∀ k, Iof mm k → Iof ((j, MO.arr false e sz []) :: mm) k := fun k ⟨p, hp, e⟩ => ⟨p, List.mem_cons_of_mem _ hp, e⟩
  have hjg : j < given := Nat.blt_eq.mp hj
  refine ⟨upd H j (.slice none 0 0), upd Z j sz, hm.build (fun _ => False) (Ext.refl _ _) (fun _ _ h => h.elim) hm.defers hm.size ?_ ?_ ?_ ?_ ?_⟩
  · intro p hp hpg
    rcases List.mem_cons.1 hp with rfl | hp
    · simp only at hpg; omega
    · rw [upd_ne _ _ (hne p hp)]; exact hm.hg p hp hpg
  · intro p hp q hq he
    rcases List.mem_cons.1 hp with rfl | hp <;> rcases List.mem_cons.1 hq with rfl | hq
    · rfl
    · exact absurd he.symm (hne q hq)
    · exact absurd he (hne p hp)
    · exact hm.ids p hp q hq he
  · intro p hp
    rcases List.mem_cons.1 hp with rfl | hp
    · refine .inr ⟨fun b hb => by rw [upd_self] at hb; simp [hblk] at hb, fun _ _ => ⟨upd_self _ _ _, [], ?_, (fun h => by cases h), (fun q hq => by cases hq), fun k q hq => by simp at hq⟩⟩
      rw [upd_self]
      exact World.ownsRow_nil w 0 e sz
    · exact .inl ⟨hp, upd_ne _ _ (hne p hp), upd_ne _ _ (hne p hp), fun _ _ h => h, fun k _ hk => ⟨hI k hk, upd_ne _ _ (hnj k hk), upd_ne _ _ (hnj k hk)⟩⟩
  · intro p hp q hq hpq b hpb hqb
    rcases List.mem_cons.1 hp with rfl | hp
    · rw [upd_self] at hpb; simp [hblk] at hpb
    · rcases List.mem_cons.1 hq with rfl | hq
      · rw [upd_self] at hqb; simp [hblk] at hqb
      · rw [upd_ne _ _ (hne p hp)] at hpb
        rw [upd_ne _ _ (hne q hq)] at hqb
        exact hm.sep p hp q hq hpq b hpb hqb
  · intro p hp
    rcases List.mem_cons.1 hp with rfl | hp
    · refine .inr fun _ _ => ?_
      have : a.tmps.getD t undef = .slice none 0 0 := RepC.nils_inv (hm.tmps _ (getT_mem ht))
      exact ⟨⟨_, List.mem_cons_self, rfl⟩, by rw [upd_self]; exact this⟩
    · exact .inl ⟨p, (delL_mem hp).1, rfl, rfl, fun k _ hk => ⟨hI k hk, upd_ne _ _ (hnj k hk), upd_ne _ _ (hnj k hk)⟩⟩
end
section
variable {C : Ctx} {f : FuncId} {n : Nat} {R : Ending → World → Prop} {k : List Item} {tm : TM} {mm : MM} {L l : List Oper} {T : TM → MM → Prop} {o : Oper} {d : Nat}
theorem g_adopt (t j e sz : Nat) (ht : getT tm t = some (.v (.one (.c .nils)))) (hj : Nat.blt j given = true) (hf : hasI mm j = false)
    (g : Goes C f n R k ((t, .v (.one (.own j))) :: delL tm t) ((j, .arr false e sz []) :: mm)) : Goes C f n R k tm mm := g.mono fun _ _ h => h.adopt t j e sz ht hj hf
theorem s_adopt (t j e sz : Nat) (ht : getT tm t = some (.v (.one (.c .nils)))) (hj : Nat.blt j given = true) (hf : hasI mm j = false)
    (g : SOps C n L.toArray l ((t, .v (.one (.own j))) :: delL tm t) ((j, .arr false e sz []) :: mm) T) : SOps C n L.toArray l tm mm T := g.mono fun _ _ h => h.adopt t j e sz ht hj hf

/-- append(own, a literal of one's own). -/
theorem s_append {Θ : Tab} (hΘ : tabOK C.P Θ) {t : TypeId} {x y : Operand} {z bts e : Nat} {ag : Bool} {zt : Option (List CT)} {ei : TyI} {zr : List CT} {i k e' : Nat} {nn : Bool} {sz : Nat} {xs ys : List (List CT)}
    (ho : o.op = .call { callee := .builtin .append, args := ⟨[x, y]⟩, argTypes := ⟨[t, t]⟩ }) (ht : tyGet Θ t = some ⟨z, bts, ag, zt, .slice e⟩) (hei : tyGet Θ e = some ei) (hz : ei.zero = some zr)
    (hsz : Nat.beq ei.size sz = true) (hs0 : Nat.blt 0 ei.size = true) (hx : evalC tm x = some (.own i)) (hi : getM mm i = some (.arr nn e sz xs)) (hy : evalC tm y = some (.own k)) (hk : getM mm k = some (.arr true e' sz ys))
    (hig : Nat.blt i given = true) (hno : noUse i mm = true) (hd : o.dst = some d) (hn : Nat.blt d n = true) (hg : guardL L tm o = some true)
    (hbig : xs.length + ys.length ≤ 9223372036854775807 ∧ (xs.length + ys.length) * ei.bytes ≤ 140737488355328)
    (g : SOps C n L.toArray l ((d, .v (.one (.own i))) :: delL (dropU i tm) d) (updM mm i (.arr false e sz (xs ++ ys))) T) : SOps C n L.toArray (o :: l) tm mm T :=
  s_step (op_append hΘ ho ht hei hz hsz hs0 hx hi (elems_own hy hk) hbig hig hno hd hn).wp hg g
end

/-- The end of a body: the result says less. -/
theorem g_endL {P : Program} {w0 : World} {M0 : Nat → Prop} {f : FuncId} {n : Nat} {tm : TM} {mm : MM} {pre post : List (List CT)} {H : Nat → Value} {Z : Nat → Nat} {Θ : Tab} (hΘ : tabOK P Θ)
    {fn : Func} (hf : P.funcs[f]? = some fn) {rs : List SV} {res : ST} {post' : List (List CT)} {t : List Item} (ht : t = [] ∨ ∃ k, t = .code .ret :: k)
    (hr : resE Θ tm mm fn.results.toList = some rs) (hp : pureS (packS rs) = true) (hpost : postE mm given pre.length = some post')
    (he : LeT (packS rs) res) (hp' : post' = post) :
    Goes ⟨P, w0, M0, blksOf H (preMM given pre), H⟩ f n (EndR H Z pre post w0 M0 res) t tm mm :=
  (g_end hΘ hf ht hr hp hpost ⟨rfl, hp'⟩).weakR fun e w ⟨v, h1, h2, h3, h4⟩ => ⟨v, h1, h2, h3, he.rep h4⟩
theorem g_freeze {C : Ctx} {f : FuncId} {n : Nat} {R : Ending → World → Prop} {k : List Item} {tm : TM} {mm : MM} (i : Nat) {nn : Bool} {e sz : Nat} {xs : List (List CT)} (hi : getM mm i = some (.arr nn e sz xs)) (hg : Nat.blt i given = true)
    (g : Goes C f n R k (subT i (.c (.slice nn sz xs)) tm) (subM i (.c (.slice nn sz xs)) mm)) : Goes C f n R k tm mm := g.mono fun _ _ h => h.freeze hi hg
theorem s_freeze {C : Ctx} {n : Nat} {L l : List Oper} {T : TM → MM → Prop} {tm : TM} {mm : MM} (i : Nat) {nn : Bool} {e sz : Nat} {xs : List (List CT)} (hi : getM mm i = some (.arr nn e sz xs)) (hg : Nat.blt i given = true)
    (g : SOps C n L.toArray l (subT i (.c (.slice nn sz xs)) tm) (subM i (.c (.slice nn sz xs)) mm) T) : SOps C n L.toArray l tm mm T := g.mono fun _ _ h => h.freeze hi hg
end Go.Sy
