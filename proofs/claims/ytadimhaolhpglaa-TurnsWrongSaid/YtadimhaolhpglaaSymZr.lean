/- Layer: a pool of one row is a row of one's own that a variable's cell holds. -/
import Derived.Test.YtadimhaolhpglaaSymZq
set_option linter.unusedSimpArgs false
set_option linter.unusedVariables false
set_option linter.unusedSectionVars false
namespace Go.Sy
open Go.RowKit
section
variable {C : Ctx} {n : Nat} {tm : TM} {mm : MM} {f : FuncId} {R : Ending → World → Prop} {k : List Item}
theorem Has.ownB {a : Act} {w : World} (i j b c : Nat) {e sz : Nat} {v : Value} {xs : List (List CT)} {cs : List SC} (hi : getM mm i = some (.pool e sz [(v, xs)])) (hig : Nat.blt i given = true)
    (hb : getM mm b = some (.box cs)) (hc : nthC cs c = some (.c (.val v))) (hjg : Nat.blt j given = true) (hjf : hasI mm j = false) (hno : noUse i mm = true) (hnt : noUseT i tm = true) (h : Has C n tm mm a w) :
    Has C n tm ((j, .arr false e sz xs) :: updM (outM [i] mm) b (.box (setL cs c (.own j)))) a w := by
  obtain ⟨H, Z, hm⟩ := h
  obtain ⟨hH, hpool⟩ := hm.mem _ (getM_mem hi)
  have hH : H i = poolV [(v, xs)] := hH
  have hpool : PoolOK w (Mof C H mm) e sz [(v, xs)] := hpool
  obtain ⟨us, h1, h3, h4⟩ := hpool.row (k := 0) rfl
  rw [setL_eq]
  rw [nthC_eq] at hc
  have hji := hasI_false hjf
  have hjn : j ≠ i := fun e => hji (e ▸ ⟨_, getM_mem hi, rfl⟩)
  have hbi : b ≠ i := fun e => by rw [e, hi] at hb; cases hb
  have hbj : b ≠ j := fun e => hji (e ▸ ⟨_, getM_mem hb, rfl⟩)
  have hsub : ∀ p ∈ updM (outM [i] mm) b (.box (cs.set c (.own j))), ∃ q ∈ mm, q.1 = p.1 ∧ p.1 ≠ i ∧ p.1 ≠ j ∧ ((p = q ∧ p.1 ≠ b) ∨ p = (b, .box (cs.set c (.own j)))) := fun p hp => by
    rcases updM_mem p hp with ⟨rfl, _⟩ | ⟨k1, k2⟩
    · exact ⟨_, getM_mem hb, rfl, hbi, hbj, .inr rfl⟩
    · obtain ⟨g1, g2⟩ := outM_mem.1 k1
      exact ⟨p, g1, rfl, by simpa using g2, fun e => hji ⟨p, g1, e⟩, .inl ⟨rfl, k2⟩⟩
  have hHo : ∀ q, q ≠ j → Sy.upd H j v q = H q := fun q hq => upd_ne _ _ hq
  have hZo : ∀ q, q ≠ j → Sy.upd Z j sz q = Z q := fun q hq => upd_ne _ _ hq
  have hvb : ∀ b, Hb v b → Hb (H i) b := fun b hb => by
    rw [hH]; exact poolV_Hb.2 ⟨_, List.mem_cons_self, by rw [hblk_row h1]; exact (Hb_own h1 b).1 hb⟩
  have hIds : ∀ q, q ≠ i → Iof mm q → Iof ((j, .arr false e sz xs) :: updM (outM [i] mm) b (.box (cs.set c (.own j)))) q := fun q hq ⟨p, hp, e⟩ => by
    obtain ⟨p', hp', e'⟩ := (updM_ids (i := b) (o := .box (cs.set c (.own j))) q).2 ⟨p, (outM_mem (ids := [i])).2 ⟨hp, by simpa [e] using hq⟩, e⟩
    exact ⟨p', List.mem_cons_of_mem _ hp', e'⟩
  refine ⟨Sy.upd H j v, Sy.upd Z j sz, hm.build (fun _ => False) (Ext.refl _ w) (fun _ _ h => h.elim) hm.defers hm.size ?_ ?_ ?_ ?_ ?_⟩
  · intro p hp hpg
    rcases List.mem_cons.1 hp with rfl | hp
    · have := Nat.blt_eq.mp hjg; simp only at hpg; omega
    · obtain ⟨q, hq, e1, _, e3, _⟩ := hsub p hp
      rw [hHo _ e3, ← e1]; exact hm.hg q hq (by rw [e1]; exact hpg)
  · intro p hp q hq he
    rcases List.mem_cons.1 hp with rfl | hp <;> rcases List.mem_cons.1 hq with rfl | hq
    · rfl
    · obtain ⟨_, _, _, _, e3, _⟩ := hsub q hq; exact absurd he.symm e3
    · obtain ⟨_, _, _, _, e3, _⟩ := hsub p hp; exact absurd he e3
    · obtain ⟨p', hp', e1, _, _, e4⟩ := hsub p hp
      obtain ⟨q', hq', f1, _, _, f4⟩ := hsub q hq
      rcases e4 with ⟨e4, e5⟩ | e4 <;> rcases f4 with ⟨f4, f5⟩ | f4
      · subst e4 f4; exact hm.ids _ hp' _ hq' he
      · subst f4; exact absurd he e5
      · subst e4; exact absurd he.symm f5
      · rw [e4, f4]
  · intro p hp
    rcases List.mem_cons.1 hp with rfl | hp
    · refine .inr ⟨fun b hb => ?_, fun hMM _ => ?_⟩
      · rw [upd_self] at hb
        exact .inr ⟨_, getM_mem hi, hvb b hb, .inr ⟨Nat.blt_eq.mp hig, Nat.blt_eq.mp hjg⟩⟩
      · refine ⟨upd_self _ _ _, us, by rw [upd_self]; exact h1, fun h => (by cases h), h3, fun k x hx m c hc => ?_⟩
        obtain ⟨u, hu, hr⟩ := h4 k x hx m c hc
        exact ⟨u, hu, hr.mono (Nat.le_refl _) (fun _ _ _ => rfl) hMM⟩
    · obtain ⟨q, hq, e1, e2, e3, e4⟩ := hsub p hp
      rcases e4 with ⟨rfl, _⟩ | rfl
      · exact .inl ⟨hq, hHo _ e3, hZo _ e3, fun _ _ h => h, fun r hr hIr => ⟨hIds r (fun e => noUse_spec hno hq (e ▸ hr)) hIr, hHo r (fun e => hji (e ▸ hIr)), hZo r (fun e => hji (e ▸ hIr))⟩⟩
      · refine .inr ⟨fun b' hb' => .inr ⟨_, getM_mem hb, by rw [hHo _ e3] at hb'; exact hb', .inl rfl⟩, fun hMM _ => ?_⟩
        obtain ⟨bl, ty, vs, g1, g2, g3, g4⟩ := hm.mem _ (getM_mem hb)
        refine ⟨bl, ty, vs, by rw [hHo _ e3]; exact g1, g2, by simpa using g3, fun k ct hk => ?_⟩
        rw [List.getElem?_set] at hk
        split at hk
        · rename_i hck
          split at hk
          · injection hk with hk; subst hk
            rw [← hck]
            obtain ⟨u, hu, ho, hr⟩ := g4 c _ hc
            have hv : u = v := RepC.val_inv hr
            subst hv
            exact ⟨_, hu, ho, ⟨⟨_, List.mem_cons_self, rfl⟩, (upd_self _ _ _).symm⟩⟩
          · cases hk
        · obtain ⟨u, hu, ho, hr⟩ := g4 k ct hk
          exact ⟨u, hu, ho, hr.mono (fun r hr hIr => ⟨hIds r (fun e => noUse_spec hno (getM_mem hb) (by
            rw [← e]; simp only [MO.uses, List.mem_flatMap]; exact ⟨ct, List.mem_of_getElem? hk, hr⟩)) hIr, hHo r (fun e => hji (e ▸ hIr)), hZo r (fun e => hji (e ▸ hIr))⟩) (Nat.le_refl _) (fun _ _ _ => rfl) hMM⟩
  · intro p hp q hq hpq b' hpb hqb
    rcases List.mem_cons.1 hp with rfl | hp <;> rcases List.mem_cons.1 hq with rfl | hq
    · exact hpq rfl
    · obtain ⟨q', hq', f1, f2, f3, _⟩ := hsub q hq
      rw [upd_self] at hpb
      rw [hHo _ f3, ← f1] at hqb
      exact hm.sep _ (getM_mem hi) q' hq' (by rw [f1]; exact Ne.symm f2) b' (hvb b' hpb) hqb
    · obtain ⟨p', hp', e1, e2, e3, _⟩ := hsub p hp
      rw [upd_self] at hqb
      rw [hHo _ e3, ← e1] at hpb
      exact hm.sep p' hp' _ (getM_mem hi) (by rw [e1]; exact e2) b' hpb (hvb b' hqb)
    · obtain ⟨p', hp', e1, _, e3, _⟩ := hsub p hp
      obtain ⟨q', hq', f1, _, f3, _⟩ := hsub q hq
      rw [hHo _ e3, ← e1] at hpb
      rw [hHo _ f3, ← f1] at hqb
      exact hm.sep p' hp' q' hq' (by rw [e1, f1]; exact hpq) b' hpb hqb
  · intro p hp
    exact .inl ⟨p, hp, rfl, rfl, fun q hq hIq => ⟨hIds q (fun e => noUseT_spec hnt p hp (e ▸ hq)) hIq, hHo q (fun e => hji (e ▸ hIq)), hZo q (fun e => hji (e ▸ hIq))⟩⟩
theorem g_ownB (i j b c : Nat) {e sz : Nat} {v : Value} {xs : List (List CT)} {cs : List SC} (hi : getM mm i = some (.pool e sz [(v, xs)])) (hig : Nat.blt i given = true)
    (hb : getM mm b = some (.box cs)) (hc : nthC cs c = some (.c (.val v))) (hjg : Nat.blt j given = true) (hjf : hasI mm j = false) (hno : noUse i mm = true) (hnt : noUseT i tm = true)
    (g : Goes C f n R k tm ((j, .arr false e sz xs) :: updM (outM [i] mm) b (.box (setL cs c (.own j))))) : Goes C f n R k tm mm :=
  g.mono fun _ _ h => h.ownB i j b c hi hig hb hc hjg hjf hno hnt
end
/-! ### Where control is; ways that meet again -/
section
variable {C : Ctx} {n : Nat} {tm : TM} {mm : MM} {f : FuncId} {R : Ending → World → Prop} {k : List Item}
def headI : List Item → Option Nat
  | .code (.region i _ _) :: _ => some i
  | .code (.seq (.region i _ _) _) :: _ => some i
  | _ => none
theorem g_atR (i : Nat) (_ : headI k = some i) (h : Goes C f n R k tm mm) : Goes C f n R k tm mm := h
end
section
variable {C : Ctx} {n : Nat} {tm : TM} {mm : MM} {f : FuncId} {R : Ending → World → Prop} {k : List Item}
end
end Go.Sy
