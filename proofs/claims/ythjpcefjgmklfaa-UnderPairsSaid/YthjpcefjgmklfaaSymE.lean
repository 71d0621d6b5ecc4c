/- Symbolic states: loads, stores, addresses, literals. -/
import Derived.Test.YthjpcefjgmklfaaSymD
namespace Go.Sy
set_option linter.unusedSimpArgs false
set_option linter.unusedVariables false
set_option linter.unusedSectionVars false
open Go.RowKit

/-- Two rows, pointwise. -/
def Pw {α β : Type} (R : α → β → Prop) (vs : List α) (cs : List β) : Prop :=
  vs.length = cs.length ∧ ∀ (j : Nat) (c : β), cs[j]? = some c → ∃ u : α, vs[j]? = some u ∧ R u c

section
variable {α β : Type} {R : α → β → Prop} {vs us : List α} {cs ds : List β}
theorem Pw.append (h : Pw R vs cs) (k : Pw R us ds) : Pw R (vs ++ us) (cs ++ ds) := by
  refine ⟨by simp [h.1, k.1], fun j c hc => ?_⟩
  rw [List.getElem?_append] at hc ⊢
  rw [h.1]
  split at hc
  · rename_i hj; rw [if_pos hj]; exact h.2 j c hc
  · rename_i hj; rw [if_neg hj]; exact k.2 _ c hc
theorem Pw.take (h : Pw R vs cs) (m : Nat) : Pw R (vs.take m) (cs.take m) := by
  refine ⟨by simp [h.1], fun j c hc => ?_⟩
  rw [List.getElem?_take] at hc ⊢
  split at hc
  · rename_i hj; rw [if_pos hj]; exact h.2 j c hc
  · cases hc
theorem Pw.drop (h : Pw R vs cs) (m : Nat) : Pw R (vs.drop m) (cs.drop m) := by
  refine ⟨by simp [h.1], fun j c hc => ?_⟩
  rw [List.getElem?_drop] at hc ⊢
  exact h.2 _ c hc
theorem Pw.mono {S : α → β → Prop} (h : Pw R vs cs) (hi : ∀ u c, c ∈ cs → R u c → S u c) : Pw S vs cs :=
  ⟨h.1, fun j c hc => let ⟨u, hu, hr⟩ := h.2 j c hc; ⟨u, hu, hi u c (List.mem_of_getElem? hc) hr⟩⟩
theorem Pw.cons {a : α} {b : β} (h : R a b) (k : Pw R vs cs) : Pw R (a :: vs) (b :: cs) := by
  refine ⟨by simp [k.1], fun j c hc => ?_⟩
  cases j with
  | zero => simp at hc; subst hc; exact ⟨a, rfl, h⟩
  | succ j => simp at hc; simpa using k.2 j c hc
theorem Pw.nil : Pw R [] [] := ⟨rfl, fun j c hc => by simp at hc⟩
theorem Pw.map {γ : Type} {f : γ → β} {gs : List γ} : Pw R vs (gs.map f) ↔ Pw (fun u g => R u (f g)) vs gs := by
  constructor
  · rintro ⟨h1, h2⟩
    refine ⟨by simpa using h1, fun j g hg => h2 j (f g) (by simp [hg])⟩
  · rintro ⟨h1, h2⟩
    refine ⟨by simpa using h1, fun j c hc => ?_⟩
    rw [List.getElem?_map] at hc
    cases hq : gs[j]? with
    | none => rw [hq] at hc; cases hc
    | some g => rw [hq] at hc; injection hc with hc; subst hc; exact h2 j g hq
end

def takeL {α : Type} : List α → Nat → Option (List α)
  | _, 0 => some []
  | [], _ + 1 => none
  | a :: l, n + 1 => match takeL l n with
    | some r => some (a :: r)
    | none => none
theorem takeL_spec {α : Type} : ∀ {l : List α} {n : Nat} {r : List α}, takeL l n = some r → r = l.take n ∧ r.length = n
  | _, 0, _, h => by simp [takeL] at h; subst h; simp
  | [], _ + 1, _, h => by simp [takeL] at h
  | a :: l, n + 1, r, h => by
    unfold takeL at h
    split at h
    · rename_i r' hr
      injection h with h; subst h
      obtain ⟨h1, h2⟩ := takeL_spec hr
      exact ⟨by simp [h1], by simp [h2]⟩
    · cases h
def dropL {α : Type} : List α → Nat → Option (List α)
  | l, 0 => some l
  | [], _ + 1 => none
  | _ :: l, n + 1 => dropL l n
theorem dropL_spec {α : Type} : ∀ {l : List α} {n : Nat} {r : List α}, dropL l n = some r → r = l.drop n
  | _, 0, _, h => by simp [dropL] at h; subst h; simp
  | [], _ + 1, _, h => by simp [dropL] at h
  | a :: l, n + 1, r, h => by simpa using dropL_spec (l := l) (n := n) (by simpa [dropL] using h)
def subL {α : Type} (l : List α) (off n : Nat) : Option (List α) :=
  match dropL l off with
  | some r => takeL r n
  | none => none
theorem subL_spec {α : Type} {l : List α} {off n : Nat} {r : List α} (h : subL l off n = some r) : r = (l.drop off).take n ∧ r.length = n := by
  unfold subL at h
  split at h
  · rename_i r' hr
    rw [dropL_spec hr] at h
    exact takeL_spec h
  · cases h
def overL {α : Type} : List α → List α → Option (List α)
  | l, [] => some l
  | [], _ :: _ => none
  | _ :: l, a :: n => match overL l n with
    | some r => some (a :: r)
    | none => none
theorem overL_spec {α : Type} : ∀ {l n r : List α}, overL l n = some r → r = n ++ l.drop n.length ∧ n.length ≤ l.length
  | l, [], r, h => by cases l <;> (simp [overL] at h; subst h; simp)
  | [], _ :: _, r, h => by simp [overL] at h
  | b :: l, a :: n, r, h => by
    unfold overL at h
    split at h
    · rename_i r' hr
      injection h with h; subst h
      obtain ⟨h1, h2⟩ := overL_spec hr
      exact ⟨by simp [h1], by simpa using h2⟩
    · cases h
def spliceL {α : Type} : List α → Nat → List α → Option (List α)
  | l, 0, n => overL l n
  | [], _ + 1, _ => none
  | a :: l, k + 1, n => match spliceL l k n with
    | some r => some (a :: r)
    | none => none
theorem spliceL_spec {α : Type} : ∀ {l : List α} {k : Nat} {n r : List α}, spliceL l k n = some r →
    r = l.take k ++ n ++ l.drop (k + n.length) ∧ k + n.length ≤ l.length
  | l, 0, n, r, h => by
    have h' : overL l n = some r := by cases l <;> simpa [spliceL] using h
    obtain ⟨h1, h2⟩ := overL_spec h'
    exact ⟨by simpa using h1, by omega⟩
  | [], _ + 1, _, r, h => by simp [spliceL] at h
  | a :: l, k + 1, n, r, h => by
    unfold spliceL at h
    split at h
    · rename_i r' hr
      injection h with h; subst h
      obtain ⟨h1, h2⟩ := spliceL_spec hr
      refine ⟨?_, by simp; omega⟩
      rw [h1, show k + 1 + n.length = (k + n.length) + 1 by omega]
      simp
    · cases h

/-- The value that some cells are. -/
def mkV {α : Type} (f : α → SC) (agg : Bool) (xs : List α) : Option SV :=
  match agg, xs with
  | true, xs => some (.agg (mapS f xs))
  | false, [x] => some (.one (f x))
  | false, _ => none
where
  mapS {α : Type} (f : α → SC) : List α → List SC
    | [] => []
    | a :: r => f a :: mapS f r
theorem mapS_eq {α : Type} (f : α → SC) (l : List α) : mkV.mapS f l = l.map f := by
  induction l with
  | nil => rfl
  | cons a r ih => simp [mkV.mapS, ih]

theorem run_loadVar_pw {P : Program} {w : World} {t : TypeId} {i : TyI} {inf : TypeInfo} {de : TypeDesc} (hf : TyF P t i inf de) (ad : Addr) (us : List Value)
    (hl : us.length = i.size) (hc : ∀ (j : Nat) (u : Value), us[j]? = some u → w.cell? (ad.add j) = some u) (h1 : i.agg = false → us.length = 1) :
    ∃ v, (loadVar t ad).run P w = .ok v w ∧ (i.agg = true → v = .agg us.toArray) ∧ (i.agg = false → us = [v]) := by
  cases ha : i.agg with
  | true =>
    refine ⟨.agg us.toArray, ?_, fun _ => rfl, (fun h => by cases h)⟩
    have := run_loadCells_list (P := P) w ad us hc
    rw [hl] at this
    simp [loadVar, hf.isAgg, ha, hf.sizeOf, this]
  | false =>
    have hl1 := h1 ha
    match us, hl1 with
    | [u], _ =>
      refine ⟨u, ?_, (fun h => by cases h), fun _ => rfl⟩
      have hcu := hc 0 u rfl
      have : ad.add 0 = ad := by simp [Addr.add]
      rw [this] at hcu
      simp [loadVar, hf.isAgg, ha, load, Sem.run, hcu]

theorem mkV_rep {α : Type} {f : α → SC} {C : Ctx} {H : Nat → Value} {Z : Nat → Nat} {mm : MM} {w : World} {agg : Bool} {xs : List α} {s : SV} (hs : mkV f agg xs = some s)
    {us : List Value} {v : Value} (hp : Pw (fun u x => RepSC (Iof mm) H Z w (Mof C H mm) u (f x)) us xs) (h1 : agg = true → v = .agg us.toArray) (h2 : agg = false → us = [v]) :
    RepSV (Iof mm) H Z w (Mof C H mm) v s := by
  unfold mkV at hs
  split at hs
  · injection hs with hs; subst hs
    rw [h1 rfl, mapS_eq]
    refine ⟨us.toArray, rfl, by simpa using hp.1, fun j c hc => ?_⟩
    have := (Pw.map (R := fun u c => RepSC (Iof mm) H Z w (Mof C H mm) u c)).2 hp
    simpa using this.2 j c hc
  · injection hs with hs; subst hs
    rename_i x
    obtain ⟨u, hu, hr⟩ := hp.2 0 x rfl
    rw [h2 rfl] at hu
    simp at hu; subst hu
    exact hr
  · cases hs

section
variable {C : Ctx} {n : Nat} {tm : TM} {mm : MM} {o : Oper} {d : Nat}

theorem Mod.box {H : Nat → Value} {Z : Nat → Nat} {a : Act} {w : World} (h : Mod C H Z n tm mm a w) {i : Nat} {cs : List SC} (hi : getM mm i = some (.box cs)) :
    ∃ b ty vs, H i = .pointer (some ⟨b, 0, none⟩) ∧ w.heap[b]? = some (.cells vs ty (0, 0)) ∧ b < w.heap.size ∧
      Pw (fun u c => u.oneCell' = true ∧ RepSC (Iof mm) H Z w (Mof C H mm) u c) vs.toList cs := by
  obtain ⟨b, ty, vs, h1, h2, h3, h4⟩ := h.mem _ (getM_mem hi)
  refine ⟨b, ty, vs, h1, h2, (h.fresh _ (getM_mem hi) b (by rw [h1]; rfl)).2, by simpa using h3, fun j c hc => ?_⟩
  obtain ⟨u, hu, ho, hr⟩ := h4 j c hc
  exact ⟨u, by simpa using hu, ho, hr⟩

theorem op_load_box {Θ : Tab} (hΘ : tabOK C.P Θ) {t : TypeId} {ti : TyI} {x : Operand} {i off : Nat} {cs xs : List SC} {s : SV}
    (ho : o.op = .load t x) (ht : tyGet Θ t = some ti) (hx : evalC tm x = some (.ptr i off)) (hi : getM mm i = some (.box cs))
    (hs : subL cs off ti.size = some xs) (hv : mkV id ti.agg xs = some s) (hd : o.dst = some d) (hn : Nat.blt d n = true) :
    OpV C n o tm mm d (.v s) :=
  OpV.val hd hn _ fun H Z a w hm => by
    obtain ⟨inf, de, hf⟩ := tyF hΘ ht
    obtain ⟨b, ty, vs, h1, h2, _, h4⟩ := hm.box hi
    obtain ⟨_, b', hb', hv'⟩ := evalC_rep hm hx
    rw [h1] at hb'
    simp [hblk] at hb'
    subst hb'
    obtain ⟨e1, e2⟩ := subL_spec hs
    have hp : Pw (fun u c => RepSC (Iof mm) H Z w (Mof C H mm) u c) ((vs.toList.drop off).take ti.size) xs := by
      rw [e1]; exact ((h4.drop off).take _).mono fun _ _ _ h => h.2
    obtain ⟨v, hr, k1, k2⟩ := run_loadVar_pw (w := w) hf ⟨b, off, none⟩ ((vs.toList.drop off).take ti.size) (by rw [hp.1, e2]) (fun j u hu => by
      rw [add_mk, cell_of_row w b (off + j) vs ty _ h2]
      rw [List.getElem?_take] at hu
      split at hu
      · rw [List.getElem?_drop] at hu; simpa using hu
      · cases hu) (fun ha => by
        rw [hp.1]
        rw [ha] at hv
        unfold mkV at hv
        split at hv <;> first | (rename_i hh; cases hh; done) | rfl | (cases hv; done))
    refine ⟨v, by simp [execOp, ho, hv', Instr.loadAt, Instr.sureAddr, hr], ?_⟩
    exact mkV_rep hv hp k1 k2

theorem op_load_eptr {Θ : Tab} (hΘ : tabOK C.P Θ) {t : TypeId} {ti : TyI} {x : Operand} {cs xs : List CT} {s : SV}
    (ho : o.op = .load t x) (ht : tyGet Θ t = some ti) (hx : evalC tm x = some (.eptr cs))
    (hs : takeL cs ti.size = some xs) (hv : mkV SC.c ti.agg xs = some s) (hd : o.dst = some d) (hn : Nat.blt d n = true) :
    OpV C n o tm mm d (.v s) :=
  OpV.val hd hn _ fun H Z a w hm => by
    obtain ⟨inf, de, hf⟩ := tyF hΘ ht
    obtain ⟨ad, hv', h2, h3, h4, h5⟩ := evalC_rep hm hx
    obtain ⟨e1, e2⟩ := takeL_spec hs
    have hch : ∀ m, m ≤ cs.length → ∃ us : List Value, us.length = m ∧ (∀ (j : Nat) (u : Value), us[j]? = some u → w.cell? (ad.add j) = some u) ∧
        Pw (fun u c => RepC w (Mof C H mm) u c) us (cs.take m) := by
      intro m
      induction m with
      | zero => intro _; exact ⟨[], rfl, fun j u hu => by simp at hu, by simpa using Pw.nil⟩
      | succ m ih =>
        intro hmle
        obtain ⟨us, g1, g2, g3⟩ := ih (by omega)
        obtain ⟨u, hu, hr⟩ := h5 m cs[m] (List.getElem?_eq_getElem (by omega))
        refine ⟨us ++ [u], by simp [g1], fun j q hq => ?_, ?_⟩
        · rw [List.getElem?_append] at hq
          split at hq
          · exact g2 j q hq
          · rename_i hj
            have hj0 : j - us.length = 0 := by
              rcases Nat.eq_zero_or_pos (j - us.length) with h0 | h0
              · exact h0
              · rw [List.getElem?_eq_none (by simp; omega)] at hq; cases hq
            rw [hj0] at hq
            simp at hq; subst hq
            have : j = m := by omega
            subst this
            exact hu
        · rw [List.take_succ_eq_append_getElem (by omega)]
          exact g3.append (Pw.cons hr Pw.nil)
    have hle : ti.size ≤ cs.length := by
      have := e2; rw [e1] at this; simp at this; omega
    obtain ⟨us, g1, g2, g3⟩ := hch ti.size hle
    rw [← e1] at g3
    obtain ⟨v, hr, k1, k2⟩ := run_loadVar_pw (w := w) hf ad us g1 g2 (fun ha => by
        rw [g3.1]
        rw [ha] at hv
        unfold mkV at hv
        split at hv <;> first | (rename_i hh; cases hh; done) | rfl | (cases hv; done))
    refine ⟨v, by simp [execOp, ho, hv', Instr.loadAt, Instr.sureAddr, hr], ?_⟩
    exact mkV_rep (f := SC.c) hv g3 k1 k2

theorem setRow_ext (w : World) (g : Nat) (cs : Array Value) : Ext (fun b => b = g) w (w.setRow g cs) :=
  ⟨rfl, rfl, rfl, by simp [World.setRow], fun k _ hne => by simp [World.setRow, Array.getElem?_modify, Ne.symm hne]⟩

theorem op_store_box {Θ : Tab} (hΘ : tabOK C.P Θ) {t : TypeId} {ti : TyI} {x y : Operand} {i off : Nat} {cs r : List SC} {s : SV}
    (ho : o.op = .store t x y) (ht : tyGet Θ t = some ti) (hx : evalC tm x = some (.ptr i off)) (hi : getM mm i = some (.box cs))
    (hy : evalV tm y = some s) (hk : s.cells.all SC.known = true) (hsz : Nat.beq s.cells.length ti.size = true) (hs : spliceL cs off s.cells = some r) (hd : o.dst = none) :
    OpR C n o tm mm tm (updM mm i (.box r)) := by
  intro a w ⟨H, Z, hm⟩
  obtain ⟨inf, de, hf⟩ := tyF hΘ ht
  obtain ⟨b, ty, vs, h1, h2, hlt, h4⟩ := hm.box hi
  obtain ⟨_, b', hb', hv'⟩ := evalC_rep hm hx
  rw [h1] at hb'
  simp [hblk] at hb'
  subst hb'
  obtain ⟨c1, c2⟩ := (evalV_rep hm hy).cells hm hk
  obtain ⟨e1, e2⟩ := spliceL_spec hs
  have hsize : (a.eval y).cells.size = ti.size := by rw [c1]; exact Nat.eq_of_beq_eq_true hsz
  have hone : ∀ v ∈ (a.eval y).cells.toList, v.oneCell' = true := by
    intro v hv
    obtain ⟨j, hj, hjv⟩ := List.mem_iff_getElem.1 hv
    have hjl : j < s.cells.length := by rw [← c1]; simpa using hj
    obtain ⟨u, hu, h1u, _⟩ := c2 j s.cells[j] (List.getElem?_eq_getElem hjl)
    have : u = v := by
      have : (a.eval y).cells.toList[j]? = some u := by simpa using hu
      rw [List.getElem?_eq_getElem hj, hjv] at this
      injection this with this; exact this.symm
    rw [← this]; exact h1u
  have hrun := run_storeCells_at (P := C.P) b off ty (a.eval y).cells.toList 0 vs w h2 (by
    have := h4.1
    simp at this ⊢
    rw [c1, this]; exact e2) hone
  have hlen : vs.toList.length = cs.length := h4.1
  refine .inr ⟨w.setRow b (vs.toList.take (off + 0) ++ (a.eval y).cells.toList ++ vs.toList.drop (off + 0 + (a.eval y).cells.toList.length)).toArray, ?_, H, Z, ?_⟩
  · simp only [execOp, ho, hv', Instr.storeAt, Instr.sureAddr, storeVar, Sem.run_bind, Sem.run_pure, Result.andThen_ok, hf.sizeOf, hsize, ne_eq, not_true, if_false, hrun]
  · rw [hd]
    refine hm.upd (b0 := b) ⟨_, getM_mem hi, rfl⟩ (by rw [h1]; rfl) (setRow_ext w b _) hm.defers hm.size ?_ (fun p hp => ⟨hp, rfl⟩)
    intro hMM hfr
    have hp : Pw (fun u c => u.oneCell' = true ∧ RepSC (Iof mm) H Z w (Mof C H mm) u c) (vs.toList.take off ++ (a.eval y).cells.toList ++ vs.toList.drop (off + (a.eval y).cells.toList.length)) r := by
      rw [e1]
      have hc : Pw (fun u c => u.oneCell' = true ∧ RepSC (Iof mm) H Z w (Mof C H mm) u c) (a.eval y).cells.toList s.cells :=
        ⟨by simpa using c1, fun j c hc => by simpa using c2 j c hc⟩
      rw [show (a.eval y).cells.toList.length = s.cells.length by simpa using c1]
      exact ((h4.take off).append hc).append (h4.drop _)
    rw [Nat.add_zero]
    refine ⟨b, ty, _, h1, setRow_heap w b vs _ ty _ h2, by simpa using hp.1, fun j c hc => ?_⟩
    · obtain ⟨u, hu, hu1, hu2⟩ := hp.2 j c hc
      refine ⟨u, by simpa using hu, hu1, hu2.mono (fun k _ hk => ⟨(updM_ids k).2 hk, rfl, rfl⟩) (setRow_ext w b _).size ?_ hMM⟩
      exact hfr

/-- Addresses of fields. -/
def fieldOff (fs : List (Nat × Nat)) (k : Nat) : Option Nat :=
  match fs, k with
  | [], _ => none
  | (o, _) :: _, 0 => some o
  | _ :: r, k + 1 => fieldOff r k

def addSC (s : SC) (k : Nat) : Option SC :=
  match s with
  | .ptr i off => some (.ptr i (off + k))
  | .aptr i j off => some (.aptr i j (off + k))
  | .eptr cs => match dropL cs k with
    | some r => some (.eptr r)
    | none => none
  | _ => none

theorem addSC_rep {H : Nat → Value} {Z : Nat → Nat} {w : World} {I M : Nat → Prop} {v : Value} {s r : SC} {k : Nat} (h : addSC s k = some r) (hr : RepSC I H Z w M v s) :
    ∃ ad : Addr, v = .pointer (some ad) ∧ RepSC I H Z w M (.pointer (some (ad.add k))) r := by
  cases s <;> simp only [addSC] at h <;> first
    | (cases h; done)
    | skip
  · injection h with h; subst h
    obtain ⟨hi, b, hb, hv⟩ := hr
    exact ⟨_, hv, hi, b, hb, by rw [add_mk]⟩
  · injection h with h; subst h
    obtain ⟨hi, b, hb, hv⟩ := hr
    exact ⟨_, hv, hi, b, hb, by rw [add_mk, Nat.add_assoc]⟩
  · split at h
    · rename_i cs r' hd
      injection h with h; subst h
      obtain ⟨ad, hv, h2, h3, h4, h5⟩ := hr
      refine ⟨ad, hv, ad.add k, rfl, add_spot h2 k, by rw [add_block]; exact h3, by rw [add_block]; exact h4, fun j c hc => ?_⟩
      rw [dropL_spec hd, List.getElem?_drop] at hc
      rw [add_add]
      exact h5 _ c hc
    · cases h

theorem op_fieldAddr {Θ : Tab} (hΘ : tabOK C.P Θ) {t : TypeId} {z bts : Nat} {ag : Bool} {zr : Option (List CT)} {fs : List (Nat × Nat)} {x : Operand} {k off : Nat} {s r : SC}
    (ho : o.op = .fieldAddr t x k) (ht : tyGet Θ t = some ⟨z, bts, ag, zr, .struct fs⟩) (hx : evalC tm x = some s) (hk : fieldOff fs k = some off) (hr : addSC s off = some r)
    (hd : o.dst = some d) (hn : Nat.blt d n = true) :
    OpV C n o tm mm d (.v (.one r)) :=
  OpV.val hd hn _ fun H Z a w hm => by
    obtain ⟨inf, de, hf⟩ := tyF hΘ ht
    obtain ⟨ad, hv, hrep⟩ := addSC_rep hr (evalC_rep hm hx)
    have hsh := hf.sh
    cases de <;> simp only [shChk] at hsh <;> try (cases hsh; done)
    rename_i fields
    simp only [Bool.and_eq_true] at hsh
    obtain ⟨s1, s2⟩ := hsh
    have hfs : fields.toList.map (fun f => (f.offset, f.type)) = fs := by simpa using s1
    have hget : ∀ (l : List (Nat × Nat)) (q : Nat) (o' : Nat), fieldOff l q = some o' → ∃ t', l[q]? = some (o', t') := by
      intro l
      induction l with
      | nil => intro q o' h; cases q <;> simp [fieldOff] at h
      | cons p l ih =>
        intro q o' h
        obtain ⟨p1, p2⟩ := p
        cases q with
        | zero => simp [fieldOff] at h; subst h; exact ⟨p2, rfl⟩
        | succ q => simp [fieldOff] at h; simpa using ih q o' h
    obtain ⟨t', ht'⟩ := hget fs k off hk
    rw [← hfs] at ht'
    simp at ht'
    obtain ⟨f, hf1, hf2, hf3⟩ := ht'
    have hnz : C.P.cellsOf f.type ≠ 0 := by
      have := Array.all_eq_true.1 s2
      obtain ⟨hlt, hfe⟩ := Array.getElem?_eq_some_iff.1 hf1
      have := this k hlt
      rw [hfe] at this
      simpa using this
    have hplace : (fieldPlace ad f).run C.P w = .ok (ad.add f.offset) w := by
      unfold fieldPlace
      unfold Program.cellsOf at hnz
      cases hq : C.P.info? f.type with
      | none => rw [hq] at hnz; simp at hnz
      | some jn =>
        rw [hq] at hnz
        simp at hnz
        simp [sizeOf, typeInfo, hq, hnz]
    refine ⟨.pointer (some (ad.add off)), ?_, hrep⟩
    simp [execOp, ho, hv, Instr.fieldAt, hf.underlying, hf1, Instr.sureAddr, hplace, hf2]

def capsOf (tm : TM) : List Operand → Option (List Nat)
  | [] => some []
  | x :: r => match evalC tm x with
    | some (.ptr i 0) => match capsOf tm r with
      | some is => some (i :: is)
      | none => none
    | _ => none

theorem op_makeFunc {f : FuncId} {caps : Array Operand} {ids : List Nat} (ho : o.op = .makeFunc (.func f) #[] caps)
    (hc : capsOf tm caps.toList = some ids) (hb : ids.all (fun i => match getM mm i with | some (.box _) => true | _ => false) = true) (hd : o.dst = some d) (hn : Nat.blt d n = true) :
    OpV C n o tm mm d (.v (.one (.clo f ids))) :=
  OpV.val hd hn _ fun H Z a w hm => by
    have key : ∀ (l : List Operand) (is : List Nat), capsOf tm l = some is → (∀ i ∈ is, (match getM mm i with | some (.box _) => true | _ => false) = true) →
        (∀ i ∈ is, Iof mm i) ∧ (l.map a.eval).length = is.length ∧ ∀ (j i : Nat), is[j]? = some i → (l.map a.eval)[j]? = some (H i) := by
      intro l
      induction l with
      | nil => intro is h _; simp [capsOf] at h; subst h; simp
      | cons x r ih =>
        intro is h hbx
        unfold capsOf at h
        split at h
        · rename_i i hx
          split at h
          · rename_i is' his
            injection h with h; subst h
            obtain ⟨k1, k2, k3⟩ := ih is' his (fun q hq => hbx q (List.mem_cons_of_mem _ hq))
            obtain ⟨hi, b, hb1, hv⟩ := evalC_rep hm hx
            have hbi := hbx i List.mem_cons_self
            split at hbi
            · rename_i cs hg
              obtain ⟨b', ty, vs, g1, _⟩ := hm.box hg
              rw [g1] at hb1
              simp [hblk] at hb1
              subst hb1
              refine ⟨fun q hq => ?_, by simpa using k2, fun j q hj => ?_⟩
              · rcases List.mem_cons.1 hq with rfl | hq
                · exact hi
                · exact k1 q hq
              · cases j with
                | zero => simp at hj; subst hj; simp [g1, hv]
                | succ j => simp at hj; simpa using k3 j q hj
            · cases hbi
          · cases h
        · cases h
    obtain ⟨k1, k2, k3⟩ := key caps.toList ids hc (List.all_eq_true.1 hb)
    refine ⟨.func (.func f) #[] (caps.map a.eval), by simp [execOp, ho, Instr.makeFunc], k1, caps.toList.map a.eval, by simp [← List.map_toArray], k2, k3⟩

theorem op_makeMap {t : TypeId} (ho : o.op = .makeMap t none) (hi : getM mm d = none) (hd : o.dst = some d) (hn : Nat.blt d n = true) :
    OpR C n o tm mm ((d, .v (.one (.mp d))) :: delL tm d) ((d, .mpo []) :: mm) := by
  intro a w ⟨H, Z, hm⟩
  refine .inl ⟨.map (some w.heap.size), w.alloc (.map #[] 0), by simp [execOp, ho, Instr.makeMap, newObj, Sem.run], Sy.upd H d (.map (some w.heap.size)), Sy.upd Z d 0, ?_⟩
  rw [hd]
  refine hm.add (i := d) (hv := .map (some w.heap.size)) (z := 0) (o := .mpo []) (getM_none hi) (Nat.blt_eq.mp hn) rfl (alloc_ext w _) ?_ ?_ ?_
  · intro b hb
    simp [hblk] at hb
    subst hb
    exact ⟨Nat.le_refl _, by show _ < (w.heap.push _).size; rw [Array.size_push]; omega⟩
  · intro _ _
    exact ⟨w.heap.size, #[], 0, upd_self _ _ _, alloc_new w _, rfl, fun j p hp => by simp at hp⟩
  · exact ⟨⟨_, List.mem_cons_self, rfl⟩, (upd_self _ _ _).symm⟩

/-- Lengths. -/
def lenOfC (mm : MM) : SC → Option Int
  | .c .nils => some 0
  | .c (.slice _ _ xs) => some (xs.length : Int)
  | .own i => match getM mm i with
    | some (.arr _ _ _ xs) => some (xs.length : Int)
    | _ => none
  | _ => none

theorem op_len_slice {Θ : Tab} (hΘ : tabOK C.P Θ) {t : TypeId} {z bts e : Nat} {ag : Bool} {zr : Option (List CT)} {x : Operand} {s : SC} {m : Int}
    (ho : o.op = .call { callee := .builtin .len, args := #[x], argTypes := #[t] }) (ht : tyGet Θ t = some ⟨z, bts, ag, zr, .slice e⟩)
    (hx : evalC tm x = some s) (hm : lenOfC mm s = some m) (hd : o.dst = some d) (hn : Nat.blt d n = true) :
    OpV C n o tm mm d (.v (.one (.c (.int .i64 m)))) :=
  OpV.val hd hn _ fun H Z a w hmod => by
    obtain ⟨inf, de, hf⟩ := tyF hΘ ht
    have hde : de = .slice e := by
      have := hf.sh
      cases de <;> simp [shChk] at this ⊢
      exact this
    subst hde
    have hr := evalC_rep hmod hx
    have hshape : ∃ (ad : Option Addr) (l c : Nat), a.eval x = .slice ad l c ∧ (l : Int) = m := by
      cases s <;> simp only [lenOfC] at hm <;> try (cases hm; done)
      · rename_i ct
        cases ct <;> simp only at hm <;> try (cases hm; done)
        · injection hm with hm; subst hm
          exact ⟨none, 0, 0, RepC.nils_inv hr, rfl⟩
        · injection hm with hm; subst hm
          have hr' : RepC w (Mof C H mm) (a.eval x) _ := hr
          generalize a.eval x = v at hr'
          cases hr' with
          | slice u hlen => exact ⟨_, _, _, rfl, by rw [hlen]⟩
      · split at hm
        · rename_i i nn e' sz xs hg
          injection hm with hm; subst hm
          obtain ⟨_, us, g1, _⟩ := hmod.mem _ (getM_mem hg)
          obtain ⟨_, hv⟩ := hr
          rcases g1.2 with ⟨hh, hz⟩ | ⟨g, cap, cur, hh, _⟩
          · rw [hh] at hv; exact ⟨_, _, _, hv, by rw [hz]⟩
          · rw [hh] at hv; exact ⟨_, _, _, hv, rfl⟩
        · cases hm
    obtain ⟨ad, l, c, hv, hl⟩ := hshape
    refine ⟨.int .i64 m, ?_, .int _ _⟩
    simp [execOp, ho, resolve, invoke, builtin, Builtin.len_, hf.underlying, hv, goInt, hl]

theorem op_len_str {Θ : Tab} (hΘ : tabOK C.P Θ) {t : TypeId} {z bts : Nat} {ag : Bool} {zr : Option (List CT)} {x : Operand} {s : ByteArray}
    (ho : o.op = .call { callee := .builtin .len, args := #[x], argTypes := #[t] }) (ht : tyGet Θ t = some ⟨z, bts, ag, zr, .string⟩)
    (hx : evalC tm x = some (.c (.str s))) (hd : o.dst = some d) (hn : Nat.blt d n = true) :
    OpV C n o tm mm d (.v (.one (.c (.int .i64 (s.size : Int))))) :=
  OpV.val hd hn _ fun H Z a w hmod => by
    obtain ⟨inf, de, hf⟩ := tyF hΘ ht
    have hde : de = .string := by
      have := hf.sh
      cases de <;> simp [shChk] at this ⊢
    subst hde
    have hv : a.eval x = .string s := RepC.str_inv (evalC_rep hmod hx)
    refine ⟨.int .i64 (s.size : Int), ?_, .int _ _⟩
    simp [execOp, ho, resolve, invoke, builtin, Builtin.len_, hf.underlying, hv, goInt]

theorem op_len_map {Θ : Tab} (hΘ : tabOK C.P Θ) {t : TypeId} {z bts k e : Nat} {ag : Bool} {zr : Option (List CT)} {x : Operand} {i : Nat} {es : List (FV × FV)}
    (ho : o.op = .call { callee := .builtin .len, args := #[x], argTypes := #[t] }) (ht : tyGet Θ t = some ⟨z, bts, ag, zr, .map k e⟩)
    (hx : evalC tm x = some (.mp i)) (hi : getM mm i = some (.mpo es)) (hd : o.dst = some d) (hn : Nat.blt d n = true) :
    OpV C n o tm mm d (.v (.one (.c (.int .i64 (es.length : Int))))) :=
  OpV.val hd hn _ fun H Z a w hmod => by
    obtain ⟨inf, de, hf⟩ := tyF hΘ ht
    have hde : de = .map k e := by
      have := hf.sh
      cases de <;> simp [shChk] at this ⊢
      exact this
    subst hde
    obtain ⟨r, ens, ck, h1, h2, h3, _⟩ := hmod.mem _ (getM_mem hi)
    obtain ⟨_, hv⟩ := evalC_rep hmod hx
    rw [h1] at hv
    refine ⟨.int .i64 (es.length : Int), ?_, .int _ _⟩
    simp [execOp, ho, resolve, invoke, builtin, Builtin.len_, hf.underlying, hv, goInt, getObj, Sem.run, h2, h3]

theorem op_min {x y : Operand} {k : IntKind} {p q : Int} {ts : Array TypeId} (ho : o.op = .call { callee := .builtin .min, args := #[x, y], argTypes := ts })
    (hx : evalC tm x = some (.c (.int k p))) (hy : evalC tm y = some (.c (.int k q))) (hd : o.dst = some d) (hn : Nat.blt d n = true) :
    OpV C n o tm mm d (.v (.one (.c (.int k (min p q))))) :=
  OpV.val hd hn _ fun H Z a w hm => by
    have h1 : a.eval x = .int k p := RepC.int_inv (evalC_rep hm hx)
    have h2 : a.eval y = .int k q := RepC.int_inv (evalC_rep hm hy)
    refine ⟨.int k (min p q), ?_, .int _ _⟩
    have : (if q < p then q else p) = min p q := by rw [Int.min_def]; split <;> split <;> omega
    simp [execOp, ho, resolve, invoke, builtin, Builtin.min_, h1, h2, Builtin.min2, this]

theorem op_max {x y : Operand} {k : IntKind} {p q : Int} {ts : Array TypeId} (ho : o.op = .call { callee := .builtin .max, args := #[x, y], argTypes := ts })
    (hx : evalC tm x = some (.c (.int k p))) (hy : evalC tm y = some (.c (.int k q))) (hd : o.dst = some d) (hn : Nat.blt d n = true) :
    OpV C n o tm mm d (.v (.one (.c (.int k (max p q))))) :=
  OpV.val hd hn _ fun H Z a w hm => by
    have h1 : a.eval x = .int k p := RepC.int_inv (evalC_rep hm hx)
    have h2 : a.eval y = .int k q := RepC.int_inv (evalC_rep hm hy)
    refine ⟨.int k (max p q), ?_, .int _ _⟩
    have : (if p < q then q else p) = max p q := by rw [Int.max_def]; split <;> split <;> omega
    simp [execOp, ho, resolve, invoke, builtin, Builtin.max_, h1, h2, Builtin.max2, this]
end
end Go.Sy
