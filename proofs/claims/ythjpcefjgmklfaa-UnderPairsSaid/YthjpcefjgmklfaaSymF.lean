/- Symbolic states: literals of structs, arrays and slices. -/
import Derived.Test.YthjpcefjgmklfaaSymE
namespace Go.Sy
set_option linter.unusedSimpArgs false
set_option linter.unusedVariables false
set_option linter.unusedSectionVars false
open Go.RowKit

theorem foldl_zipIdx (off : Nat) : ∀ (l : List Value) (k : Nat) (cells : Array Value), off + k + l.length ≤ cells.size →
    ((l.zipIdx k).foldl (fun cs (p : Value × Nat) => cs.setIfInBounds (off + p.2) p.1) cells).toList = cells.toList.take (off + k) ++ l ++ cells.toList.drop (off + k + l.length)
  | [], k, cells, _ => by simp
  | v :: l, k, cells, h => by
    simp only [List.zipIdx_cons, List.foldl_cons]
    rw [foldl_zipIdx off l (k + 1) (cells.setIfInBounds (off + k) v) (by simp at h ⊢; omega)]
    have hlt : off + k < cells.toList.length := by simp at h ⊢; omega
    simp only [Array.toList_setIfInBounds]
    apply List.ext_getElem?
    intro j
    simp only [List.getElem?_append, List.getElem?_take, List.getElem?_drop, List.length_append, List.length_take, List.length_set, List.length_cons, List.getElem?_set, List.getElem?_cons]
    simp at hlt h
    by_cases h1 : j < off + k
    · have h2 : off + k ≠ j := by omega
      simp [h1, h2, show j < off + (k + 1) by omega, show j < min (off + (k + 1)) cells.size by omega, show j < min (off + k) cells.size by omega,
        show j < min (off + (k + 1)) cells.size + l.length by omega, show j < min (off + k) cells.size + (l.length + 1) by omega]
    · by_cases h2 : j = off + k
      · subst h2
        simp [hlt, show off + k < min (off + (k + 1)) cells.size by omega, show ¬ off + k < min (off + k) cells.size by omega,
          show off + k < min (off + (k + 1)) cells.size + l.length by omega, show off + k < min (off + k) cells.size + (l.length + 1) by omega,
          show off + k < off + (k + 1) by omega, show off + k - min (off + k) cells.size = 0 by omega]
      · have h4 : ¬ j < min (off + (k + 1)) cells.size := by omega
        have h5 : ¬ j < min (off + k) cells.size := by omega
        by_cases h6 : j < off + k + (l.length + 1)
        · simp [h4, h5, show j < min (off + (k + 1)) cells.size + l.length by omega, show j < min (off + k) cells.size + (l.length + 1) by omega,
            show j - min (off + k) cells.size ≠ 0 by omega]
          congr 1
          omega
        · simp [show ¬ j < min (off + (k + 1)) cells.size + l.length by omega, show ¬ j < min (off + k) cells.size + (l.length + 1) by omega]
          rw [if_neg (by omega)]
          congr 1
          omega

/-- One part laid into the cells. -/
theorem fill_cons (place : Nat → Option (Nat × Nat)) (cells : Array Value) (i : Nat) (v : Value) (rest : List (Nat × Value)) {off size : Nat}
    (hp : place i = some (off, size)) (hs : v.cells.size = size) (hb : off + size ≤ cells.size) :
    Instr.fill place cells ((i, v) :: rest) =
      Instr.fill place (cells.toList.take off ++ v.cells.toList ++ cells.toList.drop (off + v.cells.toList.length)).toArray rest := by
  conv => lhs; unfold Instr.fill
  simp only [hp]
  rw [if_neg (by simp [hs]; omega)]
  congr 1
  have h := foldl_zipIdx off v.cells.toList 0 cells (by simp [hs]; omega)
  simp only [Nat.add_zero] at h
  rw [← h]
  simp only [← Array.foldl_toList, Array.toList_zipIdx]

/-- The parts of a literal, laid into cells: where each lies is told by 'place'. -/
def layL (place : Nat → Option (Nat × Nat)) (tm : TM) : List SC → List (Nat × Operand) → Option (List SC)
  | cells, [] => some cells
  | cells, (i, x) :: r =>
    match place i with
    | some (off, size) =>
      match evalV tm x with
      | some s =>
        match Nat.beq s.cells.length size with
        | true =>
          match s.cells.all SC.known with
          | true =>
            match spliceL cells off s.cells with
            | some c' => layL place tm c' r
            | none => none
          | false => none
        | false => none
      | none => none
    | none => none

section
variable {C : Ctx} {n : Nat} {tm : TM} {mm : MM} {o : Oper} {d : Nat}

theorem layL_fill {H : Nat → Value} {Z : Nat → Nat} {a : Act} {w : World} (hm : Mod C H Z n tm mm a w) (place : Nat → Option (Nat × Nat)) :
    ∀ (parts : List (Nat × Operand)) (cells : List SC) (vs : Array Value) (r : List SC),
      Pw (fun u c => u.oneCell' = true ∧ RepSC (Iof mm) H Z w (Mof C H mm) u c) vs.toList cells → layL place tm cells parts = some r →
      ∃ vs' : Array Value, Instr.fill place vs (parts.map fun p => (p.1, a.eval p.2)) = some vs' ∧ Pw (fun u c => u.oneCell' = true ∧ RepSC (Iof mm) H Z w (Mof C H mm) u c) vs'.toList r
  | [], cells, vs, r, hp, h => by
    simp [layL] at h; subst h
    exact ⟨vs, rfl, hp⟩
  | (i, x) :: parts, cells, vs, r, hp, h => by
    unfold layL at h
    split at h
    · rename_i off size hpl
      split at h
      · rename_i s hs
        split at h
        · rename_i hsz
          split at h
          · rename_i hk
            split at h
            · rename_i c' hc'
              obtain ⟨e1, e2⟩ := (evalV_rep hm hs).cells hm hk
              obtain ⟨f1, f2⟩ := spliceL_spec hc'
              have hlen : s.cells.length = size := Nat.eq_of_beq_eq_true hsz
              have hvl : vs.size = cells.length := by simpa using hp.1
              have hc : Pw (fun u c => u.oneCell' = true ∧ RepSC (Iof mm) H Z w (Mof C H mm) u c) (a.eval x).cells.toList s.cells :=
                ⟨by simpa using e1, fun j c hc => by simpa using e2 j c hc⟩
              obtain ⟨vs', g1, g2⟩ := layL_fill hm place parts c' (vs.toList.take off ++ (a.eval x).cells.toList ++ vs.toList.drop (off + (a.eval x).cells.toList.length)).toArray r (by
                rw [f1, show (a.eval x).cells.toList.length = s.cells.length by simpa using e1]
                exact ((hp.take off).append hc).append (hp.drop _)) h
              refine ⟨vs', ?_, g2⟩
              rw [List.map_cons, fill_cons place vs i (a.eval x) _ hpl (by rw [e1, hlen]) (by rw [hvl, ← hlen]; exact f2)]
              exact g1
            · cases h
          · cases h
        · cases h
      · cases h
    · cases h

def structPlace (Θ : Tab) (fs : List (Nat × Nat)) (i : Nat) : Option (Nat × Nat) :=
  match fs, i with
  | [], _ => none
  | (o, t) :: _, 0 => match tyGet Θ t with
    | some ti => some (o, ti.size)
    | none => none
  | _ :: r, k + 1 => structPlace Θ r k

theorem structPlace_spec {Θ : Tab} : ∀ {fs : List (Nat × Nat)} {i : Nat} {p : Nat × Nat}, structPlace Θ fs i = some p → ∃ t ti, fs[i]? = some (p.1, t) ∧ tyGet Θ t = some ti ∧ p.2 = ti.size
  | [], i, p, h => by cases i <;> simp [structPlace] at h
  | (o, t) :: r, 0, p, h => by
    unfold structPlace at h
    split at h
    · rename_i ti hti
      injection h with h; subst h
      exact ⟨t, ti, rfl, hti, rfl⟩
    · cases h
  | q :: r, k + 1, p, h => by
    unfold structPlace at h
    simpa using structPlace_spec h

theorem mapM_sizes {P : Program} {w : World} (fields : List Field) (hall : ∀ f ∈ fields, P.cellsOf f.type ≠ 0) :
    (fields.mapM (m := Sem) fun f => do pure (f.offset, ← sizeOf f.type)).run P w = .ok (fields.map fun f => (f.offset, P.cellsOf f.type)) w := by
  induction fields with
  | nil => simp
  | cons f r ih =>
    have h1 : (sizeOf f.type).run P w = .ok (P.cellsOf f.type) w := by
      have := hall f List.mem_cons_self
      unfold Program.cellsOf at this ⊢
      cases hq : P.info? f.type with
      | none => rw [hq] at this; simp at this
      | some inf => simp [sizeOf, typeInfo, hq]
    rw [List.mapM_cons]
    simp only [Sem.run_bind, h1, Result.andThen_ok, Sem.run_pure, ih (fun g hg => hall g (List.mem_cons_of_mem _ hg)), List.map_cons]

theorem fill_congr (p q : Nat → Option (Nat × Nat)) : ∀ (parts : List (Nat × Value)) (cells : Array Value), (∀ x ∈ parts, p x.1 = q x.1) → Instr.fill p cells parts = Instr.fill q cells parts
  | [], _, _ => rfl
  | (i, v) :: r, cells, h => by
    have e : p i = q i := h (i, v) List.mem_cons_self
    simp only [Instr.fill, e]
    cases q i with
    | none => rfl
    | some os =>
      obtain ⟨off, size⟩ := os
      simp only
      split
      · rfl
      · exact fill_congr p q r _ (fun x hx => h x (List.mem_cons_of_mem _ hx))

theorem layL_places {place : Nat → Option (Nat × Nat)} : ∀ {parts : List (Nat × Operand)} {cells r : List SC}, layL place tm cells parts = some r → ∀ x ∈ parts, (place x.1).isSome = true
  | [], _, _, _, x, hx => by simp at hx
  | (i, y) :: parts, cells, r, h, x, hx => by
    unfold layL at h
    split at h
    · rename_i off size hpl
      split at h
      · split at h
        · split at h
          · split at h
            · rcases List.mem_cons.1 hx with rfl | hx
              · simp [hpl]
              · exact layL_places h x hx
            · cases h
          · cases h
        · cases h
      · cases h
    · cases h

theorem op_build_struct {Θ : Tab} (hΘ : tabOK C.P Θ) {t : TypeId} {z bts : Nat} {zr : List CT} {fs : List (Nat × Nat)} {parts : Array (Nat × Operand)} {r : List SC}
    (ho : o.op = .build t parts) (ht : tyGet Θ t = some ⟨z, bts, true, some zr, .struct fs⟩) (hl : layL (structPlace Θ fs) tm (mkV.mapS SC.c zr) parts.toList = some r)
    (hd : o.dst = some d) (hn : Nat.blt d n = true) :
    OpV C n o tm mm d (.v (.agg r)) :=
  OpV.val hd hn _ fun H Z a w hm => by
    obtain ⟨inf, de, hf⟩ := tyF hΘ ht
    obtain ⟨zv, hz, hzc, hzl⟩ := hf.zero zr rfl
    obtain ⟨h1, h2⟩ := zchk_cells (w := w) (M := Mof C H mm) hzc
    have hp : Pw (fun u c => u.oneCell' = true ∧ RepSC (Iof mm) H Z w (Mof C H mm) u c) zv.cells.toList (mkV.mapS SC.c zr) := by
      rw [mapS_eq]
      refine Pw.map.2 ⟨by simpa using h1, fun j c hc => ?_⟩
      obtain ⟨u, hu, hr⟩ := h2 j c hc
      exact ⟨u, by simpa using hu, hr.one, hr⟩
    obtain ⟨vs', g1, g2⟩ := layL_fill hm (structPlace Θ fs) parts.toList _ _ r hp hl
    have hsh := hf.sh
    cases de <;> simp only [shChk] at hsh <;> try (cases hsh; done)
    rename_i fields
    simp only [Bool.and_eq_true] at hsh
    obtain ⟨s1, s2⟩ := hsh
    have hfs : fields.toList.map (fun f => (f.offset, f.type)) = fs := by simpa using s1
    have hall : ∀ f ∈ fields.toList, C.P.cellsOf f.type ≠ 0 := by
      intro f hf'
      have := Array.all_eq_true_iff_forall_mem.1 s2 f (by simpa using hf')
      simpa using this
    have hmap : (fields.mapM (m := Sem) fun f => do pure (f.offset, ← sizeOf f.type)).run C.P w = .ok (fields.map fun f => (f.offset, C.P.cellsOf f.type)) w := by
      have := mapM_sizes (P := C.P) (w := w) fields.toList hall
      rw [Array.mapM_eq_mapM_toList]
      simp only [Sem.run_map, this, Result.andThen_ok, List.map_toArray]
      simp [← List.map_toArray]
    refine ⟨.agg vs', ?_, ?_⟩
    · have hfill : Instr.fill (fun i => (fields.map fun f => (f.offset, C.P.cellsOf f.type))[i]?) zv.cells (parts.map fun (i, x) => (i, a.eval x)).toList = some vs' := by
        rw [← g1, Array.toList_map]
        refine fill_congr _ _ _ _ ?_
        intro x hx
        obtain ⟨y, hy, rfl⟩ := List.mem_map.1 hx
        have hsome := layL_places hl y hy
        obtain ⟨p, hp'⟩ := Option.isSome_iff_exists.1 hsome
        obtain ⟨t', ti, k1, k2, k3⟩ := structPlace_spec hp'
        simp only [hp']
        rw [← hfs] at k1
        simp at k1
        obtain ⟨f, hf1, hf2, hf3⟩ := k1
        obtain ⟨inf', de', hf'⟩ := tyF hΘ k2
        have hce : C.P.cellsOf f.type = ti.size := by
          unfold Program.cellsOf
          rw [hf3, hf'.info]
          simp [hf'.size]
        have : p = (f.offset, ti.size) := by rw [hf2, ← k3]
        simp [hf1, hce, this]
      simp only [execOp, ho, Instr.build, Sem.run_bind, hf.zeroValue hz, Result.andThen_ok, hf.underlying, hmap, hfill, Sem.run_pure]
    · refine ⟨vs', rfl, by simpa using g2.1, fun j c hc => ?_⟩
      obtain ⟨u, hu, _, hr⟩ := g2.2 j c hc
      exact ⟨u, by simpa using hu, hr⟩

theorem op_build_array {Θ : Tab} (hΘ : tabOK C.P Θ) {t : TypeId} {z bts len e : Nat} {zr : List CT} {parts : Array (Nat × Operand)} {r : List SC} {ei : TyI}
    (ho : o.op = .build t parts) (ht : tyGet Θ t = some ⟨z, bts, true, some zr, .arr len e⟩) (hei : tyGet Θ e = some ei)
    (hl : layL (fun i => some (i * ei.size, ei.size)) tm (mkV.mapS SC.c zr) parts.toList = some r)
    (hd : o.dst = some d) (hn : Nat.blt d n = true) :
    OpV C n o tm mm d (.v (.agg r)) :=
  OpV.val hd hn _ fun H Z a w hm => by
    obtain ⟨inf, de, hf⟩ := tyF hΘ ht
    obtain ⟨inf', de', hf'⟩ := tyF hΘ hei
    obtain ⟨zv, hz, hzc, hzl⟩ := hf.zero zr rfl
    obtain ⟨h1, h2⟩ := zchk_cells (w := w) (M := Mof C H mm) hzc
    have hp : Pw (fun u c => u.oneCell' = true ∧ RepSC (Iof mm) H Z w (Mof C H mm) u c) zv.cells.toList (mkV.mapS SC.c zr) := by
      rw [mapS_eq]
      refine Pw.map.2 ⟨by simpa using h1, fun j c hc => ?_⟩
      obtain ⟨u, hu, hr⟩ := h2 j c hc
      exact ⟨u, by simpa using hu, hr.one, hr⟩
    obtain ⟨vs', g1, g2⟩ := layL_fill hm _ parts.toList _ _ r hp hl
    have hde : de = .array len e := by
      have := hf.sh
      cases de <;> simp [shChk] at this ⊢
      exact this
    subst hde
    refine ⟨.agg vs', ?_, ?_⟩
    · have hfill : Instr.fill (fun i => some (i * ei.size, ei.size)) zv.cells (parts.map fun (i, x) => (i, a.eval x)).toList = some vs' := by
        rw [← g1, Array.toList_map]
      simp only [execOp, ho, Instr.build, Sem.run_bind, hf.zeroValue hz, Result.andThen_ok, hf.underlying, hf'.sizeOf, hfill, Sem.run_pure]
    · refine ⟨vs', rfl, by simpa using g2.1, fun j c hc => ?_⟩
      obtain ⟨u, hu, _, hr⟩ := g2.2 j c hc
      exact ⟨u, by simpa using hu, hr⟩
end
end Go.Sy
