/- Symbolic states: sets of pairs; elements of one's own rows. -/
import Derived.Test.YthjpcefjgmklfaaSymV
namespace Go.Sy
set_option linter.unusedSimpArgs false
set_option linter.unusedVariables false
set_option linter.unusedSectionVars false
open Go.RowKit

abbrev pairF (p : Int × Int) : FV := .agg [.int .i64 p.1, .int .i64 p.2]
/-- A set of pairs: a map to bools of which each entry is true. -/
abbrev setM (l : List (Int × Int)) : MO := .mpo (entF pairF (l.map fun p => (p, CT.bool true)))

theorem pairF_iff (w : World) (M : Nat → Prop) (v : Value) (a : Int × Int) : RepF w M v (pairF a) ↔ v = pairV a := by
  constructor
  · rintro ⟨vs, rfl, h2, h3⟩
    obtain ⟨u0, g0, r0⟩ := h3 0 _ rfl
    obtain ⟨u1, g1, r1⟩ := h3 1 _ rfl
    have e0 := RepC.int_inv r0
    have e1 := RepC.int_inv r1
    subst e0 e1
    have : vs = #[.int .i64 a.1, .int .i64 a.2] := by
      apply Array.ext_getElem?
      intro i
      match i with
      | 0 => simp [g0]
      | 1 => simp [g1]
      | i + 2 =>
        have : vs.size ≤ i + 2 := by simp at h2; omega
        rw [Array.getElem?_eq_none this]; simp
    rw [this]; rfl
  · rintro rfl
    refine ⟨_, rfl, rfl, fun j c hc => ?_⟩
    match j, hc with
    | 0, hc => simp at hc; subst hc; exact ⟨_, rfl, .int _ _⟩
    | 1, hc => simp at hc; subst hc; exact ⟨_, rfl, .int _ _⟩
    | j + 2, hc => simp at hc

theorem pairS_rep {x y : Int} (I : Nat → Prop) (H : Nat → Value) (Z : Nat → Nat) (w : World) (M : Nat → Prop) (v : Value) (h : RepSV I H Z w M v (.agg [.c (.int .i64 x), .c (.int .i64 y)])) : v = pairV (x, y) := by
  obtain ⟨vs, h1, h2, h3⟩ := h
  refine (pairF_iff w M v (x, y)).1 ⟨vs, h1, h2, fun j c hc => ?_⟩
  match j, hc with
  | 0, hc => simp at hc; subst hc; exact h3 0 _ rfl
  | 1, hc => simp at hc; subst hc; exact h3 1 _ rfl
  | j + 2, hc => simp at hc

theorem set_look {l : List (Int × Int)} {p : Int × Int} : lookC (l.map fun q => (q, CT.bool true)) p (.bool false) = .bool (decide (p ∈ l)) := by
  unfold lookC
  cases h : (l.map fun q => (q, CT.bool true)).find? fun q => decide (p = q.1) with
  | none =>
    rw [List.find?_eq_none] at h
    have : p ∉ l := fun hp => by simpa using h (p, .bool true) (List.mem_map_of_mem hp)
    simp [this]
  | some q =>
    have h1 := List.find?_some h
    have h2 := List.mem_of_find?_eq_some h
    obtain ⟨r, hr, rfl⟩ := List.mem_map.1 h2
    have : p = r := by simpa using h1
    subst this
    simp [hr]
def addS (l : List (Int × Int)) (p : Int × Int) : List (Int × Int) := if p ∈ l then l else l ++ [p]
theorem set_put {l : List (Int × Int)} {p : Int × Int} : putC (l.map fun q => (q, CT.bool true)) p (.bool true) = (addS l p).map fun q => (q, CT.bool true) := by
  unfold putC addS
  cases h : (l.map fun q => (q, CT.bool true)).findIdx? fun q => decide (p = q.1) with
  | none =>
    rw [List.findIdx?_eq_none_iff] at h
    have : p ∉ l := fun hp => by simpa using h (p, .bool true) (List.mem_map_of_mem hp)
    simp [this]
  | some i =>
    rw [List.findIdx?_eq_some_iff_getElem] at h
    obtain ⟨hi, h1, _⟩ := h
    have hil : i < l.length := by simpa using hi
    have hp : p = l[i] := by simpa using h1
    have : p ∈ l := by rw [hp]; exact List.getElem_mem hil
    simp only [this, if_true]
    apply List.ext_getElem?
    intro j
    rw [List.getElem?_set]
    by_cases hij : i = j
    · subst hij; simp [hil, hp]
    · simp [hij]

section
variable {C : Ctx} {n : Nat} {tm : TM} {mm : MM} {L l : List Oper} {T : TM → MM → Prop} {o : Oper} {d : Nat}

theorem s_has {Θ : Tab} (hΘ : tabOK C.P Θ) {t k e e' : TypeId} {x y : Operand} {z bts zk bk be zb bb : Nat} {ag agk : Bool} {zt ztk zte : Option (List CT)} {shb : Sh} {i : Nat} {m : List (Int × Int)} {p q : Int}
    (ho : o.op = .lookup t x y false) (ht : tyGet Θ t = some ⟨z, bts, ag, zt, .map k e⟩) (hei : tyGet Θ e = some ⟨zb, bb, false, some [.bool false], shb⟩) (hk : tyGet Θ k = some ⟨zk, bk, agk, ztk, .arr 2 e'⟩) (he : tyGet Θ e' = some ⟨1, be, false, zte, .int .i64⟩)
    (hx : evalC tm x = some (.mp i)) (hi : getM mm i = some (setM m)) (hy : evalV tm y = some (.agg [.c (.int .i64 p), .c (.int .i64 q)])) (hd : o.dst = some d) (hn : Nat.blt d n = true) (hg : guardL L tm o = some true)
    (g : SOps C n L.toArray l ((d, .v (.one (.c (.bool (decide ((p, q) ∈ m)))))) :: delL tm d) mm T) : SOps C n L.toArray (o :: l) tm mm T := by
  obtain ⟨inf, de, hf⟩ := tyF hΘ hk
  obtain ⟨inf', de', hf'⟩ := tyF hΘ he
  have h1 : de = .array 2 e' := by
    have := hf.sh
    cases de <;> simp [shChk] at this ⊢
    exact this
  have h2 : de' = .int .i64 := by
    have := hf'.sh
    cases de' <;> simp [shChk] at this ⊢
    exact this
  subst h1 h2
  have h3 := op_lookup (n := n) (zc := .bool false) hΘ ho ht hei rfl rfl (pair_keyL hf hf' rfl rfl) (fun w M v a h => (pairF_iff w M v a).1 h) hx hi hy pairS_rep hd hn
  rw [set_look] at h3
  exact s_step h3.wp hg g
theorem s_put {Θ : Tab} (hΘ : tabOK C.P Θ) {t k e e' : TypeId} {x y vx : Operand} {z bts zk bk be : Nat} {ag agk : Bool} {zt ztk zte : Option (List CT)} {i : Nat} {m : List (Int × Int)} {p q : Int}
    (ho : o.op = .mapUpdate t x y vx ∨ o.op = .insert t x y vx) (ht : tyGet Θ t = some ⟨z, bts, ag, zt, .map k e⟩) (hk : tyGet Θ k = some ⟨zk, bk, agk, ztk, .arr 2 e'⟩) (he : tyGet Θ e' = some ⟨1, be, false, zte, .int .i64⟩)
    (hx : evalC tm x = some (.mp i)) (hi : getM mm i = some (setM m)) (hy : evalV tm y = some (.agg [.c (.int .i64 p), .c (.int .i64 q)])) (hvx : evalD tm vx = some (.one (.c (.bool true)))) (hd : o.dst = none) (hg : guardL L tm o = some true)
    (g : SOps C n L.toArray l tm (updM mm i (setM (addS m (p, q)))) T) : SOps C n L.toArray (o :: l) tm mm T := by
  obtain ⟨inf, de, hf⟩ := tyF hΘ hk
  obtain ⟨inf', de', hf'⟩ := tyF hΘ he
  have h1 : de = .array 2 e' := by
    have := hf.sh
    cases de <;> simp [shChk] at this ⊢
    exact this
  have h2 : de' = .int .i64 := by
    have := hf'.sh
    cases de' <;> simp [shChk] at this ⊢
    exact this
  subst h1 h2
  have h3 := op_mapUpdate (n := n) (c := .bool true) hΘ ho ht (pair_keyL hf hf' rfl rfl) pairF_iff hx hi hy pairS_rep hvx hd
  rw [set_put] at h3
  exact s_step h3.wp hg g

theorem s_idxo {Θ : Tab} (hΘ : tabOK C.P Θ) {t : TypeId} {x y : Operand} {id : Nat} {nn : Bool} {sz : Nat} {xs : List (List CT)} {kd : IntKind} {m : Int} {e e' : Nat} {z bts : Nat} {ag : Bool} {zr : Option (List CT)} {ei : TyI}
    (ho : o.op = .indexAddr t x y) (ht : tyGet Θ t = some ⟨z, bts, ag, zr, .slice e⟩) (hei : tyGet Θ e = some ei) (hsz : Nat.beq ei.size sz = true)
    (hx : evalC tm x = some (.own id)) (hid : getM mm id = some (.arr nn e' sz xs)) (hi : evalC tm y = some (.c (.int kd m))) (hd : o.dst = some d) (hn : Nat.blt d n = true) (hg : guardL L tm o = some true)
    (j : Nat) (hm : m = (j : Int)) (hj : j < xs.length) (k : SOps C n L.toArray l ((d, .v (.one (.aptr id j 0))) :: delL tm d) mm T) : SOps C n L.toArray (o :: l) tm mm T :=
  s_step (op_idx_own hΘ ho ht hei hsz hx hid hi hm hj hd hn).wp hg k
theorem s_loada {Θ : Tab} (hΘ : tabOK C.P Θ) {t : TypeId} {ti : TyI} {x : Operand} {i j off e sz : Nat} {nn : Bool} {xs : List (List CT)} {ys : List CT} {s : SV} (cs : List CT)
    (ho : o.op = .load t x) (ht : tyGet Θ t = some ti) (hx : evalC tm x = some (.aptr i j off)) (hi : getM mm i = some (.arr nn e sz xs)) (hj : xs[j]? = some cs)
    (hs : subL cs off ti.size = some ys) (hv : mkV SC.c ti.agg ys = some s) (hd : o.dst = some d) (hn : Nat.blt d n = true) (hg : guardL L tm o = some true)
    (k : SOps C n L.toArray l ((d, .v s) :: delL tm d) mm T) : SOps C n L.toArray (o :: l) tm mm T :=
  s_step (op_load_aptr hΘ ho ht hx hi hj hs hv hd hn).wp hg k
end
section
variable {C : Ctx} {n : Nat} {tm tm0 : TM} {mm : MM} {L l : List Oper} {T : TM → Prop} {o : Oper} {d : Nat}

theorem d_idxo {Θ : Tab} (hΘ : tabOK C.P Θ) {t : TypeId} {x y : Operand} {id : Nat} {nn : Bool} {sz : Nat} {xs : List (List CT)} {kd : IntKind} {m : Int} {e e' : Nat} {z bts : Nat} {ag : Bool} {zr : Option (List CT)} {ei : TyI}
    (ho : o.op = .indexAddr t x y) (ht : tyGet Θ t = some ⟨z, bts, ag, zr, .slice e⟩) (hei : tyGet Θ e = some ei) (hsz : Nat.beq ei.size sz = true)
    (hx : evalC (onlyE (looksE L o) tm) x = some (.own id)) (hid : getM mm id = some (.arr nn e' sz xs)) (hi : evalC (onlyE (looksE L o) tm) y = some (.c (.int kd m))) (hd : o.dst = some d) (hn : Nat.blt d n = true) (hg : guardL L (onlyE (looksE L o) tm) o = some true)
    (j : Nat) (hm : m = (j : Int)) (hj : j < xs.length) (k : DOps C n mm L tm0 l ((d, .v (.one (.aptr id j 0))) :: delL tm d) T) : DOps C n mm L tm0 (o :: l) tm T :=
  d_step (op_idx_own hΘ ho ht hei hsz hx hid hi hm hj hd hn) hg k
theorem d_loada {Θ : Tab} (hΘ : tabOK C.P Θ) {t : TypeId} {ti : TyI} {x : Operand} {i j off e sz : Nat} {nn : Bool} {xs : List (List CT)} {ys : List CT} {s : SV} (cs : List CT)
    (ho : o.op = .load t x) (ht : tyGet Θ t = some ti) (hx : evalC (onlyE (looksE L o) tm) x = some (.aptr i j off)) (hi : getM mm i = some (.arr nn e sz xs)) (hj : xs[j]? = some cs)
    (hs : subL cs off ti.size = some ys) (hv : mkV SC.c ti.agg ys = some s) (hd : o.dst = some d) (hn : Nat.blt d n = true) (hg : guardL L (onlyE (looksE L o) tm) o = some true)
    (k : DOps C n mm L tm0 l ((d, .v s) :: delL tm d) T) : DOps C n mm L tm0 (o :: l) tm T :=
  d_step (op_load_aptr hΘ ho ht hx hi hj hs hv hd hn) hg k
end
end Go.Sy
