/- Symbolic states: operations with a side condition (an index in range, a sum that fits). -/
import Derived.Test.YthjpcefjgmklfaaSymG
namespace Go.Sy
set_option linter.unusedSimpArgs false
set_option linter.unusedVariables false
set_option linter.unusedSectionVars false
open Go.RowKit

section
variable {C : Ctx} {n : Nat} {tm : TM} {mm : MM} {o : Oper} {d : Nat}

theorem op_arith {p : BinOp} {t t' : TypeId} {x y : Operand} {k : IntKind} {a b r : Int} (ho : o.op = .binOp p t x y t')
    (hx : evalC tm x = some (.c (.int k a))) (hy : evalC tm y = some (.c (.int k b)))
    (hr : match p with
      | .add => k.wrap (a + b) = r
      | .sub => k.wrap (a - b) = r
      | .mul => k.wrap (a * b) = r
      | .rem => b ≠ 0 ∧ a.tmod b = r
      | .quo => b ≠ 0 ∧ k.wrap (a.tdiv b) = r
      | _ => False) (hd : o.dst = some d) (hn : Nat.blt d n = true) :
    OpV C n o tm mm d (.v (.one (.c (.int k r)))) :=
  OpV.val hd hn _ fun H Z A w hm => by
    have h1 : A.eval x = .int k a := RepC.int_inv (evalC_rep hm hx)
    have h2 : A.eval y = .int k b := RepC.int_inv (evalC_rep hm hy)
    refine ⟨.int k r, ?_, .int _ _⟩
    cases p <;> simp only at hr <;> first
      | exact hr.elim
      | (subst hr; simp [execOp, ho, h1, h2, eqGuard, binOp, Op.intArith])
      | (obtain ⟨h0, rfl⟩ := hr; simp [execOp, ho, h1, h2, eqGuard, binOp, Op.intDiv, h0])

theorem op_catS {t t' : TypeId} {x y : Operand} {a b : ByteArray} (ho : o.op = .binOp .add t x y t')
    (hx : evalC tm x = some (.c (.str a))) (hy : evalC tm y = some (.c (.str b))) (hr : a.size + b.size ≤ 9223372036854775807) (hd : o.dst = some d) (hn : Nat.blt d n = true) :
    OpV C n o tm mm d (.v (.one (.c (.str (a ++ b))))) :=
  OpV.val hd hn _ fun H Z A w hm => by
    have h1 : A.eval x = .string a := RepC.str_inv (evalC_rep hm hx)
    have h2 : A.eval y = .string b := RepC.str_inv (evalC_rep hm hy)
    refine ⟨.string (a ++ b), ?_, .str _⟩
    have : ¬ ((a.size + b.size : Nat) : Int) > IntKind.i64.max := by
      simp [IntKind.max, IntKind.bits, IntKind.signed]; omega
    simp only [execOp, ho, h1, h2, eqGuard, binOp, Op.stringOp, Sem.run_bind]
    rw [if_neg this]
    simp

theorem op_indexS {t : TypeId} {x i : Operand} {s : ByteArray} {k : IntKind} {m : Int} {j : Nat} {b : UInt8} {Θ : Tab} (hΘ : tabOK C.P Θ) {z bts : Nat} {ag : Bool} {zr : Option (List CT)}
    (ho : o.op = .index t x i) (ht : tyGet Θ t = some ⟨z, bts, ag, zr, .string⟩)
    (hx : evalC tm x = some (.c (.str s))) (hi : evalC tm i = some (.c (.int k m))) (hm : m = (j : Int)) (hb : s.data.toList[j]? = some b) (hd : o.dst = some d) (hn : Nat.blt d n = true) :
    OpV C n o tm mm d (.v (.one (.c (.int .u8 (b.toNat : Int))))) :=
  OpV.val hd hn _ fun H Z A w hmod => by
    have h1 : A.eval x = .string s := RepC.str_inv (evalC_rep hmod hx)
    have h2 : A.eval i = .int k m := RepC.int_inv (evalC_rep hmod hi)
    obtain ⟨inf, de, hf⟩ := tyF hΘ ht
    have hde : de = .string := by
      have := hf.sh
      cases de <;> simp [shChk] at this ⊢
    subst hde
    subst hm
    refine ⟨.int .u8 (b.toNat : Int), ?_, .int _ _⟩
    have hs : s[j]? = some b := by
      obtain ⟨hl, he⟩ := List.getElem?_eq_some_iff.1 hb
      have hl' : j < s.size := by simpa using hl
      rw [getElem?_pos s j hl', ← he]
      rfl
    simp [execOp, ho, h1, h2, Instr.index, asIntOf, hf.underlying, hs]

/-- The address of an element of a frozen slice. -/
theorem op_idx {t : TypeId} {x i : Operand} {nn : Bool} {sz : Nat} {xs : List (List CT)} {cs : List CT} {k : IntKind} {m : Int} {j e : Nat} {Θ : Tab} (hΘ : tabOK C.P Θ)
    {z bts : Nat} {ag : Bool} {zr : Option (List CT)} {ei : TyI}
    (ho : o.op = .indexAddr t x i) (ht : tyGet Θ t = some ⟨z, bts, ag, zr, .slice e⟩) (hei : tyGet Θ e = some ei) (hsz : Nat.beq ei.size sz = true)
    (hx : evalC tm x = some (.c (.slice nn sz xs))) (hi : evalC tm i = some (.c (.int k m))) (hm : m = (j : Int)) (hj : xs[j]? = some cs) (hd : o.dst = some d) (hn : Nat.blt d n = true) :
    OpV C n o tm mm d (.v (.one (.eptr cs))) :=
  OpV.val hd hn _ fun H Z A w hmod => by
    have h2 : A.eval i = .int k m := RepC.int_inv (evalC_rep hmod hi)
    have h1 : RepC w (Mof C H mm) (A.eval x) (.slice nn sz xs) := evalC_rep hmod hx
    obtain ⟨inf, de, hf⟩ := tyF hΘ ht
    obtain ⟨inf', de', hf'⟩ := tyF hΘ hei
    have hde : de = .slice e := by
      have := hf.sh
      cases de <;> simp [shChk] at this ⊢
      exact this
    subst hde
    subst hm
    have hszz : ei.size = sz := Nat.eq_of_beq_eq_true hsz
    have hlt : j < xs.length := (List.getElem?_eq_some_iff.1 hj).1
    generalize hA : A.eval x = v at h1
    cases h1 with
    | slice u hlen hcap hmax hnn hszs had hrep =>
      obtain ⟨ad, rfl, h3, h4, h5, h6⟩ := had (by omega)
      refine ⟨.pointer (some (ad.add (j * sz))), ?_, ad.add (j * sz), rfl, add_spot h3 _, by rw [add_block]; exact h4, by rw [add_block]; exact h5, fun q c hc => ?_⟩
      · have hjl : ((j : Nat) : Int) < ((xs.length : Nat) : Int) := by omega
        simp [execOp, ho, hA, h2, Instr.indexAt, asIntOf, hf.underlying, hlen, hf'.sizeOf, hszz]
        intro hcon; omega
      · rw [add_add]
        exact ⟨u j q, h6 j cs hj q c hc, hrep j cs hj q c hc⟩

/-- The address of an element of a growing slice. -/
theorem op_idx_own {t : TypeId} {x i : Operand} {id : Nat} {nn : Bool} {sz : Nat} {xs : List (List CT)} {k : IntKind} {m : Int} {j e e' : Nat} {Θ : Tab} (hΘ : tabOK C.P Θ)
    {z bts : Nat} {ag : Bool} {zr : Option (List CT)} {ei : TyI}
    (ho : o.op = .indexAddr t x i) (ht : tyGet Θ t = some ⟨z, bts, ag, zr, .slice e⟩) (hei : tyGet Θ e = some ei) (hsz : Nat.beq ei.size sz = true)
    (hx : evalC tm x = some (.own id)) (hid : getM mm id = some (.arr nn e' sz xs)) (hi : evalC tm i = some (.c (.int k m))) (hm : m = (j : Int)) (hj : j < xs.length) (hd : o.dst = some d) (hn : Nat.blt d n = true) :
    OpV C n o tm mm d (.v (.one (.aptr id j 0))) :=
  OpV.val hd hn _ fun H Z A w hmod => by
    have h2 : A.eval i = .int k m := RepC.int_inv (evalC_rep hmod hi)
    obtain ⟨hI, h1⟩ := evalC_rep hmod hx
    obtain ⟨hz, us, g1, _⟩ := hmod.mem _ (getM_mem hid)
    obtain ⟨inf, de, hf⟩ := tyF hΘ ht
    obtain ⟨inf', de', hf'⟩ := tyF hΘ hei
    have hde : de = .slice e := by
      have := hf.sh
      cases de <;> simp [shChk] at this ⊢
      exact this
    subst hde
    subst hm
    have hszz : ei.size = sz := Nat.eq_of_beq_eq_true hsz
    simp only at hz g1
    rcases g1.2 with ⟨_, h0⟩ | ⟨g, cap, cur, hv, _⟩
    · omega
    · rw [hv] at h1
      refine ⟨.pointer (some ⟨g, j * sz, none⟩), ?_, hI, g, by rw [hv]; rfl, by rw [hz]; rfl⟩
      have hjl : ((j : Nat) : Int) < ((xs.length : Nat) : Int) := by omega
      simp [execOp, ho, h1, h2, Instr.indexAt, asIntOf, hf.underlying, hf'.sizeOf, hszz, add_mk]
      intro hcon; omega

/-- An element of a growing slice is read. -/
theorem op_load_aptr {Θ : Tab} (hΘ : tabOK C.P Θ) {t : TypeId} {ti : TyI} {x : Operand} {i j off e sz : Nat} {nn : Bool} {xs : List (List CT)} {cs ys : List CT} {s : SV}
    (ho : o.op = .load t x) (ht : tyGet Θ t = some ti) (hx : evalC tm x = some (.aptr i j off)) (hi : getM mm i = some (.arr nn e sz xs)) (hj : xs[j]? = some cs)
    (hs : subL cs off ti.size = some ys) (hv : mkV SC.c ti.agg ys = some s) (hd : o.dst = some d) (hn : Nat.blt d n = true) :
    OpV C n o tm mm d (.v s) :=
  OpV.val hd hn _ fun H Z a w hm => by
    obtain ⟨inf, de, hf⟩ := tyF hΘ ht
    obtain ⟨hz, us, g1, g2, g3, g4⟩ := hm.mem _ (getM_mem hi)
    obtain ⟨_, b, hb, hv'⟩ := evalC_rep hm hx
    simp only at hz g1 g4
    rw [hz] at hv'
    have hlt : j < xs.length := (List.getElem?_eq_some_iff.1 hj).1
    have hcl : cs.length = sz := g3 cs (List.mem_of_getElem? hj)
    obtain ⟨e1, e2⟩ := subL_spec hs
    have hown : ∀ q u, us[q]? = some u → w.cell? ⟨b, q, none⟩ = some u := by
      intro q u hq
      have hb' : (H i).ownBlock = some b := by rw [← hblk_ownBlock g1]; exact hb
      have := World.ownsRow.cells g1 hb' q u hq
      rwa [add_mk, Nat.zero_add] at this
    -- the values behind the cells that are read
    have hch : ∀ m, m ≤ ys.length → ∃ vs : List Value, vs.length = m ∧ (∀ (q : Nat) (u : Value), vs[q]? = some u → w.cell? ((⟨b, j * sz + off, none⟩ : Addr).add q) = some u) ∧
        Pw (fun u c => RepC w (Mof C H mm) u c) vs (ys.take m) := by
      intro m
      induction m with
      | zero => intro _; exact ⟨[], rfl, fun q u hu => by simp at hu, by simpa using Pw.nil⟩
      | succ m ih =>
        intro hmle
        obtain ⟨vs, k1, k2, k3⟩ := ih (by omega)
        have hys : ys[m]? = cs[off + m]? := by
          rw [e1, List.getElem?_take, if_pos (by omega), List.getElem?_drop]
        have hy : ys[m]? = some ys[m] := List.getElem?_eq_getElem (by omega)
        obtain ⟨u, hu, hr⟩ := g4 j cs hj (off + m) ys[m] (by rw [← hys, hy])
        refine ⟨vs ++ [u], by simp [k1], fun q v hq => ?_, ?_⟩
        · rw [List.getElem?_append] at hq
          split at hq
          · exact k2 q v hq
          · rename_i hjq
            have hj0 : q - vs.length = 0 := by
              rcases Nat.eq_zero_or_pos (q - vs.length) with h0 | h0
              · exact h0
              · rw [List.getElem?_eq_none (by simp; omega)] at hq; cases hq
            rw [hj0] at hq
            simp at hq; subst hq
            have : q = m := by omega
            subst this
            rw [add_mk]
            exact hown _ _ (by rw [← hu]; congr 1; omega)
        · rw [List.take_succ_eq_append_getElem (by omega)]
          exact k3.append (Pw.cons hr Pw.nil)
    obtain ⟨vs, k1, k2, k3⟩ := hch ys.length (Nat.le_refl _)
    rw [List.take_length] at k3
    obtain ⟨v, hr, q1, q2⟩ := run_loadVar_pw (w := w) hf ⟨b, j * sz + off, none⟩ vs (by rw [k1, e2]) k2 (fun ha => by
        rw [k1]
        rw [ha] at hv
        unfold mkV at hv
        split at hv <;> first | (rename_i hh; cases hh; done) | rfl | (cases hv; done))
    refine ⟨v, by simp [execOp, ho, hv', Instr.loadAt, Instr.sureAddr, hr], ?_⟩
    exact mkV_rep (f := SC.c) hv k3 q1 q2

/-- Frozen cells of a value. -/
def ctsOf : List SC → Option (List CT)
  | [] => some []
  | .c x :: r => match ctsOf r with
    | some l => some (x :: l)
    | none => none
  | .lit b :: r => match ctsOf r with
    | some l => some (.bool b :: l)
    | none => none
  | _ :: _ => none
theorem ctsOf_pw {I : Nat → Prop} {H : Nat → Value} {Z : Nat → Nat} {w : World} {M : Nat → Prop} : ∀ {l : List SC} {r : List CT} {us : List Value}, ctsOf l = some r →
    Pw (fun u c => RepSC I H Z w M u c) us l → Pw (fun u c => RepC w M u c) us r
  | [], r, us, h, hp => by
    simp [ctsOf] at h; subst h
    exact ⟨hp.1, fun j c hc => by simp at hc⟩
  | s :: l, r, us, h, hp => by
    match us, hp with
    | [], hp => exact absurd hp.1 (by simp)
    | u :: us, hp =>
      have htail : Pw (fun u c => RepSC I H Z w M u c) us l := ⟨by simpa using hp.1, fun j c hc => by simpa using hp.2 (j + 1) c (by simpa using hc)⟩
      obtain ⟨u', hu', hr⟩ := hp.2 0 s rfl
      simp at hu'; subst hu'
      cases s <;> simp only [ctsOf] at h <;> try (cases h; done)
      · split at h
        · rename_i x r' hr'
          injection h with h; subst h
          exact Pw.cons hr (ctsOf_pw hr' htail)
        · cases h
      · split at h
        · rename_i r' hr'
          injection h with h; subst h
          exact Pw.cons (by rw [show u = .bool _ from hr]; exact .bool _) (ctsOf_pw hr' htail)
        · cases h

/-- A literal slice. -/
def anyL : Nat → List SC
  | 0 => []
  | n + 1 => .any :: anyL n
theorem anyL_eq (n : Nat) : anyL n = List.replicate n SC.any := by
  induction n with
  | zero => rfl
  | succ n ih => simp [anyL, ih, List.replicate_succ]
def chunkL (sz : Nat) : Nat → List CT → Option (List (List CT))
  | 0, [] => some []
  | 0, _ :: _ => none
  | n + 1, l => match takeL l sz with
    | some a => match dropL l sz with
      | some b => match chunkL sz n b with
        | some r => some (a :: r)
        | none => none
      | none => none
    | none => none
theorem chunkL_spec (sz : Nat) : ∀ {n : Nat} {l : List CT} {r : List (List CT)}, chunkL sz n l = some r →
    r.length = n ∧ (∀ x ∈ r, x.length = sz) ∧ l.length = n * sz ∧ ∀ (k : Nat) (x : List CT), r[k]? = some x → ∀ (j : Nat) (c : CT), x[j]? = some c → l[k * sz + j]? = some c
  | 0, [], r, h => by simp [chunkL] at h; subst h; simp
  | 0, _ :: _, r, h => by simp [chunkL] at h
  | n + 1, l, r, h => by
    unfold chunkL at h
    split at h
    · rename_i a ha
      split at h
      · rename_i b hb
        split at h
        · rename_i r' hr'
          injection h with h; subst h
          obtain ⟨t1, t2⟩ := takeL_spec ha
          have t3 := dropL_spec hb
          obtain ⟨c1, c2, c3, c4⟩ := chunkL_spec sz hr'
          have hll : l.length = (n + 1) * sz := by
            have : l.length = a.length + b.length := by
              rw [t1, t3, ← List.length_append, List.take_append_drop]
            rw [this, t2, c3, Nat.add_mul]; omega
          refine ⟨by simp [c1], fun x hx => ?_, hll, fun k x hk j c hc => ?_⟩
          · rcases List.mem_cons.1 hx with rfl | hx
            · exact t2
            · exact c2 x hx
          · cases k with
            | zero =>
              simp at hk; subst hk
              rw [t1, List.getElem?_take] at hc
              split at hc
              · simpa using hc
              · cases hc
            | succ k =>
              simp at hk
              have := c4 k x hk j c hc
              rw [t3, List.getElem?_drop] at this
              rw [← this]; congr 1; rw [Nat.add_mul]; omega
        · cases h
      · cases h
    · cases h

theorem op_buildSlice {Θ : Tab} (hΘ : tabOK C.P Θ) {t : TypeId} {z bts e len : Nat} {ag : Bool} {zt : Option (List CT)} {ei : TyI} {zr : List CT} {parts : Array (Nat × Operand)} {r : List SC} {cts : List CT} {xs : List (List CT)}
    (ho : o.op = .buildSlice t len parts) (ht : tyGet Θ t = some ⟨z, bts, ag, zt, .slice e⟩) (hei : tyGet Θ e = some ei) (hz : ei.zero = some zr)
    (hb : Nat.ble (len * ei.size) 16777216 = true) (hs0 : Nat.blt 0 ei.size = true)
    (hl : layL (fun i => some (i * ei.size, ei.size)) tm (anyL (len * ei.size)) parts.toList = some r) (hc : ctsOf r = some cts) (hx : chunkL ei.size len cts = some xs)
    (hi : getM mm d = none) (hd : o.dst = some d) (hn : Nat.blt d n = true) :
    OpR C n o tm mm ((d, .v (.one (.own d))) :: delL tm d) ((d, .arr true e ei.size xs) :: mm) := by
  intro a w ⟨H, Z, hm⟩
  obtain ⟨inf, de, hf⟩ := tyF hΘ ht
  obtain ⟨inf', de', hf'⟩ := tyF hΘ hei
  obtain ⟨zv, hzv, hzc, hzl⟩ := hf'.zero zr hz
  obtain ⟨h1, h2⟩ := zchk_cells (w := w) (M := Mof C H mm) hzc
  have hde : de = .slice e := by
    have := hf.sh
    cases de <;> simp [shChk] at this ⊢
    exact this
  subst hde
  have hbl : len * ei.size ≤ 16777216 := Nat.ble_eq.mp hb
  have hs0' : 0 < ei.size := Nat.blt_eq.mp hs0
  have hzcs : zv.cells.size = ei.size := by rw [h1, hzl]
  let init : Array Value := (Array.range (len * ei.size)).map ((if len * ei.size = 0 then #[] else zv.cells)[· % (if len * ei.size = 0 then #[] else zv.cells).size]!)
  have hp : Pw (fun u c => u.oneCell' = true ∧ RepSC (Iof mm) H Z w (Mof C H mm) u c) init.toList (anyL (len * ei.size)) := by
    rw [anyL_eq]
    refine ⟨by simp [init], fun j c hc => ?_⟩
    have hj : j < len * ei.size := by
      have := (List.getElem?_eq_some_iff.1 hc).1
      simpa using this
    rw [List.getElem?_replicate, if_pos hj] at hc
    injection hc with hc; subst hc
    have hne : len * ei.size ≠ 0 := by omega
    refine ⟨zv.cells[j % zv.cells.size]!, by simp [init, hj, hne], ?_, trivial⟩
    have hlt : j % zv.cells.size < zv.cells.size := Nat.mod_lt _ (by rw [hzcs]; exact hs0')
    have hlt' : j % zv.cells.size < zr.length := by rw [← h1]; exact hlt
    obtain ⟨u, hu, hr⟩ := h2 (j % zv.cells.size) zr[j % zv.cells.size] (List.getElem?_eq_getElem hlt')
    rw [getElem!_def, hu]
    exact hr.one
  obtain ⟨vs', g1, g2⟩ := layL_fill hm _ parts.toList _ _ r hp hl
  have g3 : Pw (fun u c => RepC w (Mof C H mm) u c) vs'.toList cts := ctsOf_pw hc (g2.mono fun _ _ _ h => h.2)
  obtain ⟨c1, c2, c3, c4⟩ := chunkL_spec _ hx
  have hvl : vs'.size = len * ei.size := by have := g3.1; rw [c3] at this; simpa using this
  have hrun : (execOp a.eval o).run C.P w = .ok (.value (.slice (some ⟨w.heap.size, 0, none⟩) len len)) (w.alloc (.cells vs' e)) := by
    have hfill : Instr.fill (fun i => some (i * ei.size, ei.size)) init (parts.map fun (i, x) => (i, a.eval x)).toList = some vs' := by
      rw [← g1, Array.toList_map]
    simp only [execOp, ho, Instr.buildSlice, Sem.run_bind, hf.underlying, Result.andThen_ok, hf'.sizeOf]
    rw [if_neg (by omega)]
    simp only [init] at hfill
    by_cases h0 : len * ei.size = 0
    · rw [if_pos h0] at hfill
      rw [if_pos h0]
      simp only [Sem.run_bind, Sem.run_pure, Result.andThen_ok, hfill]
      simp [newRow, newObj, Sem.run]
    · rw [if_neg h0] at hfill
      rw [if_neg h0]
      simp only [Sem.run_bind, Sem.run_pure, Result.andThen_ok, hf'.zeroValue hzv, hfill]
      simp [newRow, newObj, Sem.run]
  refine .inl ⟨_, _, hrun, upd H d (.slice (some ⟨w.heap.size, 0, none⟩) len len), upd Z d ei.size, ?_⟩
  rw [hd]
  refine hm.add (i := d) (hv := .slice (some ⟨w.heap.size, 0, none⟩) len len) (z := ei.size) (o := .arr true e ei.size xs) (getM_none hi) (Nat.blt_eq.mp hn) rfl (alloc_ext w _) ?_ ?_ ?_
  · intro b hb
    simp [hblk] at hb
    subst hb
    exact ⟨Nat.le_refl _, by show _ < (w.heap.push _).size; rw [Array.size_push]; omega⟩
  · intro hMM hfr
    refine ⟨upd_self _ _ _, vs'.toList, ?_, by rw [upd_self]; simp, c2, fun k x hk j c hc => ?_⟩
    · rw [upd_self, c1]
      have hlen : len ≤ maxLen := by
        have : len ≤ len * ei.size := Nat.le_mul_of_pos_right _ hs0'
        simp only [maxLen]; omega
      exact World.ownsRow_lit w vs' len (Nat.zero_le _) hlen hvl
    · obtain ⟨u, hu, hrep⟩ := g3.2 _ c (c4 k x hk j c hc)
      exact ⟨u, hu, hrep.mono (alloc_ext w _).size hfr hMM⟩
  · exact ⟨⟨_, List.mem_cons_self, rfl⟩, (upd_self _ _ _).symm⟩
end
end Go.Sy
