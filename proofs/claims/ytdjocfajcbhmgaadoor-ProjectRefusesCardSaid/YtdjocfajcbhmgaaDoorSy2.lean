/- The symbolic layer, bundle Sy2. -/
import Derived.Test.YtdjocfajcbhmgaaDoorSy1
import Derived.Tactics
import Derived.Scope
import Derived.IntWalk
import Derived.Orders
set_option linter.unusedSimpArgs false
set_option linter.unusedVariables false
set_option linter.unusedSectionVars false
namespace Go.Sy
open Go.RowKit
section
variable {C : Ctx} {n : Nat} {tm : TM} {mm : MM} {o : Oper} {d : Nat}
theorem op_arith {p : BinOp} {t t' : TypeId} {x y : Operand} {k : IntKind} {a b r : Int} (ho : o.op = .binOp p t x y t')
    (hx : evalC tm x = some (.c (.int k a))) (hy : evalC tm y = some (.c (.int k b)))
    (hr : match p with
      | .add => k.wrap (a + b) = r
      | .sub => k.wrap (a - b) = r
      | .mul => k.wrap (a * b) = r
      | .rem => b ≠ 0 ∧ a.tmod b = r
      | .quo => b ≠ 0 ∧ k.wrap (a.tdiv b) = r
      | _ => False) (hd : o.dst = some d) (hn : Nat.blt d n = true) :
    OpV C n o tm mm d (.v (.one (.c (.int k r)))) :=
  OpV.val hd hn _ fun H Z A w hm => by
    have h1 : A.eval x = .int k a := RepC.int_inv (evalC_rep hm hx)
    have h2 : A.eval y = .int k b := RepC.int_inv (evalC_rep hm hy)
    refine ⟨.int k r, ?_, .int _ _⟩
    cases p <;> simp only at hr <;> first
      | exact hr.elim
      | (subst hr; simp [execOp, ho, h1, h2, eqGuard, binOp, Op.intArith])
      | (obtain ⟨h0, rfl⟩ := hr; simp [execOp, ho, h1, h2, eqGuard, binOp, Op.intDiv, h0])
theorem op_catS {t t' : TypeId} {x y : Operand} {a b : ByteArray} (ho : o.op = .binOp .add t x y t')
    (hx : evalC tm x = some (.c (.str a))) (hy : evalC tm y = some (.c (.str b))) (hr : a.size + b.size ≤ 9223372036854775807) (hd : o.dst = some d) (hn : Nat.blt d n = true) :
    OpV C n o tm mm d (.v (.one (.c (.str (a ++ b))))) :=
  OpV.val hd hn _ fun H Z A w hm => by
    have h1 : A.eval x = .string a := RepC.str_inv (evalC_rep hm hx)
    have h2 : A.eval y = .string b := RepC.str_inv (evalC_rep hm hy)
    refine ⟨.string (a ++ b), ?_, .str _⟩
    have : ¬ ((a.size + b.size : Nat) : Int) > IntKind.i64.max := by
      simp [IntKind.max, IntKind.bits, IntKind.signed]; omega
    simp only [execOp, ho, h1, h2, eqGuard, binOp, Op.stringOp, Sem.run_bind]
    rw [if_neg this]
    simp
theorem op_indexS {t : TypeId} {x i : Operand} {s : ByteArray} {k : IntKind} {m : Int} {j : Nat} {b : UInt8} {Θ : Tab} (hΘ : tabOK C.P Θ) {z bts : Nat} {ag : Bool} {zr : Option (List CT)}
    (ho : o.op = .index t x i) (ht : tyGet Θ t = some ⟨z, bts, ag, zr, .string⟩)
    (hx : evalC tm x = some (.c (.str s))) (hi : evalC tm i = some (.c (.int k m))) (hm : m = (j : Int)) (hb : s.data.toList[j]? = some b) (hd : o.dst = some d) (hn : Nat.blt d n = true) :
    OpV C n o tm mm d (.v (.one (.c (.int .u8 (b.toNat : Int))))) :=
  OpV.val hd hn _ fun H Z A w hmod => by
    have h1 : A.eval x = .string s := RepC.str_inv (evalC_rep hmod hx)
    have h2 : A.eval i = .int k m := RepC.int_inv (evalC_rep hmod hi)
    obtain ⟨inf, de, hf⟩ := tyF hΘ ht
    have hde : de = .string := by
      have := hf.sh
      cases de <;> simp [shChk] at this ⊢
    subst hde
    subst hm
    refine ⟨.int .u8 (b.toNat : Int), ?_, .int _ _⟩
    have hs : s[j]? = some b := by
      obtain ⟨hl, he⟩ := List.getElem?_eq_some_iff.1 hb
      have hl' : j < s.size := by simpa using hl
      rw [getElem?_pos s j hl', ← he]
      rfl
    simp [execOp, ho, h1, h2, Instr.index, asIntOf, hf.underlying, hs]
theorem op_idx {t : TypeId} {x i : Operand} {nn : Bool} {sz : Nat} {xs : List (List CT)} {cs : List CT} {k : IntKind} {m : Int} {j e : Nat} {Θ : Tab} (hΘ : tabOK C.P Θ)
    {z bts : Nat} {ag : Bool} {zr : Option (List CT)} {ei : TyI}
    (ho : o.op = .indexAddr t x i) (ht : tyGet Θ t = some ⟨z, bts, ag, zr, .slice e⟩) (hei : tyGet Θ e = some ei) (hsz : Nat.beq ei.size sz = true)
    (hx : evalC tm x = some (.c (.slice nn sz xs))) (hi : evalC tm i = some (.c (.int k m))) (hm : m = (j : Int)) (hj : xs[j]? = some cs) (hd : o.dst = some d) (hn : Nat.blt d n = true) :
    OpV C n o tm mm d (.v (.one (.eptr cs))) :=
  OpV.val hd hn _ fun H Z A w hmod => by
    have h2 : A.eval i = .int k m := RepC.int_inv (evalC_rep hmod hi)
    have h1 : RepC w (Mof C H mm) (A.eval x) (.slice nn sz xs) := evalC_rep hmod hx
    obtain ⟨inf, de, hf⟩ := tyF hΘ ht
    obtain ⟨inf', de', hf'⟩ := tyF hΘ hei
    have hde : de = .slice e := by
      have := hf.sh
      cases de <;> simp [shChk] at this ⊢
      exact this
    subst hde
    subst hm
    have hszz : ei.size = sz := Nat.eq_of_beq_eq_true hsz
    have hlt : j < xs.length := (List.getElem?_eq_some_iff.1 hj).1
    generalize hA : A.eval x = v at h1
    cases h1 with
    | slice u hlen hcap hmax hnn hszs had hrep =>
      obtain ⟨ad, rfl, h3, h4, h5, h6⟩ := had (by omega)
      refine ⟨.pointer (some (ad.add (j * sz))), ?_, ad.add (j * sz), rfl, add_spot h3 _, by rw [add_block]; exact h4, by rw [add_block]; exact h5, fun q c hc => ?_⟩
      · have hjl : ((j : Nat) : Int) < ((xs.length : Nat) : Int) := by omega
        simp [execOp, ho, hA, h2, Instr.indexAt, asIntOf, hf.underlying, hlen, hf'.sizeOf, hszz]
        intro hcon; omega
      · rw [add_add]
        exact ⟨u j q, h6 j cs hj q c hc, hrep j cs hj q c hc⟩
theorem op_idx_own {t : TypeId} {x i : Operand} {id : Nat} {nn : Bool} {sz : Nat} {xs : List (List CT)} {k : IntKind} {m : Int} {j e e' : Nat} {Θ : Tab} (hΘ : tabOK C.P Θ)
    {z bts : Nat} {ag : Bool} {zr : Option (List CT)} {ei : TyI}
    (ho : o.op = .indexAddr t x i) (ht : tyGet Θ t = some ⟨z, bts, ag, zr, .slice e⟩) (hei : tyGet Θ e = some ei) (hsz : Nat.beq ei.size sz = true)
    (hx : evalC tm x = some (.own id)) (hid : getM mm id = some (.arr nn e' sz xs)) (hi : evalC tm i = some (.c (.int k m))) (hm : m = (j : Int)) (hj : j < xs.length) (hd : o.dst = some d) (hn : Nat.blt d n = true) :
    OpV C n o tm mm d (.v (.one (.aptr id j 0))) :=
  OpV.val hd hn _ fun H Z A w hmod => by
    have h2 : A.eval i = .int k m := RepC.int_inv (evalC_rep hmod hi)
    obtain ⟨hI, h1⟩ := evalC_rep hmod hx
    obtain ⟨hz, us, g1, _⟩ := hmod.mem _ (getM_mem hid)
    obtain ⟨inf, de, hf⟩ := tyF hΘ ht
    obtain ⟨inf', de', hf'⟩ := tyF hΘ hei
    have hde : de = .slice e := by
      have := hf.sh
      cases de <;> simp [shChk] at this ⊢
      exact this
    subst hde
    subst hm
    have hszz : ei.size = sz := Nat.eq_of_beq_eq_true hsz
    simp only at hz g1
    rcases g1.2 with ⟨_, h0⟩ | ⟨g, cap, cur, hv, _⟩
    · omega
    · rw [hv] at h1
      refine ⟨.pointer (some ⟨g, j * sz, none⟩), ?_, hI, g, by rw [hv]; rfl, by rw [hz]; rfl⟩
      have hjl : ((j : Nat) : Int) < ((xs.length : Nat) : Int) := by omega
      simp [execOp, ho, h1, h2, Instr.indexAt, asIntOf, hf.underlying, hf'.sizeOf, hszz, add_mk]
      intro hcon; omega
theorem op_load_aptr {Θ : Tab} (hΘ : tabOK C.P Θ) {t : TypeId} {ti : TyI} {x : Operand} {i j off e sz : Nat} {nn : Bool} {xs : List (List CT)} {cs ys : List CT} {s : SV}
    (ho : o.op = .load t x) (ht : tyGet Θ t = some ti) (hx : evalC tm x = some (.aptr i j off)) (hi : getM mm i = some (.arr nn e sz xs)) (hj : xs[j]? = some cs)
    (hs : subL cs off ti.size = some ys) (hv : mkV SC.c ti.agg ys = some s) (hd : o.dst = some d) (hn : Nat.blt d n = true) :
    OpV C n o tm mm d (.v s) :=
  OpV.val hd hn _ fun H Z a w hm => by
    obtain ⟨inf, de, hf⟩ := tyF hΘ ht
    obtain ⟨hz, us, g1, g2, g3, g4⟩ := hm.mem _ (getM_mem hi)
    obtain ⟨_, b, hb, hv'⟩ := evalC_rep hm hx
    simp only at hz g1 g4
    rw [hz] at hv'
    have hlt : j < xs.length := (List.getElem?_eq_some_iff.1 hj).1
    have hcl : cs.length = sz := g3 cs (List.mem_of_getElem? hj)
    obtain ⟨e1, e2⟩ := subL_spec hs
    have hown : ∀ q u, us[q]? = some u → w.cell? ⟨b, q, none⟩ = some u := by
      intro q u hq
      have hb' : (H i).ownBlock = some b := by rw [← hblk_ownBlock g1]; exact hb
      have := World.ownsRow.cells g1 hb' q u hq
      rwa [add_mk, Nat.zero_add] at this
    have hch : ∀ m, m ≤ ys.length → ∃ vs : List Value, vs.length = m ∧ (∀ (q : Nat) (u : Value), vs[q]? = some u → w.cell? ((⟨b, j * sz + off, none⟩ : Addr).add q) = some u) ∧
        Pw (fun u c => RepC w (Mof C H mm) u c) vs (ys.take m) := by
      intro m
      induction m with
      | zero => intro _; exact ⟨[], rfl, fun q u hu => by simp at hu, by simpa using Pw.nil⟩
      | succ m ih =>
        intro hmle
        obtain ⟨vs, k1, k2, k3⟩ := ih (by omega)
        have hys : ys[m]? = cs[off + m]? := by
          rw [e1, List.getElem?_take, if_pos (by omega), List.getElem?_drop]
        have hy : ys[m]? = some ys[m] := List.getElem?_eq_getElem (by omega)
        obtain ⟨u, hu, hr⟩ := g4 j cs hj (off + m) ys[m] (by rw [← hys, hy])
        refine ⟨vs ++ [u], by simp [k1], fun q v hq => ?_, ?_⟩
        · rw [List.getElem?_append] at hq
          split at hq
          · exact k2 q v hq
          · rename_i hjq
            have hj0 : q - vs.length = 0 := by
              rcases Nat.eq_zero_or_pos (q - vs.length) with h0 | h0
              · exact h0
              · rw [List.getElem?_eq_none (by simp; omega)] at hq; cases hq
            rw [hj0] at hq
            simp at hq; subst hq
            have : q = m := by omega
            subst this
            rw [add_mk]
            exact hown _ _ (by rw [← hu]; congr 1; omega)
        · rw [List.take_succ_eq_append_getElem (by omega)]
          exact k3.append (Pw.cons hr Pw.nil)
    obtain ⟨vs, k1, k2, k3⟩ := hch ys.length (Nat.le_refl _)
    rw [List.take_length] at k3
    obtain ⟨v, hr, q1, q2⟩ := run_loadVar_pw (w := w) hf ⟨b, j * sz + off, none⟩ vs (by rw [k1, e2]) k2 (fun ha => by
        rw [k1]
        rw [ha] at hv
        unfold mkV at hv
        split at hv <;> first | (rename_i hh; cases hh; done) | rfl | (cases hv; done))
    refine ⟨v, by simp [execOp, ho, hv', Instr.loadAt, Instr.sureAddr, hr], ?_⟩
    exact mkV_rep (f := SC.c) hv k3 q1 q2
def ctsOf : List SC → Option (List CT)
  | [] => some []
  | .c x :: r => match ctsOf r with
    | some l => some (x :: l)
    | none => none
  | .lit b :: r => match ctsOf r with
    | some l => some (.bool b :: l)
    | none => none
  | _ :: _ => none
theorem ctsOf_pw {I : Nat → Prop} {H : Nat → Value} {Z : Nat → Nat} {w : World} {M : Nat → Prop} : ∀ {l : List SC} {r : List CT} {us : List Value}, ctsOf l = some r →
    Pw (fun u c => RepSC I H Z w M u c) us l → Pw (fun u c => RepC w M u c) us r
  | [], r, us, h, hp => by
    simp [ctsOf] at h; subst h
    exact ⟨hp.1, fun j c hc => by simp at hc⟩
  | s :: l, r, us, h, hp => by
    match us, hp with
    | [], hp => exact absurd hp.1 (by simp)
    | u :: us, hp =>
      have htail : Pw (fun u c => RepSC I H Z w M u c) us l := ⟨by simpa using hp.1, fun j c hc => by simpa using hp.2 (j + 1) c (by simpa using hc)⟩
      obtain ⟨u', hu', hr⟩ := hp.2 0 s rfl
      simp at hu'; subst hu'
      cases s <;> simp only [ctsOf] at h <;> try (cases h; done)
      · split at h
        · rename_i x r' hr'
          injection h with h; subst h
          exact Pw.cons hr (ctsOf_pw hr' htail)
        · cases h
      · split at h
        · rename_i r' hr'
          injection h with h; subst h
          exact Pw.cons (by rw [show u = .bool _ from hr]; exact .bool _) (ctsOf_pw hr' htail)
        · cases h
def anyL : Nat → List SC
  | 0 => []
  | n + 1 => .any :: anyL n
theorem anyL_eq (n : Nat) : anyL n = List.replicate n SC.any := by
  induction n with
  | zero => rfl
  | succ n ih => simp [anyL, ih, List.replicate_succ]
def chunkL (sz : Nat) : Nat → List CT → Option (List (List CT))
  | 0, [] => some []
  | 0, _ :: _ => none
  | n + 1, l => match takeL l sz with
    | some a => match dropL l sz with
      | some b => match chunkL sz n b with
        | some r => some (a :: r)
        | none => none
      | none => none
    | none => none
theorem chunkL_spec (sz : Nat) : ∀ {n : Nat} {l : List CT} {r : List (List CT)}, chunkL sz n l = some r →
    r.length = n ∧ (∀ x ∈ r, x.length = sz) ∧ l.length = n * sz ∧ ∀ (k : Nat) (x : List CT), r[k]? = some x → ∀ (j : Nat) (c : CT), x[j]? = some c → l[k * sz + j]? = some c
  | 0, [], r, h => by simp [chunkL] at h; subst h; simp
  | 0, _ :: _, r, h => by simp [chunkL] at h
  | n + 1, l, r, h => by
    unfold chunkL at h
    split at h
    · rename_i a ha
      split at h
      · rename_i b hb
        split at h
        · rename_i r' hr'
          injection h with h; subst h
          obtain ⟨t1, t2⟩ := takeL_spec ha
          have t3 := dropL_spec hb
          obtain ⟨c1, c2, c3, c4⟩ := chunkL_spec sz hr'
          have hll : l.length = (n + 1) * sz := by
            have : l.length = a.length + b.length := by
              rw [t1, t3, ← List.length_append, List.take_append_drop]
            rw [this, t2, c3, Nat.add_mul]; omega
          refine ⟨by simp [c1], fun x hx => ?_, hll, fun k x hk j c hc => ?_⟩
          · rcases List.mem_cons.1 hx with rfl | hx
            · exact t2
            · exact c2 x hx
          · cases k with
            | zero =>
              simp at hk; subst hk
              rw [t1, List.getElem?_take] at hc
              split at hc
              · simpa using hc
              · cases hc
            | succ k =>
              simp at hk
              have := c4 k x hk j c hc
              rw [t3, List.getElem?_drop] at this
              rw [← this]; congr 1; rw [Nat.add_mul]; omega
        · cases h
      · cases h
    · cases h
theorem op_buildSlice {Θ : Tab} (hΘ : tabOK C.P Θ) {t : TypeId} {z bts e len : Nat} {ag : Bool} {zt : Option (List CT)} {ei : TyI} {zr : List CT} {parts : Array (Nat × Operand)} {r : List SC} {cts : List CT} {xs : List (List CT)}
    (ho : o.op = .buildSlice t len parts) (ht : tyGet Θ t = some ⟨z, bts, ag, zt, .slice e⟩) (hei : tyGet Θ e = some ei) (hz : ei.zero = some zr)
    (hb : Nat.ble (len * ei.size) 16777216 = true) (hs0 : Nat.blt 0 ei.size = true)
    (hl : layL (fun i => some (i * ei.size, ei.size)) tm (anyL (len * ei.size)) parts.toList = some r) (hc : ctsOf r = some cts) (hx : chunkL ei.size len cts = some xs)
    (hi : getM mm d = none) (hd : o.dst = some d) (hn : Nat.blt d n = true) :
    OpR C n o tm mm ((d, .v (.one (.own d))) :: delL tm d) ((d, .arr true e ei.size xs) :: mm) := by
  intro a w ⟨H, Z, hm⟩
  obtain ⟨inf, de, hf⟩ := tyF hΘ ht
  obtain ⟨inf', de', hf'⟩ := tyF hΘ hei
  obtain ⟨zv, hzv, hzc, hzl⟩ := hf'.zero zr hz
  obtain ⟨h1, h2⟩ := zchk_cells (w := w) (M := Mof C H mm) hzc
  have hde : de = .slice e := by
    have := hf.sh
    cases de <;> simp [shChk] at this ⊢
    exact this
  subst hde
  have hbl : len * ei.size ≤ 16777216 := Nat.ble_eq.mp hb
  have hs0' : 0 < ei.size := Nat.blt_eq.mp hs0
  have hzcs : zv.cells.size = ei.size := by rw [h1, hzl]
  let init : Array Value := (Array.range (len * ei.size)).map ((if len * ei.size = 0 then #[] else zv.cells)[· % (if len * ei.size = 0 then #[] else zv.cells).size]!)
  have hp : Pw (fun u c => u.oneCell' = true ∧ RepSC (Iof mm) H Z w (Mof C H mm) u c) init.toList (anyL (len * ei.size)) := by
    rw [anyL_eq]
    refine ⟨by simp [init], fun j c hc => ?_⟩
    have hj : j < len * ei.size := by
      have := (List.getElem?_eq_some_iff.1 hc).1
      simpa using this
    rw [List.getElem?_replicate, if_pos hj] at hc
    injection hc with hc; subst hc
    have hne : len * ei.size ≠ 0 := by omega
    refine ⟨zv.cells[j % zv.cells.size]!, by simp [init, hj, hne], ?_, trivial⟩
    have hlt : j % zv.cells.size < zv.cells.size := Nat.mod_lt _ (by rw [hzcs]; exact hs0')
    have hlt' : j % zv.cells.size < zr.length := by rw [← h1]; exact hlt
    obtain ⟨u, hu, hr⟩ := h2 (j % zv.cells.size) zr[j % zv.cells.size] (List.getElem?_eq_getElem hlt')
    rw [getElem!_def, hu]
    exact hr.one
  obtain ⟨vs', g1, g2⟩ := layL_fill hm _ parts.toList _ _ r hp hl
  have g3 : Pw (fun u c => RepC w (Mof C H mm) u c) vs'.toList cts := ctsOf_pw hc (g2.mono fun _ _ _ h => h.2)
  obtain ⟨c1, c2, c3, c4⟩ := chunkL_spec _ hx
  have hvl : vs'.size = len * ei.size := by have := g3.1; rw [c3] at this; simpa using this
  have hrun : (execOp a.eval o).run C.P w = .ok (.value (.slice (some ⟨w.heap.size, 0, none⟩) len len)) (w.alloc (.cells vs' e)) := by
    have hfill : Instr.fill (fun i => some (i * ei.size, ei.size)) init (parts.map fun (i, x) => (i, a.eval x)).toList = some vs' := by
      rw [← g1, Array.toList_map]
    simp only [execOp, ho, Instr.buildSlice, Sem.run_bind, hf.underlying, Result.andThen_ok, hf'.sizeOf]
    rw [if_neg (by omega)]
    simp only [init] at hfill
    by_cases h0 : len * ei.size = 0
    · rw [if_pos h0] at hfill
      rw [if_pos h0]
      simp only [Sem.run_bind, Sem.run_pure, Result.andThen_ok, hfill]
      simp [newRow, newObj, Sem.run]
    · rw [if_neg h0] at hfill
      rw [if_neg h0]
      simp only [Sem.run_bind, Sem.run_pure, Result.andThen_ok, hf'.zeroValue hzv, hfill]
      simp [newRow, newObj, Sem.run]
  refine .inl ⟨_, _, hrun, upd H d (.slice (some ⟨w.heap.size, 0, none⟩) len len), upd Z d ei.size, ?_⟩
  rw [hd]
  refine hm.add (i := d) (hv := .slice (some ⟨w.heap.size, 0, none⟩) len len) (z := ei.size) (o := .arr true e ei.size xs) (getM_none hi) (Nat.blt_eq.mp hn) rfl (alloc_ext w _) ?_ ?_ ?_
  · intro b hb
    simp [Hb, hblk] at hb
    subst hb
    exact ⟨Nat.le_refl _, by show _ < (w.heap.push _).size; rw [Array.size_push]; omega⟩
  · intro hMM hfr
    refine ⟨upd_self _ _ _, vs'.toList, ?_, by rw [upd_self]; simp, c2, fun k x hk j c hc => ?_⟩
    · rw [upd_self, c1]
      have hlen : len ≤ maxLen := by
        have : len ≤ len * ei.size := Nat.le_mul_of_pos_right _ hs0'
        simp only [maxLen]; omega
      exact World.ownsRow_lit w vs' len (Nat.zero_le _) hlen hvl
    · obtain ⟨u, hu, hrep⟩ := g3.2 _ c (c4 k x hk j c hc)
      exact ⟨u, hu, hrep.mono (alloc_ext w _).size hfr hMM⟩
  · exact ⟨⟨_, List.mem_cons_self, rfl⟩, (upd_self _ _ _).symm⟩
end
end Go.Sy
namespace Go.Sy
open Go.RowKit
def nthO : List Oper → Nat → Option Oper
  | [], _ => none
  | o :: _, 0 => some o
  | _ :: r, k + 1 => nthO r k
theorem nthO_eq : ∀ (l : List Oper) (j : Nat), nthO l j = l[j]?
  | [], j => by cases j <;> rfl
  | o :: l, 0 => rfl
  | o :: l, j + 1 => by simpa [nthO] using nthO_eq l j
def guardL (L : List Oper) (tm : TM) (o : Oper) : Option Bool :=
  match o.guard with
  | none => some true
  | some (j, want) =>
    match nthO L j with
    | none => none
    | some oj =>
      match oj.dst with
      | none => none
      | some t =>
        match lookB tm t with
        | none => isU tm t
        | some true => (match want with | true => some true | false => some false)
        | some false => (match want with | true => some false | false => some true)
theorem guardL_eq {L : List Oper} {tm : TM} {o : Oper} {b : Bool} (h : guardL L tm o = some b) : guardB L.toArray tm o = some b := by
  unfold guardL at h
  unfold guardB
  split at h
  · rename_i hg; rw [hg]; exact h
  · rename_i j want hg
    rw [hg]
    simp only [List.getElem?_toArray, ← nthO_eq]
    split at h
    · cases h
    · rename_i oj hoj
      simp only [hoj]
      split at h
      · cases h
      · rename_i t ht
        simp only [ht]
        split at h
        · rename_i hb; simp only [hb]; exact h
        · rename_i hb; simp only [hb]; cases want <;> simpa using h
        · rename_i hb; simp only [hb]; cases want <;> simpa using h
def delE (tm : TM) (d : Nat) : Option TM :=
  match tm with
  | [] => some []
  | (e, u) :: r => match Nat.beq e d with
    | true => delE r d
    | false => match delE r d with
      | some r' => some ((e, u) :: r')
      | none => none
theorem delE_eq {d : Nat} : ∀ {tm r : TM}, delE tm d = some r → r = delL tm d
  | [], r, h => by simp [delE] at h; subst h; rfl
  | (e, u) :: tm, r, h => by
    unfold delE at h
    unfold delL
    cases hb : Nat.beq e d with
    | true => rw [hb] at h; exact delE_eq h
    | false =>
      rw [hb] at h
      simp only at h
      split at h
      · rename_i r' hr'
        injection h with h; subst h
        rw [delE_eq hr']
      · cases h
def setE (n d : Nat) (st : ST) (tm : TM) : Option TM :=
  match Nat.blt d n with
  | true => match delE tm d with
    | some r => some ((d, st) :: r)
    | none => none
  | false => none
theorem setE_eq {n d : Nat} {st : ST} {tm r : TM} (h : setE n d st tm = some r) : Nat.blt d n = true ∧ r = (d, st) :: delL tm d := by
  unfold setE at h
  split at h
  · rename_i hb
    split at h
    · rename_i r' hr'
      injection h with h; subst h
      exact ⟨hb, by rw [delE_eq hr']⟩
    · cases h
  · cases h
def kEq : IntKind → IntKind → Bool
  | .i64, .i64 => true
  | .u8, .u8 => true
  | .u64, .u64 => true
  | .i32, .i32 => true
  | .u32, .u32 => true
  | .i8, .i8 => true
  | .i16, .i16 => true
  | .u16, .u16 => true
  | _, _ => false
theorem kEq_eq {k k' : IntKind} (h : kEq k k' = true) : k' = k := by cases k <;> cases k' <;> first | rfl | cases h
theorem op_idxArr {C : Ctx} {n : Nat} {tm : TM} {mm : MM} {o : Oper} {d : Nat} {Θ : Tab} (hΘ : tabOK C.P Θ) {t : TypeId} {x i : Operand} {z bts len e : Nat} {ag : Bool} {zr : Option (List CT)} {ei : TyI} {k : IntKind} {j : Nat} {s r : SC}
    (ho : o.op = .indexAddr t x i) (ht : tyGet Θ t = some ⟨z, bts, ag, zr, .arr len e⟩) (hei : tyGet Θ e = some ei)
    (hx : evalC tm x = some s) (hi : evalC tm i = some (.c (.int k (j : Int)))) (hj : Nat.blt j len = true) (hr : addSC s (j * ei.size) = some r) (hd : o.dst = some d) (hn : Nat.blt d n = true) :
    OpV C n o tm mm d (.v (.one r)) :=
  OpV.val hd hn _ fun H Z a w hm => by
    obtain ⟨inf, de, hf⟩ := tyF hΘ ht
    obtain ⟨inf', de', hf'⟩ := tyF hΘ hei
    have h2 : a.eval i = .int k (j : Int) := RepC.int_inv (evalC_rep hm hi)
    obtain ⟨ad, hv, hrep⟩ := addSC_rep hr (evalC_rep hm hx)
    have hde : de = .array len e := by
      have := hf.sh
      cases de <;> simp [shChk] at this ⊢
      exact this
    subst hde
    have hjl : j < len := Nat.blt_eq.mp hj
    refine ⟨.pointer (some (ad.add (j * ei.size))), ?_, hrep⟩
    simp [execOp, ho, hv, h2, Instr.indexAt, asIntOf, hf.underlying, Instr.sureAddr, hf'.sizeOf]
    intro hcon; omega
def valE (Θ : Tab) (tm : TM) (mm : MM) : Op → Option ST
  | .move x => evalT tm x
  | .assign x => evalT tm x
  | .pick c x y => match evalC tm c with
    | some (.lit true) => evalT tm x
    | some (.lit false) => evalT tm y
    | _ => none
  | .unOp .not _ x => match evalB tm x with
    | some b => some (.v (.one (.c (.bool (!b)))))
    | _ => none
  | .binOp p t x y _ => match evalC tm x, evalC tm y with
    | some (.c (.int k a)), some (.c (.int k' b)) => match kEq k k' with
      | true => match cmpI p a b with
        | some r => some (.v (.one (.c (.bool r))))
        | none => none
      | false => none
    | some (.c (.str a)), some (.c (.str b)) => match cmpS p a b with
        | some r => some (.v (.one (.c (.bool r))))
        | none => none
    | _, _ => match evalB tm x, evalB tm y with
      | some a, some b => match tyGet Θ t with
        | some ⟨_, _, _, _, .bool⟩ => match p with
          | .eql => some (.v (.one (.c (.bool (a == b)))))
          | .neq => some (.v (.one (.c (.bool (a != b)))))
          | _ => none
        | _ => none
      | _, _ => none
  | .convert t t' x => match evalC tm x with
    | some (.c (.int k m)) => match tyGet Θ t, tyGet Θ t' with
      | some ⟨_, _, _, _, .int k0⟩, some ⟨_, _, _, _, .int k'⟩ => match kEq k k0 with
        | true => some (.v (.one (.c (.int k' (k'.wrap m)))))
        | false => none
      | _, _ => none
    | _ => none
  | .extract x i => match evalT tm x with
    | some (.tup xs) => match dropL xs i with
      | some (s :: _) => some (.v s)
      | _ => none
    | _ => none
  | .nilCheck x => match evalC tm x with
    | some (.ptr i off) => some (.v (.one (.ptr i off)))
    | some (.aptr i k off) => some (.v (.one (.aptr i k off)))
    | some (.eptr cs) => some (.v (.one (.eptr cs)))
    | _ => none
  | .load t x => match tyGet Θ t with
    | some ⟨sz, _, ag, _, _⟩ => match evalC tm x with
      | some (.ptr i off) => match getM mm i with
        | some (.box cs) => match subL cs off sz with
          | some xs => match mkV id ag xs with
            | some s => some (.v s)
            | none => none
          | none => none
        | _ => none
      | some (.eptr cs) => match takeL cs sz with
        | some xs => match mkV SC.c ag xs with
          | some s => some (.v s)
          | none => none
        | none => none
      | _ => none
    | none => none
  | .fieldAddr t x k => match tyGet Θ t with
    | some ⟨_, _, _, _, .struct fs⟩ => match fieldOff fs k with
      | some off => match evalC tm x with
        | some s => match addSC s off with
          | some r => some (.v (.one r))
          | none => none
        | none => none
      | none => none
    | _ => none
  | .indexAddr t x i => match tyGet Θ t with
    | some ⟨_, _, _, _, .arr len e⟩ => match tyGet Θ e with
      | some ⟨esz, _, _, _, _⟩ => match evalC tm i with
        | some (.c (.int _ (.ofNat j))) => match Nat.blt j len with
          | true => match evalC tm x with
            | some s => match addSC s (j * esz) with
              | some r => some (.v (.one r))
              | none => none
            | none => none
          | false => none
        | _ => none
      | none => none
    | _ => none
  | .makeFunc (.func f) ⟨[]⟩ caps => match capsOf tm caps.toList with
    | some ids => match ids.all (fun i => match getM mm i with | some (.box _) => true | _ => false) with
      | true => some (.v (.one (.clo f ids)))
      | false => none
    | none => none
  | .build t parts => match tyGet Θ t with
    | some ⟨_, _, true, some zr, .struct fs⟩ => match layL (structPlace Θ fs) tm (mkV.mapS SC.c zr) parts.toList with
      | some r => some (.v (.agg r))
      | none => none
    | some ⟨_, _, true, some zr, .arr _ e⟩ => match tyGet Θ e with
      | some ⟨esz, _, _, _, _⟩ => match layL (fun i => some (i * esz, esz)) tm (mkV.mapS SC.c zr) parts.toList with
        | some r => some (.v (.agg r))
        | none => none
      | none => none
    | _ => none
  | .call ⟨.builtin .len, ⟨[x]⟩, ⟨[t]⟩⟩ => match tyGet Θ t with
    | some ⟨_, _, _, _, .slice _⟩ => match evalC tm x with
      | some s => match lenOfC mm s with
        | some m => some (.v (.one (.c (.int .i64 m))))
        | none => none
      | none => none
    | some ⟨_, _, _, _, .string⟩ => match evalC tm x with
      | some (.c (.str s)) => some (.v (.one (.c (.int .i64 (s.size : Int)))))
      | _ => none
    | some ⟨_, _, _, _, .map _ _⟩ => match evalC tm x with
      | some (.mp i) => match getM mm i with
        | some (.mpo es) => some (.v (.one (.c (.int .i64 (es.length : Int)))))
        | _ => none
      | _ => none
    | _ => none
  | .call ⟨.builtin .min, ⟨[x, y]⟩, _⟩ => match evalC tm x, evalC tm y with
    | some (.c (.int k a)), some (.c (.int k' b)) => match kEq k k' with
      | true => some (.v (.one (.c (.int k (min a b)))))
      | false => none
    | _, _ => none
  | .call ⟨.builtin .max, ⟨[x, y]⟩, _⟩ => match evalC tm x, evalC tm y with
    | some (.c (.int k a)), some (.c (.int k' b)) => match kEq k k' with
      | true => some (.v (.one (.c (.int k (max a b)))))
      | false => none
    | _, _ => none
  | _ => none
section
variable {C : Ctx} {n : Nat} {tm : TM} {mm : MM} {o : Oper} {d : Nat} {Θ : Tab}
theorem valE_sound (hΘ : tabOK C.P Θ) {st : ST} (h : valE Θ tm mm o.op = some st) (hd : o.dst = some d) (hn : Nat.blt d n = true) :
    OpV C n o tm mm d st := by
  generalize ho : o.op = p at h
  unfold valE at h
  split at h
  · exact op_move ho h hd hn
  · exact op_assign ho h hd hn
  · split at h
    · rename_i hc; exact op_pick (b := true) ho hc h hd hn
    · rename_i hc; exact op_pick (b := false) ho hc h hd hn
    · cases h
  · split at h
    · rename_i hc; injection h with h; subst h; exact op_not ho hc hd hn
    · cases h
  · split at h
    · rename_i hx hy
      split at h
      · rename_i hk
        have := kEq_eq hk
        subst this
        split at h
        · rename_i hr; injection h with h; subst h; exact op_cmpI ho hx hy hr hd hn
        · cases h
      · cases h
    · rename_i hx hy
      split at h
      · rename_i hr; injection h with h; subst h; exact op_cmpS ho hx hy hr hd hn
      · cases h
    · split at h
      · rename_i hx hy
        split at h
        · rename_i ht
          split at h
          · injection h with h; subst h; exact op_cmpB hΘ ho ht (.inl rfl) hx hy hd hn
          · injection h with h; subst h; exact op_cmpB hΘ ho ht (.inr rfl) hx hy hd hn
          · cases h
        · cases h
      · cases h
  · split at h
    · rename_i hx
      split at h
      · rename_i ht ht'
        split at h
        · rename_i hk
          have := kEq_eq hk
          subst this
          injection h with h; subst h; exact op_convI hΘ ho ht ht' hx hd hn
        · cases h
      · cases h
    · cases h
  · split at h
    · rename_i hx
      split at h
      · rename_i s r hs
        injection h with h; subst h
        refine op_extract ho hx ?_ hd hn
        have := dropL_spec hs
        have h2 := congrArg (fun l : List SV => l[0]?) this
        simpa using h2.symm
      · cases h
    · cases h
  · split at h
    · rename_i hx; injection h with h; subst h; exact op_nilCheck ho hx rfl hd hn
    · rename_i hx; injection h with h; subst h; exact op_nilCheck ho hx rfl hd hn
    · rename_i hx; injection h with h; subst h; exact op_nilCheck ho hx rfl hd hn
    · cases h
  · split at h
    · rename_i ht
      split at h
      · rename_i hx
        split at h
        · rename_i hi
          split at h
          · rename_i hs
            split at h
            · rename_i hv; injection h with h; subst h; exact op_load_box hΘ ho ht hx hi hs hv hd hn
            · cases h
          · cases h
        · cases h
      · rename_i hx
        split at h
        · rename_i hs
          split at h
          · rename_i hv; injection h with h; subst h; exact op_load_eptr hΘ ho ht hx hs hv hd hn
          · cases h
        · cases h
      · cases h
    · cases h
  · split at h
    · rename_i ht
      split at h
      · rename_i hk
        split at h
        · rename_i hx
          split at h
          · rename_i hr; injection h with h; subst h; exact op_fieldAddr hΘ ho ht hx hk hr hd hn
          · cases h
        · cases h
      · cases h
    · cases h
  · split at h
    · rename_i ht
      split at h
      · rename_i hei
        split at h
        · rename_i hi
          split at h
          · rename_i hj
            split at h
            · rename_i hx
              split at h
              · rename_i hr; injection h with h; subst h; exact op_idxArr hΘ ho ht hei hx hi hj hr hd hn
              · cases h
            · cases h
          · cases h
        · cases h
      · cases h
    · cases h
  · split at h
    · rename_i hc
      split at h
      · rename_i hb; injection h with h; subst h; exact op_makeFunc ho hc hb hd hn
      · cases h
    · cases h
  · split at h
    · rename_i ht
      split at h
      · rename_i hl; injection h with h; subst h; exact op_build_struct hΘ ho ht hl hd hn
      · cases h
    · rename_i ht
      split at h
      · rename_i hei
        split at h
        · rename_i hl; injection h with h; subst h; exact op_build_array hΘ ho ht hei hl hd hn
        · cases h
      · cases h
    · cases h
  · split at h
    · rename_i ht
      split at h
      · rename_i hx
        split at h
        · rename_i hm; injection h with h; subst h; exact op_len_slice hΘ ho ht hx hm hd hn
        · cases h
      · cases h
    · rename_i ht
      split at h
      · rename_i hx; injection h with h; subst h; exact op_len_str hΘ ho ht hx hd hn
      · cases h
    · rename_i ht
      split at h
      · rename_i hx
        split at h
        · rename_i hi; injection h with h; subst h; exact op_len_map hΘ ho ht hx hi hd hn
        · cases h
      · cases h
    · cases h
  · split at h
    · rename_i hx hy
      split at h
      · rename_i hk
        have := kEq_eq hk
        subst this
        injection h with h; subst h; exact op_min ho hx hy hd hn
      · cases h
    · cases h
  · split at h
    · rename_i hx hy
      split at h
      · rename_i hk
        have := kEq_eq hk
        subst this
        injection h with h; subst h; exact op_max ho hx hy hd hn
      · cases h
    · cases h
  · cases h
end
def updE (mm : MM) (i : Nat) (o : MO) : Option MM :=
  match mm with
  | [] => some []
  | (e, u) :: r => match updE r i o with
    | some r' => match Nat.beq e i with
      | true => some ((e, o) :: r')
      | false => some ((e, u) :: r')
    | none => none
theorem updE_eq {i : Nat} {o : MO} : ∀ {mm r : MM}, updE mm i o = some r → r = updM mm i o
  | [], r, h => by simp [updE] at h; subst h; rfl
  | (e, u) :: mm, r, h => by
    unfold updE at h
    unfold updM
    split at h
    · rename_i r' hr'
      have := updE_eq hr'
      subst this
      cases hb : Nat.beq e i <;> rw [hb] at h <;> (injection h with h; exact h.symm)
    · cases h
def memE (Θ : Tab) (n : Nat) (tm : TM) (mm : MM) (o : Oper) : Option (TM × MM) :=
  match o.dst with
  | some d => match getM mm d with
    | some _ => none
    | none => match o.op with
      | .box _ x => match evalV tm x with
        | some s => match s.cells.all SC.known with
          | true => match setE n d (.v (.one (.ptr d 0))) tm with
            | some tm' => match nrmL s.cells with
              | some cs => some (tm', (d, .box cs) :: mm)
              | none => none
            | none => none
          | false => none
        | none => none
      | .alloc e => match tyGet Θ e with
        | some ⟨_, _, _, some zr, _⟩ => match setE n d (.v (.one (.ptr d 0))) tm with
          | some tm' => match nrmL (mkV.mapS SC.c zr) with
            | some cs => some (tm', (d, .box cs) :: mm)
            | none => none
          | none => none
        | _ => none
      | .makeMap _ none => match setE n d (.v (.one (.mp d))) tm with
        | some tm' => some (tm', (d, .mpo []) :: mm)
        | none => none
      | .buildSlice t len parts => match tyGet Θ t with
        | some ⟨_, _, _, _, .slice e⟩ => match tyGet Θ e with
          | some ⟨esz, _, _, some _, _⟩ => match Nat.ble (len * esz) 16777216, Nat.blt 0 esz with
            | true, true => match layL (fun i => some (i * esz, esz)) tm (anyL (len * esz)) parts.toList with
              | some r => match ctsOf r with
                | some cts => match chunkL esz len cts with
                  | some xs => match setE n d (.v (.one (.own d))) tm with
                    | some tm' => some (tm', (d, .arr true e esz xs) :: mm)
                    | none => none
                  | none => none
                | none => none
              | none => none
            | _, _ => none
          | _ => none
        | _ => none
      | _ => none
  | none => match o.op with
    | .store t x y => match tyGet Θ t with
      | some ⟨sz, _, _, _, _⟩ => match evalC tm x with
        | some (.ptr i off) => match getM mm i with
          | some (.box cs) => match evalV tm y with
            | some s => match s.cells.all SC.known with
              | true => match Nat.beq s.cells.length sz with
                | true => match spliceL cs off s.cells with
                  | some r => match updE mm i (.box r) with
                    | some mm' => some (tm, mm')
                    | none => none
                  | none => none
                | false => none
              | false => none
            | none => none
          | _ => none
        | _ => none
      | none => none
    | _ => none
where
  nrmL : List SC → Option (List SC)
    | [] => some []
    | a :: r => match nrmL r with
      | some r' => some (a :: r')
      | none => none
theorem nrmL_eq : ∀ {l r : List SC}, memE.nrmL l = some r → r = l
  | [], r, h => by simp [memE.nrmL] at h; exact h
  | a :: l, r, h => by
    unfold memE.nrmL at h
    split at h
    · rename_i r' hr'; injection h with h; subst h; rw [nrmL_eq hr']
    · cases h
theorem memE_sound {C : Ctx} {n : Nat} {tm tm' : TM} {mm mm' : MM} {o : Oper} {Θ : Tab} (hΘ : tabOK C.P Θ) (h : memE Θ n tm mm o = some (tm', mm')) : OpR C n o tm mm tm' mm' := by
  unfold memE at h
  split at h
  · rename_i d hd
    split at h
    · cases h
    · rename_i hi
      split at h
      · rename_i ho
        split at h
        · rename_i hx
          split at h
          · rename_i hk
            split at h
            · rename_i hs
              split at h
              · rename_i hl
                obtain ⟨hn, rfl⟩ := setE_eq hs
                injection h with h; injection h with h1 h2; subst h1 h2
                rw [nrmL_eq hl]
                exact op_box ho hx hk hi hd hn
              · cases h
            · cases h
          · cases h
        · cases h
      · rename_i ho
        split at h
        · rename_i ht
          split at h
          · rename_i hs
            split at h
            · rename_i hl
              obtain ⟨hn, rfl⟩ := setE_eq hs
              injection h with h; injection h with h1 h2; subst h1 h2
              rw [nrmL_eq hl, mapS_eq]
              exact op_alloc hΘ ho ht hi hd hn
            · cases h
          · cases h
        · cases h
      · rename_i ho
        split at h
        · rename_i hs
          obtain ⟨hn, rfl⟩ := setE_eq hs
          injection h with h; injection h with h1 h2; subst h1 h2
          exact op_makeMap ho hi hd hn
        · cases h
      · rename_i ho
        split at h
        · rename_i ht
          split at h
          · rename_i hei
            split at h
            · rename_i hb hs0
              split at h
              · rename_i hl
                split at h
                · rename_i hc
                  split at h
                  · rename_i hx
                    split at h
                    · rename_i hs
                      obtain ⟨hn, rfl⟩ := setE_eq hs
                      injection h with h; injection h with h1 h2; subst h1 h2
                      exact op_buildSlice hΘ ho ht hei rfl hb hs0 hl hc hx hi hd hn
                    · cases h
                  · cases h
                · cases h
              · cases h
            · cases h
          · cases h
        · cases h
      · cases h
  · rename_i hd
    split at h
    · rename_i ho
      split at h
      · rename_i ht
        split at h
        · rename_i hx
          split at h
          · rename_i hi
            split at h
            · rename_i hy
              split at h
              · rename_i hk
                split at h
                · rename_i hsz
                  split at h
                  · rename_i hs
                    split at h
                    · rename_i hu
                      injection h with h; injection h with h1 h2; subst h1 h2
                      rw [updE_eq hu]
                      exact op_store_box hΘ ho ht hx hi hy hk hsz hs hd
                    · cases h
                  · cases h
                · cases h
              · cases h
            · cases h
          · cases h
        · cases h
      · cases h
    · cases h
def nrmC : SC → Option SC
  | .c x => some (.c x)
  | .lit b => some (.lit b)
  | .ptr i o => some (.ptr i o)
  | .aptr i k o => some (.aptr i k o)
  | .eptr cs => some (.eptr cs)
  | .own i => some (.own i)
  | .mp i => some (.mp i)
  | .bsl i n => some (.bsl i n)
  | .clo f l => some (.clo f l)
  | .any => some .any
theorem nrmC_eq {s r : SC} (h : nrmC s = some r) : r = s := by cases s <;> (injection h with h; exact h.symm)
def nrmCs : List SC → Option (List SC)
  | [] => some []
  | a :: l => match nrmC a with
    | some a' => match nrmCs l with
      | some l' => some (a' :: l')
      | none => none
    | none => none
theorem nrmCs_eq : ∀ {l r : List SC}, nrmCs l = some r → r = l
  | [], r, h => by simp [nrmCs] at h; exact h
  | a :: l, r, h => by
    unfold nrmCs at h
    split at h
    · rename_i a' ha
      split at h
      · rename_i l' hl; injection h with h; subst h; rw [nrmC_eq ha, nrmCs_eq hl]
      · cases h
    · cases h
def nrmV : SV → Option SV
  | .one s => match nrmC s with
    | some s' => some (.one s')
    | none => none
  | .agg l => match nrmCs l with
    | some l' => some (.agg l')
    | none => none
theorem nrmV_eq {s r : SV} (h : nrmV s = some r) : r = s := by
  cases s <;> simp only [nrmV] at h <;> split at h <;> first | (cases h; done) | skip
  · rename_i hs; injection h with h; subst h; rw [nrmC_eq hs]
  · rename_i hs; injection h with h; subst h; rw [nrmCs_eq hs]
def nrmVs : List SV → Option (List SV)
  | [] => some []
  | a :: l => match nrmV a with
    | some a' => match nrmVs l with
      | some l' => some (a' :: l')
      | none => none
    | none => none
theorem nrmVs_eq : ∀ {l r : List SV}, nrmVs l = some r → r = l
  | [], r, h => by simp [nrmVs] at h; exact h
  | a :: l, r, h => by
    unfold nrmVs at h
    split at h
    · rename_i a' ha
      split at h
      · rename_i l' hl; injection h with h; subst h; rw [nrmV_eq ha, nrmVs_eq hl]
      · cases h
    · cases h
def nrmS : ST → Option ST
  | .v s => match nrmV s with
    | some s' => some (.v s')
    | none => none
  | .tup l => match nrmVs l with
    | some l' => some (.tup l')
    | none => none
theorem nrmS_eq {s r : ST} (h : nrmS s = some r) : r = s := by
  cases s <;> simp only [nrmS] at h <;> split at h <;> first | (cases h; done) | skip
  · rename_i hs; injection h with h; subst h; rw [nrmV_eq hs]
  · rename_i hs; injection h with h; subst h; rw [nrmVs_eq hs]
def nrmT : TM → Option TM
  | [] => some []
  | (t, s) :: l => match nrmS s with
    | some s' => match nrmT l with
      | some l' => some ((t, s') :: l')
      | none => none
    | none => none
theorem nrmT_eq : ∀ {l r : TM}, nrmT l = some r → r = l
  | [], r, h => by simp [nrmT] at h; exact h
  | (t, s) :: l, r, h => by
    unfold nrmT at h
    split at h
    · rename_i s' hs
      split at h
      · rename_i l' hl; injection h with h; subst h; rw [nrmS_eq hs, nrmT_eq hl]
      · cases h
    · cases h
def nrmO : MO → Option MO
  | .box cs => match nrmCs cs with
    | some cs' => some (.box cs')
    | none => none
  | .arr nn e sz xs => some (.arr nn e sz xs)
  | .mpo es => some (.mpo es)
  | .pool e sz qs => some (.pool e sz qs)
theorem nrmO_eq {s r : MO} (h : nrmO s = some r) : r = s := by
  cases s <;> simp only [nrmO] at h
  · split at h
    · rename_i hs; injection h with h; subst h; rw [nrmCs_eq hs]
    · cases h
  · injection h with h; exact h.symm
  · injection h with h; exact h.symm
  · injection h with h; exact h.symm
def nrmM : MM → Option MM
  | [] => some []
  | (t, s) :: l => match nrmO s with
    | some s' => match nrmM l with
      | some l' => some ((t, s') :: l')
      | none => none
    | none => none
theorem nrmM_eq : ∀ {l r : MM}, nrmM l = some r → r = l
  | [], r, h => by simp [nrmM] at h; exact h
  | (t, s) :: l, r, h => by
    unfold nrmM at h
    split at h
    · rename_i s' hs
      split at h
      · rename_i l' hl; injection h with h; subst h; rw [nrmO_eq hs, nrmM_eq hl]
      · cases h
    · cases h
inductive Out where
  | stop (l : List Oper) (tm : TM) (mm : MM)
  | bad
def goE (Θ : Tab) (n : Nat) (L : List Oper) : List Oper → TM → MM → Out
  | [], tm, mm => .stop [] tm mm
  | o :: r, tm, mm => match guardL L tm o with
    | some true => match o.dst, valE Θ tm mm o.op with
      | some d, some st => match setE n d st tm with
        | some tm' => goE Θ n L r tm' mm
        | none => .stop (o :: r) tm mm
      | _, _ => match memE Θ n tm mm o with
        | some (tm', mm') => goE Θ n L r tm' mm'
        | none => .stop (o :: r) tm mm
    | some false => match o.dst with
      | some d => match setE n d (.tup []) tm with
        | some tm' => goE Θ n L r tm' mm
        | none => .stop (o :: r) tm mm
      | none => goE Θ n L r tm mm
    | none => .stop (o :: r) tm mm
theorem goE_sound {C : Ctx} {n : Nat} {Θ : Tab} (hΘ : tabOK C.P Θ) {L : List Oper} {T : TM → MM → Prop} : ∀ {l : List Oper} {tm : TM} {mm : MM} {l' : List Oper} {tm' : TM} {mm' : MM},
    goE Θ n L l tm mm = .stop l' tm' mm' → SOps C n L.toArray l' tm' mm' T → SOps C n L.toArray l tm mm T
  | [], tm, mm, l', tm', mm', h, k => by
    simp only [goE, Out.stop.injEq] at h
    obtain ⟨rfl, rfl, rfl⟩ := h
    exact k
  | o :: r, tm, mm, l', tm', mm', h, k => by
    have same : Out.stop (o :: r) tm mm = .stop l' tm' mm' → SOps C n L.toArray (o :: r) tm mm T := by
      intro e
      injection e with e1 e2 e3
      subst e1 e2 e3
      exact k
    unfold goE at h
    split at h
    · rename_i hg
      have hg' := guardL_eq hg
      split at h
      · rename_i d st hd hv
        split at h
        · rename_i tm1 hs
          obtain ⟨hn, rfl⟩ := setE_eq hs
          exact SOps.step hg' (valE_sound hΘ hv hd hn).wp (goE_sound hΘ h k)
        · exact same h
      · split at h
        · rename_i hm
          exact SOps.step hg' (memE_sound hΘ hm).wp (goE_sound hΘ h k)
        · exact same h
    · rename_i hg
      have hg' := guardL_eq hg
      split at h
      · rename_i d hd
        split at h
        · rename_i tm1 hs
          obtain ⟨hn, rfl⟩ := setE_eq hs
          exact SOps.skipU hg' hd hn (goE_sound hΘ h k)
        · exact same h
      · rename_i hd
        refine SOps.skip hg' ?_
        rw [hd]
        exact goE_sound hΘ h k
    · exact same h
def runE (Θ : Tab) (n : Nat) (L : List Oper) (l : List Oper) (tm : TM) (mm : MM) : Option Out :=
  match nrmT tm with
  | some tm' => match nrmM mm with
    | some mm' => match goE Θ n L l tm' mm' with
      | .stop a b c => some (.stop a b c)
      | .bad => none
    | none => none
  | none => none
theorem run_ {C : Ctx} {n : Nat} {Θ : Tab} (hΘ : tabOK C.P Θ) {L : List Oper} {T : TM → MM → Prop} {l : List Oper} {tm : TM} {mm : MM} {l' : List Oper} {tm' : TM} {mm' : MM}
    (h : runE Θ n L l tm mm = some (.stop l' tm' mm')) (k : SOps C n L.toArray l' tm' mm' T) : SOps C n L.toArray l tm mm T := by
  unfold runE at h
  split at h
  · rename_i tm1 h1
    split at h
    · rename_i mm1 h2
      rw [← nrmT_eq h1, ← nrmM_eq h2]
      split at h
      · rename_i a b c h3
        injection h with h
        injection h with e1 e2 e3
        subst e1 e2 e3
        exact goE_sound hΘ h3 k
      · cases h
    · cases h
  · cases h
end Go.Sy
namespace Go.Sy
open Go.RowKit
def Goes (C : Ctx) (f : FuncId) (n : Nat) (R : Ending → World → Prop) (todo : List Item) (tm : TM) (mm : MM) : Prop :=
  ∀ a w, Has C n tm mm a w → ∀ (b : Frame) (cs : List Frame), b.fn = f → b.kind = .normal →
    ∃ e w' fr, R e w' ∧ Comes C.P (lone (b.at a todo) cs w) (lone fr cs w') e ∧ fr.fn = f ∧ fr.leaving C.P w' e
section
variable {C : Ctx} {f : FuncId} {n : Nat} {R : Ending → World → Prop} {k : List Item} {tm tm' : TM} {mm mm' : MM}
theorem Goes.step {t t' : List Item} (h : ∀ (b : Frame) a cs w, step C.P (lone (b.at a t) cs w) = .next (lone (b.at a t') cs w)) (g : Goes C f n R t' tm mm) : Goes C f n R t tm mm := by
  intro a w hh b cs hb hk
  obtain ⟨e, w', fr, h1, h2, h3⟩ := g a w hh b cs hb hk
  exact ⟨e, w', fr, h1, Comes.of_steps (.one (h b a cs w)) h2, h3⟩
theorem g_seq {x y : Code} (g : Goes C f n R (.code x :: .code y :: k) tm mm) : Goes C f n R (.code (.seq x y) :: k) tm mm := Goes.step (fun _ _ _ _ => step_seq) g
theorem g_skip (g : Goes C f n R k tm mm) : Goes C f n R (.code .skip :: k) tm mm := Goes.step (fun _ _ _ _ => step_skip) g
theorem g_label {l : Nat} (g : Goes C f n R k tm mm) : Goes C f n R (.code (.label l) :: k) tm mm := Goes.step (fun _ _ _ _ => step_label) g
theorem g_block {id : Nat} {c : Code} (g : Goes C f n R (.code c :: .inBlock id :: k) tm mm) : Goes C f n R (.code (.block id c) :: k) tm mm := Goes.step (fun _ _ _ _ => step_block) g
theorem g_inBlock {id : Nat} (g : Goes C f n R k tm mm) : Goes C f n R (.inBlock id :: k) tm mm := Goes.step (fun _ _ _ _ => step_inBlock) g
theorem g_scope {c : Code} (g : Goes C f n R (.code c :: .inScope c :: k) tm mm) : Goes C f n R (.code (.scope c) :: k) tm mm := Goes.step (fun _ _ _ _ => step_scope) g
theorem g_inScope {c : Code} (g : Goes C f n R k tm mm) : Goes C f n R (.inScope c :: k) tm mm := Goes.step (fun _ _ _ _ => step_inScope) g
theorem g_exit {id : Nat} {k' : List Item} (h : exitTo id k = some k') (g : Goes C f n R k' tm mm) : Goes C f n R (.code (.exit id) :: k) tm mm := Goes.step (fun _ _ _ _ => step_exit h) g
theorem g_goto {l : Nat} {k' : List Item} (h : gotoIn l k = some k') (g : Goes C f n R k' tm mm) : Goes C f n R (.code (.goto l) :: k) tm mm := Goes.step (fun _ _ _ _ => step_goto h) g
theorem g_if_true {c : Operand} {x y : Code} (hc : evalC tm c = some (.lit true)) (h1 : Goes C f n R (.code x :: k) tm mm) :
    Goes C f n R (.code (.cond c x y) :: k) tm mm := by
  intro a w hh b cs hb hk
  have hv : a.eval c = .bool true := by
    obtain ⟨H, Z, hm⟩ := hh
    exact evalC_rep hm hc
  obtain ⟨e, w', fr, g1, g2, g3⟩ := h1 a w hh b cs hb hk
  exact ⟨e, w', fr, g1, Comes.of_steps (.one (step_cond hv)) g2, g3⟩
theorem g_if_false {c : Operand} {x y : Code} (hc : evalC tm c = some (.lit false)) (h1 : Goes C f n R (.code y :: k) tm mm) :
    Goes C f n R (.code (.cond c x y) :: k) tm mm := by
  intro a w hh b cs hb hk
  have hv : a.eval c = .bool false := by
    obtain ⟨H, Z, hm⟩ := hh
    exact evalC_rep hm hc
  obtain ⟨e, w', fr, g1, g2, g3⟩ := h1 a w hh b cs hb hk
  exact ⟨e, w', fr, g1, Comes.of_steps (.one (step_cond hv)) g2, g3⟩
theorem g_if {t : Nat} {x y : Code} {v : Bool} (hc : getT tm t = some (.v (.one (.c (.bool v)))))
    (h1 : v = true → Goes C f n R (.code x :: k) ((t, .v (.one (.lit true))) :: delL tm t) mm) (h2 : v = false → Goes C f n R (.code y :: k) ((t, .v (.one (.lit false))) :: delL tm t) mm) :
    Goes C f n R (.code (.cond (.tmp t) x y) :: k) tm mm := by
  intro a w hh b cs hb hk
  obtain ⟨H, Z, hm⟩ := hh
  have hv : a.eval (.tmp t) = .bool v := RepC.bool_inv (hm.tmps _ (getT_mem hc))
  have key : Has C n ((t, .v (.one (.lit v))) :: delL tm t) mm a w := by
    refine ⟨H, Z, { hm with tmps := fun p hp => ?_ }⟩
    rcases List.mem_cons.1 hp with rfl | hp
    · exact hv
    · exact hm.tmps p (delL_mem hp).1
  cases v with
  | true =>
    obtain ⟨e, w', fr, g1, g2, g3⟩ := h1 rfl a w key b cs hb hk
    exact ⟨e, w', fr, g1, Comes.of_steps (.one (step_cond hv)) g2, g3⟩
  | false =>
    obtain ⟨e, w', fr, g1, g2, g3⟩ := h2 rfl a w key b cs hb hk
    exact ⟨e, w', fr, g1, Comes.of_steps (.one (step_cond hv)) g2, g3⟩
theorem g_region {id : Nat} {L : List Oper} (h : SOps C n L.toArray L tm mm (fun tm' mm' => Goes C f n R k tm' mm')) : Goes C f n R (.code (.region id L.toArray false) :: k) tm mm := by
  intro a w hh b cs hb hk
  obtain ⟨e, a', w', hq, harr⟩ := wp_region_lit (id := id) (h a w hh) b k cs
  cases e with
  | normal =>
    obtain ⟨tm', mm', hg, hh'⟩ := hq
    obtain ⟨e, w'', fr, g1, g2, g3⟩ := hg a' w' hh' b cs hb hk
    exact ⟨e, w'', fr, g1, Comes.of_steps harr g2, g3⟩
  | _ => exact hq.elim
theorem Goes.mono {t : List Item} (g : Goes C f n R t tm' mm') (hs : ∀ a w, Has C n tm mm a w → Has C n tm' mm' a w) : Goes C f n R t tm mm :=
  fun a w hh => g a w (hs a w hh)
theorem g_rounds {ι : Type} (S : ι → TM × MM) (μ : ι → Nat) {c : Code}
    (h : ∀ i, (∀ j, μ j < μ i → Goes C f n R (.inLoop c :: k) (S j).1 (S j).2) → Goes C f n R (.code c :: .inLoop c :: k) (S i).1 (S i).2) (i : ι) :
    Goes C f n R (.inLoop c :: k) (S i).1 (S i).2 := by
  have key : ∀ m i, μ i < m → Goes C f n R (.inLoop c :: k) (S i).1 (S i).2 := by
    intro m
    induction m with
    | zero => intro i hi; omega
    | succ m ih =>
      intro i hi
      exact Goes.step (fun _ _ _ _ => step_inLoop) (h i (fun j hj => ih j (by omega)))
  exact key (μ i + 1) i (by omega)
theorem g_loop {ι : Type} (S : ι → TM × MM) (μ : ι → Nat) {c : Code} (i : ι)
    (hs : ∀ a w, Has C n tm mm a w → Has C n (S i).1 (S i).2 a w)
    (h : ∀ i, (∀ j, μ j < μ i → Goes C f n R (.inLoop c :: k) (S j).1 (S j).2) → Goes C f n R (.code c :: .inLoop c :: k) (S i).1 (S i).2) :
    Goes C f n R (.code (.loop c) :: k) tm mm :=
  Goes.step (fun _ _ _ _ => step_loop) ((h i (fun j _ => g_rounds S μ h j)).mono hs)
end
def delC : SC → Option SC
  | .lit b => some (.c (.bool b))
  | s => some s
def delCs : List SC → Option (List SC)
  | [] => some []
  | a :: l => match delC a with
    | some a' => match delCs l with
      | some l' => some (a' :: l')
      | none => none
    | none => none
def delV : SV → Option SV
  | .one s => match delC s with
    | some s' => some (.one s')
    | none => none
  | .agg l => match delCs l with
    | some l' => some (.agg l')
    | none => none
theorem delC_rep {I : Nat → Prop} {H : Nat → Value} {Z : Nat → Nat} {w : World} {M : Nat → Prop} {v : Value} {s r : SC} (h : delC s = some r) (hr : RepSC I H Z w M v s) : RepSC I H Z w M v r := by
  cases s <;> simp only [delC] at h <;> injection h with h <;> subst h <;> first | exact hr | skip
  rw [show v = _ from hr]; exact RepC.bool _
theorem delCs_rep {I : Nat → Prop} {H : Nat → Value} {Z : Nat → Nat} {w : World} {M : Nat → Prop} : ∀ {l r : List SC} {us : List Value}, delCs l = some r → Pw (fun u c => RepSC I H Z w M u c) us l → Pw (fun u c => RepSC I H Z w M u c) us r
  | [], r, us, h, hp => by simp [delCs] at h; subst h; exact hp
  | s :: l, r, us, h, hp => by
    match us, hp with
    | [], hp => exact absurd hp.1 (by simp)
    | u :: us, hp =>
      have htail : Pw (fun u c => RepSC I H Z w M u c) us l := ⟨by simpa using hp.1, fun j c hc => by simpa using hp.2 (j + 1) c (by simpa using hc)⟩
      obtain ⟨u', hu', hr⟩ := hp.2 0 s rfl
      simp at hu'; subst hu'
      unfold delCs at h
      split at h
      · rename_i a' ha
        split at h
        · rename_i l' hl
          injection h with h; subst h
          exact Pw.cons (delC_rep ha hr) (delCs_rep hl htail)
        · cases h
      · cases h
theorem delV_rep {I : Nat → Prop} {H : Nat → Value} {Z : Nat → Nat} {w : World} {M : Nat → Prop} {v : Value} {s r : SV} (h : delV s = some r) (hr : RepSV I H Z w M v s) : RepSV I H Z w M v r := by
  cases s with
  | one s =>
    simp only [delV] at h
    split at h
    · rename_i hs; injection h with h; subst h; exact delC_rep hs hr
    · cases h
  | agg l =>
    simp only [delV] at h
    split at h
    · rename_i l' hs
      injection h with h; subst h
      obtain ⟨vs, h1, h2, h3⟩ := hr
      have := delCs_rep (us := vs.toList) hs ⟨by simpa using h2, fun j c hc => by simpa using h3 j c hc⟩
      exact ⟨vs, h1, by simpa using this.1, fun j c hc => by simpa using this.2 j c hc⟩
    · cases h
def evalD (tm : TM) (x : Operand) : Option SV :=
  match evalV tm x with
  | some s => delV s
  | none => none
theorem evalD_rep {C : Ctx} {H : Nat → Value} {Z : Nat → Nat} {n : Nat} {tm : TM} {mm : MM} {a : Act} {w : World} (h : Mod C H Z n tm mm a w)
    {x : Operand} {s : SV} (he : evalD tm x = some s) : RepSV (Iof mm) H Z w (Mof C H mm) (a.eval x) s := by
  unfold evalD at he
  split at he
  · rename_i s' hs; exact delV_rep he (evalV_rep h hs)
  · cases he
def resE (Θ : Tab) (tm : TM) (mm : MM) : List ResultVar → Option (List SV)
  | [] => some []
  | .tmp t :: r => match evalD tm (.tmp t) with
    | some s => match resE Θ tm mm r with
      | some l => some (s :: l)
      | none => none
    | none => none
  | .cell a t :: r => match tyGet Θ t with
    | some ⟨sz, _, ag, _, _⟩ => match evalC tm (.tmp a) with
      | some (.ptr i off) => match getM mm i with
        | some (.box cs) => match subL cs off sz with
          | some xs => match mkV id ag xs with
            | some s => match delV s, resE Θ tm mm r with
              | some s, some l => some (s :: l)
              | _, _ => none
            | none => none
          | none => none
        | _ => none
      | _ => none
    | none => none
def packS : List SV → ST
  | [s] => .v s
  | l => .tup l
theorem load_box {C : Ctx} {n : Nat} {tm : TM} {mm : MM} {Θ : Tab} (hΘ : tabOK C.P Θ) {t : TypeId} {ti : TyI} {x : Operand} {i off : Nat} {cs xs : List SC} {s : SV}
    (ht : tyGet Θ t = some ti) (hx : evalC tm x = some (.ptr i off)) (hi : getM mm i = some (.box cs))
    (hs : subL cs off ti.size = some xs) (hv : mkV id ti.agg xs = some s) {H : Nat → Value} {Z : Nat → Nat} {a : Act} {w : World} (hm : Mod C H Z n tm mm a w) :
    ∃ b v, a.eval x = .pointer (some ⟨b, off, none⟩) ∧ (loadVar t ⟨b, off, none⟩).run C.P w = .ok v w ∧ RepSV (Iof mm) H Z w (Mof C H mm) v s := by
  obtain ⟨inf, de, hf⟩ := tyF hΘ ht
  obtain ⟨b, ty, vs, h1, h2, _, h4⟩ := hm.box hi
  obtain ⟨_, b', hb', hv'⟩ := evalC_rep hm hx
  rw [h1] at hb'
  simp [Hb, hblk] at hb'
  subst hb'
  obtain ⟨e1, e2⟩ := subL_spec hs
  have hp : Pw (fun u c => RepSC (Iof mm) H Z w (Mof C H mm) u c) ((vs.toList.drop off).take ti.size) xs := by
    rw [e1]; exact ((h4.drop off).take _).mono fun _ _ _ h => h.2
  obtain ⟨v, hr, k1, k2⟩ := run_loadVar_pw (w := w) hf ⟨b, off, none⟩ ((vs.toList.drop off).take ti.size) (by rw [hp.1, e2]) (fun j u hu => by
    rw [add_mk, cell_of_row w b (off + j) vs ty _ h2]
    rw [List.getElem?_take] at hu
    split at hu
    · rw [List.getElem?_drop] at hu; simpa using hu
    · cases hu) (fun ha => by
      rw [hp.1]
      rw [ha] at hv
      unfold mkV at hv
      split at hv <;> first | (rename_i hh; cases hh; done) | rfl | (cases hv; done))
  exact ⟨b, v, hv', hr, mkV_rep hv hp k1 k2⟩
def resOp (tmps : Array Value) : ResultVar → Sem Value
  | .tmp t => pure (tmps.getD t undef)
  | .cell x t => do loadVar t (← asAddr (tmps.getD x undef))
theorem results_eq (fn : Func) (tmps : Array Value) : results fn tmps = (do
    let vs ← fn.results.mapM (resOp tmps)
    pure (if h : vs.size = 1 then vs[0] else .tuple vs)) := by
  unfold results
  congr 1
theorem resE_run {C : Ctx} {n : Nat} {tm : TM} {mm : MM} {Θ : Tab} (hΘ : tabOK C.P Θ) {H : Nat → Value} {Z : Nat → Nat} {a : Act} {w : World} (hm : Mod C H Z n tm mm a w) :
    ∀ {l : List ResultVar} {rs : List SV}, resE Θ tm mm l = some rs →
    ∃ vs : List Value, (l.mapM (m := Sem) (resOp a.tmps)).run C.P w = .ok vs w ∧ Pw (fun v s => RepSV (Iof mm) H Z w (Mof C H mm) v s) vs rs
  | [], rs, h => by
    simp [resE] at h; subst h
    exact ⟨[], by simp, Pw.nil⟩
  | .tmp t :: l, rs, h => by
    unfold resE at h
    split at h
    · rename_i s hs
      split at h
      · rename_i l' hl
        injection h with h; subst h
        obtain ⟨vs, h1, h2⟩ := resE_run hΘ hm hl
        refine ⟨a.tmps.getD t undef :: vs, ?_, Pw.cons (evalD_rep hm hs) h2⟩
        rw [List.mapM_cons]
        simp only [resOp, Sem.run_bind, Sem.run_pure, Result.andThen_ok, h1]
      · cases h
    · cases h
  | .cell x t :: l, rs, h => by
    unfold resE at h
    split at h
    · rename_i ht
      split at h
      · rename_i hx
        split at h
        · rename_i hi
          split at h
          · rename_i hs
            split at h
            · rename_i hv
              split at h
              · rename_i s' l' hdl hl
                injection h with h; subst h
                obtain ⟨vs, h1, h2⟩ := resE_run hΘ hm hl
                obtain ⟨b, v, g1, g2, g3⟩ := load_box hΘ ht hx hi hs hv hm
                have g3 := delV_rep hdl g3
                have g1' : a.tmps.getD x undef = .pointer (some ⟨b, _, none⟩) := g1
                refine ⟨v :: vs, ?_, Pw.cons g3 h2⟩
                rw [List.mapM_cons]
                have g4 : (resOp a.tmps (.cell x t)).run C.P w = .ok v w := by
                  simp only [resOp, Sem.run_bind, g1', asAddr, Sem.run_pure, Result.andThen_ok, g2]
                simp only [Sem.run_bind, Sem.run_pure, Result.andThen_ok, g4, h1]
              · cases h
            · cases h
          · cases h
        · cases h
      · cases h
    · cases h
theorem results_run {C : Ctx} {n : Nat} {tm : TM} {mm : MM} {Θ : Tab} (hΘ : tabOK C.P Θ) {H : Nat → Value} {Z : Nat → Nat} {a : Act} {w : World} (hm : Mod C H Z n tm mm a w)
    {fn : Func} {rs : List SV} (h : resE Θ tm mm fn.results.toList = some rs) :
    ∃ v, (results fn a.tmps).run C.P w = .ok v w ∧ RepST (Iof mm) H Z w (Mof C H mm) v (packS rs) := by
  obtain ⟨vs, h1, h2⟩ := resE_run hΘ hm h
  have hmm : (fn.results.mapM (m := Sem) (resOp a.tmps)).run C.P w = .ok vs.toArray w := by
    rw [Array.mapM_eq_mapM_toList]
    simp only [Sem.run_map, h1, Result.andThen_ok]
  have hrun : ∀ v, (if h : vs.toArray.size = 1 then vs.toArray[0] else .tuple vs.toArray) = v → (results fn a.tmps).run C.P w = .ok v w := by
    intro v hv
    rw [results_eq]
    simp only [Sem.run_bind, hmm, Result.andThen_ok, Sem.run_pure, hv]
  clear hmm h1
  match vs, rs, h2, hrun with
  | [], [], h2, hrun =>
    exact ⟨.tuple #[], hrun _ (by simp), #[], rfl, rfl, fun j c hc => by simp at hc⟩
  | [v], [s], h2, hrun =>
    obtain ⟨u, hu, hr⟩ := h2.2 0 s rfl
    simp at hu; subst hu
    exact ⟨v, hrun _ (by simp), hr⟩
  | v1 :: v2 :: vs, s1 :: s2 :: rs, h2, hrun =>
    refine ⟨.tuple (v1 :: v2 :: vs).toArray, hrun _ (by simp), (v1 :: v2 :: vs).toArray, rfl, by simpa using h2.1, fun j c hc => ?_⟩
    obtain ⟨u, hu, hr⟩ := h2.2 j c hc
    exact ⟨u, by simpa using hu, hr⟩
  | [], _ :: _, h2, _ => exact absurd h2.1 (by simp)
  | [_], [], h2, _ => exact absurd h2.1 (by simp)
  | [_], _ :: _ :: _, h2, _ => exact absurd h2.1 (by simp)
  | _ :: _ :: _, [], h2, _ => exact absurd h2.1 (by simp)
  | _ :: _ :: _, [_], h2, _ => exact absurd h2.1 (by simp)
def preMM : Nat → List (List CT) → MM
  | _, [] => []
  | i, cs :: r => (i, .box (cs.map SC.c)) :: preMM (i + 1) r
def blksOf (H : Nat → Value) (mm : MM) (b : Nat) : Prop := ∃ p ∈ mm, Hb (H p.1) b
structure Pre (w : World) (M0 : Nat → Prop) (H : Nat → Value) (Z : Nat → Nat) (mm : MM) : Prop where
  m0 : ∀ b, M0 b → b < w.heap.size
  mem : ∀ p ∈ mm, MemOK (Iof mm) H Z w (fun b => M0 b ∨ blksOf H mm b) p.1 p.2
  lt : ∀ p ∈ mm, ∀ b, Hb (H p.1) b → b < w.heap.size
  sep : ∀ p ∈ mm, ∀ q ∈ mm, p.1 ≠ q.1 → ∀ b, Hb (H p.1) b → ¬ Hb (H q.1) b
def CallOK (P : Program) (f : FuncId) : Prop := ∀ (w : World) (args : Array Value), (callFunc f args).run P w = .ok (.enter f args) w
theorem callOK {P : Program} {f : FuncId} {fn : Func} {c : Code} (hf : P.funcs[f]? = some fn) (hb : fn.body = some c) (hn : (fn.name == "runtime.NumGoroutine") = false) : CallOK P f := by
  intro w args
  have hn' : ¬ fn.name = "runtime.NumGoroutine" := by simpa using hn
  simp [callFunc, program, Sem.run, hf, hb, hn']
structure Con (P : Program) (f : FuncId) (pre : List (List CT)) (args : List SV) (res : ST) (post : List (List CT)) : Prop where
  ok : CallOK P f
  calls : ∀ (w : World) (M0 : Nat → Prop) (H : Nat → Value) (Z : Nat → Nat) (vs : List Value), Pre w M0 H Z (preMM given pre) →
    Pw (fun v s => RepSV (Iof (preMM given pre)) H Z w (fun b => M0 b ∨ blksOf H (preMM given pre) b) v s) vs args →
    Calls P f vs.toArray w fun e w' => ∃ v, e = .returned v ∧ Ext (blksOf H (preMM given pre)) w w' ∧
      (∀ p ∈ preMM given post, MemOK (Iof (preMM given pre)) H Z w' (fun b => M0 b ∨ blksOf H (preMM given pre) b) p.1 p.2) ∧
      RepST (Iof (preMM given pre)) H Z w' (fun b => M0 b ∨ blksOf H (preMM given pre) b) v res
theorem preMM_ids : ∀ {l : List (List CT)} {i : Nat} {p : Nat × MO}, p ∈ preMM i l → i ≤ p.1 ∧ p.1 < i + l.length
  | [], i, p, h => by simp [preMM] at h
  | cs :: l, i, p, h => by
    unfold preMM at h
    rcases List.mem_cons.1 h with rfl | h
    · exact ⟨Nat.le_refl _, by simp⟩
    · obtain ⟨h1, h2⟩ := preMM_ids h
      exact ⟨by omega, by simp; omega⟩
theorem preMM_uniq : ∀ {l : List (List CT)} {i : Nat} {p q : Nat × MO}, p ∈ preMM i l → q ∈ preMM i l → p.1 = q.1 → p = q
  | [], i, p, q, h, _, _ => by simp [preMM] at h
  | cs :: l, i, p, q, hp, hq, he => by
    unfold preMM at hp hq
    rcases List.mem_cons.1 hp with rfl | hp <;> rcases List.mem_cons.1 hq with rfl | hq
    · rfl
    · have := (preMM_ids hq).1; simp only at he; omega
    · have := (preMM_ids hp).1; simp only at he; omega
    · exact preMM_uniq hp hq he
def argT : Nat → List SV → TM
  | _, [] => []
  | i, s :: r => (i, .v s) :: argT (i + 1) r
theorem argT_mem : ∀ {l : List SV} {i : Nat} {p : Nat × ST}, p ∈ argT i l → ∃ j s, p = (i + j, .v s) ∧ l[j]? = some s
  | [], i, p, h => by simp [argT] at h
  | s :: l, i, p, h => by
    unfold argT at h
    rcases List.mem_cons.1 h with rfl | h
    · exact ⟨0, s, rfl, rfl⟩
    · obtain ⟨j, s', h1, h2⟩ := argT_mem h
      exact ⟨j + 1, s', by rw [h1]; congr 1; omega, by simpa using h2⟩
def EndR (H : Nat → Value) (Z : Nat → Nat) (pre post : List (List CT)) (w : World) (M0 : Nat → Prop) (res : ST) (e : Ending) (w' : World) : Prop :=
  ∃ v, e = .returned v ∧ Ext (blksOf H (preMM given pre)) w w' ∧
      (∀ p ∈ preMM given post, MemOK (Iof (preMM given pre)) H Z w' (fun b => M0 b ∨ blksOf H (preMM given pre) b) p.1 p.2) ∧
      RepST (Iof (preMM given pre)) H Z w' (fun b => M0 b ∨ blksOf H (preMM given pre) b) v res
theorem con_of {P : Program} {f : FuncId} {fn : Func} {c : Code} {pre post : List (List CT)} {args : List SV} {res : ST}
    (hf : P.funcs[f]? = some fn) (hb : fn.body = some c) (hn : Nat.ble args.length fn.ntmps = true) (hng : Nat.ble fn.ntmps given = true) (hnm : (fn.name == "runtime.NumGoroutine") = false)
    (h : ∀ (w : World) (M0 : Nat → Prop) (H : Nat → Value) (Z : Nat → Nat),
      Goes ⟨P, w, M0, blksOf H (preMM given pre), H, fun _ => False, fun _ h => h.elim⟩ f fn.ntmps (EndR H Z pre post w M0 res) [.code c] (argT 0 args) (preMM given pre)) :
    Con P f pre args res post := by
  refine ⟨callOK hf hb hnm, ?_⟩
  intro w M0 H Z vs hpre hargs cs
  have hlen : vs.length = args.length := hargs.1
  let a : Act := { tmps := vs.toArray ++ Array.replicate (fn.ntmps - vs.toArray.size) undef, defers := [] }
  have hn := Nat.ble_eq.mp hn
  have hmod : Mod ⟨P, w, M0, blksOf H (preMM given pre), H, fun _ => False, fun _ h => h.elim⟩ H Z fn.ntmps (argT 0 args) (preMM given pre) a w := by
    refine ⟨rfl, by simp [a]; omega, Nat.ble_eq.mp hng, fun _ _ _ => rfl, Ext.refl _ _, hpre.m0, fun p hp q hq he => preMM_uniq hp hq he, hpre.mem, ?_, hpre.sep, ?_⟩
    · intro p hp b hb
      have := (preMM_ids hp).1
      exact ⟨.inr ⟨this, .inl ⟨p, hp, hb⟩⟩, hpre.lt p hp b hb⟩
    · intro p hp
      obtain ⟨j, s, rfl, hj⟩ := argT_mem hp
      obtain ⟨u, hu, hr⟩ := hargs.2 j s hj
      have hjl : j < vs.length := (List.getElem?_eq_some_iff.1 hu).1
      have : a.tmps.getD (0 + j) undef = u := by
        have hju : vs[j] = u := by
          have := List.getElem?_eq_getElem hjl
          rw [hu] at this
          injection this with this; exact this.symm
        simp [a, Array.getD_eq_getD_getElem?, Array.getElem?_append, hjl, hju]
      rw [this]
      exact hr
  let b : Frame := { (default : Frame) with fn := f, kind := .normal }
  have henter : Frame.enter P f vs.toArray .normal = b.at a [.code c] := by
    simp [Frame.enter, Frame.at, hf, hb, b, a]
  obtain ⟨e, w', fr, h1, h2, h3, h4⟩ := h w M0 H Z a w ⟨H, Z, hmod⟩ b cs rfl rfl
  rw [henter]
  exact ⟨e, w', fr, h1, h2, h3, h4⟩
def postE (mm : MM) : Nat → Nat → Option (List (List CT))
  | _, 0 => some []
  | i, k + 1 => match getM mm i with
    | some (.box cs) => match ctsOf cs with
      | some l => match postE mm (i + 1) k with
        | some r => some (l :: r)
        | none => none
      | none => none
    | _ => none
theorem postE_spec {mm : MM} : ∀ {k i : Nat} {post : List (List CT)}, postE mm i k = some post →
    post.length = k ∧ (∀ p ∈ preMM i post, ∃ cs l, (p.1, MO.box cs) ∈ mm ∧ p.2 = .box (l.map SC.c) ∧ ctsOf cs = some l) ∧ (∀ j, i ≤ j → j < i + k → Iof mm j)
  | 0, i, post, h => by simp [postE] at h; subst h; exact ⟨rfl, fun p hp => by simp [preMM] at hp, fun j h1 h2 => by omega⟩
  | k + 1, i, post, h => by
    unfold postE at h
    split at h
    · rename_i cs hg
      split at h
      · rename_i l hl
        split at h
        · rename_i r hr
          injection h with h; subst h
          obtain ⟨h1, h2, h3⟩ := postE_spec hr
          refine ⟨by simp [h1], fun p hp => ?_, fun j hj1 hj2 => ?_⟩
          · unfold preMM at hp
            rcases List.mem_cons.1 hp with rfl | hp
            · exact ⟨cs, l, getM_mem hg, rfl, hl⟩
            · exact h2 p hp
          · by_cases hji : j = i
            · subst hji; exact ⟨_, getM_mem hg, rfl⟩
            · exact h3 j (by omega) (by omega)
        · cases h
      · cases h
    · cases h
def pureV : SV → Bool
  | .one (.c _) => true
  | .one _ => false
  | .agg xs => pureL xs
where
  pureL : List SC → Bool
    | [] => true
    | .c _ :: r => pureL r
    | _ :: _ => false
def pureS : ST → Bool
  | .v s => pureV s
  | .tup xs => pureVs xs
where
  pureVs : List SV → Bool
    | [] => true
    | s :: r => match pureV s with
      | true => pureVs r
      | false => false
theorem pureL_uses : ∀ {l : List SC}, pureV.pureL l = true → ∀ c ∈ l, c.uses = []
  | [], _, c, hc => by cases hc
  | s :: l, h, c, hc => by
    cases s <;> simp only [pureV.pureL] at h <;> try (cases h; done)
    rcases List.mem_cons.1 hc with rfl | hc
    · rfl
    · exact pureL_uses h c hc
theorem pureV_uses {s : SV} (h : pureV s = true) : s.uses = [] := by
  cases s with
  | one c => cases c <;> first | rfl | cases h
  | agg xs =>
    have := pureL_uses (l := xs) h
    simp only [SV.uses]
    exact List.flatMap_eq_nil_iff.2 this
theorem pureVs_uses : ∀ {l : List SV}, pureS.pureVs l = true → ∀ c ∈ l, c.uses = []
  | [], _, c, hc => by cases hc
  | s :: l, h, c, hc => by
    unfold pureS.pureVs at h
    split at h
    · rename_i hs
      rcases List.mem_cons.1 hc with rfl | hc
      · exact pureV_uses hs
      · exact pureVs_uses h c hc
    · cases h
theorem pureS_uses {s : ST} (h : pureS s = true) : s.uses = [] := by
  cases s with
  | v s => exact pureV_uses h
  | tup xs => exact List.flatMap_eq_nil_iff.2 (pureVs_uses h)
theorem g_end {P : Program} {w0 : World} {M0 : Nat → Prop} {f : FuncId} {n : Nat} {tm : TM} {mm : MM} {pre post : List (List CT)} {H : Nat → Value} {Z : Nat → Nat} {Θ : Tab} (hΘ : tabOK P Θ)
    {fn : Func} (hf : P.funcs[f]? = some fn) {rs : List SV} {res : ST} {post' : List (List CT)} {t : List Item} (ht : t = [] ∨ ∃ k, t = .code .ret :: k)
    (hr : resE Θ tm mm fn.results.toList = some rs) (hp : pureS (packS rs) = true) (hpost : postE mm given pre.length = some post')
    (he : packS rs = res ∧ post' = post) :
    Goes ⟨P, w0, M0, blksOf H (preMM given pre), H, fun _ => False, fun _ h => h.elim⟩ f n (EndR H Z pre post w0 M0 res) t tm mm := by
  obtain ⟨e1, e2⟩ := he
  subst e1 e2
  intro a w ⟨H', Z', hm⟩ b cs hb hk
  obtain ⟨v, h1, h2⟩ := results_run hΘ hm hr
  obtain ⟨p1, p2, p3⟩ := postE_spec hpost
  have hsub : ∀ q, (M0 q ∨ blksOf H (preMM given pre) q) → Mof ⟨P, w0, M0, blksOf H (preMM given pre), H, fun _ => False, fun _ h => h.elim⟩ H' mm q := by
    rintro q (hq | ⟨p, hp, hpb⟩)
    · exact .inl hq
    · obtain ⟨q1, q2⟩ := preMM_ids hp
      obtain ⟨r, hr1, hr2⟩ := p3 p.1 q1 q2
      refine .inr ⟨r, hr1, ?_⟩
      rw [hm.hg r hr1 (by rw [hr2]; exact q1), hr2]
      exact hpb
  have hfin : EndR H Z pre post' w0 M0 (packS rs) (.returned v) w := by
    refine ⟨v, rfl, hm.ext, fun p hp => ?_, h2.mono (fun i hi => by rw [pureS_uses hp] at hi; cases hi) (Nat.le_refl _) (fun _ _ _ => rfl) (fun q _ hq => hsub q hq)⟩
    obtain ⟨cs', l, hpm, hl, hcl⟩ := p2 p hp
    have hin := preMM_ids hp
    have h3 := hm.mem _ hpm
    have hh : H' p.1 = H p.1 := hm.hg (p.1, .box cs') hpm hin.1
    rw [hl]
    obtain ⟨b', ty, vs, g1, g2, g3, g4⟩ := h3
    have hpw : Pw (fun u c => RepSC (Iof mm) H' Z' w (Mof ⟨P, w0, M0, blksOf H (preMM given pre), H, fun _ => False, fun _ h => h.elim⟩ H' mm) u c) vs.toList cs' :=
      ⟨by simpa using g3, fun j c hc => let ⟨u, hu, _, hr⟩ := g4 j c hc; ⟨u, by simpa using hu, hr⟩⟩
    have hcp := ctsOf_pw hcl hpw
    refine ⟨b', ty, vs, by rw [← hh]; exact g1, g2, by simpa using hcp.1, fun j c hc => ?_⟩
    rw [List.getElem?_map] at hc
    cases hq : l[j]? with
    | none => rw [hq] at hc; cases hc
    | some ct =>
      rw [hq] at hc; injection hc with hc; subst hc
      obtain ⟨u, hu, hrep⟩ := hcp.2 j ct hq
      exact ⟨u, by simpa using hu, hrep.one, RepC.mono hrep (Nat.le_refl _) (fun _ _ _ => rfl) (fun q _ hq => hsub q hq)⟩
  rcases ht with rfl | ⟨k, rfl⟩
  · exact ⟨.returned v, w, _, hfin, Steps.one step_end, hb, rfl, hm.defers, hk, fn, hb ▸ hf, h1⟩
  · exact ⟨.returned v, w, _, hfin, Steps.one step_ret, hb, rfl, hm.defers, hk, fn, hb ▸ hf, h1⟩
end Go.Sy
namespace Go.Sy
open Go.RowKit
def evalArgs (tm : TM) : List Operand → Option (List SV)
  | [] => some []
  | x :: r => match evalD tm x with
    | some s => match evalArgs tm r with
      | some l => some (s :: l)
      | none => none
    | none => none
theorem evalArgs_rep {C : Ctx} {H : Nat → Value} {Z : Nat → Nat} {n : Nat} {tm : TM} {mm : MM} {a : Act} {w : World} (h : Mod C H Z n tm mm a w) :
    ∀ {xs : List Operand} {l : List SV}, evalArgs tm xs = some l → Pw (fun v s => RepSV (Iof mm) H Z w (Mof C H mm) v s) (xs.map a.eval) l
  | [], l, he => by simp [evalArgs] at he; subst he; exact Pw.nil
  | x :: xs, l, he => by
    unfold evalArgs at he
    split at he
    · rename_i s hs
      split at he
      · rename_i l' hl
        injection he with he; subst he
        exact Pw.cons (evalD_rep h hs) (evalArgs_rep h hl)
      · cases he
    · cases he
def nthN : List Nat → Nat → Option Nat
  | [], _ => none
  | a :: _, 0 => some a
  | _ :: l, k + 1 => nthN l k
theorem nthN_eq : ∀ (l : List Nat) (j : Nat), nthN l j = l[j]?
  | [], j => by cases j <;> rfl
  | o :: l, 0 => rfl
  | o :: l, j + 1 => by simpa [nthN] using nthN_eq l j
def renI (ids : List Nat) (i : Nat) : Option Nat :=
  match Nat.ble given i with
  | true => nthN ids (i - given)
  | false => none
def renIs (ids : List Nat) : List Nat → Option (List Nat)
  | [] => some []
  | i :: l => match renI ids i with
    | some j => match renIs ids l with
      | some r => some (j :: r)
      | none => none
    | none => none
def renC (ids : List Nat) : SC → Option SC
  | .c x => some (.c x)
  | .ptr i off => match renI ids i with
    | some j => some (.ptr j off)
    | none => none
  | .clo f caps => match renIs ids caps with
    | some l => some (.clo f l)
    | none => none
  | .eptr cs => some (.eptr cs)
  | _ => none
def renCs (ids : List Nat) : List SC → Option (List SC)
  | [] => some []
  | a :: l => match renC ids a with
    | some a' => match renCs ids l with
      | some l' => some (a' :: l')
      | none => none
    | none => none
def renV (ids : List Nat) : SV → Option SV
  | .one s => match renC ids s with
    | some s' => some (.one s')
    | none => none
  | .agg l => match renCs ids l with
    | some l' => some (.agg l')
    | none => none
def renVs (ids : List Nat) : List SV → Option (List SV)
  | [] => some []
  | a :: l => match renV ids a with
    | some a' => match renVs ids l with
      | some l' => some (a' :: l')
      | none => none
    | none => none
section
variable {I I' : Nat → Prop} {H H' : Nat → Value} {Z Z' : Nat → Nat} {w : World} {M M' : Nat → Prop} {ids : List Nat}
theorem renI_spec {i j : Nat} (h : renI ids i = some j) : given ≤ i ∧ ids[i - given]? = some j := by
  unfold renI at h
  split at h
  · rename_i hb; exact ⟨Nat.ble_eq.mp hb, by rw [← nthN_eq]; exact h⟩
  · cases h
theorem renIs_spec : ∀ {l r : List Nat}, renIs ids l = some r → l.length = r.length ∧ ∀ (k i j : Nat), l[k]? = some i → r[k]? = some j → renI ids i = some j
  | [], r, h => by simp [renIs] at h; subst h; simp
  | a :: l, r, h => by
    unfold renIs at h
    split at h
    · rename_i j hj
      split at h
      · rename_i r' hr'
        injection h with h; subst h
        obtain ⟨h1, h2⟩ := renIs_spec hr'
        refine ⟨by simp [h1], fun k i j' hi hj' => ?_⟩
        cases k with
        | zero => simp at hi hj'; subst hi hj'; exact hj
        | succ k => exact h2 k i j' (by simpa using hi) (by simpa using hj')
      · cases h
    · cases h
theorem renC_rep (hI : ∀ i j, renI ids i = some j → I j → I' i ∧ H' i = H j) (hM : ∀ b, b < w.heap.size → M' b → M b) {s r : SC} (h : renC ids s = some r) {v : Value}
    (hr : RepSC I H Z w M v r) : RepSC I' H' Z' w M' v s := by
  cases s <;> simp only [renC] at h <;> try (cases h; done)
  · injection h with h; subst h; exact RepC.mono hr (Nat.le_refl _) (fun _ _ _ => rfl) hM
  · split at h
    · rename_i j hj
      injection h with h; subst h
      obtain ⟨h1, b, h2, h3⟩ := hr
      obtain ⟨k1, k2⟩ := hI _ _ hj h1
      exact ⟨k1, b, by rw [k2]; exact h2, h3⟩
    · cases h
  · injection h with h; subst h
    exact RepSC.mono (x := .eptr _) hr (fun j hj _ => by simp [SC.uses] at hj) (Nat.le_refl _) (fun _ _ _ => rfl) hM
  · rename_i g caps
    split at h
    · rename_i l hl
      injection h with h; subst h
      obtain ⟨h1, vs, h2, h3, h4⟩ := hr
      obtain ⟨e1, e2⟩ := renIs_spec hl
      have key : ∀ i ∈ caps, ∃ j, renI ids i = some j ∧ I j := by
        intro i hi
        obtain ⟨k, hk, hki⟩ := List.mem_iff_getElem.1 hi
        have hkr : k < l.length := by omega
        have h5 := e2 k i l[k] (by rw [List.getElem?_eq_getElem hk, hki]) (List.getElem?_eq_getElem hkr)
        exact ⟨l[k], h5, h1 _ (List.getElem_mem hkr)⟩
      refine ⟨fun i hi => ?_, vs, h2, by omega, fun k i hk => ?_⟩
      · obtain ⟨j, hj, hIj⟩ := key i hi
        exact (hI i j hj hIj).1
      · have hkc : k < caps.length := (List.getElem?_eq_some_iff.1 hk).1
        have hkr : k < l.length := by omega
        have h5 := e2 k i l[k] hk (List.getElem?_eq_getElem hkr)
        rw [(hI i _ h5 (h1 _ (List.getElem_mem hkr))).2]
        exact h4 k _ (List.getElem?_eq_getElem hkr)
    · cases h
theorem renCs_rep (hI : ∀ i j, renI ids i = some j → I j → I' i ∧ H' i = H j) (hM : ∀ b, b < w.heap.size → M' b → M b) : ∀ {l r : List SC} {us : List Value}, renCs ids l = some r →
    Pw (fun u c => RepSC I H Z w M u c) us r → Pw (fun u c => RepSC I' H' Z' w M' u c) us l
  | [], r, us, h, hp => by simp [renCs] at h; subst h; exact ⟨hp.1, fun j c hc => by simp at hc⟩
  | s :: l, r, us, h, hp => by
    unfold renCs at h
    split at h
    · rename_i a' ha
      split at h
      · rename_i l' hl
        injection h with h; subst h
        match us, hp with
        | [], hp => exact absurd hp.1 (by simp)
        | u :: us, hp =>
          obtain ⟨u', hu', hr⟩ := hp.2 0 a' rfl
          simp at hu'; subst hu'
          exact Pw.cons (renC_rep hI hM ha hr) (renCs_rep hI hM hl ⟨by simpa using hp.1, fun j c hc => by simpa using hp.2 (j + 1) c (by simpa using hc)⟩)
      · cases h
    · cases h
theorem renV_rep (hI : ∀ i j, renI ids i = some j → I j → I' i ∧ H' i = H j) (hM : ∀ b, b < w.heap.size → M' b → M b) {s r : SV} (h : renV ids s = some r) {v : Value}
    (hr : RepSV I H Z w M v r) : RepSV I' H' Z' w M' v s := by
  cases s with
  | one s =>
    simp only [renV] at h
    split at h
    · rename_i hs; injection h with h; subst h; exact renC_rep hI hM hs hr
    · cases h
  | agg l =>
    simp only [renV] at h
    split at h
    · rename_i l' hs
      injection h with h; subst h
      obtain ⟨vs, h1, h2, h3⟩ := hr
      have := renCs_rep (Z' := Z') (us := vs.toList) hI hM hs ⟨by simpa using h2, fun j c hc => by simpa using h3 j c hc⟩
      exact ⟨vs, h1, by simpa using this.1, fun j c hc => by simpa using this.2 j c hc⟩
    · cases h
theorem renVs_rep (hI : ∀ i j, renI ids i = some j → I j → I' i ∧ H' i = H j) (hM : ∀ b, b < w.heap.size → M' b → M b) : ∀ {l r : List SV} {us : List Value}, renVs ids l = some r →
    Pw (fun u c => RepSV I H Z w M u c) us r → Pw (fun u c => RepSV I' H' Z' w M' u c) us l
  | [], r, us, h, hp => by simp [renVs] at h; subst h; exact ⟨hp.1, fun j c hc => by simp at hc⟩
  | s :: l, r, us, h, hp => by
    unfold renVs at h
    split at h
    · rename_i a' ha
      split at h
      · rename_i l' hl
        injection h with h; subst h
        match us, hp with
        | [], hp => exact absurd hp.1 (by simp)
        | u :: us, hp =>
          obtain ⟨u', hu', hr⟩ := hp.2 0 a' rfl
          simp at hu'; subst hu'
          exact Pw.cons (renV_rep hI hM ha hr) (renVs_rep hI hM hl ⟨by simpa using hp.1, fun j c hc => by simpa using hp.2 (j + 1) c (by simpa using hc)⟩)
      · cases h
    · cases h
end
def preE (mm : MM) : List Nat → Option (List (List CT))
  | [] => some []
  | i :: l => match getM mm i with
    | some (.box cs) => match ctsOf cs with
      | some ct => match preE mm l with
        | some r => some (ct :: r)
        | none => none
      | none => none
    | _ => none
def updMs (mm : MM) : List Nat → List (List CT) → MM
  | i :: l, ct :: r => updMs (updM mm i (.box (ct.map SC.c))) l r
  | _, _ => mm
def noDup : List Nat → Bool
  | [] => true
  | i :: l => match hasN l i with
    | true => false
    | false => noDup l
theorem noDup_spec : ∀ {l : List Nat}, noDup l = true → l.Nodup
  | [], _ => List.nodup_nil
  | i :: l, h => by
    unfold noDup at h
    split at h
    · cases h
    · rename_i hh; exact List.nodup_cons.2 ⟨hasN_spec hh, noDup_spec h⟩
theorem nodup_inj {l : List Nat} (h : l.Nodup) {i j : Nat} (hi : i < l.length) (hj : j < l.length) (e : l[i] = l[j]) : i = j := by
  rw [List.nodup_iff_pairwise_ne, List.pairwise_iff_getElem] at h
  rcases Nat.lt_trichotomy i j with k | k | k
  · exact absurd e (h i j hi hj k)
  · exact k
  · exact absurd e.symm (h j i hj hi k)
theorem preE_spec {mm : MM} : ∀ {ids : List Nat} {pre : List (List CT)}, preE mm ids = some pre →
    pre.length = ids.length ∧ ∀ (k i : Nat) (ct : List CT), ids[k]? = some i → pre[k]? = some ct → ∃ cs, (i, MO.box cs) ∈ mm ∧ ctsOf cs = some ct
  | [], pre, h => by simp [preE] at h; subst h; simp
  | i :: l, pre, h => by
    unfold preE at h
    split at h
    · rename_i cs hg
      split at h
      · rename_i ct hct
        split at h
        · rename_i r hr
          injection h with h; subst h
          obtain ⟨h1, h2⟩ := preE_spec hr
          refine ⟨by simp [h1], fun k i' ct' hi hc => ?_⟩
          cases k with
          | zero => simp at hi hc; subst hi hc; exact ⟨cs, getM_mem hg, hct⟩
          | succ k => exact h2 k i' ct' (by simpa using hi) (by simpa using hc)
        · cases h
      · cases h
    · cases h
theorem preMM_get : ∀ {l : List (List CT)} {i : Nat} {p : Nat × MO}, p ∈ preMM i l → ∃ (k : Nat) (ct : List CT), l[k]? = some ct ∧ p = (i + k, .box (ct.map SC.c))
  | [], i, p, h => by simp [preMM] at h
  | cs :: l, i, p, h => by
    unfold preMM at h
    rcases List.mem_cons.1 h with rfl | h
    · exact ⟨0, cs, rfl, rfl⟩
    · obtain ⟨k, ct, h1, h2⟩ := preMM_get h
      exact ⟨k + 1, ct, by simpa using h1, by rw [h2]; congr 1; omega⟩
theorem preMM_put : ∀ {l : List (List CT)} {i k : Nat} {ct : List CT}, l[k]? = some ct → (i + k, MO.box (ct.map SC.c)) ∈ preMM i l
  | [], i, k, ct, h => by simp at h
  | cs :: l, i, 0, ct, h => by simp at h; subst h; exact List.mem_cons_self
  | cs :: l, i, k + 1, ct, h => by
    unfold preMM
    have := preMM_put (l := l) (i := i + 1) (k := k) (ct := ct) (by simpa using h)
    exact List.mem_cons_of_mem _ (by rw [show i + (k + 1) = i + 1 + k by omega]; exact this)
theorem updMs_mem : ∀ {ids : List Nat} {post : List (List CT)} {mm : MM} {p : Nat × MO}, ids.Nodup → ids.length = post.length → p ∈ updMs mm ids post →
    (∃ (k : Nat) (ct : List CT), ids[k]? = some p.1 ∧ post[k]? = some ct ∧ p.2 = .box (ct.map SC.c) ∧ Iof mm p.1) ∨ (p ∈ mm ∧ p.1 ∉ ids)
  | [], post, mm, p, _, _, h => .inr ⟨by cases post <;> exact h, by simp⟩
  | i :: l, [], mm, p, _, hl, h => by simp at hl
  | i :: l, ct :: r, mm, p, hn, hl, h => by
    unfold updMs at h
    obtain ⟨hn1, hn2⟩ := List.nodup_cons.1 hn
    rcases updMs_mem hn2 (by simpa using hl) h with ⟨k, ct', h1, h2, h3, h4⟩ | ⟨h1, h2⟩
    · exact .inl ⟨k + 1, ct', by simpa using h1, by simpa using h2, h3, (updM_ids _).1 h4⟩
    · rcases updM_mem p h1 with ⟨rfl, k⟩ | ⟨k1, k2⟩
      · exact .inl ⟨0, ct, rfl, rfl, rfl, k⟩
      · exact .inr ⟨k1, by simp only [List.mem_cons, not_or]; exact ⟨k2, h2⟩⟩
theorem updMs_ids : ∀ {ids : List Nat} {post : List (List CT)} {mm : MM} (j : Nat), Iof (updMs mm ids post) j ↔ Iof mm j
  | [], post, mm, j => by cases post <;> exact Iff.rfl
  | i :: l, [], mm, j => Iff.rfl
  | i :: l, ct :: r, mm, j => by unfold updMs; rw [updMs_ids j, updM_ids]
section
variable {C : Ctx} {n : Nat} {tm : TM} {mm : MM} {o : Oper} {d : Nat}
theorem Mod.called {H : Nat → Value} {Z : Nat → Nat} {a : Act} {w w' : World} (hm : Mod C H Z n tm mm a w) {ids : List Nat} {pre post : List (List CT)} {res : ST} {v : Value}
    (hnd : ids.Nodup) (hpre : preE mm ids = some pre) (hlen : ids.length = post.length) (hpure : pureS res = true) {Hc : Nat → Value} (hHc : ∀ k i, ids[k]? = some i → Hc (given + k) = H i)
    (hext : Ext (blksOf Hc (preMM given pre)) w w')
    (hpost : ∀ p ∈ preMM given post, MemOK (Iof (preMM given pre)) Hc Z w' (fun b => Mof C H mm b ∨ blksOf Hc (preMM given pre) b) p.1 p.2)
    (hres : RepST (Iof (preMM given pre)) Hc Z w' (fun b => Mof C H mm b ∨ blksOf Hc (preMM given pre) b) v res) (hd : d < n) :
    Mod C H Z n ((d, res) :: delL tm d) (updMs mm ids post) (a.put (some d) v) w' := by
  obtain ⟨hpl, hpg⟩ := preE_spec hpre
  have hblk : ∀ b, blksOf Hc (preMM given pre) b → ∃ (k i : Nat), ids[k]? = some i ∧ Iof mm i ∧ Hb (H i) b := by
    rintro b ⟨p, hp, hpb⟩
    obtain ⟨k, ct, hk, rfl⟩ := preMM_get hp
    have hkl : k < ids.length := by rw [← hpl]; exact (List.getElem?_eq_some_iff.1 hk).1
    have hi : ids[k]? = some ids[k] := List.getElem?_eq_getElem hkl
    obtain ⟨cs, hcs, _⟩ := hpg k _ ct hi hk
    rw [hHc k _ hi] at hpb
    exact ⟨k, _, hi, ⟨_, hcs, rfl⟩, hpb⟩
  have hI : ∀ j, Iof mm j → Iof (updMs mm ids post) j := fun j hj => (updMs_ids j).2 hj
  have hM : ∀ b, Mof C H (updMs mm ids post) b → Mof C H mm b := by
    rintro b (hb | ⟨p, hp, hpb⟩)
    · exact .inl hb
    · obtain ⟨q, hq, hqe⟩ := (updMs_ids p.1).1 ⟨p, hp, rfl⟩
      exact .inr ⟨q, hq, by rw [hqe]; exact hpb⟩
  refine hm.build (blksOf Hc (preMM given pre)) hext (fun b _ hb => ?_) (by simpa [Act.put] using hm.defers) (by simp [Act.put, hm.size]) ?_ ?_ ?_ ?_ ?_
  · obtain ⟨k, i, _, ⟨p, hp, hpe⟩, hib⟩ := hblk b hb
    exact ⟨p, hp, by rw [hpe]; exact hib⟩
  · intro p hp hpg'
    obtain ⟨q, hq, hqe⟩ := (updMs_ids p.1).1 ⟨p, hp, rfl⟩
    rw [← hqe]; exact hm.hg q hq (by rw [hqe]; exact hpg')
  · intro p hp q hq he
    rcases updMs_mem hnd hlen hp with ⟨k, ct, h1, h2, h3, h4⟩ | ⟨h1, h2⟩ <;> rcases updMs_mem hnd hlen hq with ⟨k', ct', h1', h2', h3', h4'⟩ | ⟨h1', h2'⟩
    · have hkk : k = k' := by
        have e1 := List.getElem?_eq_some_iff.1 h1
        have e2 := List.getElem?_eq_some_iff.1 h1'
        obtain ⟨l1, g1⟩ := e1
        obtain ⟨l2, g2⟩ := e2
        exact nodup_inj hnd l1 l2 (by rw [g1, g2, he])
      subst hkk
      rw [h2] at h2'; injection h2' with h2'; subst h2'
      exact Prod.ext he (by rw [h3, h3'])
    · exact absurd (List.mem_of_getElem? h1) (by rw [he]; exact h2')
    · exact absurd (List.mem_of_getElem? h1') (by rw [← he]; exact h2)
    · exact hm.ids p h1 q h1' he
  · intro p hp
    rcases updMs_mem hnd hlen hp with ⟨k, ct, h1, h2, h3, h4⟩ | ⟨h1, h2⟩
    · refine .inr ⟨fun b hb => ?_, fun _ _ => ?_⟩
      · obtain ⟨q, hq, hqe⟩ := h4
        exact .inr ⟨q, hq, by rw [hqe]; exact hb, .inl hqe.symm⟩
      · have h5 := hpost _ (preMM_put (i := given) h2)
        obtain ⟨b, ty, vs, g1, g2, g3, g4⟩ := h5
        rw [h3]
        refine ⟨b, ty, vs, by rw [← hHc k _ h1]; exact g1, g2, g3, fun j c hc => ?_⟩
        obtain ⟨u, hu, ho, hr⟩ := g4 j c hc
        refine ⟨u, hu, ho, ?_⟩
        rw [List.getElem?_map] at hc
        cases hq : ct[j]? with
        | none => rw [hq] at hc; cases hc
        | some x =>
          rw [hq] at hc; injection hc with hc; subst hc
          exact RepC.mono hr (Nat.le_refl _) (fun _ _ _ => rfl) (fun q _ hq => .inl (hM q hq))
    · refine .inl ⟨h1, rfl, rfl, fun b hb hx => ?_, fun j _ hj => ⟨hI j hj, rfl, rfl⟩⟩
      obtain ⟨k, i, hki, ⟨q, hq, hqe⟩, hib⟩ := hblk b hx
      have hne : p.1 ≠ q.1 := by rw [hqe]; intro e; exact h2 (by rw [e]; exact List.mem_of_getElem? hki)
      exact hm.sep p h1 q hq hne b hb (by rw [hqe]; exact hib)
  · intro p hp q hq hpq b hpb hqb
    obtain ⟨p', hp', e1⟩ := (updMs_ids p.1).1 ⟨p, hp, rfl⟩
    obtain ⟨q', hq', e2⟩ := (updMs_ids q.1).1 ⟨q, hq, rfl⟩
    exact hm.sep p' hp' q' hq' (by rw [e1, e2]; exact hpq) b (by rw [e1]; exact hpb) (by rw [e2]; exact hqb)
  · intro p hp
    rcases List.mem_cons.1 hp with rfl | hp
    · refine .inr fun _ _ => ?_
      rw [put_self (by rw [hm.size]; exact hd)]
      exact hres.mono (fun i hi => by rw [pureS_uses hpure] at hi; cases hi) (Nat.le_refl _) (fun _ _ _ => rfl) (fun q _ hq => .inl (hM q hq))
    · obtain ⟨h1, h2⟩ := delL_mem hp
      exact .inl ⟨p, h1, rfl, put_other h2, fun j _ hj => ⟨hI j hj, rfl, rfl⟩⟩
theorem call_core {f : FuncId} {pre post : List (List CT)} {args args' : List SV} {res : ST} (hc : Con C.P f pre args res post) {ids : List Nat} {H : Nat → Value} {Z : Nat → Nat} {a : Act} {w : World}
    (hm : Mod C H Z n tm mm a w) {vs : List Value} (hv : Pw (fun v s => RepSV (Iof mm) H Z w (Mof C H mm) v s) vs args') (hren : renVs ids args = some args') (hpre : preE mm ids = some pre)
    (hnd : noDup ids = true) (hlen : post.length = pre.length) (hpure : pureS res = true) (hd : d < n)
    (K : Act → World → Prop) (Q : Exit → Act → World → Prop) (hK : ∀ a' w', Has C n ((d, res) :: delL tm d) (updMs mm ids post) a' w' → K a' w') :
    Calls C.P f vs.toArray w fun
      | .returned v, w'' => K (a.put (some d) v) w''
      | .panicked chain, w'' => Q (.panic chain) a w''
      | .outgrown, _ => LetsOut Q := by
  obtain ⟨hpl, hpg⟩ := preE_spec hpre
  have hnd' := noDup_spec hnd
  let Hc : Nat → Value := fun j => H ((ids[j - given]?).getD 0)
  have hHc : ∀ k i, ids[k]? = some i → Hc (given + k) = H i := by
    intro k i hk
    simp [Hc, hk]
  have hIr : ∀ i j, renI ids i = some j → Iof mm j → Iof (preMM given pre) i ∧ Hc i = H j := by
    intro i j hij _
    obtain ⟨h1, h2⟩ := renI_spec hij
    have hk : i - given < pre.length := by rw [hpl]; exact (List.getElem?_eq_some_iff.1 h2).1
    have := preMM_put (i := given) (List.getElem?_eq_getElem hk)
    refine ⟨⟨_, this, by show given + (i - given) = i; omega⟩, ?_⟩
    have := hHc _ _ h2
    rwa [show given + (i - given) = i by omega] at this
  have hblk : ∀ b, blksOf Hc (preMM given pre) b → Mof C H mm b := by
    rintro b ⟨p, hp, hpb⟩
    obtain ⟨k, ct, hk, rfl⟩ := preMM_get hp
    have hkl : k < ids.length := by rw [← hpl]; exact (List.getElem?_eq_some_iff.1 hk).1
    have hi : ids[k]? = some ids[k] := List.getElem?_eq_getElem hkl
    obtain ⟨cs, hcs, _⟩ := hpg k _ ct hi hk
    rw [hHc k _ hi] at hpb
    exact .inr ⟨_, hcs, hpb⟩
  have hM : ∀ b, b < w.heap.size → (Mof C H mm b ∨ blksOf Hc (preMM given pre) b) → Mof C H mm b := fun b _ hb => hb.elim id (hblk b)
  have hPre : Pre w (Mof C H mm) Hc Z (preMM given pre) := by
    refine ⟨?_, ?_, ?_, ?_⟩
    · rintro b (hb | ⟨p, hp, hpb⟩)
      · exact Nat.lt_of_lt_of_le (hm.m0 b hb) hm.ext.size
      · exact (hm.fresh p hp b hpb).2
    · intro p hp
      obtain ⟨k, ct, hk, rfl⟩ := preMM_get hp
      have hkl : k < ids.length := by rw [← hpl]; exact (List.getElem?_eq_some_iff.1 hk).1
      have hi : ids[k]? = some ids[k] := List.getElem?_eq_getElem hkl
      obtain ⟨cs, hcs, hct⟩ := hpg k _ ct hi hk
      obtain ⟨b, ty, vs', g1, g2, g3, g4⟩ := hm.mem _ hcs
      have hpw : Pw (fun u c => RepSC (Iof mm) H Z w (Mof C H mm) u c) vs'.toList cs := ⟨by simpa using g3, fun j c hc => let ⟨u, hu, _, hr⟩ := g4 j c hc; ⟨u, by simpa using hu, hr⟩⟩
      have hcp := ctsOf_pw hct hpw
      refine ⟨b, ty, vs', by rw [hHc k _ hi]; exact g1, g2, by simpa using hcp.1, fun j c hc => ?_⟩
      rw [List.getElem?_map] at hc
      cases hq : ct[j]? with
      | none => rw [hq] at hc; cases hc
      | some x =>
        rw [hq] at hc; injection hc with hc; subst hc
        obtain ⟨u, hu, hr⟩ := hcp.2 j x hq
        exact ⟨u, by simpa using hu, hr.one, RepC.mono hr (Nat.le_refl _) (fun _ _ _ => rfl) hM⟩
    · intro p hp b hb
      rcases hblk b ⟨p, hp, hb⟩ with h0 | ⟨q, hq, hqb⟩
      · exact Nat.lt_of_lt_of_le (hm.m0 b h0) hm.ext.size
      · exact (hm.fresh q hq b hqb).2
    · intro p hp q hq hpq b hpb hqb
      obtain ⟨k, ct, hk, rfl⟩ := preMM_get hp
      obtain ⟨k', ct', hk', rfl⟩ := preMM_get hq
      have hkl : k < ids.length := by rw [← hpl]; exact (List.getElem?_eq_some_iff.1 hk).1
      have hkl' : k' < ids.length := by rw [← hpl]; exact (List.getElem?_eq_some_iff.1 hk').1
      have hi : ids[k]? = some ids[k] := List.getElem?_eq_getElem hkl
      have hi' : ids[k']? = some ids[k'] := List.getElem?_eq_getElem hkl'
      obtain ⟨cs, hcs, _⟩ := hpg k _ ct hi hk
      obtain ⟨cs', hcs', _⟩ := hpg k' _ ct' hi' hk'
      rw [hHc k _ hi] at hpb
      rw [hHc k' _ hi'] at hqb
      have hne : ids[k] ≠ ids[k'] := fun e => by
        have hkk : k = k' := nodup_inj hnd' hkl hkl' e
        subst hkk
        exact hpq rfl
      exact hm.sep _ hcs _ hcs' hne b hpb hqb
  refine (hc.calls w (Mof C H mm) Hc Z vs hPre (renVs_rep hIr hM hren hv)).mono ?_
  rintro e w' ⟨v, rfl, hext, hpost, hres⟩
  exact hK _ _ ⟨H, Z, hm.called hnd' hpre (by rw [hlen, hpl]) hpure hHc hext hpost hres hd⟩
theorem op_call {f : FuncId} {pre post : List (List CT)} {args args' : List SV} {res : ST} (hc : Con C.P f pre args res post) (ids : List Nat) {xs : Array Operand} {ts : Array TypeId}
    (ho : o.op = .call { callee := .value (.func f), args := xs, argTypes := ts }) (hargs : evalArgs tm xs.toList = some args') (hren : renVs ids args = some args') (hpre : preE mm ids = some pre)
    (hnd : noDup ids = true) (hlen : post.length = pre.length) (hpure : pureS res = true) (hd : o.dst = some d) (hn : Nat.blt d n = true) :
    OpW C n o tm mm ((d, res) :: delL tm d) (updMs mm ids post) := by
  intro a w K Q ⟨H, Z, hm⟩ hK
  have hcore := call_core (d := d) hc hm (evalArgs_rep hm hargs) hren hpre hnd hlen hpure (Nat.blt_eq.mp hn) K Q hK
  unfold Oper.wp
  have hrun : (execOp a.eval o).run C.P w = .ok (.enter f (xs.toList.map a.eval).toArray) w := by
    have hmap : xs.map a.eval = (xs.toList.map a.eval).toArray := by simp [← List.map_toArray]
    simp only [execOp, ho, resolve, hmap, Deferred.ofValue, Act.eval, invoke, Sem.run_bind, Sem.run_pure, Result.andThen_ok, Array.append_empty, Array.empty_append, hc.ok w]
  rw [hrun]
  show Calls _ _ _ _ _
  rw [hd]
  exact hcore
def capV : List Nat → List SV
  | [] => []
  | i :: l => .one (.ptr i 0) :: capV l
def appV : List SV → List Nat → List SV
  | [], caps => capV caps
  | s :: l, caps => s :: appV l caps
theorem appV_eq (l : List SV) (caps : List Nat) : appV l caps = l ++ caps.map (fun i => SV.one (.ptr i 0)) := by
  have h : ∀ caps : List Nat, capV caps = caps.map (fun i => SV.one (.ptr i 0)) := by
    intro caps
    induction caps with
    | nil => rfl
    | cons i l ih => simp [capV, ih]
  induction l with
  | nil => simp [appV, h]
  | cons s l ih => simp [appV, ih]
theorem op_callclo {f : FuncId} {pre post : List (List CT)} {args args' : List SV} {res : ST} (hc : Con C.P f pre args res post) (ids : List Nat) {x : Operand} {caps : List Nat} {xs : Array Operand} {ts : Array TypeId}
    (ho : o.op = .call { callee := .value x, args := xs, argTypes := ts }) (hx : evalC tm x = some (.clo f caps)) (hargs : evalArgs tm xs.toList = some args')
    (hren : renVs ids args = some (appV args' caps)) (hpre : preE mm ids = some pre) (hbox : caps.all (fun i => match getM mm i with | some (.box _) => true | _ => false) = true)
    (hnd : noDup ids = true) (hlen : post.length = pre.length) (hpure : pureS res = true) (hd : o.dst = some d) (hn : Nat.blt d n = true) :
    OpW C n o tm mm ((d, res) :: delL tm d) (updMs mm ids post) := by
  intro a w K Q ⟨H, Z, hm⟩ hK
  obtain ⟨hcI, cvs, hcv, hcl, hcg⟩ := evalC_rep hm hx
  have happ : ∀ (l : List SV) (us : List Value), Pw (fun v s => RepSV (Iof mm) H Z w (Mof C H mm) v s) us l → Pw (fun v s => RepSV (Iof mm) H Z w (Mof C H mm) v s) (us ++ cvs) (appV l caps) := by
    intro l us hp
    rw [appV_eq]
    refine hp.append ⟨by simpa using hcl, fun j c hc' => ?_⟩
    rw [List.getElem?_map] at hc'
    cases hq : caps[j]? with
    | none => rw [hq] at hc'; cases hc'
    | some i =>
      rw [hq] at hc'; injection hc' with hc'; subst hc'
      refine ⟨H i, hcg j i hq, hcI i (List.mem_of_getElem? hq), ?_⟩
      have hb := List.all_eq_true.1 hbox i (List.mem_of_getElem? hq)
      split at hb
      · rename_i cs hg
        obtain ⟨b, _, _, g1, _⟩ := hm.box hg
        exact ⟨b, by rw [g1]; rfl, g1⟩
      · cases hb
  have hcore := call_core (d := d) hc hm (happ _ _ (evalArgs_rep hm hargs)) hren hpre hnd hlen hpure (Nat.blt_eq.mp hn) K Q hK
  unfold Oper.wp
  have hrun : (execOp a.eval o).run C.P w = .ok (.enter f ((xs.toList.map a.eval) ++ cvs).toArray) w := by
    have hmap : xs.map a.eval = (xs.toList.map a.eval).toArray := by simp [← List.map_toArray]
    simp only [execOp, ho, resolve, hmap, hcv, Deferred.ofValue, invoke, Sem.run_bind, Sem.run_pure, Result.andThen_ok, Array.empty_append, hc.ok w, List.append_toArray, List.nil_append]
  rw [hrun]
  show Calls _ _ _ _ _
  rw [hd]
  exact hcore
end
end Go.Sy
namespace Go.Sy
open Go.RowKit
inductive LeC : CT → CT → Prop
  | refl (c : CT) : LeC c c
  | nil (sz : Nat) : LeC .nils (.slice false sz [])
  | nn (nn : Bool) (sz : Nat) (xs : List (List CT)) : LeC (.slice nn sz xs) (.slice false sz xs)
  | intP {k : IntKind} {n : Int} {p : Int → Prop} (h : p n) : LeC (.int k n) (.intP k p)
  | deep {nn : Bool} {sz : Nat} {xs ys : List (List CT)} (hl : xs.length = ys.length) (hx : ∀ (i : Nat) (x y : List CT), xs[i]? = some x → ys[i]? = some y → x.length = y.length)
      (h : ∀ (i j : Nat) (x y : List CT) (c d : CT), xs[i]? = some x → ys[i]? = some y → x[j]? = some c → y[j]? = some d → LeC c d) : LeC (.slice nn sz xs) (.slice nn sz ys)
theorem LeC.rep {w : World} {M : Nat → Prop} {c d : CT} (h : LeC c d) : ∀ {v : Value}, RepC w M v c → RepC w M v d := by
  induction h with
  | refl c => exact fun h => h
  | nil sz => exact fun h => h.nil_slice sz
  | nn nn sz xs => exact fun h => h.weak
  | intP hp => intro v h; rw [RepC.int_inv h]; exact .intP _ _ hp
  | deep hl hx _ ih =>
    rename_i nn sz xs ys _
    intro v hr
    cases hr with
    | slice u hlen hcap hmax hnn hsz had hrep =>
      have hget : ∀ (i : Nat) (y : List CT), ys[i]? = some y → ∃ x, xs[i]? = some x ∧ x.length = y.length := by
        intro i y hy
        have hlt : i < xs.length := by rw [hl]; exact (List.getElem?_eq_some_iff.1 hy).1
        exact ⟨xs[i], List.getElem?_eq_getElem hlt, hx i _ y (List.getElem?_eq_getElem hlt) hy⟩
      refine .slice u (by rw [hlen, hl]) hcap hmax hnn (fun y hy => ?_) (fun hp => ?_) (fun i y hy j d hd => ?_)
      · obtain ⟨i, hi, hiy⟩ := List.mem_iff_getElem.1 hy
        obtain ⟨x, h1, h2⟩ := hget i y (by rw [List.getElem?_eq_getElem hi, hiy])
        rw [← h2]; exact hsz x (List.mem_of_getElem? h1)
      · obtain ⟨ad, a1, a2, a3, a4, a5⟩ := had (by omega)
        refine ⟨ad, a1, a2, a3, a4, fun i y hy j d hd => ?_⟩
        obtain ⟨x, h1, h2⟩ := hget i y hy
        have hj : j < x.length := by rw [h2]; exact (List.getElem?_eq_some_iff.1 hd).1
        exact a5 i x h1 j x[j] (List.getElem?_eq_getElem hj)
      · obtain ⟨x, h1, h2⟩ := hget i y hy
        have hj : j < x.length := by rw [h2]; exact (List.getElem?_eq_some_iff.1 hd).1
        exact ih i j x y x[j] d h1 hy (List.getElem?_eq_getElem hj) hd (hrep i x h1 j x[j] (List.getElem?_eq_getElem hj))
inductive LeS : SC → SC → Prop
  | refl (s : SC) : LeS s s
  | any (s : SC) : LeS s .any
  | lit (b : Bool) : LeS (.lit b) (.c (.bool b))
  | c {a b : CT} (h : LeC a b) : LeS (.c a) (.c b)
inductive LeL : List SC → List SC → Prop
  | nil : LeL [] []
  | cons {a b : SC} {l r : List SC} (h : LeS a b) (k : LeL l r) : LeL (a :: l) (b :: r)
inductive LeV : SV → SV → Prop
  | refl (s : SV) : LeV s s
  | one {a b : SC} (h : LeS a b) : LeV (.one a) (.one b)
  | agg {a b : List SC} (h : LeL a b) : LeV (.agg a) (.agg b)
inductive LeVs : List SV → List SV → Prop
  | nil : LeVs [] []
  | cons {a b : SV} {l r : List SV} (h : LeV a b) (k : LeVs l r) : LeVs (a :: l) (b :: r)
inductive LeT : ST → ST → Prop
  | refl (s : ST) : LeT s s
  | v {a b : SV} (h : LeV a b) : LeT (.v a) (.v b)
  | tup {a b : List SV} (h : LeVs a b) : LeT (.tup a) (.tup b)
inductive LeCs : List CT → List CT → Prop
  | nil : LeCs [] []
  | cons {a b : CT} {l r : List CT} (h : LeC a b) (k : LeCs l r) : LeCs (a :: l) (b :: r)
inductive LeX : List (List CT) → List (List CT) → Prop
  | refl (l : List (List CT)) : LeX l l
  | nil : LeX [] []
  | cons {a b : List CT} {l r : List (List CT)} (h : LeCs a b) (k : LeX l r) : LeX (a :: l) (b :: r)
  | append {a b c d : List (List CT)} (h : LeX a b) (k : LeX c d) : LeX (a ++ c) (b ++ d)
inductive LeM : MO → MO → Prop
  | refl (o : MO) : LeM o o
  | box {a b : List SC} (h : LeL a b) : LeM (.box a) (.box b)
  | arr {nn : Bool} {e sz : Nat} {xs ys : List (List CT)} (h : LeX xs ys) : LeM (.arr nn e sz xs) (.arr nn e sz ys)
  | nn {nn : Bool} {e sz : Nat} {xs ys : List (List CT)} (h : LeX xs ys) : LeM (.arr nn e sz xs) (.arr false e sz ys)
section
variable {I : Nat → Prop} {H : Nat → Value} {Z : Nat → Nat} {w : World} {M : Nat → Prop}
theorem LeS.rep {a b : SC} (h : LeS a b) {v : Value} (hr : RepSC I H Z w M v a) : RepSC I H Z w M v b := by
  cases h with
  | refl => exact hr
  | any => trivial
  | lit b => rw [show v = .bool b from hr]; exact RepC.bool b
  | c h => exact h.rep hr
theorem LeL.rep {a b : List SC} (h : LeL a b) : ∀ {us : List Value}, Pw (fun u c => RepSC I H Z w M u c) us a → Pw (fun u c => RepSC I H Z w M u c) us b := by
  induction h with
  | nil => exact fun h => h
  | cons h _ ih =>
    intro us hp
    match us, hp with
    | [], hp => exact absurd hp.1 (by simp)
    | u :: us, hp =>
      obtain ⟨u', hu', hr⟩ := hp.2 0 _ rfl
      simp at hu'; subst hu'
      exact Pw.cons (h.rep hr) (ih ⟨by simpa using hp.1, fun j c hc => by simpa using hp.2 (j + 1) c (by simpa using hc)⟩)
theorem LeV.rep {a b : SV} (h : LeV a b) {v : Value} (hr : RepSV I H Z w M v a) : RepSV I H Z w M v b := by
  cases h with
  | refl => exact hr
  | one h => exact LeS.rep h hr
  | agg h =>
    obtain ⟨vs, h1, h2, h3⟩ := hr
    have := h.rep (us := vs.toList) ⟨by simpa using h2, fun j c hc => by simpa using h3 j c hc⟩
    exact ⟨vs, h1, by simpa using this.1, fun j c hc => by simpa using this.2 j c hc⟩
theorem LeVs.rep {a b : List SV} (h : LeVs a b) : ∀ {us : List Value}, Pw (fun u c => RepSV I H Z w M u c) us a → Pw (fun u c => RepSV I H Z w M u c) us b := by
  induction h with
  | nil => exact fun h => h
  | cons h _ ih =>
    intro us hp
    match us, hp with
    | [], hp => exact absurd hp.1 (by simp)
    | u :: us, hp =>
      obtain ⟨u', hu', hr⟩ := hp.2 0 _ rfl
      simp at hu'; subst hu'
      exact Pw.cons (h.rep hr) (ih ⟨by simpa using hp.1, fun j c hc => by simpa using hp.2 (j + 1) c (by simpa using hc)⟩)
theorem LeT.rep {a b : ST} (h : LeT a b) {v : Value} (hr : RepST I H Z w M v a) : RepST I H Z w M v b := by
  cases h with
  | refl => exact hr
  | v h => exact LeV.rep h hr
  | tup h =>
    obtain ⟨vs, h1, h2, h3⟩ := hr
    have := h.rep (us := vs.toList) ⟨by simpa using h2, fun j c hc => by simpa using h3 j c hc⟩
    exact ⟨vs, h1, by simpa using this.1, fun j c hc => by simpa using this.2 j c hc⟩
theorem LeCs.len {a b : List CT} (h : LeCs a b) : a.length = b.length := by
  induction h with
  | nil => rfl
  | cons _ _ ih => simp [ih]
theorem LeCs.get {a b : List CT} (h : LeCs a b) : ∀ {j : Nat} {c d : CT}, a[j]? = some c → b[j]? = some d → LeC c d := by
  induction h with
  | nil => intro j c d h; simp at h
  | cons h _ ih =>
    intro j c d hc hd
    cases j with
    | zero => simp at hc hd; subst hc hd; exact h
    | succ j => exact ih (by simpa using hc) (by simpa using hd)
theorem LeX.len {a b : List (List CT)} (h : LeX a b) : a.length = b.length := by
  induction h with
  | refl => rfl
  | nil => rfl
  | cons _ _ ih => simp [ih]
  | append _ _ ih1 ih2 => simp [ih1, ih2]
theorem LeX.get {a b : List (List CT)} (h : LeX a b) : ∀ {k : Nat} {y : List CT}, b[k]? = some y → ∃ x, a[k]? = some x ∧ x.length = y.length ∧ ∀ (j : Nat) (c d : CT), x[j]? = some c → y[j]? = some d → LeC c d := by
  induction h with
  | refl l => intro k y hy; exact ⟨y, hy, rfl, fun j c d hc hd => by rw [hc] at hd; injection hd with hd; subst hd; exact .refl _⟩
  | nil => intro k y hy; simp at hy
  | cons h _ ih =>
    intro k y hy
    cases k with
    | zero => simp at hy; subst hy; exact ⟨_, rfl, h.len, fun j c d hc hd => h.get hc hd⟩
    | succ k => simpa using ih (by simpa using hy)
  | append h1 h2 ih1 ih2 =>
    intro k y hy
    rw [List.getElem?_append] at hy
    rw [List.getElem?_append, h1.len]
    split at hy
    · rename_i hk; rw [if_pos hk]; exact ih1 hy
    · rename_i hk; rw [if_neg hk]; exact ih2 hy
theorem LeM.rep {a b : MO} (h : LeM a b) {i : Nat} (hr : MemOK I H Z w M i a) : MemOK I H Z w M i b := by
  have key : ∀ {nn : Bool} {e sz : Nat} {xs ys : List (List CT)}, LeX xs ys → MemOK I H Z w M i (.arr nn e sz xs) → MemOK I H Z w M i (.arr nn e sz ys) := by
    intro nn e sz xs ys h hr
    obtain ⟨hz, us, h1, h2, h3, h4⟩ := hr
    refine ⟨hz, us, by rw [← h.len]; exact h1, h2, fun y hy => ?_, fun k y hy j d hd => ?_⟩
    · obtain ⟨k, hk, hky⟩ := List.mem_iff_getElem.1 hy
      obtain ⟨x, g1, g2, _⟩ := h.get (k := k) (y := y) (by rw [List.getElem?_eq_getElem hk, hky])
      rw [← g2]; exact h3 x (List.mem_of_getElem? g1)
    · obtain ⟨x, g1, g2, g3⟩ := h.get hy
      have hj : j < x.length := by rw [g2]; exact (List.getElem?_eq_some_iff.1 hd).1
      obtain ⟨u, hu, hrep⟩ := h4 k x g1 j x[j] (List.getElem?_eq_getElem hj)
      exact ⟨u, hu, (g3 j x[j] d (List.getElem?_eq_getElem hj) hd).rep hrep⟩
  cases h with
  | refl => exact hr
  | box h =>
    obtain ⟨b, ty, vs, h1, h2, h3, h4⟩ := hr
    have hp : Pw (fun u c => RepSC I H Z w M u c) vs.toList _ := ⟨by simpa using h3, fun j c hc => let ⟨u, hu, _, hr⟩ := h4 j c hc; ⟨u, by simpa using hu, hr⟩⟩
    have hq := h.rep hp
    refine ⟨b, ty, vs, h1, h2, by simpa using hq.1, fun j c hc => ?_⟩
    obtain ⟨u, hu, hrep⟩ := hq.2 j c hc
    have hj : j < vs.size := (Array.getElem?_eq_some_iff.1 (show vs[j]? = some u by simpa using hu)).1
    obtain ⟨u', hu', ho, _⟩ := h4 j _ (List.getElem?_eq_getElem (show j < _ by rw [← h3]; exact hj))
    have : u' = u := by
      have h5 : vs[j]? = some u := by simpa using hu
      rw [h5] at hu'; injection hu' with hu'; exact hu'.symm
    subst this
    exact ⟨u', by simpa using hu, ho, hrep⟩
  | arr h => exact key h hr
  | nn h =>
    obtain ⟨hz, us, h1, h2, h3, h4⟩ := key h hr
    exact ⟨hz, us, h1, (fun h => by cases h), h3, h4⟩
end
def SubT (tm : TM) : TM → Prop
  | [] => True
  | (t, s) :: r => (∃ s0, getT tm t = some s0 ∧ LeT s0 s) ∧ SubT tm r
def SubM (mm : MM) : MM → Prop
  | [] => True
  | (i, o) :: r => (∃ o0, getM mm i = some o0 ∧ LeM o0 o) ∧ SubM mm r
def hasI (mm : MM) (i : Nat) : Bool :=
  match getM mm i with
  | some _ => true
  | none => false
def okC (mm : MM) : SC → Bool
  | .ptr i _ | .aptr i _ _ | .own i | .mp i | .bsl i _ => hasI mm i
  | .clo _ caps => okL caps
  | _ => true
where
  okL : List Nat → Bool
    | [] => true
    | i :: r => match hasI mm i with
      | true => okL r
      | false => false
def okCs (mm : MM) : List SC → Bool
  | [] => true
  | a :: l => match okC mm a with
    | true => okCs mm l
    | false => false
def okV (mm : MM) : SV → Bool
  | .one s => okC mm s
  | .agg l => okCs mm l
def okVs (mm : MM) : List SV → Bool
  | [] => true
  | a :: l => match okV mm a with
    | true => okVs mm l
    | false => false
def okS (mm : MM) : ST → Bool
  | .v s => okV mm s
  | .tup l => okVs mm l
def okT (mm : MM) : TM → Bool
  | [] => true
  | (_, s) :: r => match okS mm s with
    | true => okT mm r
    | false => false
def okM (mm : MM) : MM → Bool
  | [] => true
  | (_, .box cs) :: r => match okCs mm cs with
    | true => okM mm r
    | false => false
  | _ :: r => okM mm r
def uniM : MM → Bool
  | [] => true
  | (i, _) :: r => match hasI r i with
    | true => false
    | false => uniM r
theorem hasI_spec {mm : MM} {i : Nat} (h : hasI mm i = true) : Iof mm i := by
  unfold hasI at h
  split at h
  · rename_i hg; exact ⟨_, getM_mem hg, rfl⟩
  · cases h
theorem hasI_false {mm : MM} {i : Nat} (h : hasI mm i = false) : ¬ Iof mm i := by
  unfold hasI at h
  split at h
  · cases h
  · rename_i hg; exact getM_none hg
theorem okC_spec {mm : MM} {s : SC} (h : okC mm s = true) : ∀ i ∈ s.uses, Iof mm i := by
  have hl : ∀ l : List Nat, okC.okL mm l = true → ∀ i ∈ l, Iof mm i := by
    intro l
    induction l with
    | nil => intro _ i hi; cases hi
    | cons a l ih =>
      intro h i hi
      unfold okC.okL at h
      split at h
      · rename_i ha
        rcases List.mem_cons.1 hi with rfl | hi
        · exact hasI_spec ha
        · exact ih h i hi
      · cases h
  intro i hi
  cases s <;> simp only [SC.uses] at hi <;> first
    | (cases hi; done)
    | (simp only [okC] at h; rw [List.mem_singleton] at hi; subst hi; exact hasI_spec h)
    | (exact hl _ h i hi)
theorem okCs_spec {mm : MM} : ∀ {l : List SC}, okCs mm l = true → ∀ s ∈ l, ∀ i ∈ s.uses, Iof mm i
  | [], _, s, hs => by cases hs
  | a :: l, h, s, hs => by
    unfold okCs at h
    split at h
    · rename_i ha
      rcases List.mem_cons.1 hs with rfl | hs
      · exact okC_spec ha
      · exact okCs_spec h s hs
    · cases h
theorem okV_spec {mm : MM} {s : SV} (h : okV mm s = true) : ∀ i ∈ s.uses, Iof mm i := by
  intro i hi
  cases s with
  | one s => exact okC_spec h i hi
  | agg l =>
    simp only [SV.uses, List.mem_flatMap] at hi
    obtain ⟨s, hs, hi⟩ := hi
    exact okCs_spec h s hs i hi
theorem okVs_spec {mm : MM} : ∀ {l : List SV}, okVs mm l = true → ∀ s ∈ l, ∀ i ∈ s.uses, Iof mm i
  | [], _, s, hs => by cases hs
  | a :: l, h, s, hs => by
    unfold okVs at h
    split at h
    · rename_i ha
      rcases List.mem_cons.1 hs with rfl | hs
      · exact okV_spec ha
      · exact okVs_spec h s hs
    · cases h
theorem okS_spec {mm : MM} {s : ST} (h : okS mm s = true) : ∀ i ∈ s.uses, Iof mm i := by
  intro i hi
  cases s with
  | v s => exact okV_spec h i hi
  | tup l =>
    simp only [ST.uses, List.mem_flatMap] at hi
    obtain ⟨s, hs, hi⟩ := hi
    exact okVs_spec h s hs i hi
theorem okT_spec {mm : MM} : ∀ {tm : TM}, okT mm tm = true → ∀ p ∈ tm, ∀ i ∈ p.2.uses, Iof mm i
  | [], _, p, hp => by cases hp
  | (t, s) :: l, h, p, hp => by
    unfold okT at h
    split at h
    · rename_i ha
      rcases List.mem_cons.1 hp with rfl | hp
      · exact okS_spec ha
      · exact okT_spec h p hp
    · cases h
theorem okM_spec {mm : MM} : ∀ {l : MM}, okM mm l = true → ∀ p ∈ l, ∀ i ∈ p.2.uses, Iof mm i
  | [], _, p, hp => by cases hp
  | (t, o) :: l, h, p, hp => by
    cases o with
    | box cs =>
      unfold okM at h
      split at h
      · rename_i ha
        rcases List.mem_cons.1 hp with rfl | hp
        · intro i hi
          simp only [MO.uses, List.mem_flatMap] at hi
          obtain ⟨s, hs, hi⟩ := hi
          exact okCs_spec ha s hs i hi
        · exact okM_spec h p hp
      · cases h
    | arr nn e sz xs =>
      have h' : okM mm l = true := by simpa [okM] using h
      rcases List.mem_cons.1 hp with rfl | hp
      · intro i hi; cases hi
      · exact okM_spec h' p hp
    | mpo es =>
      have h' : okM mm l = true := by simpa [okM] using h
      rcases List.mem_cons.1 hp with rfl | hp
      · intro i hi; cases hi
      · exact okM_spec h' p hp
    | pool e sz qs =>
      have h' : okM mm l = true := by simpa [okM] using h
      rcases List.mem_cons.1 hp with rfl | hp
      · intro i hi; cases hi
      · exact okM_spec h' p hp
theorem uniM_spec : ∀ {mm : MM}, uniM mm = true → ∀ p ∈ mm, ∀ q ∈ mm, p.1 = q.1 → p = q
  | [], _, p, hp => by cases hp
  | (i, o) :: r, h, p, hp => by
    unfold uniM at h
    split at h
    · cases h
    · rename_i hh
      have hni := hasI_false hh
      intro q hq he
      rcases List.mem_cons.1 hp with rfl | hp <;> rcases List.mem_cons.1 hq with rfl | hq
      · rfl
      · exact absurd ⟨q, hq, he.symm⟩ hni
      · exact absurd ⟨p, hp, he⟩ hni
      · exact uniM_spec h p hp q hq he
section
variable {C : Ctx} {f : FuncId} {n : Nat} {R : Ending → World → Prop} {k : List Item} {tm tm' : TM} {mm mm' : MM} {ops : Array Oper} {l : List Oper} {T : TM → MM → Prop}
theorem SubT_spec : ∀ {l : TM}, SubT tm l → ∀ p ∈ l, ∃ s0, (p.1, s0) ∈ tm ∧ LeT s0 p.2
  | [], _, p, hp => by cases hp
  | (t, s) :: r, h, p, hp => by
    rcases List.mem_cons.1 hp with rfl | hp
    · obtain ⟨s0, h1, h2⟩ := h.1; exact ⟨s0, getT_mem h1, h2⟩
    · exact SubT_spec h.2 p hp
theorem SubM_spec : ∀ {l : MM}, SubM mm l → ∀ p ∈ l, ∃ o0, (p.1, o0) ∈ mm ∧ LeM o0 p.2
  | [], _, p, hp => by cases hp
  | (t, s) :: r, h, p, hp => by
    rcases List.mem_cons.1 hp with rfl | hp
    · obtain ⟨s0, h1, h2⟩ := h.1; exact ⟨s0, getM_mem h1, h2⟩
    · exact SubM_spec h.2 p hp
theorem Has.sub (ht : SubT tm tm') (hm : SubM mm mm') (hok : okT mm' tm' = true) (hokm : okM mm' mm' = true) (hu : uniM mm' = true) {a : Act} {w : World} (h : Has C n tm mm a w) : Has C n tm' mm' a w := by
  obtain ⟨H, Z, hmod⟩ := h
  have hM : ∀ b, b < w.heap.size → Mof C H mm' b → Mof C H mm b := by
    rintro b _ (hb | ⟨p, hp, hpb⟩)
    · exact .inl hb
    · obtain ⟨o0, h1, _⟩ := SubM_spec hm p hp
      exact .inr ⟨_, h1, hpb⟩
  refine ⟨H, Z, hmod.defers, hmod.size, hmod.nle, ?_, hmod.ext, hmod.m0, uniM_spec hu, ?_, ?_, ?_, ?_⟩
  · intro p hp hpg
    obtain ⟨o0, h1, _⟩ := SubM_spec hm p hp
    exact hmod.hg (p.1, o0) h1 hpg
  · intro p hp
    obtain ⟨o0, h1, h2⟩ := SubM_spec hm p hp
    have h3 := hmod.mem _ h1
    have h4 := h2.rep h3
    exact h4.mono ⟨rfl, rfl⟩ (fun _ _ => rfl) (fun j hj _ => ⟨okM_spec hokm p hp j hj, rfl, rfl⟩) (Nat.le_refl _) (fun _ _ _ => rfl) hM
  · intro p hp b hb
    obtain ⟨o0, h1, _⟩ := SubM_spec hm p hp
    exact hmod.fresh _ h1 b hb
  · intro p hp q hq hpq b hpb
    obtain ⟨o0, h1, _⟩ := SubM_spec hm p hp
    obtain ⟨o1, h2, _⟩ := SubM_spec hm q hq
    exact hmod.sep _ h1 _ h2 hpq b hpb
  · intro p hp
    obtain ⟨s0, h1, h2⟩ := SubT_spec ht p hp
    have h3 := h2.rep (hmod.tmps _ h1)
    exact h3.mono (fun j hj _ => ⟨okT_spec hok p hp j hj, rfl, rfl⟩) (Nat.le_refl _) (fun _ _ _ => rfl) hM
theorem g_sub (ht : SubT tm tm') (hm : SubM mm mm') (hok : okT mm' tm' = true) (hokm : okM mm' mm' = true) (hu : uniM mm' = true) {t : List Item} (g : Goes C f n R t tm' mm') : Goes C f n R t tm mm :=
  g.mono fun _ _ h => h.sub ht hm hok hokm hu
def needT (L : List Oper) (o : Oper) : Option Nat :=
  match o.guard with
  | none => none
  | some (j, _) => match nthO L j with
    | some oj => oj.dst
    | none => none
variable {L : List Oper} {o : Oper} {t : Nat}
theorem s_split {b : Bool} (hn : needT L o = some t) (ht : getT tm t = some (.v (.one (.c (.bool b)))))
    (h1 : b = true → SOps C n L.toArray (o :: l) ((t, .v (.one (.lit true))) :: delL tm t) mm T)
    (h2 : b = false → SOps C n L.toArray (o :: l) ((t, .v (.one (.lit false))) :: delL tm t) mm T) : SOps C n L.toArray (o :: l) tm mm T :=
  have _ := hn
  SOps.split (getT_mem ht) h1 h2
theorem s_splitD {p : Prop} [Decidable p] (hn : needT L o = some t) (ht : getT tm t = some (.v (.one (.c (.bool (decide p))))))
    (h1 : p → SOps C n L.toArray (o :: l) ((t, .v (.one (.lit true))) :: delL tm t) mm T)
    (h2 : ¬ p → SOps C n L.toArray (o :: l) ((t, .v (.one (.lit false))) :: delL tm t) mm T) : SOps C n L.toArray (o :: l) tm mm T :=
  s_split hn ht (fun h => h1 (of_decide_eq_true h)) (fun h => h2 (of_decide_eq_false h))
theorem g_ifD {x y : Code} {p : Prop} [Decidable p] (hc : getT tm t = some (.v (.one (.c (.bool (decide p))))))
    (h1 : p → Goes C f n R (.code x :: k) ((t, .v (.one (.lit true))) :: delL tm t) mm) (h2 : ¬ p → Goes C f n R (.code y :: k) ((t, .v (.one (.lit false))) :: delL tm t) mm) :
    Goes C f n R (.code (.cond (.tmp t) x y) :: k) tm mm := g_if hc (fun h => h1 (of_decide_eq_true h)) (fun h => h2 (of_decide_eq_false h))
theorem s_step {tm' : TM} {mm' : MM} (h : OpW C n o tm mm tm' mm') (hg : guardL L tm o = some true) (k : SOps C n L.toArray l tm' mm' T) : SOps C n L.toArray (o :: l) tm mm T :=
  SOps.step (guardL_eq hg) h k
variable {d : Nat} {x y : Operand} {ty ty' : TypeId}
theorem s_add {a b : Int} (ho : o.op = .binOp .add ty x y ty') (hx : evalC tm x = some (.c (.int .i64 a))) (hy : evalC tm y = some (.c (.int .i64 b))) (hd : o.dst = some d) (hn : Nat.blt d n = true) (hg : guardL L tm o = some true)
    (hr : -9223372036854775808 ≤ a + b ∧ a + b ≤ 9223372036854775807) (k : SOps C n L.toArray l ((d, .v (.one (.c (.int .i64 (a + b))))) :: delL tm d) mm T) : SOps C n L.toArray (o :: l) tm mm T :=
  s_step (op_arith (p := .add) ho hx hy (IntWalk.i64_in _ (by omega)) hd hn).wp hg k
theorem s_subI {a b : Int} (ho : o.op = .binOp .sub ty x y ty') (hx : evalC tm x = some (.c (.int .i64 a))) (hy : evalC tm y = some (.c (.int .i64 b))) (hd : o.dst = some d) (hn : Nat.blt d n = true) (hg : guardL L tm o = some true)
    (hr : -9223372036854775808 ≤ a - b ∧ a - b ≤ 9223372036854775807) (k : SOps C n L.toArray l ((d, .v (.one (.c (.int .i64 (a - b))))) :: delL tm d) mm T) : SOps C n L.toArray (o :: l) tm mm T :=
  s_step (op_arith (p := .sub) ho hx hy (IntWalk.i64_in _ (by omega)) hd hn).wp hg k
theorem s_str {Θ : Tab} (hΘ : tabOK C.P Θ) {s : ByteArray} {kd : IntKind} {m : Int} {z bts : Nat} {ag : Bool} {zr : Option (List CT)}
    (ho : o.op = .index ty x y) (ht : tyGet Θ ty = some ⟨z, bts, ag, zr, .string⟩) (hx : evalC tm x = some (.c (.str s))) (hi : evalC tm y = some (.c (.int kd m))) (hd : o.dst = some d) (hn : Nat.blt d n = true) (hg : guardL L tm o = some true)
    (j : Nat) (b : UInt8) (hm : m = (j : Int)) (hb : s.data.toList[j]? = some b) (k : SOps C n L.toArray l ((d, .v (.one (.c (.int .u8 (b.toNat : Int))))) :: delL tm d) mm T) : SOps C n L.toArray (o :: l) tm mm T :=
  s_step (op_indexS hΘ ho ht hx hi hm hb hd hn).wp hg k
theorem s_idx {Θ : Tab} (hΘ : tabOK C.P Θ) {nn : Bool} {sz : Nat} {xs : List (List CT)} {kd : IntKind} {m : Int} {e : Nat} {z bts : Nat} {ag : Bool} {zr : Option (List CT)} {ei : TyI}
    (ho : o.op = .indexAddr ty x y) (ht : tyGet Θ ty = some ⟨z, bts, ag, zr, .slice e⟩) (hei : tyGet Θ e = some ei) (hx : evalC tm x = some (.c (.slice nn sz xs))) (hsz : Nat.beq ei.size sz = true)
    (hi : evalC tm y = some (.c (.int kd m))) (hd : o.dst = some d) (hn : Nat.blt d n = true) (hg : guardL L tm o = some true)
    (j : Nat) (cs : List CT) (hm : m = (j : Int)) (hj : xs[j]? = some cs) (k : SOps C n L.toArray l ((d, .v (.one (.eptr cs))) :: delL tm d) mm T) : SOps C n L.toArray (o :: l) tm mm T :=
  s_step (op_idx hΘ ho ht hei hsz hx hi hm hj hd hn).wp hg k
theorem s_call {g : FuncId} {pre post : List (List CT)} {args args' : List SV} {res : ST} (hc : Con C.P g pre args res post) (ids : List Nat) {xs : Array Operand} {ts : Array TypeId}
    (ho : o.op = .call { callee := .value (.func g), args := xs, argTypes := ts }) (hargs : evalArgs tm xs.toList = some args') (hren : renVs ids args = some args') (hpre : preE mm ids = some pre)
    (hnd : noDup ids = true) (hlen : post.length = pre.length) (hpure : pureS res = true) (hd : o.dst = some d) (hn : Nat.blt d n = true) (hg : guardL L tm o = some true)
    (k : SOps C n L.toArray l ((d, res) :: delL tm d) (updMs mm ids post) T) : SOps C n L.toArray (o :: l) tm mm T :=
  s_step (op_call hc ids ho hargs hren hpre hnd hlen hpure hd hn) hg k
theorem s_clo {g : FuncId} {pre post : List (List CT)} {args args' : List SV} {res : ST} (hc : Con C.P g pre args res post) (ids : List Nat) {caps : List Nat} {xs : Array Operand} {ts : Array TypeId}
    (ho : o.op = .call { callee := .value x, args := xs, argTypes := ts }) (hx : evalC tm x = some (.clo g caps)) (hargs : evalArgs tm xs.toList = some args') (hren : renVs ids args = some (appV args' caps)) (hpre : preE mm ids = some pre)
    (hbox : caps.all (fun i => match getM mm i with | some (.box _) => true | _ => false) = true)
    (hnd : noDup ids = true) (hlen : post.length = pre.length) (hpure : pureS res = true) (hd : o.dst = some d) (hn : Nat.blt d n = true) (hg : guardL L tm o = some true)
    (k : SOps C n L.toArray l ((d, res) :: delL tm d) (updMs mm ids post) T) : SOps C n L.toArray (o :: l) tm mm T :=
  s_step (op_callclo hc ids ho hx hargs hren hpre hbox hnd hlen hpure hd hn) hg k
end
theorem le_int {k : IntKind} {a b : Int} (h : a = b) : LeT (.v (.one (.c (.int k a)))) (.v (.one (.c (.int k b)))) := by subst h; exact .refl _
theorem le_ct {a b : CT} (h : a = b) : LeT (.v (.one (.c a))) (.v (.one (.c b))) := by subst h; exact .refl _
section
variable {C : Ctx} {f : FuncId} {n : Nat} {R : Ending → World → Prop} {k : List Item} {tm : TM} {mm : MM} {c : Code}
theorem g_loop1 {ι : Type} (Inv : ι → Prop) (S : ι → TM) (M : ι → MM) (μ : ι → Nat) (i : ι) (h0 : Inv i) (hs : ∀ a w, Has C n tm mm a w → Has C n (S i) (M i) a w)
    (h : ∀ i, Inv i → (∀ j, Inv j → μ j < μ i → Goes C f n R (.inLoop c :: k) (S j) (M j)) → Goes C f n R (.code c :: .inLoop c :: k) (S i) (M i)) :
    Goes C f n R (.code (.loop c) :: k) tm mm :=
  g_loop (ι := { i : ι // Inv i }) (fun i => (S i.1, M i.1)) (fun i => μ i.1) ⟨i, h0⟩ hs fun i ih => h i.1 i.2 fun j hj hm => ih ⟨j, hj⟩ hm
theorem g_loop2 {ι κ : Type} (Inv : ι → κ → Prop) (S : ι → κ → TM) (M : ι → κ → MM) (μ : ι → κ → Nat) (i : ι) (a : κ) (h0 : Inv i a) (hs : ∀ x w, Has C n tm mm x w → Has C n (S i a) (M i a) x w)
    (h : ∀ i a, Inv i a → (∀ j b, Inv j b → μ j b < μ i a → Goes C f n R (.inLoop c :: k) (S j b) (M j b)) → Goes C f n R (.code c :: .inLoop c :: k) (S i a) (M i a)) :
    Goes C f n R (.code (.loop c) :: k) tm mm :=
  g_loop1 (ι := ι × κ) (fun p => Inv p.1 p.2) (fun p => S p.1 p.2) (fun p => M p.1 p.2) (fun p => μ p.1 p.2) (i, a) h0 hs fun p hp ih => h p.1 p.2 hp fun j b hj hm => ih (j, b) hj hm
end
end Go.Sy
namespace Go.Sy
open Go.RowKit
def stpC (tm : TM) : List Item → Option (List Item)
  | .code (.seq x y) :: k => some (.code x :: .code y :: k)
  | .code .skip :: k => some k
  | .code (.block id c) :: k => some (.code c :: .inBlock id :: k)
  | .inBlock _ :: k => some k
  | .code (.exit id) :: k => exitTo id k
  | .code (.cond c x y) :: k => match evalC tm c with
    | some (.lit true) => some (.code x :: k)
    | some (.lit false) => some (.code y :: k)
    | _ => none
  | _ => none
def goC (tm : TM) : Nat → List Item → Option (List Item)
  | 0, k => some k
  | m + 1, k => match stpC tm k with
    | some k' => goC tm m k'
    | none => some k
def runC (tm : TM) (k : List Item) : Option (List Item) :=
  match stpC tm k with
  | some k' => goC tm 40 k'
  | none => none
section
variable {C : Ctx} {f : FuncId} {n : Nat} {R : Ending → World → Prop} {k k' : List Item} {tm : TM} {mm : MM}
theorem stpC_sound (h : stpC tm k = some k') (g : Goes C f n R k' tm mm) : Goes C f n R k tm mm := by
  unfold stpC at h
  split at h
  · injection h with h; subst h; exact g_seq g
  · injection h with h; subst h; exact g_skip g
  · injection h with h; subst h; exact g_block g
  · injection h with h; subst h; exact g_inBlock g
  · exact g_exit h g
  · split at h
    · injection h with h; subst h; exact g_if_true (by assumption) g
    · injection h with h; subst h; exact g_if_false (by assumption) g
    · cases h
  · cases h
theorem goC_sound : ∀ {m : Nat} {k : List Item}, goC tm m k = some k' → Goes C f n R k' tm mm → Goes C f n R k tm mm
  | 0, k, h, g => by injection h with h; subst h; exact g
  | m + 1, k, h, g => by
    unfold goC at h
    split at h
    · rename_i hs; exact stpC_sound hs (goC_sound h g)
    · injection h with h; subst h; exact g
theorem gc_ (h : runC tm k = some k') (g : Goes C f n R k' tm mm) : Goes C f n R k tm mm := by
  unfold runC at h
  split at h
  · rename_i hs; exact stpC_sound hs (goC_sound h g)
  · cases h
end
theorem le_arr {nn : Bool} {e sz : Nat} {xs ys : List (List CT)} (h : xs = ys) : LeM (.arr nn e sz xs) (.arr false e sz ys) := by subst h; exact .nn (.refl _)
theorem hbL : (∀ (p : Prop) [Decidable p], (decide p = true) = p) ∧ (∀ (p : Prop) [Decidable p], (decide p = false) = ¬ p) ∧ (∀ b : Bool, ((!b) = true) = (b = false)) ∧ (∀ b : Bool, ((!b) = false) = (b = true)) ∧
    (∀ b : Bool, (¬ (b = true)) = (b = false)) ∧ (∀ b : Bool, (¬ (b = false)) = (b = true)) ∧ ((!true) = false) ∧ ((!false) = true) ∧ ((false = true) = False) ∧ ((true = false) = False) ∧ ((¬ True) = False) ∧ ((¬ False) = True) ∧
    (∀ (α β : Type) (g : α → β) (l : List α), (l.map g).length = l.length) := by
  refine ⟨fun p _ => by simp, fun p _ => by simp, fun b => by simp, fun b => by simp, fun b => by simp, fun b => by simp, rfl, rfl, by simp, by simp, by simp, by simp, fun α β g l => by simp⟩
end Go.Sy
namespace Go.Sy
open Go.RowKit
theorem Has.incl {C : Ctx} {n : Nat} {tm tm' : TM} {mm : MM} {a : Act} {w : World} (h : Has C n tm mm a w) (hs : ∀ p ∈ tm', p ∈ tm) : Has C n tm' mm a w := by
  obtain ⟨H, Z, hm⟩ := h
  exact ⟨H, Z, hm.sub hs⟩
def OpX (C : Ctx) (n : Nat) (mm : MM) (o : Oper) (tmr : TM) (d : Nat) (s : ST) : Prop :=
  (o.dst = some d ∧ Nat.blt d n = true) ∧ ∀ tm' : TM, (∀ p ∈ tmr, p ∈ tm') → OpW C n o tm' mm ((d, s) :: delL tm' d) mm
theorem OpV.toX {C : Ctx} {n : Nat} {mm : MM} {o : Oper} {tmr : TM} {d : Nat} {s : ST} (h : OpV C n o tmr mm d s) : OpX C n mm o tmr d s := by
  refine ⟨h.1, fun tm' hs => ?_⟩
  refine OpV.wp ⟨h.1, fun H Z a w hm => ?_⟩
  exact h.2 H Z a w (hm.sub hs)
theorem getT_app {l r : TM} {t : Nat} {s : ST} (h : getT l t = some s) : getT (l ++ r) t = some s := by
  induction l with
  | nil => simp [getT] at h
  | cons p l ih =>
    obtain ⟨e, u⟩ := p
    unfold getT at h
    show getT ((e, u) :: (l ++ r)) t = some s
    unfold getT
    cases hb : Nat.beq e t with
    | true => rw [hb] at h; exact h
    | false => rw [hb] at h; exact ih h
theorem evalT_app {l r : TM} {x : Operand} {s : ST} (h : evalT l x = some s) : evalT (l ++ r) x = some s := by
  cases x <;> first | exact getT_app h | exact h
theorem evalV_app {l r : TM} {x : Operand} {s : SV} (h : evalV l x = some s) : evalV (l ++ r) x = some s := by
  unfold evalV at h ⊢
  split at h
  · rename_i hs; rw [evalT_app hs]; exact h
  · cases h
theorem evalD_app {l r : TM} {x : Operand} {s : SV} (h : evalD l x = some s) : evalD (l ++ r) x = some s := by
  unfold evalD at h ⊢
  split at h
  · rename_i hs; rw [evalV_app hs]; exact h
  · cases h
theorem evalArgs_app {l r : TM} : ∀ {xs : List Operand} {s : List SV}, evalArgs l xs = some s → evalArgs (l ++ r) xs = some s
  | [], s, h => h
  | x :: xs, s, h => by
    unfold evalArgs at h ⊢
    split at h
    · rename_i hx
      rw [evalD_app hx]
      split at h
      · rename_i hl; rw [evalArgs_app hl]; exact h
      · cases h
    · cases h
theorem op_callX {C : Ctx} {n : Nat} {tmr : TM} {mm : MM} {o : Oper} {d : Nat} {f : FuncId} {pre post : List (List CT)} {args args' : List SV} {res : ST} (hc : Con C.P f pre args res post) (ids : List Nat) {xs : Array Operand} {ts : Array TypeId}
    (ho : o.op = .call { callee := .value (.func f), args := xs, argTypes := ts }) (hargs : evalArgs tmr xs.toList = some args') (hren : renVs ids args = some args') (hpre : preE mm ids = some pre)
    (hnd : noDup ids = true) (hlen : post.length = pre.length) (hpure : pureS res = true) (hd : o.dst = some d) (hn : Nat.blt d n = true) (hsame : updMs mm ids post = mm) :
    OpX C n mm o tmr d res := by
  refine ⟨⟨hd, hn⟩, fun tm' hs => ?_⟩
  have h := op_call (tm := tmr ++ tm') hc ids ho (evalArgs_app hargs) hren hpre hnd hlen hpure hd hn
  rw [hsame] at h
  intro a w K Q hh hK
  refine h a w K Q (hh.incl fun p hp => (List.mem_append.1 hp).elim (hs p) id) fun a' w' h' => hK a' w' (h'.incl fun p hp => ?_)
  rcases List.mem_cons.1 hp with rfl | hp
  · exact List.mem_cons_self
  · refine List.mem_cons_of_mem _ ?_
    have key : ∀ {l : TM}, p ∈ l → p.1 ≠ d → p ∈ delL l d := by
      intro l
      induction l with
      | nil => intro h; cases h
      | cons q l ih =>
        intro h hne
        obtain ⟨e, u⟩ := q
        unfold delL
        cases hb : Nat.beq e d with
        | true =>
          rcases List.mem_cons.1 h with rfl | h
          · exact absurd (Nat.eq_of_beq_eq_true hb) hne
          · exact ih h hne
        | false =>
          rcases List.mem_cons.1 h with rfl | h
          · exact List.mem_cons_self
          · exact List.mem_cons_of_mem _ (ih h hne)
    obtain ⟨h1, h2⟩ := delL_mem hp
    exact key (List.mem_append_right _ h1) h2
theorem mem_delL {d : Nat} {p : Nat × ST} : ∀ {l : TM}, p ∈ l → p.1 ≠ d → p ∈ delL l d
  | [], h, _ => by cases h
  | (e, u) :: l, h, hne => by
    unfold delL
    cases hb : Nat.beq e d with
    | true =>
      rcases List.mem_cons.1 h with rfl | h
      · exact absurd (Nat.eq_of_beq_eq_true hb) hne
      · exact mem_delL h hne
    | false =>
      rcases List.mem_cons.1 h with rfl | h
      · exact List.mem_cons_self
      · exact List.mem_cons_of_mem _ (mem_delL h hne)
def memN : List Nat → Nat → Bool
  | [], _ => false
  | a :: l, t => match Nat.beq a t with
    | true => true
    | false => memN l t
theorem memN_iff {t : Nat} : ∀ {l : List Nat}, memN l t = true ↔ t ∈ l
  | [] => by simp [memN]
  | a :: l => by
    unfold memN
    cases hb : Nat.beq a t with
    | true => simp [Nat.eq_of_beq_eq_true hb]
    | false =>
      have : ¬ t = a := fun e => by subst e; simp at hb
      simp [this, memN_iff (l := l)]
def tmpsE : List Operand → List Nat
  | [] => []
  | .tmp t :: r => t :: tmpsE r
  | _ :: r => tmpsE r
def looksE (L : List Oper) (o : Oper) : List Nat :=
  match o.guard with
  | none => tmpsE o.op.operands.toList
  | some (j, _) => match nthO L j with
    | some oj => match oj.dst with
      | some t => t :: tmpsE o.op.operands.toList
      | none => tmpsE o.op.operands.toList
    | none => tmpsE o.op.operands.toList
def onlyE (l : List Nat) : TM → TM
  | [] => []
  | (t, s) :: r => match memN l t with
    | true => (t, s) :: onlyE l r
    | false => onlyE l r
theorem onlyE_mem {l : List Nat} {p : Nat × ST} : ∀ {tm : TM}, p ∈ onlyE l tm ↔ p ∈ tm ∧ p.1 ∈ l
  | [] => by simp [onlyE]
  | (t, s) :: r => by
    unfold onlyE
    cases hb : memN l t with
    | true =>
      have := memN_iff.1 hb
      simp only [List.mem_cons, onlyE_mem (tm := r)]
      constructor
      · rintro (rfl | h)
        · exact ⟨.inl rfl, this⟩
        · exact ⟨.inr h.1, h.2⟩
      · rintro ⟨rfl | h, k⟩
        · exact .inl rfl
        · exact .inr ⟨h, k⟩
    | false =>
      have hn : t ∉ l := fun h => by rw [memN_iff.2 h] at hb; cases hb
      simp only [List.mem_cons, onlyE_mem (tm := r)]
      constructor
      · rintro ⟨h, k⟩; exact ⟨.inr h, k⟩
      · rintro ⟨rfl | h, k⟩
        · exact absurd k hn
        · exact ⟨h, k⟩
section
variable {C : Ctx} {n : Nat} {mm : MM} {L : List Oper}
def OkO (C : Ctx) (n : Nat) (mm : MM) (L : List Oper) (tm : TM) (o : Oper) : Prop :=
  ∃ d s, o.dst = some d ∧ (d, s) ∈ tm ∧ ∀ tm' : TM, (∀ p ∈ tm, p.1 ∈ looksE L o → p ∈ tm') → ∀ (a : Act) (w : World) (K : Act → World → Prop) (Q : Exit → Act → World → Prop), Has C n tm' mm a w →
    (∀ a' w', Has C n ((d, s) :: delL tm' d) mm a' w' → K a' w') →
    if Region.wanted o (yielded L.toArray a.tmps) then o.wp C.P a w K Q else K (a.put o.dst undef) w
theorem nthO_get {L : List Oper} {j : Nat} : nthO L j = L[j]? := nthO_eq L j
theorem guardL_only {tm : TM} {o : Oper} {b : Bool} (h : guardL L (onlyE (looksE L o) tm) o = some b) {tm' : TM} (hs : ∀ p ∈ tm, p.1 ∈ looksE L o → p ∈ tm')
    {a : Act} {w : World} (hh : Has C n tm' mm a w) : Region.wanted o (yielded L.toArray a.tmps) = b :=
  wanted_of (guardL_eq h) (hh.incl fun p hp => hs p (onlyE_mem.1 hp).1 (onlyE_mem.1 hp).2)
theorem okO_step {tm : TM} {o : Oper} {d : Nat} {s : ST} (hg : guardL L (onlyE (looksE L o) tm) o = some true) (h : OpX C n mm o (onlyE (looksE L o) tm) d s) (hfr : d ∉ looksE L o) : OkO C n mm L ((d, s) :: delL tm d) o := by
  refine ⟨d, s, h.1.1, List.mem_cons_self, fun tm' hs a w K Q hh hK => ?_⟩
  have hs' : ∀ p ∈ tm, p.1 ∈ looksE L o → p ∈ tm' := fun p hp hl => hs p (List.mem_cons_of_mem _ (mem_delL hp fun e => hfr (e ▸ hl))) hl
  rw [if_pos (guardL_only hg hs' hh)]
  exact h.2 tm' (fun p hp => hs' p (onlyE_mem.1 hp).1 (onlyE_mem.1 hp).2) a w K Q hh hK
theorem okO_skip {tm : TM} {o : Oper} {d : Nat} (hg : guardL L (onlyE (looksE L o) tm) o = some false) (hd : o.dst = some d) (hn : Nat.blt d n = true) (hfr : d ∉ looksE L o) : OkO C n mm L ((d, .tup []) :: delL tm d) o := by
  refine ⟨d, _, hd, List.mem_cons_self, fun tm' hs a w K Q hh hK => ?_⟩
  have hs' : ∀ p ∈ tm, p.1 ∈ looksE L o → p ∈ tm' := fun p hp hl => hs p (List.mem_cons_of_mem _ (mem_delL hp fun e => hfr (e ▸ hl))) hl
  rw [if_neg (by rw [guardL_only hg hs' hh]; simp)]
  obtain ⟨H, Z, hm⟩ := hh
  rw [hd]
  exact hK _ _ ⟨H, Z, hm.setT (Nat.blt_eq.mp hn) ⟨#[], rfl, rfl, fun j c hc => by simp at hc⟩⟩
theorem OkO.grow {tm : TM} {o : Oper} (h : OkO C n mm L tm o) {d : Nat} {s : ST} (hd : o.dst ≠ some d) (hl : d ∉ looksE L o) : OkO C n mm L ((d, s) :: delL tm d) o := by
  obtain ⟨d', s', h1, h2, h3⟩ := h
  have hne : d' ≠ d := fun e => hd (e ▸ h1)
  refine ⟨d', s', h1, List.mem_cons_of_mem _ (mem_delL h2 hne), fun tm' hs => h3 tm' fun p hp hpl => hs p (List.mem_cons_of_mem _ (mem_delL hp fun e => hl (e ▸ hpl))) hpl⟩
theorem OkO.told {tm : TM} {o : Oper} (h : OkO C n mm L tm o) {t : Nat} {b : Bool} (hu : ∀ s, (t, s) ∈ tm → s = .v (.one (.c (.bool b)))) :
    OkO C n mm L ((t, .v (.one (.lit b))) :: delL tm t) o := by
  obtain ⟨d, s, h1, h2, h3⟩ := h
  have conv : ∀ {l l' : TM}, (∀ p ∈ l', p ∈ l ∨ (p = (t, .v (.one (.lit b))) ∧ (t, ST.v (.one (.c (.bool b)))) ∈ l) ∨ (p = (t, .v (.one (.c (.bool b)))) ∧ (t, ST.v (.one (.lit b))) ∈ l)) →
      ∀ a w, Has C n l mm a w → Has C n l' mm a w := by
    intro l l' hl a w ⟨H, Z, hm⟩
    refine ⟨H, Z, { hm with tmps := fun p hp => ?_ }⟩
    rcases hl p hp with h | ⟨rfl, h⟩ | ⟨rfl, h⟩
    · exact hm.tmps p h
    · exact RepC.bool_inv (hm.tmps _ h)
    · have : a.tmps.getD t undef = .bool b := hm.tmps _ h
      show RepC _ _ (a.tmps.getD t undef) _
      rw [this]; exact .bool b
  by_cases hdt : d = t
  · subst hdt
    have hs := hu s h2
    subst hs
    refine ⟨d, _, h1, List.mem_cons_self, fun tm' hs a w K Q hh hK => ?_⟩
    refine h3 (onlyE (looksE L o) tm ++ tm') (fun p hp hl => List.mem_append_left _ (onlyE_mem.2 ⟨hp, hl⟩)) a w K Q (conv ?_ a w hh) (fun a' w' h' => hK a' w' (conv ?_ a' w' h'))
    · intro p hp
      rcases List.mem_append.1 hp with hp | hp
      · obtain ⟨hp, hl⟩ := onlyE_mem.1 hp
        by_cases hpt : p.1 = d
        · have : p = (d, .v (.one (.c (.bool b)))) := Prod.ext hpt (hu p.2 (by rw [← hpt]; exact hp))
          exact .inr (.inr ⟨this, hs _ List.mem_cons_self (hpt ▸ hl)⟩)
        · exact .inl (hs p (List.mem_cons_of_mem _ (mem_delL hp hpt)) hl)
      · exact .inl hp
    · intro p hp
      rcases List.mem_cons.1 hp with rfl | hp
      · exact .inr (.inl ⟨rfl, List.mem_cons_self⟩)
      · obtain ⟨e1, e2⟩ := delL_mem hp
        exact .inl (List.mem_cons_of_mem _ (mem_delL (List.mem_append_right _ e1) e2))
  · refine ⟨d, s, h1, List.mem_cons_of_mem _ (mem_delL h2 hdt), fun tm' hs a w K Q hh hK => ?_⟩
    refine h3 (onlyE (looksE L o) tm ++ tm') (fun p hp hl => List.mem_append_left _ (onlyE_mem.2 ⟨hp, hl⟩)) a w K Q (conv ?_ a w hh) (fun a' w' h' => hK a' w' (conv ?_ a' w' h'))
    · intro p hp
      rcases List.mem_append.1 hp with hp | hp
      · obtain ⟨hp, hl⟩ := onlyE_mem.1 hp
        by_cases hpt : p.1 = t
        · have : p = (t, .v (.one (.c (.bool b)))) := Prod.ext hpt (hu p.2 (by rw [← hpt]; exact hp))
          exact .inr (.inr ⟨this, hs _ List.mem_cons_self (hpt ▸ hl)⟩)
        · exact .inl (hs p (List.mem_cons_of_mem _ (mem_delL hp hpt)) hl)
      · exact .inl hp
    · intro p hp
      rcases List.mem_cons.1 hp with rfl | hp
      · exact .inl List.mem_cons_self
      · obtain ⟨e1, e2⟩ := delL_mem hp
        exact .inl (List.mem_cons_of_mem _ (mem_delL (List.mem_append_right _ e1) e2))
def ons : List Edge → List Nat
  | [] => []
  | e :: r => match Region.binds .any e with
    | true => e.on :: ons r
    | false => ons r
def dstsE : List Oper → List Nat
  | [] => []
  | o :: r => match o.dst with
    | some d => d :: dstsE r
    | none => dstsE r
def freeE (L : List Oper) (d : Nat) : List Oper → Bool
  | [] => true
  | o :: r => match o.dst with
    | none => false
    | some e => match Nat.beq e d with
      | true => false
      | false => match memN (looksE L o) d with
        | true => false
        | false => freeE L d r
def waitE (lk af : List Nat) : List Oper → Nat → Bool
  | [], _ => true
  | o :: r, j => match o.dst with
    | none => waitE lk af r (j + 1)
    | some e => match memN lk e with
      | false => waitE lk af r (j + 1)
      | true => match memN af j with
        | true => waitE lk af r (j + 1)
        | false => false
def allLt : List Nat → Nat → Bool
  | [], _ => true
  | a :: l, i => match Nat.blt a i with
    | true => allLt l i
    | false => false
def okR (L : List Oper) : List Oper → List Oper → Nat → Bool
  | _, [], _ => true
  | ahead, o :: r, i => match o.dst with
    | none => false
    | some d => match freeE L d ahead, memN (looksE L o) d, waitE (looksE L o) (ons o.after.toList) L 0, allLt (ons o.after.toList) i with
      | true, false, true, true => okR L (o :: ahead) r (i + 1)
      | _, _, _, _ => false
theorem freeE_spec {d : Nat} : ∀ {l : List Oper}, freeE L d l = true → ∀ o ∈ l, o.dst ≠ some d ∧ d ∉ looksE L o
  | [], _, o, ho => by cases ho
  | a :: l, h, o, ho => by
    unfold freeE at h
    split at h
    · cases h
    · rename_i e he
      split at h
      · cases h
      · rename_i hed
        split at h
        · cases h
        · rename_i hm
          rcases List.mem_cons.1 ho with rfl | ho
          · refine ⟨fun e' => ?_, fun hk => by rw [memN_iff.2 hk] at hm; cases hm⟩
            rw [he] at e'; injection e' with e'; subst e'; simp at hed
          · exact freeE_spec h o ho
theorem waitE_spec {lk af : List Nat} : ∀ {l : List Oper} {j : Nat}, waitE lk af l j = true → ∀ (k : Nat) (o : Oper) (e : Nat), l[k]? = some o → o.dst = some e → e ∈ lk → j + k ∈ af
  | [], j, _, k, o, e, ho, _, _ => by simp at ho
  | a :: l, j, h, k, o, e, ho, he, hl => by
    unfold waitE at h
    cases k with
    | zero =>
      simp at ho; subst ho
      rw [he] at h
      simp only [memN_iff.2 hl] at h
      split at h
      · rename_i hm; exact memN_iff.1 hm
      · cases h
    | succ k =>
      have key : waitE lk af l (j + 1) = true := by
        split at h
        · exact h
        · split at h
          · exact h
          · split at h
            · exact h
            · cases h
      have := waitE_spec key k o e (by simpa using ho) he hl
      rwa [show j + (k + 1) = j + 1 + k by omega]
theorem allLt_spec {i : Nat} : ∀ {l : List Nat}, allLt l i = true → ∀ a ∈ l, a < i
  | [], _, a, ha => by cases ha
  | b :: l, h, a, ha => by
    unfold allLt at h
    split at h
    · rename_i hb
      rcases List.mem_cons.1 ha with rfl | ha
      · exact Nat.blt_eq.mp hb
      · exact allLt_spec h a ha
    · cases h
theorem okR_cons {ahead l : List Oper} {o : Oper} {i : Nat} (h : okR L ahead (o :: l) i = true) :
    ∃ d, o.dst = some d ∧ freeE L d ahead = true ∧ d ∉ looksE L o ∧ waitE (looksE L o) (ons o.after.toList) L 0 = true ∧ allLt (ons o.after.toList) i = true ∧ okR L (o :: ahead) l (i + 1) = true := by
  unfold okR at h
  split at h
  · cases h
  · rename_i d hd
    split at h
    · rename_i h1 h2 h3 h4
      exact ⟨d, hd, h1, (fun hk => by rw [memN_iff.2 hk] at h2; cases h2), h3, h4, h⟩
    · cases h
theorem okR_get : ∀ {l ahead : List Oper} {i : Nat}, okR L ahead l i = true → ∀ (k : Nat) (o : Oper), l[k]? = some o →
    (∃ d, o.dst = some d) ∧ waitE (looksE L o) (ons o.after.toList) L 0 = true ∧ allLt (ons o.after.toList) (i + k) = true
  | [], _, _, _, k, o, ho => by simp at ho
  | a :: l, ahead, i, h, k, o, ho => by
    obtain ⟨d, h1, _, _, h4, h5, h6⟩ := okR_cons h
    cases k with
    | zero => simp at ho; subst ho; exact ⟨⟨d, h1⟩, h4, h5⟩
    | succ k =>
      have := okR_get h6 k o (by simpa using ho)
      rwa [show i + 1 + k = i + (k + 1) by omega] at this
structure DS (C : Ctx) (n : Nat) (mm : MM) (L : List Oper) (tm0 : TM) (ahead l : List Oper) (i : Nat) (tm : TM) : Prop where
  ok : ∀ o ∈ ahead, OkO C n mm L tm o
  keys : ∀ p ∈ tm, ∀ q ∈ tm, p.1 = q.1 → p = q
  base : ∀ p ∈ tm, p.1 ∉ dstsE L → p ∈ tm0
  okr : okR L ahead l i = true
  whole : L = ahead.reverse ++ l
def DOps (C : Ctx) (n : Nat) (mm : MM) (L : List Oper) (tm0 : TM) (l : List Oper) (tm : TM) (T : TM → Prop) : Prop :=
  ∀ ahead i, DS C n mm L tm0 ahead l i tm → ∃ tmF, T tmF ∧ (∀ o ∈ L, OkO C n mm L tmF o) ∧ (∀ p ∈ tmF, p.1 ∉ dstsE L → p ∈ tm0) ∧ (∀ p ∈ tmF, ∀ q ∈ tmF, p.1 = q.1 → p = q)
variable {tm0 tm : TM} {l : List Oper} {T : TM → Prop} {o : Oper} {d : Nat} {s : ST}
theorem DOps.nil (h : T tm) : DOps C n mm L tm0 [] tm T := fun ahead i hs =>
  ⟨tm, h, fun o ho => hs.ok o (by have := hs.whole; rw [List.append_nil] at this; rw [this] at ho; simpa using ho), hs.base, hs.keys⟩
theorem keys_set {tm : TM} (h : ∀ p ∈ tm, ∀ q ∈ tm, p.1 = q.1 → p = q) : ∀ p ∈ (d, s) :: delL tm d, ∀ q ∈ (d, s) :: delL tm d, p.1 = q.1 → p = q := by
  intro p hp q hq he
  rcases List.mem_cons.1 hp with rfl | hp <;> rcases List.mem_cons.1 hq with rfl | hq
  · rfl
  · exact absurd he.symm (delL_mem hq).2
  · exact absurd he (delL_mem hp).2
  · exact h p (delL_mem hp).1 q (delL_mem hq).1 he
theorem dstsE_mem {o : Oper} {d : Nat} : ∀ {l : List Oper}, o ∈ l → o.dst = some d → d ∈ dstsE l
  | [], h, _ => by cases h
  | a :: l, h, hd => by
    unfold dstsE
    rcases List.mem_cons.1 h with rfl | h
    · rw [hd]; exact List.mem_cons_self
    · split
      · exact List.mem_cons_of_mem _ (dstsE_mem h hd)
      · exact dstsE_mem h hd
theorem dstsE_get {d : Nat} : ∀ {l : List Oper}, d ∈ dstsE l → ∃ (k : Nat) (o : Oper), l[k]? = some o ∧ o.dst = some d
  | [], h => by simp [dstsE] at h
  | a :: l, h => by
    unfold dstsE at h
    split at h
    · rename_i e he
      rcases List.mem_cons.1 h with rfl | h
      · exact ⟨0, a, rfl, he⟩
      · obtain ⟨k, o, h1, h2⟩ := dstsE_get h
        exact ⟨k + 1, o, by simpa using h1, h2⟩
    · obtain ⟨k, o, h1, h2⟩ := dstsE_get h
      exact ⟨k + 1, o, by simpa using h1, h2⟩
theorem DS.next {ahead : List Oper} {i : Nat} (hs : DS C n mm L tm0 ahead (o :: l) i tm) (hd : o.dst = some d) (hok : d ∉ looksE L o → OkO C n mm L ((d, s) :: delL tm d) o) :
    DS C n mm L tm0 (o :: ahead) l (i + 1) ((d, s) :: delL tm d) := by
  obtain ⟨d', h1, h2, h3, h4, h5, h6⟩ := okR_cons hs.okr
  rw [hd] at h1; injection h1 with h1; subst h1
  have hin : o ∈ L := by rw [hs.whole]; simp
  refine ⟨fun o' ho' => ?_, keys_set hs.keys, fun p hp hn => ?_, h6, by rw [hs.whole]; simp⟩
  · rcases List.mem_cons.1 ho' with rfl | ho'
    · exact hok h3
    · obtain ⟨k1, k2⟩ := freeE_spec h2 o' ho'
      exact (hs.ok o' ho').grow k1 k2
  · rcases List.mem_cons.1 hp with rfl | hp
    · exact absurd (dstsE_mem hin hd) hn
    · exact hs.base p (delL_mem hp).1 hn
theorem DOps.step (hg : guardL L (onlyE (looksE L o) tm) o = some true) (h : OpX C n mm o (onlyE (looksE L o) tm) d s) (k : DOps C n mm L tm0 l ((d, s) :: delL tm d) T) :
    DOps C n mm L tm0 (o :: l) tm T := fun ahead i hs => k _ _ (hs.next h.1.1 (okO_step hg h))
theorem DOps.skip (hg : guardL L (onlyE (looksE L o) tm) o = some false) (hd : o.dst = some d) (hn : Nat.blt d n = true) (k : DOps C n mm L tm0 l ((d, .tup []) :: delL tm d) T) :
    DOps C n mm L tm0 (o :: l) tm T := fun ahead i hs => k _ _ (hs.next hd (okO_skip hg hd hn))
theorem DOps.split {t : Nat} {b : Bool} (hin : memN (dstsE L) t = true) (hm : (t, ST.v (.one (.c (.bool b)))) ∈ tm)
    (h1 : b = true → DOps C n mm L tm0 l ((t, ST.v (.one (.lit true))) :: delL tm t) T)
    (h2 : b = false → DOps C n mm L tm0 l ((t, ST.v (.one (.lit false))) :: delL tm t) T) : DOps C n mm L tm0 l tm T := fun ahead i hs => by
  have key : ∀ b', b = b' → DS C n mm L tm0 ahead l i ((t, ST.v (.one (.lit b'))) :: delL tm t) := by
    intro b' hb
    subst hb
    refine ⟨fun o ho => (hs.ok o ho).told fun s hs' => ?_, keys_set hs.keys, fun p hp hn => ?_, hs.okr, hs.whole⟩
    · have := hs.keys _ hs' _ hm rfl
      injection this
    · rcases List.mem_cons.1 hp with rfl | hp
      · exact absurd (memN_iff.1 hin) hn
      · exact hs.base p (delL_mem hp).1 hn
  cases b with
  | true => exact h1 rfl _ _ (key true rfl)
  | false => exact h2 rfl _ _ (key false rfl)
theorem Has.drawn {tm : TM} {a : Act} {w : World} (h : Has C n tm mm a w) : Has C n tm mm a { w with drawn := w.drawn + 1 } := by
  obtain ⟨H, Z, hm⟩ := h
  refine ⟨H, Z, hm.build (fun _ => False) ⟨rfl, rfl, rfl, Nat.le_refl _, fun _ _ _ => rfl⟩ (fun _ _ h => h.elim) hm.defers hm.size hm.hg hm.ids
    (fun p hp => .inl ⟨hp, rfl, rfl, fun _ _ h => h, fun j _ hj => ⟨hj, rfl, rfl⟩⟩) hm.sep (fun p hp => .inl ⟨p, hp, rfl, rfl, fun j _ hj => ⟨hj, rfl, rfl⟩⟩)⟩
def keepT (L : List Oper) (listed : Array Bool) (tm : TM) (p : Nat × ST) : Prop :=
  p ∈ tm ∧ (p.1 ∉ dstsE L ∨ ∃ (k : Nat) (o : Oper), L[k]? = some o ∧ o.dst = some p.1 ∧ listed.getD k false = true)
theorem count_set : ∀ {l : List Bool} {i : Nat}, l[i]? = some false → ((l.set i true).filter (!·)).length + 1 = (l.filter (!·)).length
  | [], i, h => by simp at h
  | x :: l, 0, h => by simp at h; subst h; simp
  | x :: l, i + 1, h => by
    have := count_set (l := l) (i := i) (by simpa using h)
    cases x <;> simp_all
theorem any_ok {tmF : TM} (hok : okR L [] L 0 = true) (hF : ∀ o ∈ L, OkO C n mm L tmF o) (keyF : ∀ p ∈ tmF, ∀ q ∈ tmF, p.1 = q.1 → p = q)
    {P : TM → MM → Prop} (hP : P tmF mm) :
    ∀ (fuel : Nat) (listed : Array Bool) (a : Act) (w : World) (tm : TM), listed.size = L.length → (listed.toList.filter (!·)).length ≤ fuel → (∀ p, keepT L listed tmF p → p ∈ tm) → Has C n tm mm a w →
      wpAny C.P .any L.toArray (QT C n P) fuel listed a w := by
  have hready : ∀ (listed : Array Bool), listed.size = L.length → Region.ready .any L.toArray listed = [] → ∀ k, k < L.length → listed.getD k false = true := by
    intro listed hsz hr k
    induction k using Nat.strongRecOn with
    | _ k ih =>
      intro hk
      cases hl : listed.getD k false with
      | true => rfl
      | false =>
        have hmem : k ∈ Region.ready .any L.toArray listed := by
          rw [mem_ready]
          refine ⟨?_, L[k], by simp [hk], fun e he hb => ?_⟩
          · have hks : k < listed.size := by omega
            simp [Array.getD, hks] at hl ⊢; exact hl
          · obtain ⟨_, _, h3⟩ := okR_get hok k L[k] (List.getElem?_eq_getElem hk)
            have : e.on ∈ ons L[k].after.toList := by
              have key : ∀ l : List Edge, e ∈ l → e.on ∈ ons l := by
                intro l
                induction l with
                | nil => intro h; cases h
                | cons x l ih =>
                  intro h
                  unfold ons
                  rcases List.mem_cons.1 h with rfl | h
                  · rw [hb]; exact List.mem_cons_self
                  · split
                    · exact List.mem_cons_of_mem _ (ih h)
                    · exact ih h
              exact key _ (by simpa using he)
            have hlt := allLt_spec h3 _ this
            exact ih e.on (by omega) (by omega)
        rw [hr] at hmem; cases hmem
  have hdone : ∀ (listed : Array Bool) (a : Act) (w : World) (tm : TM), listed.size = L.length → (∀ p, keepT L listed tmF p → p ∈ tm) → Has C n tm mm a w → Region.ready .any L.toArray listed = [] → QT C n P .normal a w := by
    intro listed a w tm hsz hk hh hr
    refine ⟨tmF, mm, hP, hh.incl fun p hp => hk p ⟨hp, ?_⟩⟩
    by_cases hd : p.1 ∈ dstsE L
    · obtain ⟨k, o, h1, h2⟩ := dstsE_get hd
      exact .inr ⟨k, o, h1, h2, hready listed hsz hr k (List.getElem?_eq_some_iff.1 h1).1⟩
    · exact .inl hd
  intro fuel
  induction fuel with
  | zero =>
    intro listed a w tm hsz hc hk hh
    have hr : Region.ready .any L.toArray listed = [] := by
      rw [List.eq_nil_iff_forall_not_mem]
      intro j hj
      obtain ⟨h1, o, h2, _⟩ := mem_ready.1 hj
      have hjl : j < listed.size := by rw [hsz]; simpa using (Array.getElem?_eq_some_iff.1 h2).1
      have : listed[j] = false := by simpa [Array.getD, hjl] using h1
      have hm : false ∈ listed.toList.filter (!·) := by
        rw [List.mem_filter]; exact ⟨by rw [← this]; simp, rfl⟩
      have := List.length_pos_of_mem hm
      omega
    exact ⟨hr, hdone listed a w tm hsz hk hh hr⟩
  | succ fuel ih =>
    intro listed a w tm hsz hc hk hh
    refine ⟨hdone listed a w tm hsz hk hh, fun i hi => ?_⟩
    obtain ⟨h1, o, h2, h3⟩ := mem_ready.1 hi
    have hL : L[i]? = some o := by simpa using h2
    have hil : i < L.length := (List.getElem?_eq_some_iff.1 hL).1
    have his : i < listed.size := by omega
    have hfalse : listed[i] = false := by simpa [Array.getD, his] using h1
    obtain ⟨_, hw, _⟩ := okR_get hok i o hL
    obtain ⟨d, s, e1, e2, e3⟩ := hF o (List.mem_of_getElem? hL)
    have hon : ∀ j, j ∈ ons o.after.toList → listed.getD j false = true := by
      have key : ∀ l : List Edge, (∀ e ∈ l, e ∈ o.after) → ∀ j, j ∈ ons l → listed.getD j false = true := by
        intro l
        induction l with
        | nil => intro _ j h; simp [ons] at h
        | cons x l ih =>
          intro hl j h
          unfold ons at h
          split at h
          · rename_i hb
            rcases List.mem_cons.1 h with rfl | h
            · exact h3 x (hl x List.mem_cons_self) hb
            · exact ih (fun e he => hl e (List.mem_cons_of_mem _ he)) j h
          · exact ih (fun e he => hl e (List.mem_cons_of_mem _ he)) j h
      exact key _ (fun e he => by simpa using he)
    have hpre : ∀ p ∈ tmF, p.1 ∈ looksE L o → p ∈ tm := by
      intro p hp hl
      refine hk p ⟨hp, ?_⟩
      by_cases hd : p.1 ∈ dstsE L
      · obtain ⟨k, o', k1, k2⟩ := dstsE_get hd
        have := waitE_spec hw k o' p.1 k1 k2 hl
        exact .inr ⟨k, o', k1, k2, hon k (by simpa using this)⟩
      · exact .inl hd
    have hcount : ((listed.setIfInBounds i true).toList.filter (!·)).length ≤ fuel := by
      have h5 : ((listed.setIfInBounds i true).toList.filter (!·)).length + 1 = (listed.toList.filter (!·)).length := by
        rw [show (listed.setIfInBounds i true).toList = listed.toList.set i true by simp]
        exact count_set (by simp [his, hfalse])
      omega
    have hnext : ∀ a' w', Has C n ((d, s) :: delL tm d) mm a' w' → wpAny C.P .any L.toArray (QT C n P) fuel (listed.setIfInBounds i true) a' w' := by
      intro a' w' h'
      refine ih (listed.setIfInBounds i true) a' w' _ (by simpa using hsz) hcount (fun p hp => ?_) h'
      obtain ⟨g1, g2⟩ := hp
      by_cases hpd : p.1 = d
      · have : p = (d, s) := by
          exact keyF p g1 (d, s) e2 hpd
        rw [this]; exact List.mem_cons_self
      · refine List.mem_cons_of_mem _ (mem_delL (hk p ⟨g1, ?_⟩) hpd)
        rcases g2 with g2 | ⟨k, o', k1, k2, k3⟩
        · exact .inl g2
        · refine .inr ⟨k, o', k1, k2, ?_⟩
          have hki : i ≠ k := by
            intro e; subst e
            rw [hL] at k1; injection k1 with k1; subst k1
            rw [e1] at k2; injection k2 with k2; exact hpd k2.symm
          rwa [getD_set_ne false hki] at k3
    unfold wpOp
    simp only [List.getElem?_toArray, hL]
    have h6 := e3 tm hpre a w (wpAny C.P .any L.toArray (QT C n P) fuel (listed.setIfInBounds i true)) (QT C n P) hh hnext
    split
    · rename_i hwd; rw [if_pos hwd] at h6; exact .inl h6
    · rename_i hwd; rw [if_neg hwd] at h6; exact h6
def uniT : List Nat → TM → Bool
  | _, [] => true
  | ds, (t, _) :: r => match memN ds t with
    | true => false
    | false => uniT (t :: ds) r
theorem uniT_spec : ∀ {l : TM} {ds : List Nat}, uniT ds l = true → (∀ p ∈ l, p.1 ∉ ds) ∧ ∀ p ∈ l, ∀ q ∈ l, p.1 = q.1 → p = q
  | [], ds, _ => ⟨fun p hp => (by cases hp), fun p hp => (by cases hp)⟩
  | (t, s) :: r, ds, h => by
    unfold uniT at h
    split at h
    · cases h
    · rename_i hm
      obtain ⟨h1, h2⟩ := uniT_spec h
      have ht : t ∉ ds := fun hk => by rw [memN_iff.2 hk] at hm; cases hm
      refine ⟨fun p hp => ?_, fun p hp q hq he => ?_⟩
      · rcases List.mem_cons.1 hp with rfl | hp
        · exact ht
        · exact fun hk => h1 p hp (List.mem_cons_of_mem _ hk)
      · rcases List.mem_cons.1 hp with rfl | hp <;> rcases List.mem_cons.1 hq with rfl | hq
        · rfl
        · exact absurd (List.mem_cons.2 (.inl he.symm)) (h1 q hq)
        · exact absurd (List.mem_cons.2 (.inl he)) (h1 p hp)
        · exact h2 p hp q hq he
theorem g_draw {f : FuncId} {R : Ending → World → Prop} {k : List Item} {id : Nat} (hmix : C.P.follows .mixedOrders = true) (hok : okR L [] L 0 = true) (hu : uniT (dstsE L) tm0 = true)
    (h : DOps C n mm L tm0 L tm0 (fun tm' => Goes C f n R k tm' mm)) : Goes C f n R (.code (.region id L.toArray true) :: k) tm0 mm := by
  obtain ⟨u1, u2⟩ := uniT_spec hu
  obtain ⟨tmF, hg, hF, hbase, hkeys⟩ := h [] 0 ⟨fun o ho => (by cases ho), u2, fun p hp _ => hp, hok, rfl⟩
  intro a w hh b cs hb hk
  have hany := any_ok (P := fun tm' mm' => Goes C f n R k tm' mm') hok hF hkeys hg L.length (Array.replicate L.length false) a { w with drawn := w.drawn + 1 } tm0 (by simp)
    (by rw [show (Array.replicate L.length false).toList = List.replicate L.length false by simp]; exact Nat.le_trans (List.length_filter_le _ _) (by simp))
    (fun p hp => by
      obtain ⟨g1, g2 | ⟨k, o, k1, k2, k3⟩⟩ := hp
      · exact hbase p g1 g2
      · have hkl := (List.getElem?_eq_some_iff.1 k1).1
        simp [Array.getD, hkl] at k3) hh.drawn
  have hwp := wp_region_any (id := id) (Q := QT C n (fun tm' mm' => Goes C f n R k tm' mm')) (ops := L.toArray) (a := a) (w := w) hmix (by simpa using hany)
  obtain ⟨e, a', w', hq, harr⟩ := hwp b k cs
  cases e with
  | normal =>
    obtain ⟨tm', mm', hg, hh'⟩ := hq
    obtain ⟨e, w'', fr, g1, g2, g3⟩ := hg a' w' hh' b cs hb hk
    exact ⟨e, w'', fr, g1, Comes.of_steps harr g2, g3⟩
  | _ => exact hq.elim
def goD (Θ : Tab) (n : Nat) (mm : MM) (L : List Oper) : List Oper → TM → Out
  | [], tm => .stop [] tm mm
  | o :: r, tm => match guardL L (onlyE (looksE L o) tm) o with
    | some true => match o.dst, valE Θ (onlyE (looksE L o) tm) mm o.op with
      | some d, some st => match setE n d st tm with
        | some tm' => goD Θ n mm L r tm'
        | none => .stop (o :: r) tm mm
      | _, _ => .stop (o :: r) tm mm
    | some false => match o.dst with
      | some d => match setE n d (.tup []) tm with
        | some tm' => goD Θ n mm L r tm'
        | none => .stop (o :: r) tm mm
      | none => .stop (o :: r) tm mm
    | none => .stop (o :: r) tm mm
theorem goD_sound {Θ : Tab} (hΘ : tabOK C.P Θ) : ∀ {l : List Oper} {tm : TM} {l' : List Oper} {tm' : TM} {mm' : MM},
    goD Θ n mm L l tm = .stop l' tm' mm' → DOps C n mm L tm0 l' tm' T → DOps C n mm L tm0 l tm T
  | [], tm, l', tm', mm', h, k => by
    simp only [goD, Out.stop.injEq] at h
    obtain ⟨rfl, rfl, _⟩ := h
    exact k
  | o :: r, tm, l', tm', mm', h, k => by
    have same : Out.stop (o :: r) tm mm = .stop l' tm' mm' → DOps C n mm L tm0 (o :: r) tm T := by
      intro e
      injection e with e1 e2 e3
      subst e1 e2
      exact k
    unfold goD at h
    split at h
    · rename_i hg
      split at h
      · rename_i d st hd hv
        split at h
        · rename_i tm1 hs
          obtain ⟨hn, rfl⟩ := setE_eq hs
          exact DOps.step hg (valE_sound hΘ hv hd hn).toX (goD_sound hΘ h k)
        · exact same h
      · exact same h
    · rename_i hg
      split at h
      · rename_i d hd
        split at h
        · rename_i tm1 hs
          obtain ⟨hn, rfl⟩ := setE_eq hs
          exact DOps.skip hg hd hn (goD_sound hΘ h k)
        · exact same h
      · exact same h
    · exact same h
def runD (Θ : Tab) (n : Nat) (mm : MM) (L : List Oper) (l : List Oper) (tm : TM) : Option Out :=
  match nrmT tm with
  | some tm' => match goD Θ n mm L l tm' with
    | .stop a b c => some (.stop a b c)
    | .bad => none
  | none => none
theorem drun_ {Θ : Tab} (hΘ : tabOK C.P Θ) {l' : List Oper} {tm' : TM} {mm' : MM}
    (h : runD Θ n mm L l tm = some (.stop l' tm' mm')) (k : DOps C n mm L tm0 l' tm' T) : DOps C n mm L tm0 l tm T := by
  unfold runD at h
  split at h
  · rename_i tm1 h1
    rw [← nrmT_eq h1]
    split at h
    · rename_i a b c h3
      injection h with h
      injection h with e1 e2 e3
      subst e1 e2 e3
      exact goD_sound hΘ h3 k
    · cases h
  · cases h
variable {t : Nat}
theorem d_split {b : Bool} (hn : needT L o = some t) (ht : getT tm t = some (.v (.one (.c (.bool b))))) (hin : memN (dstsE L) t = true)
    (h1 : b = true → DOps C n mm L tm0 (o :: l) ((t, .v (.one (.lit true))) :: delL tm t) T)
    (h2 : b = false → DOps C n mm L tm0 (o :: l) ((t, .v (.one (.lit false))) :: delL tm t) T) : DOps C n mm L tm0 (o :: l) tm T :=
  have _ := hn
  DOps.split hin (getT_mem ht) h1 h2
theorem d_step {st : ST} (h : OpV C n o (onlyE (looksE L o) tm) mm d st) (hg : guardL L (onlyE (looksE L o) tm) o = some true) (k : DOps C n mm L tm0 l ((d, st) :: delL tm d) T) :
    DOps C n mm L tm0 (o :: l) tm T := DOps.step hg h.toX k
variable {x y : Operand} {ty ty' : TypeId}
theorem d_subI {a b : Int} (ho : o.op = .binOp .sub ty x y ty') (hx : evalC (onlyE (looksE L o) tm) x = some (.c (.int .i64 a))) (hy : evalC (onlyE (looksE L o) tm) y = some (.c (.int .i64 b))) (hd : o.dst = some d) (hn : Nat.blt d n = true) (hg : guardL L (onlyE (looksE L o) tm) o = some true)
    (hr : -9223372036854775808 ≤ a - b ∧ a - b ≤ 9223372036854775807) (k : DOps C n mm L tm0 l ((d, .v (.one (.c (.int .i64 (a - b))))) :: delL tm d) T) : DOps C n mm L tm0 (o :: l) tm T :=
  d_step (op_arith (p := .sub) ho hx hy (IntWalk.i64_in _ (by omega)) hd hn) hg k
theorem d_rem {kd : IntKind} {a b : Int} (ho : o.op = .binOp .rem ty x y ty') (hx : evalC (onlyE (looksE L o) tm) x = some (.c (.int kd a))) (hy : evalC (onlyE (looksE L o) tm) y = some (.c (.int kd b))) (hd : o.dst = some d) (hn : Nat.blt d n = true) (hg : guardL L (onlyE (looksE L o) tm) o = some true)
    (hr : b ≠ 0) (k : DOps C n mm L tm0 l ((d, .v (.one (.c (.int kd (a.tmod b))))) :: delL tm d) T) : DOps C n mm L tm0 (o :: l) tm T :=
  d_step (op_arith (p := .rem) ho hx hy ⟨hr, rfl⟩ hd hn) hg k
theorem d_idx {Θ : Tab} (hΘ : tabOK C.P Θ) {nn : Bool} {sz : Nat} {xs : List (List CT)} {kd : IntKind} {m : Int} {e : Nat} {z bts : Nat} {ag : Bool} {zr : Option (List CT)} {ei : TyI}
    (ho : o.op = .indexAddr ty x y) (ht : tyGet Θ ty = some ⟨z, bts, ag, zr, .slice e⟩) (hei : tyGet Θ e = some ei) (hx : evalC (onlyE (looksE L o) tm) x = some (.c (.slice nn sz xs))) (hsz : Nat.beq ei.size sz = true)
    (hi : evalC (onlyE (looksE L o) tm) y = some (.c (.int kd m))) (hd : o.dst = some d) (hn : Nat.blt d n = true) (hg : guardL L (onlyE (looksE L o) tm) o = some true)
    (j : Nat) (cs : List CT) (hm : m = (j : Int)) (hj : xs[j]? = some cs) (k : DOps C n mm L tm0 l ((d, .v (.one (.eptr cs))) :: delL tm d) T) : DOps C n mm L tm0 (o :: l) tm T :=
  d_step (op_idx hΘ ho ht hei hsz hx hi hm hj hd hn) hg k
theorem d_call {g : FuncId} {pre post : List (List CT)} {args args' : List SV} {res : ST} (hc : Con C.P g pre args res post) (ids : List Nat) {xs : Array Operand} {ts : Array TypeId}
    (ho : o.op = .call { callee := .value (.func g), args := xs, argTypes := ts }) (hargs : evalArgs (onlyE (looksE L o) tm) xs.toList = some args') (hren : renVs ids args = some args') (hpre : preE mm ids = some pre)
    (hnd : noDup ids = true) (hlen : post.length = pre.length) (hpure : pureS res = true) (hd : o.dst = some d) (hn : Nat.blt d n = true) (hg : guardL L (onlyE (looksE L o) tm) o = some true) (hsame : updMs mm ids post = mm)
    (k : DOps C n mm L tm0 l ((d, res) :: delL tm d) T) : DOps C n mm L tm0 (o :: l) tm T :=
  DOps.step hg (op_callX hc ids ho hargs hren hpre hnd hlen hpure hd hn hsame) k
end
end Go.Sy
