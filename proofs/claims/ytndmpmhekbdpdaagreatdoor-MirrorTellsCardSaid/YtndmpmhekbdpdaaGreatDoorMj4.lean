/- Layer: a drawn region whose chain stores into rows of one's own; make of rows of several cells. -/
import Derived.Test.YtndmpmhekbdpdaaGreatDoorSy8
import Derived.Test.YtndmpmhekbdpdaaGreatDoorBu1
import Derived.MapKept
set_option linter.unusedSimpArgs false
set_option linter.unusedVariables false
set_option linter.unusedSectionVars false
namespace Go.Sy
open Go.RowKit
def depsL (L : List Oper) : List Nat → List Nat
  | [] => []
  | e :: r => (match nthO L e with | some o => ons o.after.toList | none => []) ++ depsL L r
def expE (L : List Oper) : Nat → List Nat → List Nat
  | 0, S => S
  | k + 1, S => expE L k (S ++ depsL L S)
theorem depsL_down {L : List Oper} {listed : Array Bool} (hdn : DownL L listed) : ∀ {S : List Nat}, (∀ e ∈ S, listed.getD e false = true) → ∀ i ∈ depsL L S, listed.getD i false = true
  | [], _, i, hi => by cases hi
  | e :: r, h, i, hi => by
    unfold depsL at hi
    rcases List.mem_append.1 hi with hi | hi
    · cases ho : nthO L e with
      | none => rw [ho] at hi; cases hi
      | some o =>
        rw [ho] at hi
        exact hdn e o (by rw [← nthO_get]; exact ho) (h e List.mem_cons_self) i hi
    · exact depsL_down hdn (fun e' he => h e' (List.mem_cons_of_mem _ he)) i hi
theorem expE_down {L : List Oper} {listed : Array Bool} (hdn : DownL L listed) : ∀ (k : Nat) {S : List Nat}, (∀ e ∈ S, listed.getD e false = true) → ∀ i ∈ expE L k S, listed.getD i false = true
  | 0, _, h, i, hi => h i hi
  | k + 1, S, h, i, hi => by
    unfold expE at hi
    refine expE_down hdn k (fun e he => ?_) i hi
    rcases List.mem_append.1 he with he | he
    · exact h e he
    · exact depsL_down hdn h e he
section
variable {C : Ctx} {n : Nat} {L : List Oper} {tm : TM}
end
section
variable {C : Ctx} {n : Nat} {L l : List Oper} {o : Oper} {d : Nat}
variable {ι : Type} {tmF : TM} {ET : Nat → ι → TM} {MMx : Nat → ι → MM} {k : Nat} {x : ι}
variable {tm tm0 : TM} {E : List Nat} {i : Nat} {mmf : Nat → MM} {TF : TM → Prop} {p q : Operand} {ty ty' : TypeId}
end
section
variable {C : Ctx} {n : Nat} {tm : TM} {mm : MM} {o : Oper} {d : Nat} {x y : Operand}
end
section
variable {C : Ctx} {n : Nat} {tm : TM} {mm : MM} {L l : List Oper} {T : TM → MM → Prop} {o : Oper} {d : Nat} {x y : Operand}
end
section
variable {C : Ctx} {n : Nat} {tm tm0 : TM} {mm : MM} {L l : List Oper} {T : TM → Prop} {o : Oper} {d : Nat} {x y : Operand} {ty ty' : TypeId}
end
section
variable {C : Ctx} {n : Nat} {tm : TM} {mm : MM} {L l : List Oper} {T : TM → MM → Prop} {o : Oper} {d : Nat} {x : Operand}
theorem op_plen {Θ : Tab} (hΘ : tabOK C.P Θ) {t : TypeId} {z bts e : Nat} {ag : Bool} {zr : Option (List CT)} {i c e' sz : Nat} {qs : PQ} {v : Value} {xs : List (List CT)}
    (ho : o.op = .call { callee := .builtin .len, args := #[x], argTypes := #[t] }) (ht : tyGet Θ t = some ⟨z, bts, ag, zr, .slice e⟩)
    (hx : evalC tm x = some (.c (.val v))) (hi : getM mm i = some (.pool e' sz qs)) (hk : qs[c]? = some (v, xs)) (hd : o.dst = some d) (hn : Nat.blt d n = true) :
    OpV C n o tm mm d (.v (.one (.c (.int .i64 (xs.length : Int))))) :=
  OpV.val hd hn _ fun H Z a w hmod => by
    obtain ⟨inf, de, hf⟩ := tyF hΘ ht
    have hde : de = .slice e := by
      have := hf.sh
      cases de <;> simp [shChk] at this ⊢
      exact this
    subst hde
    obtain ⟨_, hpool⟩ := hmod.mem _ (getM_mem hi)
    have hpool : PoolOK w (Mof C H mm) e' sz qs := hpool
    obtain ⟨us, g1, _, _⟩ := hpool.row hk
    have hv := RepC.val_inv (evalC_rep hmod hx)
    have hshape : ∃ (ad : Option Addr) (c : Nat), a.eval x = .slice ad xs.length c := by
      rcases g1.2 with ⟨hh, hz⟩ | ⟨g, cap, cur, hh, _⟩
      · rw [hv, hh, hz]; exact ⟨_, _, rfl⟩
      · rw [hv, hh]; exact ⟨_, _, rfl⟩
    obtain ⟨ad, c, hv⟩ := hshape
    refine ⟨.int .i64 (xs.length : Int), ?_, .int _ _⟩
    simp [execOp, ho, resolve, invoke, builtin, Builtin.len_, hf.underlying, hv, goInt]
theorem s_plen {Θ : Tab} (hΘ : tabOK C.P Θ) {t : TypeId} {z bts e : Nat} {ag : Bool} {zr : Option (List CT)} {e' sz : Nat} {qs : PQ} {v : Value} {xs : List (List CT)} (i c : Nat)
    (ho : o.op = .call { callee := .builtin .len, args := #[x], argTypes := #[t] }) (ht : tyGet Θ t = some ⟨z, bts, ag, zr, .slice e⟩)
    (hx : evalC tm x = some (.c (.val v))) (hi : getM mm i = some (.pool e' sz qs)) (hk : qs[c]? = some (v, xs)) (hd : o.dst = some d) (hn : Nat.blt d n = true) (hg : guardL L tm o = some true) (m : Int) (hm : (xs.length : Int) = m)
    (k : SOps C n L.toArray l ((d, .v (.one (.c (.int .i64 m)))) :: delL tm d) mm T) : SOps C n L.toArray (o :: l) tm mm T := by
  subst hm
  exact s_step (op_plen hΘ ho ht hx hi hk hd hn).wp hg k
end
section
variable {C : Ctx} {n : Nat} {tm : TM} {mm : MM} {f : FuncId} {R : Ending → World → Prop} {k : List Item}
end
section
variable {C : Ctx} {n : Nat} {tm : TM} {mm : MM} {f : FuncId} {R : Ending → World → Prop} {k : List Item}
def headI : List Item → Option Nat
  | .code (.region i _ _) :: _ => some i
  | .code (.seq (.region i _ _) _) :: _ => some i
  | _ => none
theorem g_atR (i : Nat) (_ : headI k = some i) (h : Goes C f n R k tm mm) : Goes C f n R k tm mm := h
end
section
variable {C : Ctx} {n : Nat} {tm : TM} {mm : MM} {f : FuncId} {R : Ending → World → Prop} {k : List Item}
end
section
variable {C : Ctx} {n : Nat} {tm : TM} {mm : MM} {o : Oper} {d : Nat}
theorem op_pstoref {Θ : Tab} (hΘ : tabOK C.P Θ) {t : TypeId} {ti : TyI} {x y : Operand} {i k j off e sz : Nat} {qs : PQ} {v : Value} {xs : List (List CT)} {s : SV} {cs x0 x1 : List CT}
    (ho : o.op = .store t x y) (ht : tyGet Θ t = some ti) (hx : evalC tm x = some (.c (.val (ptrV v (j * sz + off))))) (hi : getM mm i = some (.pool e sz qs)) (hk : qs[k]? = some (v, xs)) (hj : xs[j]? = some x0)
    (hy : evalV tm y = some s) (hc : ctsOf s.cells = some cs) (hsz : Nat.beq cs.length ti.size = true) (hsp : spliceL x0 off cs = some x1) (hkn : s.cells.all SC.known = true) (hig : Nat.blt i given = true) (hno : noUse i mm = true) (hd : o.dst = none) :
    OpR C n o tm mm (dropU i tm) (updM mm i (.pool e sz (qs.set k (v, xs.set j x1)))) := by
  intro a w ⟨H, Z, hm⟩
  obtain ⟨inf, de, hf⟩ := tyF hΘ ht
  obtain ⟨hH, hpool⟩ := hm.mem _ (getM_mem hi)
  have hpool : PoolOK w (Mof C H mm) e sz qs := hpool
  obtain ⟨us, hown, hlen, hrep⟩ := hpool.row hk
  have hx' := RepC.val_inv (evalC_rep hm hx)
  obtain ⟨hxe, hoff⟩ := spliceL_spec hsp
  have hjl : j < xs.length := (List.getElem?_eq_some_iff.1 hj).1
  have hx0 : x0.length = sz := hlen x0 (List.mem_of_getElem? hj)
  have hcl : cs.length = ti.size := Nat.eq_of_beq_eq_true hsz
  obtain ⟨c1, c2⟩ := (evalV_rep hm hy).cells hm hkn
  have hcp : Pw (fun u c => RepC w (Mof C H mm) u c) (a.eval y).cells.toList cs :=
    ctsOf_pw hc ⟨by simpa using c1, fun j c hc => let ⟨u, hu, _, hr⟩ := c2 j c hc; ⟨u, by simpa using hu, hr⟩⟩
  have hone : ∀ v ∈ (a.eval y).cells.toList, v.oneCell' = true := by
    intro v hv
    obtain ⟨j, hj, hjv⟩ := List.mem_iff_getElem.1 hv
    have hjl : j < cs.length := by rw [← hcp.1]; exact hj
    obtain ⟨u, hu, hr⟩ := hcp.2 j cs[j] (List.getElem?_eq_getElem hjl)
    rw [List.getElem?_eq_getElem hj, hjv] at hu
    injection hu with hu
    rw [hu]; exact hr.one
  have hcsl : (a.eval y).cells.toList.length = cs.length := hcp.1
  rcases hown.2 with ⟨_, h0⟩ | ⟨g, cap, cur, hv, hg0, hheap, hcap, hmax, hcur, htake⟩
  · omega
  subst hv
  simp only [ptrV, add_mk, Nat.zero_add] at hx'
  have hjs : j * sz + sz ≤ xs.length * sz := by
    have := Nat.mul_le_mul_right sz (show j + 1 ≤ xs.length from hjl)
    rw [Nat.add_mul] at this; omega
  have hcaps : xs.length * sz ≤ cap * sz := Nat.mul_le_mul_right _ hcap
  obtain ⟨p, hp⟩ : ∃ p, p = j * sz + off := ⟨_, rfl⟩
  have hpe : p + cs.length ≤ j * sz + sz := by omega
  rw [← hp] at hx'
  have hrun := run_storeCells_at (P := C.P) g p e (a.eval y).cells.toList 0 cur w hheap (by rw [hcsl, hcur]; omega) hone
  have hsize : (a.eval y).cells.size = ti.size := by rw [← hcl, ← hcsl]; simp
  have hrow := setRow_heap w g cur (cur.toList.take (p + 0) ++ (a.eval y).cells.toList ++ cur.toList.drop (p + 0 + (a.eval y).cells.toList.length)).toArray e (0, 0) hheap
  have hext := setRow_ext w g (cur.toList.take (p + 0) ++ (a.eval y).cells.toList ++ cur.toList.drop (p + 0 + (a.eval y).cells.toList.length)).toArray
  generalize hw' : w.setRow g (cur.toList.take (p + 0) ++ (a.eval y).cells.toList ++ cur.toList.drop (p + 0 + (a.eval y).cells.toList.length)).toArray = w' at hrow hext hrun
  have hvmem : (Value.slice (some ⟨g, 0, none⟩) xs.length cap, xs) ∈ qs := List.mem_of_getElem? hk
  have hus : us = cur.toList.take (xs.length * sz) := htake.symm
  have hcurl : cur.toList.length = cap * sz := by simpa using hcur
  refine .inr ⟨w', ?_, Sy.upd H i (poolV (qs.set k (.slice (some ⟨g, 0, none⟩) xs.length cap, xs.set j x1))), Z, ?_⟩
  · simp only [execOp, ho, hx', Instr.storeAt, Instr.sureAddr, storeVar, Sem.run_bind, Sem.run_pure, Result.andThen_ok, hf.sizeOf, hsize, ne_eq, not_true, if_false, hrun]
  · rw [hd]
    refine hm.setPool hi (Nat.blt_eq.mp hig) hno (hext.weak fun b _ hb => ⟨_, hvmem, by rw [hb]; rfl⟩) (by simpa [Act.put] using hm.defers) (by simp [Act.put, hm.size]) ?_ ?_ ?_
    · intro q hq b hqb
      rcases List.mem_or_eq_of_mem_set hq with hq | rfl
      · exact .inl ⟨q, hq, hqb⟩
      · exact .inl ⟨_, hvmem, hqb⟩
    · intro M' hMM hfr
      have hx1 : x1.length = sz := by rw [hxe, List.length_append, List.length_append, List.length_take, List.length_drop, hx0]; omega
      refine hpool.set hk ⟨us.take p ++ (a.eval y).cells.toList ++ us.drop (p + cs.length), ⟨?_, .inr ⟨g, cap, _, by simp, hg0, hrow, by simpa using hcap, hmax, ?_, ?_⟩⟩, fun q hq => ?_, fun l q hq m ct hct => ?_⟩ hext.size
        (fun b hb hne => hext.block b hb (fun e => hne (by rw [e]; rfl))) hfr hMM (fun b hb => .inl hb)
      · have hul := hown.1
        rw [List.length_append, List.length_append, List.length_take, List.length_drop, hcsl, hul, List.length_set]; omega
      · rw [List.size_toArray, List.length_append, List.length_append, List.length_take, List.length_drop, hcsl, hcurl]; omega
      · simp only [List.length_set, Nat.add_zero]
        rw [splice_take (by rw [hcsl]; omega) (by omega), htake, hcsl]
      · rcases List.mem_or_eq_of_mem_set hq with hq | rfl
        · exact hlen q hq
        · exact hx1
      · have hul : us.length = xs.length * sz := hown.1
        rw [List.getElem?_set] at hq
        have hlsz : ∀ {q : List CT}, q.length = sz → q[m]? = some ct → m < sz := fun h1 h2 => by rw [← h1]; exact (List.getElem?_eq_some_iff.1 h2).1
        have hget : ∀ {r u}, us[r]? = some u → (r < p ∨ p + cs.length ≤ r) → (us.take p ++ (a.eval y).cells.toList ++ us.drop (p + cs.length))[r]? = some u := by
          intro r u hu hr
          have hrl := (List.getElem?_eq_some_iff.1 hu).1
          rcases hr with hr | hr
          · rw [List.append_assoc, List.getElem?_append_left (by rw [List.length_take]; omega), List.getElem?_take, if_pos hr]
            exact hu
          · rw [List.getElem?_append_right (by rw [List.length_append, List.length_take, hcsl]; omega), List.getElem?_drop]
            rw [← hu]; congr 1; rw [List.length_append, List.length_take, hcsl]; omega
        split at hq
        · rename_i hjl'; subst hjl'
          injection hq with hq; subst hq
          have hm' := hlsz hx1 hct
          by_cases hmo : m < off ∨ off + cs.length ≤ m
          · have hct0 : x0[m]? = some ct := by
              rw [hxe] at hct
              rcases hmo with hmo | hmo
              · rw [List.append_assoc, List.getElem?_append_left (by rw [List.length_take]; omega), List.getElem?_take, if_pos hmo] at hct
                exact hct
              · rw [List.getElem?_append_right (by rw [List.length_append, List.length_take]; omega), List.getElem?_drop] at hct
                rw [← hct]; congr 1; rw [List.length_append, List.length_take]; omega
            obtain ⟨u, hu, hr⟩ := hrep j x0 hj m ct hct0
            exact ⟨u, hget hu (by omega), RepC.mono hr hext.size hfr hMM⟩
          · have hctc : cs[m - off]? = some ct := by
              rw [hxe, List.getElem?_append_left (by rw [List.length_append, List.length_take]; omega), List.getElem?_append_right (by rw [List.length_take]; omega)] at hct
              rw [← hct]; congr 1; rw [List.length_take]; omega
            obtain ⟨u, hu, hr⟩ := hcp.2 (m - off) ct hctc
            refine ⟨u, ?_, RepC.mono hr hext.size hfr hMM⟩
            rw [List.getElem?_append_left (by rw [List.length_append, List.length_take, hcsl, hul]; omega), List.getElem?_append_right (by rw [List.length_take, hul]; omega)]
            rw [← hu]; congr 1; rw [List.length_take, hul]; omega
        · rename_i hjl'
          have hl : l < xs.length := (List.getElem?_eq_some_iff.1 hq).1
          have hm' := hlsz (hlen q (List.mem_of_getElem? hq)) hct
          obtain ⟨u, hu, hr⟩ := hrep l q hq m ct hct
          refine ⟨u, hget hu ?_, RepC.mono hr hext.size hfr hMM⟩
          rcases Nat.lt_or_ge l j with hlt | hge
          · have hle : l * sz + sz ≤ j * sz := by
              have := Nat.mul_le_mul_right sz (show l + 1 ≤ j from hlt)
              rw [Nat.add_mul] at this; omega
            omega
          · have hle : j * sz + sz ≤ l * sz := by
              have := Nat.mul_le_mul_right sz (show j + 1 ≤ l by omega)
              rw [Nat.add_mul] at this; omega
            omega
    · intro p hp
      obtain ⟨h1, h2⟩ := dropU_mem hp
      exact .inl ⟨p, h1, rfl, rfl, h2⟩
theorem op_pfield {Θ : Tab} (hΘ : tabOK C.P Θ) {t : TypeId} {z bts : Nat} {ag : Bool} {zr : Option (List CT)} {fs : List (Nat × Nat)} {x : Operand} {k off : Nat} {v : Value} {i c q e sz : Nat} {qs : PQ} {xs : List (List CT)}
    (ho : o.op = .fieldAddr t x k) (ht : tyGet Θ t = some ⟨z, bts, ag, zr, .struct fs⟩) (hx : evalC tm x = some (.c (.val (ptrV v q)))) (hi : getM mm i = some (.pool e sz qs)) (hc : qs[c]? = some (v, xs)) (hpos : 0 < xs.length) (hk : fieldOff fs k = some off)
    (hd : o.dst = some d) (hn : Nat.blt d n = true) :
    OpV C n o tm mm d (.v (.one (.c (.val (ptrV v (q + off)))))) :=
  OpV.val hd hn _ fun H Z a w hm => by
    obtain ⟨inf, de, hf⟩ := tyF hΘ ht
    have hx' := RepC.val_inv (evalC_rep hm hx)
    obtain ⟨hH, hpool⟩ := hm.mem _ (getM_mem hi)
    have hpool : PoolOK w (Mof C H mm) e sz qs := hpool
    obtain ⟨us, g1, _⟩ := hpool.row hc
    obtain ⟨ad, hv, hrep⟩ : ∃ ad : Addr, a.eval x = .pointer (some ad) ∧ RepC w (Mof C H mm) (.pointer (some (ad.add off))) (.val (ptrV v (q + off))) := by
      rcases g1.2 with ⟨_, h0⟩ | ⟨b, cap, cur, rfl, rest⟩
      · omega
      refine ⟨_, hx', ?_⟩
      simp only [ptrV]
      rw [add_add]
      exact RepC.val _ rfl
    have hsh := hf.sh
    cases de <;> simp only [shChk] at hsh <;> try (cases hsh; done)
    rename_i fields
    simp only [Bool.and_eq_true] at hsh
    obtain ⟨s1, s2⟩ := hsh
    have hfs : fields.toList.map (fun f => (f.offset, f.type)) = fs := by simpa using s1
    have hget : ∀ (l : List (Nat × Nat)) (q : Nat) (o' : Nat), fieldOff l q = some o' → ∃ t', l[q]? = some (o', t') := by
      intro l
      induction l with
      | nil => intro q o' h; cases q <;> simp [fieldOff] at h
      | cons p l ih =>
        intro q o' h
        obtain ⟨p1, p2⟩ := p
        cases q with
        | zero => simp [fieldOff] at h; subst h; exact ⟨p2, rfl⟩
        | succ q => simp [fieldOff] at h; simpa using ih q o' h
    obtain ⟨t', ht'⟩ := hget fs k off hk
    rw [← hfs] at ht'
    simp at ht'
    obtain ⟨f, hf1, hf2, hf3⟩ := ht'
    have hnz : C.P.cellsOf f.type ≠ 0 := by
      have := Array.all_eq_true.1 s2
      obtain ⟨hlt, hfe⟩ := Array.getElem?_eq_some_iff.1 hf1
      have := this k hlt
      rw [hfe] at this
      simpa using this
    have hplace : (fieldPlace ad f).run C.P w = .ok (ad.add f.offset) w := by
      unfold fieldPlace
      unfold Program.cellsOf at hnz
      cases hq : C.P.info? f.type with
      | none => rw [hq] at hnz; simp at hnz
      | some jn =>
        rw [hq] at hnz
        simp at hnz
        simp [sizeOf, typeInfo, hq, hnz]
    refine ⟨.pointer (some (ad.add off)), ?_, hrep⟩
    simp [execOp, ho, hv, Instr.fieldAt, hf.underlying, hf1, Instr.sureAddr, hplace, hf2]
theorem op_ploadf {Θ : Tab} (hΘ : tabOK C.P Θ) {t : TypeId} {ti : TyI} {x : Operand} {i k j off e sz : Nat} {qs : PQ} {v : Value} {xs : List (List CT)} {cs0 cs : List CT} {s : SV}
    (ho : o.op = .load t x) (ht : tyGet Θ t = some ti) (hx : evalC tm x = some (.c (.val (ptrV v (j * sz + off))))) (hi : getM mm i = some (.pool e sz qs)) (hk : qs[k]? = some (v, xs)) (hj : xs[j]? = some cs0)
    (hs : subL cs0 off ti.size = some cs) (hv : mkV SC.c ti.agg cs = some s) (hd : o.dst = some d) (hn : Nat.blt d n = true) :
    OpV C n o tm mm d (.v s) :=
  OpV.val hd hn _ fun H Z a w hm => by
    obtain ⟨inf, de, hf⟩ := tyF hΘ ht
    obtain ⟨hH, hpool⟩ := hm.mem _ (getM_mem hi)
    have hpool : PoolOK w (Mof C H mm) e sz qs := hpool
    obtain ⟨us, g1, g3, g4⟩ := hpool.row hk
    have hx' := RepC.val_inv (evalC_rep hm hx)
    have hlt : j < xs.length := (List.getElem?_eq_some_iff.1 hj).1
    have hcl0 : cs0.length = sz := g3 cs0 (List.mem_of_getElem? hj)
    obtain ⟨hce, hlen⟩ := subL_spec hs
    have hcl : cs.length = ti.size := hlen
    have hts : ti.size = ti.size := rfl
    obtain ⟨pp, hpp⟩ : ∃ pp, pp = j * sz + off := ⟨_, rfl⟩
    have hcg : ∀ (m : Nat) (c : CT), cs[m]? = some c → cs0[off + m]? = some c := fun m c hc => by
      rw [hce, List.getElem?_take] at hc
      split at hc
      · rwa [List.getElem?_drop] at hc
      · cases hc
    rcases g1.2 with ⟨_, h0⟩ | ⟨b, cap, cur, rfl, rest⟩
    · omega
    rw [← hpp] at hx'
    simp only [ptrV, add_mk, Nat.zero_add] at hx'
    have hown : ∀ q u, us[q]? = some u → w.cell? ⟨b, q, none⟩ = some u := by
      intro q u hq
      have := World.ownsRow.cells g1 (g := b) rfl q u hq
      rwa [add_mk, Nat.zero_add] at this
    have hch : ∀ m, m ≤ cs.length → ∃ vs : List Value, vs.length = m ∧ (∀ (q : Nat) (u : Value), vs[q]? = some u → w.cell? ((⟨b, pp, none⟩ : Addr).add q) = some u) ∧
        Pw (fun u c => RepC w (Mof C H mm) u c) vs (cs.take m) := by
      intro m
      induction m with
      | zero => intro _; exact ⟨[], rfl, fun q u hu => by simp at hu, by simpa using Pw.nil⟩
      | succ m ih =>
        intro hmle
        obtain ⟨vs, k1, k2, k3⟩ := ih (by omega)
        obtain ⟨u, hu, hr⟩ := g4 j cs0 hj (off + m) cs[m] (hcg m _ (List.getElem?_eq_getElem (by omega)))
        refine ⟨vs ++ [u], by simp [k1], fun q v hq => ?_, ?_⟩
        · rw [List.getElem?_append] at hq
          split at hq
          · exact k2 q v hq
          · rename_i hjq
            have hj0 : q - vs.length = 0 := by
              rcases Nat.eq_zero_or_pos (q - vs.length) with h0 | h0
              · exact h0
              · rw [List.getElem?_eq_none (by simp; omega)] at hq; cases hq
            rw [hj0] at hq
            simp at hq; subst hq
            have : q = m := by omega
            subst this
            rw [add_mk]
            exact hown _ _ (by rw [show pp + q = j * sz + (off + q) by omega]; exact hu)
        · rw [List.take_succ_eq_append_getElem (by omega)]
          exact k3.append (Pw.cons hr Pw.nil)
    obtain ⟨vs, k1, k2, k3⟩ := hch cs.length (Nat.le_refl _)
    rw [List.take_length] at k3
    obtain ⟨v, hr, q1, q2⟩ := run_loadVar_pw (w := w) hf ⟨b, pp, none⟩ vs (by rw [k1, hcl, hts]) k2 (fun ha => by
        rw [k1]
        rw [ha] at hv
        unfold mkV at hv
        split at hv <;> first | (rename_i hh; cases hh; done) | rfl | (cases hv; done))
    refine ⟨v, by simp [execOp, ho, hx', Instr.loadAt, Instr.sureAddr, hr], ?_⟩
    exact mkV_rep (f := SC.c) hv k3 q1 q2
end
section
variable {C : Ctx} {n : Nat} {tm : TM} {mm : MM} {L l : List Oper} {T : TM → MM → Prop} {o : Oper} {d : Nat} {x y : Operand}
theorem s_pfield {Θ : Tab} (hΘ : tabOK C.P Θ) {t : TypeId} {z bts : Nat} {ag : Bool} {zr : Option (List CT)} {fs : List (Nat × Nat)} {k off : Nat} {v : Value} {i c q e sz : Nat} {qs : PQ} {xs : List (List CT)}
    (ho : o.op = .fieldAddr t x k) (ht : tyGet Θ t = some ⟨z, bts, ag, zr, .struct fs⟩) (hx : evalC tm x = some (.c (.val (ptrV v q)))) (hi : getM mm i = some (.pool e sz qs)) (hk : fieldOff fs k = some off) (hd : o.dst = some d) (hn : Nat.blt d n = true) (hg : guardL L tm o = some true)
    (hc : qs[c]? = some (v, xs)) (hpos : 0 < xs.length) (g : SOps C n L.toArray l ((d, .v (.one (.c (.val (ptrV v (q + off)))))) :: delL tm d) mm T) : SOps C n L.toArray (o :: l) tm mm T :=
  s_step (op_pfield hΘ ho ht hx hi hc hpos hk hd hn).wp hg g
theorem s_ploadf {Θ : Tab} (hΘ : tabOK C.P Θ) {t : TypeId} {ti : TyI} {i k j off e sz : Nat} {qs : PQ} {v : Value} {xs : List (List CT)} {cs0 cs : List CT} {s : SV}
    (ho : o.op = .load t x) (ht : tyGet Θ t = some ti) (hx : evalC tm x = some (.c (.val (ptrV v (j * sz + off))))) (hi : getM mm i = some (.pool e sz qs)) (hd : o.dst = some d) (hn : Nat.blt d n = true) (hg : guardL L tm o = some true)
    (hk : qs[k]? = some (v, xs)) (hj : xs[j]? = some cs0) (hs : subL cs0 off ti.size = some cs) (hv : mkV SC.c ti.agg cs = some s) (g : SOps C n L.toArray l ((d, .v s) :: delL tm d) mm T) : SOps C n L.toArray (o :: l) tm mm T :=
  s_step (op_ploadf hΘ ho ht hx hi hk hj hs hv hd hn).wp hg g
end
inductive FzC (sz : Nat) (qs : PQ) : CT → CT → Prop
  | refl (c : CT) : FzC sz qs c c
  | row {v : Value} {xs : List (List CT)} (h : (v, xs) ∈ qs) : FzC sz qs (.val v) (.slice false sz xs)
inductive FzCs (sz : Nat) (qs : PQ) : List CT → List CT → Prop
  | refl (l : List CT) : FzCs sz qs l l
  | cons {a b : CT} {x y : List CT} (h : FzC sz qs a b) (hr : FzCs sz qs x y) : FzCs sz qs (a :: x) (b :: y)
inductive FzX (sz : Nat) (qs : PQ) : List (List CT) → List (List CT) → Prop
  | refl (l : List (List CT)) : FzX sz qs l l
  | cons {a b : List CT} {x y : List (List CT)} (h : FzCs sz qs a b) (hr : FzX sz qs x y) : FzX sz qs (a :: x) (b :: y)
theorem FzCs.get {sz : Nat} {qs : PQ} : ∀ {x y : List CT}, FzCs sz qs x y → x.length = y.length ∧ ∀ (j : Nat) (c : CT), y[j]? = some c → ∃ b, x[j]? = some b ∧ FzC sz qs b c
  | _, _, .refl l => ⟨rfl, fun j c h => ⟨c, h, .refl c⟩⟩
  | _, _, .cons h hr => by
    obtain ⟨h1, h2⟩ := hr.get
    refine ⟨by simp [h1], fun j c hc => ?_⟩
    cases j with
    | zero => simp at hc; subst hc; exact ⟨_, by simp, h⟩
    | succ j => simpa using h2 j c (by simpa using hc)
theorem FzX.get {sz : Nat} {qs : PQ} : ∀ {xs ys : List (List CT)}, FzX sz qs xs ys → xs.length = ys.length ∧ ∀ (i : Nat) (y : List CT), ys[i]? = some y → ∃ x, xs[i]? = some x ∧ FzCs sz qs x y
  | _, _, .refl l => ⟨rfl, fun j c h => ⟨c, h, .refl c⟩⟩
  | _, _, .cons h hr => by
    obtain ⟨h1, h2⟩ := hr.get
    refine ⟨by simp [h1], fun j c hc => ?_⟩
    cases j with
    | zero => simp at hc; subst hc; exact ⟨_, by simp, h⟩
    | succ j => simpa using h2 j c (by simpa using hc)
section
variable {C : Ctx} {n : Nat} {tm : TM} {mm : MM}
variable {f : FuncId} {R : Ending → World → Prop} {k : List Item}
end
section
variable {C : Ctx} {n : Nat} {L l : List Oper} {o : Oper} {d : Nat}
variable {ι : Type} {tmF : TM} {ET : Nat → ι → TM} {MMx : Nat → ι → MM} {k : Nat} {x : ι}
end
section
variable {C : Ctx} {n : Nat} {L l : List Oper} {tm tm0 : TM} {E : List Nat} {i : Nat} {mmf : Nat → MM} {TF : TM → Prop} {o : Oper} {d : Nat} {x : Operand}
def depN (m : Nat) (L : List Oper) (e0 i : Nat) : Bool := memN (expE L m [e0]) i
theorem g_drawF3 {ι : Type} (m q e0 : Nat) (E : List Nat) (ids ids0 : List Nat) (ET : Nat → ι → TM) (MMx : Nat → ι → MM) (x0 : ι) {mm : MM} {f : FuncId} {Rr : Ending → World → Prop} {k : List Item} {id : Nat} (hmix : C.P.follows .mixedOrders = true)
    (hm0 : MMx 0 x0 = mm) (hbase : ∀ k x, ∀ q ∈ outM ids mm, q ∈ MMx k x) (hbase0 : ∀ k x, k < q + 1 → ∀ q ∈ outM ids0 mm, q ∈ MMx k x) (hE0 : ET 0 x0 = []) (hET : ∀ k x, subE E L (ET k x) = true)
    (hok : okR2 L [] L 0 = true) (hu : uniT (dstsE L) (cutT (dstsE L) tm) = true) (hEl : E ≠ []) (hq : E[q]? = some e0) (hch : chainL L E = true)
    (h : FOps C n (fun i => match depN m L e0 i with | true => outM ids0 mm | false => outM ids mm) L (cutT (dstsE L) tm) E 0 L (cutT (dstsE L) tm) fun tmF => Effs C n L tmF ET MMx 0 E ∧ ∀ x, Goes C f n Rr k (tmF ++ ET E.length x) (MMx E.length x)) :
    Goes C f n Rr (.code (.region id L.toArray true) :: k) tm mm := by
  refine g_drawFm _ E ET MMx x0 hmix hm0 hE0 hET hok hu hEl hch (fun listed k hdn hst i hi hiE hf x => ?_) h
  cases hd : depN m L e0 i with
  | false => exact hbase k x
  | true =>
    refine hbase0 k x ?_
    rcases Nat.lt_or_ge k (q + 1) with hk | hk
    · exact hk
    · exfalso
      have := expE_down hdn m (S := [e0]) (fun e he => by rw [List.mem_singleton.1 he]; exact (hst _ _ hq).2 (by omega)) i (memN_iff.1 hd)
      rw [hf] at this; cases this
end
section
variable {C : Ctx} {n : Nat} {L : List Oper} {tm : TM}
theorem StatE.nil {ι : Type} {tmF : TM} {ET : Nat → ι → TM} {m : Nat} : StatE L tmF ET m [] := trivial
end
section
variable {C : Ctx} {f : FuncId} {n : Nat} {R : Ending → World → Prop} {k : List Item} {tm : TM} {mm : MM}
theorem g_loopU {c : Code} (g : Goes C f n R (.code c :: .inLoop c :: k) tm mm) : Goes C f n R (.code (.loop c) :: k) tm mm := Goes.step (fun _ _ _ _ => step_loop) g
theorem g_inLoopU {c : Code} (g : Goes C f n R (.code c :: .inLoop c :: k) tm mm) : Goes C f n R (.inLoop c :: k) tm mm := Goes.step (fun _ _ _ _ => step_inLoop) g
end
section
variable {C : Ctx} {n : Nat} {tm : TM} {mm : MM} {o : Oper} {d : Nat} {α : Type} [DecidableEq α]
end
abbrev CarM := List (ByteArray × (Int × ByteArray))
def lookK (m : CarM) (a : ByteArray) : Option (Int × ByteArray) := (m.find? fun q => decide (a = q.1)).map (·.2)
def putK (m : CarM) (a : ByteArray) (c : Int × ByteArray) : CarM :=
  match m.findIdx? fun q => decide (a = q.1) with
  | some i => m.set i (a, c)
  | none => m ++ [(a, c)]
section
variable {C : Ctx} {n : Nat} {tm : TM} {mm : MM} {L l : List Oper} {T : TM → MM → Prop} {o : Oper} {d : Nat} {x y vx : Operand}
end
end Go.Sy
